/- Keys of the program: Key, turned. Keys of the program: Compound. -/
import Derived.Test.YtcmfanfkcbjeoaaGreatDoorKD
namespace Go.Proofs.YtcmfanfkcbjeoaaGreatDoor
open Go.RowKit

/-- what Key hands back -/
def KeyPost (v : JV) (w : World) (e : Ending) (w' : World) : Prop := (if formedF 6 v = true then ∃ sv, e = .returned (.tuple #[sv, .int .i64 0]) ∧ BRow w.heap.size w' sv (putF v) else e = .returned (.tuple #[.slice none 0 0, .int .i64 2])) ∧ Below w.heap.size w w'

set_option maxRecDepth 100000 in
set_option maxHeartbeats 4000000 in
theorem Key4_any (v : JV) (x : Value) (w : World) (hx : JAt (cf w) v x) (hT : Tabs w) :
    Calls Tryz.prog 138 #[x] w (KeyPost v w) := by
  obtain ⟨k, n, t, nm, it, na, ncap, ia, icap, _, rfl, _⟩ := hx.open
  have HX := Hold.mk hx
  have HT := Hold.mk hT
  have HB := Hold.mk (Boxed.refl w (.cells #[.int .i64 k, .int .i64 n, .string t, .slice na nm.length ncap, .slice ia it.length icap] 25))
  clear hx hT
  go_enter Tryz.func138, Tryz.ntmps138
  go_wp2_with fail
  refine (Formed_any v _ _ (HX.out.mono (cle_below HB.out.below)) (HT.out.below HB.out.below)).mono ?_
  rintro e w1 ⟨rfl, hb1⟩
  replace HB := Hold.mk (HB.out.next hb1)
  clear hb1
  have HBB := Hold.mk HB.out.below
  cases hf : formedF 6 v with
  | false =>
    have HF := Hold.mk hf
    clear hf
    go_wp2_with fail
    go_ret2
    exact ⟨by rw [if_neg (by rw [HF.out]; simp)]; rfl, HBB.out⟩
  | true =>
    have HF := Hold.mk hf
    have HR : Hold (BRow w.heap.size w1 (.slice none 0 0) []) := ⟨⟨World.ownsRow_nil _ _ _ _, HBB.out.size⟩⟩
    have y0 := HB.out.c0
    have y1 := HB.out.c1
    have y2 := HB.out.c2
    have y3 := HB.out.c3
    have y4 := HB.out.c4
    clear hf
    go_wp2_with fail
    refine (put_any 6 v _ w.heap.size _ [] (cf w) _ HF.out HX.out ((cle_cfU w).trans (cfU_cfU HBB.out)) HR.out (by have := keyB_six; simp; omega)).mono ?_
    rintro e w2 ⟨sv, rfl, hb2, hg2⟩
    have HP : Hold (BRow w.heap.size w2 sv (putF v)) := ⟨by simpa using hb2⟩
    have HW : Hold (Below w.heap.size w w2) := ⟨HBB.out.trans (HR.out.below hg2)⟩
    clear y0 y1 y2 y3 y4 hb2 hg2
    go_wp2_with fail
    go_ret2
    exact ⟨by rw [if_pos HF.out]; exact ⟨_, rfl, HP.out⟩, HW.out⟩

/-- every byte turned -/
def notB (c : UInt8) : UInt8 := 255 - c
theorem not_val (c : UInt8) : 255 - ((c.toNat : Nat) : Int) = (((notB c).toNat : Nat) : Int) := by
  have h3 : ∀ n : Fin 256, (((notB (UInt8.ofNat n.val)).toNat : Nat) : Int) = 255 - ((n.val : Nat) : Int) := by decide +kernel
  have h4 := h3 ⟨c.toNat, c.toNat_lt⟩
  simp only [UInt8.ofNat_toNat] at h4
  rw [h4]
theorem not_cell (c : UInt8) : bits BinOp.xor IntKind.u8 (if IntKind.u8.signed = true then -1 else IntKind.u8.max) ((c.toNat : Nat) : Int) = (((notB c).toNat : Nat) : Int) := by
  have h : ∀ n : Fin 256, bits BinOp.xor IntKind.u8 (if IntKind.u8.signed = true then -1 else IntKind.u8.max) ((n.val : Nat) : Int) = 255 - ((n.val : Nat) : Int) := by decide +kernel
  have h2 := h ⟨c.toNat, c.toNat_lt⟩
  have h3 : ∀ n : Fin 256, (((notB (UInt8.ofNat n.val)).toNat : Nat) : Int) = 255 - ((n.val : Nat) : Int) := by decide +kernel
  have h4 := h3 ⟨c.toNat, c.toNat_lt⟩
  simp only [UInt8.ofNat_toNat] at h4
  rw [h4]; exact h2
theorem BRow.get {B : Nat} {w : World} {a : Option Addr} {cap : Nat} {l : List UInt8} (h : BRow B w (.slice a l.length cap) l) {j : Nat} {c : UInt8} (hc : l[j]? = some c) : ∃ g, a = some ⟨g, 0, none⟩ ∧ B ≤ g ∧ g < w.heap.size ∧ w.cell? ⟨g, j, none⟩ = some (.int .u8 (c.toNat : Int)) := by
  rcases id h.own.2 with ⟨hv, hn⟩ | ⟨g, cap2, cur, hv, hb, hh, _⟩
  · have := List.length_eq_zero_iff.1 hn
    rw [this] at hc; simp at hc
  · injection hv with h1 h2 h3
    subst h1
    refine ⟨g, rfl, hb, heap_lt hh, ?_⟩
    have := h.own.cells (g := g) rfl j _ (bv_get hc)
    rw [addr_at] at this
    exact this

theorem made_bytes (n : Nat) (hn : n ≤ 1000000000000) (w : World) : ∃ M : Array Value, M.size = n ∧ (Instr.makeSlice 29 (.int .i64 (n : Int)) (.int .i64 (n : Int))).run Tryz.prog w = .ok (.slice (some ⟨w.heap.size, 0, none⟩) n n) (w.alloc (.cells M 5)) := by
  obtain ⟨i0, hi, hz0, hz1, hz2⟩ := info_parts infoB
  have h := run_make w 29 5 i0 (.int .u8 0) Tryz.underlying29 hi hz0 .i64 .i64 (n : Int) (n : Int) (by omega) (by omega) (by rw [hz2]; omega) (by omega)
  rw [Int.toNat_natCast, hz1, Nat.mul_one] at h
  exact ⟨_, size_madeCells _ _, h⟩
theorem take_set {cur : Array Value} {j : Nat} {v : Value} {l : List Value} (h : cur.toList.take j = l) (hj : j < cur.size) : (cur.set! j v).toList.take (j + 1) = l ++ [v] := by
  subst h
  rw [Array.set!_eq_setIfInBounds, Array.toList_setIfInBounds, List.take_set]
  apply List.ext_getElem?
  intro i
  have hjl : j < cur.toList.length := by simpa using hj
  rw [List.getElem?_set, List.getElem?_append]
  rcases Nat.lt_trichotomy i j with h | h | h
  · rw [if_neg (by omega), if_pos (by rw [List.length_take]; omega), List.getElem?_take, List.getElem?_take, if_pos (by omega), if_pos (by omega)]
  · subst h
    rw [if_pos rfl, if_pos (by rw [List.length_take]; omega), if_neg (by rw [List.length_take]; omega), List.length_take, Nat.min_eq_left (by omega)]; simp
  · rw [if_neg (by omega), if_neg (by rw [List.length_take]; omega), List.getElem?_take, if_neg (by omega), List.getElem?_eq_none (by simp; omega)]

/-- where turned stands: the first j bytes are laid -/
structure TurnIn (w wr : World) (l : List UInt8) (j : Nat) (cur : Array Value) : Prop where
  bel : Below w.heap.size w wr
  row : wr.heap[w.heap.size]? = some (.cells cur 5 (0, 0))
  size : cur.size = l.length
  done : cur.toList.take j = bv ((l.take j).map notB)
theorem TurnIn.put {w wr : World} {l : List UInt8} {j : Nat} {cur : Array Value} {c : UInt8} (h : TurnIn w wr l j cur) (hc : l[j]? = some c) : TurnIn w (wr.setCell ⟨w.heap.size, j, none⟩ (.int .u8 ((notB c).toNat : Int))) l (j + 1) (cur.set! j (.int .u8 ((notB c).toNat : Int))) := by
  obtain ⟨hj, _⟩ := List.getElem?_eq_some_iff.1 hc
  refine ⟨h.bel.setCell (p := ⟨w.heap.size, j, none⟩) (Nat.le_refl _) _, set_self h.row, by simp [h.size], ?_⟩
  rw [take_set h.done (by rw [h.size]; exact hj), take_succ hc, List.map_append, bv_app]; rfl
theorem TurnIn.cell {w wr : World} {l : List UInt8} {j : Nat} {cur : Array Value} (h : TurnIn w wr l j cur) (hj : j < l.length) : ∃ v, wr.cell? ⟨w.heap.size, j, none⟩ = some v :=
  ⟨cur[j]'(by rw [h.size]; exact hj), by simp [World.cell?, h.row, h.size, hj]⟩
theorem TurnIn.all {w wr : World} {l : List UInt8} {cur : Array Value} (h : TurnIn w wr l l.length cur) (hl : l.length ≤ 1000000000000) : BRow w.heap.size wr (.slice (some ⟨w.heap.size, 0, none⟩) l.length l.length) (l.map notB) := by
  have hd := h.done
  rw [List.take_of_length_le (Nat.le_refl _)] at hd
  refine ⟨⟨by rw [bv_len]; omega, .inr ⟨w.heap.size, l.length, cur, by rw [List.length_map], Nat.le_refl _, h.row, by rw [List.length_map]; omega, by unfold maxLen; omega, by rw [h.size]; omega, by rw [List.length_map, Nat.mul_one]; exact hd⟩⟩, Nat.le_of_lt (heap_lt h.row)⟩

end Go.Proofs.YtcmfanfkcbjeoaaGreatDoor

namespace Go.Proofs.YtcmfanfkcbjeoaaGreatDoor
open Go.RowKit

/-- a row's bytes are appended to another -/
theorem wp_app_src {o : Oper} {a : Act} {K : Act → World → Prop} {Q : Exit → Act → World → Prop} (s x : Operand) (ho : o.op = .call { callee := .builtin .append, args := #[s, x], argTypes := #[29, 29] })
    (B : Nat) (w : World) (sv : Value) (l : List UInt8) (hb : BRow B w sv l) (hs : a.eval s = sv) (B2 : Nat) (src : Value) (m : List UInt8) (hm2 : BRow B2 w src m) (hx : a.eval x = src) (hm : 0 < m.length) (hlen : l.length + m.length ≤ 140737488355328)
    (h : ∀ sv' w', BRow B w' sv' (l ++ m) → Grew w w' sv sv' → K (a.put o.dst sv') w') : o.wp Tryz.prog a w K Q := by
  obtain ⟨i0, hi, hz0, hz1, hz2⟩ := info_parts infoB
  obtain ⟨sa, scap, rfl, _⟩ := hm2.shape
  obtain ⟨c, hc⟩ : ∃ c, m[0]? = some c := ⟨m[0], List.getElem?_eq_getElem hm⟩
  obtain ⟨g, rfl, hg1, hg2, _⟩ := hm2.get hc
  refine wp_append_lies _ s x 29 ho B 5 i0 (.int .u8 0) 1 1 Tryz.underlying29 hi hz0 hz1 hz2 rfl (by decide) sv l.length (bv l) hs hb.own ⟨g, 0, none⟩ m.length scap (bv m) hx (by rw [bv_len]; omega) ?_ (bv_one m) hm (by unfold maxLen; omega) (by omega) hb.le _ rfl ?_
  · exact fun j u hu => hm2.own.cells (g := g) rfl j u hu
  · intro g2 cap w' ho' hg hgg _
    refine h _ w' ⟨by rw [List.length_append, bv_app]; exact ho', Nat.le_trans hb.le hg.size⟩ ⟨hg, fun q hq => ?_⟩
    obtain rfl : g2 = q := by simpa [Value.ownBlock] using hq
    rcases hgg with h1 | h1
    · exact .inl h1
    · exact .inr (by omega)
theorem app_src {ops : Array Oper} {rest : List Oper} {o : Oper} {a : Act} {Q : Exit → Act → World → Prop} (hgd : o.guard = none) (s x : Operand) (ho : o.op = .call { callee := .builtin .append, args := #[s, x], argTypes := #[29, 29] })
    (B : Nat) (w : World) (sv : Value) (l : List UInt8) (hb : BRow B w sv l) (hs : a.eval s = sv) (B2 : Nat) (src : Value) (m : List UInt8) (hm2 : BRow B2 w src m) (hx : a.eval x = src) (hm : 0 < m.length) (hlen : l.length + m.length ≤ 140737488355328)
    (h : ∀ sv' w', BRow B w' sv' (l ++ m) → Grew w w' sv sv' → wpList Tryz.prog ops Q rest (a.put o.dst sv') w') : wpList Tryz.prog ops Q (o :: rest) a w :=
  wpList_plain hgd fun _ hK => wp_app_src s x ho B w sv l hb hs B2 src m hm2 hx hm hlen fun sv' w' h1 h2 => hK _ _ (h sv' w' h1 h2)

/-- a slice of truths -/
def BoolsAt (c : CF) (v : Value) (l : List Bool) : Prop :=
  ∃ a cap, v = .slice a l.length cap ∧ l.length ≤ 9223372036854775807 ∧ ∀ (i : Nat) d, l[i]? = some d → ∃ b off, a = some ⟨b, off, none⟩ ∧ c b (off + i) = some (.bool d)

/-- a value's part of an entry -/
def partK (x : JV) (d : Bool) : List UInt8 := if d then (putF x).map notB else putF x
def compF : List JV → List Bool → List UInt8
  | x :: l, d :: m => partK x d ++ compF l m
  | _, _ => []
theorem comp_snoc : ∀ (l : List JV) (m : List Bool) (x : JV) (d : Bool), l.length = m.length → compF (l ++ [x]) (m ++ [d]) = compF l m ++ partK x d
  | [], [], x, d, _ => by simp [compF]
  | [], _ :: _, _, _, h => by simp at h
  | _ :: _, [], _, _, h => by simp at h
  | y :: l, e :: m, x, d, h => by
    rw [List.cons_append, List.cons_append, compF, compF, comp_snoc l m x d (by simpa using h), List.append_assoc]
theorem partK_len (x : JV) (d : Bool) : (partK x d).length = (putF x).length := by unfold partK; split <;> simp
theorem putF_pos (x : JV) : 0 < (putF x).length := by cases x; rw [putF]; simp
theorem comp_len {l : List JV} (h : ∀ x ∈ l, formedF 6 x = true) : ∀ m : List Bool, (compF l m).length ≤ l.length * 200000000000 := by
  induction l with
  | nil => intro m; simp [compF]
  | cons x l ih =>
    intro m
    cases m with
    | nil => simp [compF]
    | cons d m =>
      have h1 := putF_len 6 x (h x (by simp))
      have h2 := keyB_six
      have h3 := ih (fun y hy => h y (by simp [hy])) m
      rw [compF, List.length_append, partK_len, List.length_cons]; omega

def CompPost (l : List JV) (m : List Bool) (w : World) (e : Ending) (w' : World) : Prop := (if (compF l m).length ≤ 200 then ∃ sv, e = .returned (.tuple #[sv, .int .i64 0]) ∧ BRow w.heap.size w' sv (compF l m) else e = .returned (.tuple #[.slice none 0 0, .int .i64 3])) ∧ Below w.heap.size w w'

end Go.Proofs.YtcmfanfkcbjeoaaGreatDoor
