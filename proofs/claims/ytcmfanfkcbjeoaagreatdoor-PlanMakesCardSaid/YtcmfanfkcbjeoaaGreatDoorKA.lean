/- Keys, plainly: the bytes of a formed value, and how many they may be. Keys of the program: bytes appended to a row of a call's own; append64, text. Keys of the program: put. -/
import Derived.Test.YtcmfanfkcbjeoaaGreatDoorJD
import Derived.Test.YtcmfanfkcbjeoaaGreatDoorOW
import Derived.Laws.Bits64
import Derived.Deep.AppendLies
import Derived.Test.YtcmfanfkcbjeoaaGreatDoorFA
namespace Go.Proofs.YtcmfanfkcbjeoaaGreatDoor
open Go.RowKit

/-- a text's bytes, each 0 followed by 255 -/
def escK (c : UInt8) : List UInt8 := if c = 0 then [0, 255] else [c]
def textK (s : List UInt8) : List UInt8 := s.flatMap escK ++ [0, 0]
/-- eight bytes of a number, the highest ahead -/
def be64 (x : Nat) : List UInt8 := [(x / 72057594037927936).toUInt8, (x / 281474976710656).toUInt8, (x / 1099511627776).toUInt8, (x / 4294967296).toUInt8, (x / 16777216).toUInt8, (x / 65536).toUInt8, (x / 256).toUInt8, x.toUInt8]
/-- a member's name, where it has one -/
def nameK (k : Int) (nm : List ByteArray) (j : Nat) : List UInt8 := if k = 6 then 1 :: textK (nm.getD j ⟨#[]⟩).data.toList else []
mutual
/-- the bytes of a value -/
def putF : JV → List UInt8
  | .mk k n t nm it => (k + 1).toNat.toUInt8 :: (if k = 3 then be64 (n + 9223372036854775808).toNat else if k = 4 then textK t.data.toList else if k = 5 ∨ k = 6 then membK k nm 0 it ++ [0] else [])
def membK : Int → List ByteArray → Nat → List JV → List UInt8
  | _, _, _, [] => []
  | k, nm, j, x :: it => nameK k nm j ++ (putF x ++ membK k nm (j + 1) it)
end
theorem membK_app (k : Int) (nm : List ByteArray) : ∀ (l m : List JV) (j : Nat), membK k nm j (l ++ m) = membK k nm j l ++ membK k nm (j + l.length) m
  | [], m, j => by simp [membK]
  | x :: l, m, j => by
    rw [List.cons_append, membK, membK, membK_app k nm l m (j + 1), List.length_cons]
    simp only [List.append_assoc]
    rw [show j + 1 + l.length = j + (l.length + 1) by omega]
theorem membK_step {k : Int} {nm : List ByteArray} {it : List JV} {j : Nat} {x : JV} (h : it[j]? = some x) : membK k nm 0 (it.take (j + 1)) = membK k nm 0 (it.take j) ++ (nameK k nm j ++ putF x) := by
  have hl : (it.take j).length = j := by
    obtain ⟨h1, _⟩ := List.getElem?_eq_some_iff.1 h
    rw [List.length_take]; omega
  rw [take_succ h, membK_app, hl, Nat.zero_add, membK, membK, List.append_nil]

theorem escK_len (c : UInt8) : (escK c).length ≤ 2 := by unfold escK; split <;> simp
theorem textK_len (s : List UInt8) : (textK s).length ≤ 2 * s.length + 2 := by
  unfold textK
  rw [List.length_append]
  have : ∀ l : List UInt8, (l.flatMap escK).length ≤ 2 * l.length := by
    intro l
    induction l with
    | nil => simp
    | cons c l ih => rw [List.flatMap_cons, List.length_append, List.length_cons]; have := escK_len c; omega
  have := this s
  simp only [List.length_cons, List.length_nil]; omega
theorem be64_len (x : Nat) : (be64 x).length = 8 := rfl

theorem xor_top {q : Nat} (h : q < 9223372036854775808) : q ^^^ 9223372036854775808 = q + 9223372036854775808 := by
  have e : (9223372036854775808 : Nat) = 2 ^ 63 := by decide
  rw [e] at h ⊢
  apply Nat.eq_of_testBit_eq
  intro i
  rw [Nat.testBit_xor, Nat.testBit_two_pow, Nat.add_comm]
  rcases Nat.lt_trichotomy i 63 with hi | hi | hi
  · rw [Nat.testBit_two_pow_add_gt hi]
    have : ¬ 63 = i := by omega
    simp [this]
  · subst hi
    rw [Nat.testBit_two_pow_add_eq, Nat.testBit_lt_two_pow h]; rfl
  · have h2 : 2 ^ 64 ≤ 2 ^ i := Nat.pow_le_pow_right (by decide) (by omega)
    rw [Nat.testBit_lt_two_pow (by omega), Nat.testBit_lt_two_pow (by omega)]
    have : ¬ 63 = i := by omega
    simp [this]
theorem flip_top {n : Int} (h0 : -9223372036854775808 ≤ n) (h1 : n ≤ 9223372036854775807) : bits BinOp.xor IntKind.u64 (IntKind.u64.wrap n) 9223372036854775808 = ((n + 9223372036854775808).toNat : Int) := by
  by_cases h : 0 ≤ n
  · obtain ⟨q, rfl⟩ := Int.eq_ofNat_of_zero_le h
    have e : IntKind.u64.wrap (q : Int) = (q : Int) := by simp [IntKind.wrap, IntKind.bits, IntKind.signed]; omega
    rw [e, show (9223372036854775808 : Int) = ((9223372036854775808 : Nat) : Int) from rfl, bits_xor_u64_nat _ _ (by omega) (by omega), xor_top (by omega)]
    omega
  · obtain ⟨q, hq⟩ : ∃ q : Nat, n + 9223372036854775808 = q := ⟨(n + 9223372036854775808).toNat, by omega⟩
    have e : IntKind.u64.wrap n = ((q + 9223372036854775808 : Nat) : Int) := by simp [IntKind.wrap, IntKind.bits, IntKind.signed]; omega
    rw [e, show (9223372036854775808 : Int) = ((9223372036854775808 : Nat) : Int) from rfl, bits_xor_u64_nat _ _ (by omega) (by omega), ← xor_top (by omega), Nat.xor_assoc, Nat.xor_self, Nat.xor_zero, show (((9223372036854775808 : Nat) : Int)) = 9223372036854775808 from rfl, hq]
    rfl

/-- how many bytes a key has -/
def keyB : Nat → Nat
  | 0 => 0
  | d + 1 => 200 + 24 * (keyB d + 200)
theorem nameK_len {k : Int} {nm : List ByteArray} {j : Nat} (hn : ∀ s ∈ nm, textF s = true) : (nameK k nm j).length ≤ 150 := by
  have h2 : (nm.getD j ⟨#[]⟩).size ≤ 60 := by
    rw [List.getD_eq_getElem?_getD]
    cases e : nm[j]? with
    | none => simp [ByteArray.size]
    | some s => exact text_size (hn s (List.mem_of_getElem? e))
  have h3 := textK_len (nm.getD j ⟨#[]⟩).data.toList
  rw [size_list] at h3
  unfold nameK
  split
  · rw [List.length_cons]; omega
  · exact Nat.zero_le _
theorem membK_len {k : Int} {nm : List ByteArray} {L : Nat} (hn : ∀ s ∈ nm, textF s = true) : ∀ (it : List JV) (j : Nat), (∀ x ∈ it, (putF x).length ≤ L) → (membK k nm j it).length ≤ it.length * (L + 200)
  | [], _, _ => by simp [membK]
  | x :: it, j, h => by
    have h1 := @nameK_len k nm j hn
    have h2 := h x (by simp)
    have h3 := membK_len (k := k) hn it (j + 1) (fun y hy => h y (by simp [hy]))
    rw [membK, List.length_append, List.length_append, List.length_cons, Nat.add_mul, Nat.one_mul]
    omega
theorem putF_len : ∀ (d : Nat) (v : JV), formedF d v = true → (putF v).length ≤ keyB d
  | 0, v, h => by simp [formedF] at h
  | d + 1, .mk k n t nm it, h => by
    have ht := text_size (formed_head h).2.2.2.2
    have h4 := textK_len t.data.toList
    rw [size_list] at h4
    have hp : ¬ k < 5 → (membK k nm 0 it).length ≤ 24 * (keyB d + 200) := fun hk => by
      obtain ⟨h24, _, hnm, hfi, _⟩ := formed_body h hk
      exact Nat.le_trans (membK_len hnm it 0 (fun x hx => putF_len d x (hfi x hx))) (Nat.mul_le_mul_right _ h24)
    rw [putF, keyB, List.length_cons]
    by_cases h3 : k = 3
    · rw [if_pos h3, be64_len]; omega
    rw [if_neg h3]
    by_cases hk4 : k = 4
    · rw [if_pos hk4]; omega
    rw [if_neg hk4]
    by_cases h5 : k = 5 ∨ k = 6
    · have := hp (by omega)
      rw [if_pos h5, List.length_append, List.length_singleton]; omega
    · rw [if_neg h5]; simp only [List.length_nil]; omega
theorem keyB_mono : ∀ d, keyB d ≤ keyB (d + 1)
  | 0 => by simp [keyB]
  | d + 1 => by have := keyB_mono d; rw [keyB, keyB]; omega
theorem keyB_six : keyB 6 ≤ 200000000000 := by decide
theorem keyB_le {d : Nat} (h : d ≤ 6) : keyB d ≤ 200000000000 := by
  have : ∀ n m, n ≤ m → keyB n ≤ keyB m := by
    intro n m hnm
    induction hnm with
    | refl => exact Nat.le_refl _
    | step _ ih => exact Nat.le_trans ih (keyB_mono _)
  exact Nat.le_trans (this d 6 h) keyB_six

/-- bytes as cells -/
def bv (l : List UInt8) : List Value := l.map fun c => Value.int .u8 (c.toNat : Int)
theorem bv_len (l : List UInt8) : (bv l).length = l.length := by simp [bv]
theorem bv_app (l m : List UInt8) : bv (l ++ m) = bv l ++ bv m := by simp [bv]
theorem bv_get {l : List UInt8} {i : Nat} {c : UInt8} (h : l[i]? = some c) : (bv l)[i]? = some (.int .u8 (c.toNat : Int)) := by simp [bv, h]
theorem bv_one (l : List UInt8) : ∀ u ∈ bv l, u.oneCell' = true := fun u hu => by
  obtain ⟨c, _, rfl⟩ := List.mem_map.1 hu; rfl

/-- a row of bytes that a call owns, in a block from B on -/
structure BRow (B : Nat) (w : World) (sv : Value) (l : List UInt8) : Prop where
  own : w.ownsRow B 5 1 sv l.length (bv l)
  le : B ≤ w.heap.size
theorem BRow.alloc {B : Nat} {w : World} {sv : Value} {l : List UInt8} (h : BRow B w sv l) (o : Obj) : BRow B (w.alloc o) sv l := ⟨h.own.alloc o, by have := h.le; simp; omega⟩
theorem BRow.low {B : Nat} {w : World} {sv : Value} {l : List UInt8} (h : BRow B w sv l) : ∀ g, sv.ownBlock = some g → B ≤ g ∧ g < w.heap.size := h.own.lt
theorem BRow.empty (w : World) : BRow w.heap.size w (.slice none 0 0) [] := ⟨World.ownsRow_nil _ _ _ _, Nat.le_refl _⟩
theorem BRow.shape {B : Nat} {w : World} {sv : Value} {l : List UInt8} (h : BRow B w sv l) : ∃ a cap, sv = .slice a l.length cap ∧ l.length ≤ 9223372036854775807 := by
  rcases h.own.2 with ⟨hv, hn⟩ | ⟨g, cap, cur, hv, _, _, h1, h2, _⟩
  · exact ⟨_, _, by rw [hv, hn], by rw [hn]; omega⟩
  · exact ⟨_, _, hv, by unfold maxLen at h2; omega⟩

theorem BRow.below {B : Nat} {w w' : World} {sv s1 : Value} {l : List UInt8} (h : BRow B w sv l) (k : Grew w w' sv s1) : Below B w w' := k.below h.le fun g hg => (h.low g hg).1
theorem BRow.quiet {B : Nat} {w w' : World} {sv : Value} {l : List UInt8} (h : BRow B w sv l) (k : Below w.heap.size w w') : BRow B w' sv l :=
  ⟨h.own.kept (row := Option.none) ⟨k.os, k.tape, k.output, k.size, fun q hq _ => k.block q hq⟩ (by cases hv : sv.ownBlock <;> simp), Nat.le_trans h.le k.size⟩

end Go.Proofs.YtcmfanfkcbjeoaaGreatDoor

namespace Go.Proofs.YtcmfanfkcbjeoaaGreatDoor
open Go.RowKit

theorem infoB : (Tryz.prog.info? 5).map (fun i => (i.zero, i.size, i.bytes)) = some (some (.int .u8 0), 1, 1) := by kernel_rfl

/-- bytes that lie in the last block are appended -/
theorem wp_app_new {o : Oper} {a : Act} {K : Act → World → Prop} {Q : Exit → Act → World → Prop} (s x : Operand) (ho : o.op = .call { callee := .builtin .append, args := #[s, x], argTypes := #[29, 29] })
    (B : Nat) (w : World) (sv : Value) (l : List UInt8) (hb : BRow B w sv l) (hs : a.eval s = sv) (vs : Array Value) (m : List UInt8) (hvs : vs.toList = bv m) (H : Nat) (hx : a.eval x = .slice (some ⟨H, 0, none⟩) m.length m.length) (hH : w.heap.size = H) (hm : 0 < m.length) (hlen : l.length + m.length ≤ 140737488355328)
    (h : ∀ sv' w', BRow B w' sv' (l ++ m) → Grew w w' sv sv' → K (a.put o.dst sv') w') : o.wp Tryz.prog a (w.alloc (.cells vs 5)) K Q := by
  subst hH
  obtain ⟨i0, hi, hz0, hz1, hz2⟩ := info_parts infoB
  have hb2 := hb.alloc (.cells vs 5)
  refine wp_append_lies _ s x 29 ho B 5 i0 (.int .u8 0) 1 1 Tryz.underlying29 hi hz0 hz1 hz2 rfl (by decide) sv l.length (bv l) hs hb2.own ⟨w.heap.size, 0, none⟩ m.length m.length (bv m) hx (by rw [bv_len]; omega) ?_ (bv_one m) hm (by unfold maxLen; omega) (by omega) hb2.le _ rfl ?_
  · rw [← hvs]; exact World.news_of_block (heap_alloc_new w _)
  · intro g cap w' ho' hg hgg _
    refine h _ w' ⟨by rw [List.length_append, bv_app]; exact ho', Nat.le_trans hb2.le hg.size⟩ (((Grew.refl w sv).alloc _).trans ⟨hg, fun q hq => ?_⟩)
    obtain rfl : g = q := by simpa [Value.ownBlock] using hq
    rcases hgg with h1 | h1
    · exact .inl h1
    · exact .inr (by omega)
theorem app_new {ops : Array Oper} {rest : List Oper} {o : Oper} {a : Act} {Q : Exit → Act → World → Prop} (hgd : o.guard = none) (s x : Operand) (ho : o.op = .call { callee := .builtin .append, args := #[s, x], argTypes := #[29, 29] })
    (B : Nat) (w : World) (sv : Value) (l : List UInt8) (hb : BRow B w sv l) (hs : a.eval s = sv) (vs : Array Value) (m : List UInt8) (hvs : vs.toList = bv m) (H : Nat) (hx : a.eval x = .slice (some ⟨H, 0, none⟩) m.length m.length) (hH : w.heap.size = H) (hm : 0 < m.length) (hlen : l.length + m.length ≤ 140737488355328)
    (h : ∀ sv' w', BRow B w' sv' (l ++ m) → Grew w w' sv sv' → wpList Tryz.prog ops Q rest (a.put o.dst sv') w') : wpList Tryz.prog ops Q (o :: rest) a (w.alloc (.cells vs 5)) :=
  wpList_plain hgd fun _ hK => wp_app_new s x ho B w sv l hb hs vs m hvs H hx hH hm hlen fun sv' w' h1 h2 => hK _ _ (h sv' w' h1 h2)

/-- a row of bytes is handed back, longer -/
def PutPostK (B : Nat) (sv : Value) (l : List UInt8) (w : World) (e : Ending) (w' : World) : Prop := ∃ s1, e = .returned s1 ∧ BRow B w' s1 l ∧ Grew w w' sv s1

theorem escK_take {s : ByteArray} {j : Nat} {c : UInt8} (h : s.data.toList[j]? = some c) : (s.data.toList.take (j + 1)).flatMap escK = (s.data.toList.take j).flatMap escK ++ escK c := by
  rw [take_succ h, List.flatMap_append]; simp

set_option maxRecDepth 100000 in
set_option maxHeartbeats 4000000 in
theorem text4_any (B : Nat) (sv : Value) (l : List UInt8) (s : ByteArray) (w : World) (hb : BRow B w sv l) (hs : s.size ≤ 1000000) (hl : l.length + (2 * s.size + 2) ≤ 140737488355328) :
    Calls Tryz.prog 204 #[sv, .string s] w (PutPostK B sv (l ++ textK s.data.toList) w) := by
  obtain ⟨sa, scap, rfl, _⟩ := hb.shape
  have HB := Hold.mk hb
  have HL := Hold.mk hl
  clear hb hl
  go_enter Tryz.func204, Tryz.ntmps204
  go_wp2_with fail
  go_loopw [0, 8] (fun v i wr => ∃ j : Nat, i = .int .i64 j ∧ j ≤ s.size ∧ BRow B wr v (l ++ (s.data.toList.take j).flatMap escK) ∧ Grew w wr (.slice sa l.length scap) v) (fun _ i _ => s.size - (intOf i).toNat)
  case atStart => exact ⟨0, rfl, Nat.zero_le _, by simpa using HB.out, Grew.refl _ _⟩
  case round =>
    obtain ⟨j, rfl, hj, hbr, hbl⟩ := hrel
    obtain ⟨l1, hl1⟩ : ∃ l1, l1 = l ++ (s.data.toList.take j).flatMap escK := ⟨_, rfl⟩
    rw [← hl1] at hbr
    obtain ⟨ja, jcap, rfl, _⟩ := hbr.shape
    have HBR := Hold.mk hbr
    have HBL := Hold.mk hbl
    have HL1 := Hold.mk hl1
    have hlen : l1.length ≤ l.length + 2 * j := by
      rw [hl1, List.length_append]
      have := textK_len (s.data.toList.take j)
      unfold textK at this
      rw [List.length_append, List.length_take] at this
      simp only [List.length_cons, List.length_nil] at this
      omega
    clear hbr hbl hl1
    by_cases hlt : j < s.size
    · have hc : s.data.toList[j]? = some s[j] := by
        rw [List.getElem?_eq_getElem (by rw [size_list]; exact hlt)]; rfl
      have HST := Hold.mk (escK_take hc)
      clear hc
      by_cases h0 : s[j] = 0
      · have hz : ((s[j].toNat : Int) == 0) = true := by rw [h0]; rfl
        have HE : Hold (escK s[j] = [s[j]] ++ [255]) := ⟨by rw [h0]; rfl⟩
        have HFIT : Hold (l1.length + 2 ≤ 140737488355328) := ⟨by have := HL.out; omega⟩
        clear h0 hlen
        go_wp2_with (at_builtin; refine app_new rfl _ _ rfl B _ _ _ HBR.out rfl _ [s[j]] rfl _ rfl (by simp) (Nat.succ_pos _) (by have := HFIT.out; simp; omega) ?_)
        intro sv2 w2 hb2 hbl2
        obtain ⟨ka, kcap, rfl, _⟩ := hb2.shape
        have HB2 := Hold.mk hb2
        replace HBL := Hold.mk (HBL.out.trans hbl2)
        clear hb2 hbl2 HBR
        obtain ⟨l2, hl2⟩ : ∃ l2, l2 = l1 ++ [s[j]] := ⟨_, rfl⟩
        rw [← hl2] at HB2 HBL ⊢
        have HFIT2 : Hold (l2.length + 1 ≤ 140737488355328) := ⟨by have := HFIT.out; rw [hl2]; simp; omega⟩
        have HL2 := Hold.mk hl2
        clear hl2
        go_wp2_with (at_builtin; refine app_new rfl _ _ rfl B _ _ _ HB2.out rfl _ [255] rfl _ rfl (by simp) (Nat.succ_pos _) (by have := HFIT2.out; simp; omega) ?_)
        intro sv3 w3 hb3 hbl3
        have HB3 : Hold (BRow B w3 sv3 (l ++ (s.data.toList.take (j + 1)).flatMap escK)) := ⟨by rw [HST.out, HE.out, ← List.append_assoc, ← List.append_assoc, ← HL1.out, ← HL2.out]; exact hb3⟩
        replace HBL := Hold.mk (HBL.out.trans hbl3)
        clear hb3 hbl3
        go_wp2_with fail
        exact ⟨⟨j + 1, by go_num, hlt, HB3.out, HBL.out⟩, by simp [intOf]; omega⟩
      · have hz : ((s[j].toNat : Int) == 0) = false := by
          rw [beq_eq_false_iff_ne]; intro e; exact h0 (UInt8.toNat_inj.1 (by simpa using e))
        have HE : Hold (escK s[j] = [s[j]]) := ⟨by unfold escK; rw [if_neg h0]⟩
        have HFIT : Hold (l1.length + 1 ≤ 140737488355328) := ⟨by have := HL.out; omega⟩
        clear h0 hlen
        go_wp2_with (at_builtin; refine app_new rfl _ _ rfl B _ _ _ HBR.out rfl _ [s[j]] rfl _ rfl (by simp) (Nat.succ_pos _) (by have := HFIT.out; simp; omega) ?_)
        intro sv3 w3 hb3 hbl3
        have HB3 : Hold (BRow B w3 sv3 (l ++ (s.data.toList.take (j + 1)).flatMap escK)) := ⟨by rw [HST.out, HE.out, ← List.append_assoc, ← HL1.out]; exact hb3⟩
        replace HBL := Hold.mk (HBL.out.trans hbl3)
        clear hb3 hbl3
        go_wp2_with fail
        exact ⟨⟨j + 1, by go_num, hlt, HB3.out, HBL.out⟩, by simp [intOf]; omega⟩
    · obtain rfl : j = s.size := by omega
      have HFIT : Hold (l1.length + 2 ≤ 140737488355328) := ⟨by have := HL.out; omega⟩
      clear hlen
      go_wp2_with (at_builtin; refine app_new rfl _ _ rfl B _ _ _ HBR.out rfl _ [0, 0] rfl _ rfl (by simp) (Nat.succ_pos _) (by have := HFIT.out; simp; omega) ?_)
      intro sv3 w3 hb3 hbl3
      have HB3 : Hold (BRow B w3 sv3 (l ++ textK s.data.toList)) := ⟨by unfold textK; rw [HL1.out, List.take_of_length_le (by rw [size_list]; omega), List.append_assoc] at hb3; exact hb3⟩
      replace HBL := Hold.mk (HBL.out.trans hbl3)
      clear hb3 hbl3
      go_wp2_with fail
      go_ret
      exact ⟨_, rfl, HB3.out, HBL.out⟩

theorem be_get (x : Nat) {j : Nat} (h : j < 8) : (be64 x)[j]? = some (x / 2 ^ (56 - 8 * j)).toUInt8 := by
  match j, h with
  | 0, _ => rfl
  | 1, _ => rfl
  | 2, _ => rfl
  | 3, _ => rfl
  | 4, _ => rfl
  | 5, _ => rfl
  | 6, _ => rfl
  | 7, _ => simp [be64]
theorem be_cell (x j : Nat) : (((x / 2 ^ (56 - 8 * j)).toUInt8.toNat : Nat) : Int) = (x : Int) / 2 ^ (56 - 8 * j) % 256 := by
  have h : (x / 2 ^ (56 - 8 * j)).toUInt8.toNat = x / 2 ^ (56 - 8 * j) % 256 := by simp
  rw [h]; simp

set_option maxRecDepth 100000 in
set_option maxHeartbeats 4000000 in
theorem append64_any (B : Nat) (sv : Value) (l : List UInt8) (x : Nat) (w : World) (hb : BRow B w sv l) (hl : l.length + 8 ≤ 140737488355328) :
    Calls Tryz.prog 203 #[sv, .int .u64 (x : Int)] w (PutPostK B sv (l ++ be64 x) w) := by
  obtain ⟨sa, scap, rfl, _⟩ := hb.shape
  have HB := Hold.mk hb
  have HL := Hold.mk hl
  clear hb hl
  go_enter Tryz.func203, Tryz.ntmps203
  go_wp2_with fail
  go_loopw [0, 5] (fun v i wr => ∃ j : Nat, i = .int .i64 (56 - 8 * (j : Int)) ∧ j ≤ 8 ∧ BRow B wr v (l ++ (be64 x).take j) ∧ Grew w wr (.slice sa l.length scap) v) (fun _ i _ => (intOf i + 8).toNat)
  case atStart => exact ⟨0, rfl, Nat.zero_le _, by simpa using HB.out, Grew.refl _ _⟩
  case round =>
    obtain ⟨j, rfl, hj, hbr, hbl⟩ := hrel
    obtain ⟨l1, hl1⟩ : ∃ l1, l1 = l ++ (be64 x).take j := ⟨_, rfl⟩
    rw [← hl1] at hbr
    obtain ⟨ja, jcap, rfl, _⟩ := hbr.shape
    have HBR := Hold.mk hbr
    have HBL := Hold.mk hbl
    have HL1 := Hold.mk hl1
    have hlen : l1.length ≤ l.length + j := by
      rw [hl1, List.length_append, List.length_take]; omega
    clear hbr hbl hl1
    by_cases hlt : j < 8
    · have HFIT : Hold (l1.length + 1 ≤ 140737488355328) := ⟨by have := HL.out; omega⟩
      clear hlen
      have hc := be_get x hlt
      have hcv := be_cell x j
      have HC : Hold ((be64 x).take (j + 1) = (be64 x).take j ++ [(x / 2 ^ (56 - 8 * j)).toUInt8]) := ⟨take_succ hc⟩
      have HCV := Hold.mk hcv
      clear hc hcv
      go_wp2_with (at_builtin; refine app_new rfl _ _ rfl B _ _ _ HBR.out rfl _ [(x / 2 ^ (56 - 8 * j)).toUInt8] (by simp only [bv, List.map_cons, List.map_nil]; rw [HCV.out]) _ rfl (by simp) (Nat.succ_pos _) (by have := HFIT.out; simp; omega) ?_)
      intro sv3 w3 hb3 hbl3
      have HB3 : Hold (BRow B w3 sv3 (l ++ (be64 x).take (j + 1))) := ⟨by rw [HC.out, ← List.append_assoc, ← HL1.out]; exact hb3⟩
      replace HBL := Hold.mk (HBL.out.trans hbl3)
      clear hb3 hbl3
      go_wp2_with fail
      exact ⟨⟨j + 1, by go_num, hlt, HB3.out, HBL.out⟩, by simp [intOf]; omega⟩
    · obtain rfl : j = 8 := by omega
      clear hlen
      go_wp2_with fail
      go_ret
      have HB9 : Hold (BRow B wr (.slice ja l1.length jcap) (l ++ be64 x)) := ⟨by have e : l1 = l ++ be64 x := HL1.out; rw [← e]; exact HBR.out⟩
      exact ⟨_, rfl, HB9.out, HBL.out⟩

end Go.Proofs.YtcmfanfkcbjeoaaGreatDoor

namespace Go.Proofs.YtcmfanfkcbjeoaaGreatDoor
open Go.RowKit

/-- what put is known to do, going down d -/
def PutAt (d : Nat) : Prop := ∀ (v : JV) (x : Value) (B : Nat) (sv : Value) (l : List UInt8) (c : CF) (w : World), formedF d v = true → JAt c v x → CLe c (cfU B w) → BRow B w sv l → l.length + keyB d ≤ 140737488355328 →
  Calls Tryz.prog 174 #[sv, x] w (PutPostK B sv (l ++ putF v) w)

theorem cfU_cfU {B : Nat} {w w' : World} (hb : Below B w w') : CLe (cfU B w) (cfU B w') := fun b o u h => by
  unfold cfU at h ⊢; split at h
  · rename_i hB; rw [if_pos hB, hb.cell (p := ⟨b, o, none⟩) hB]; exact h
  · cases h
theorem kind_byte {k : Int} (h0 : 0 ≤ k) (h6 : k ≤ 6) : (((k + 1).toNat.toUInt8.toNat : Nat) : Int) = k + 1 := by
  obtain ⟨n, rfl⟩ := Int.eq_ofNat_of_zero_le h0
  have : n ≤ 6 := by omega
  have e : ((n : Int) + 1).toNat = n + 1 := by omega
  rw [e]
  simp; omega

/-- where put stands: the row as it has grown, its own box -/
structure PutIn (B : Nat) (w wr : World) (s0 sv : Value) (box : Array Value) (l : List UInt8) : Prop where
  row : BRow B wr sv l
  grew : Grew (w.alloc (.cells box 25)) wr s0 sv
  low : ∀ g, s0.ownBlock = some g → g < w.heap.size
theorem PutIn.start {B : Nat} {w : World} {sv : Value} {l : List UInt8} (h : BRow B w sv l) (box : Array Value) : PutIn B w (w.alloc (.cells box 25)) sv sv box l := ⟨h.alloc _, Grew.refl _ _, fun g hg => (h.low g hg).2⟩
theorem PutIn.next {B : Nat} {w wr w2 : World} {s0 sv s2 : Value} {box : Array Value} {l l2 : List UInt8} (h : PutIn B w wr s0 sv box l) (hr : BRow B w2 s2 l2) (hg : Grew wr w2 sv s2) : PutIn B w w2 s0 s2 box l2 := ⟨hr, h.grew.trans hg, h.low⟩
theorem PutIn.alloc {B : Nat} {w wr : World} {s0 sv : Value} {box : Array Value} {l : List UInt8} (h : PutIn B w wr s0 sv box l) (o : Obj) : PutIn B w (wr.alloc o) s0 sv box l := ⟨h.row.alloc o, h.grew.alloc o, h.low⟩
theorem PutIn.drew {B : Nat} {w wr : World} {s0 sv : Value} {box : Array Value} {l : List UInt8} (h : PutIn B w wr s0 sv box l) : PutIn B w wr.drew s0 sv box l := ⟨⟨h.row.own, h.row.le⟩, h.grew.drew, h.low⟩
theorem PutIn.ne {B : Nat} {w wr : World} {s0 sv : Value} {box : Array Value} {l : List UInt8} (h : PutIn B w wr s0 sv box l) : ∀ g, sv.ownBlock = some g → w.heap.size ≠ g := fun g hg e => by
  rcases h.grew.own g hg with h1 | h1
  · have := h.low g h1; omega
  · simp at h1; omega
theorem PutIn.box {B : Nat} {w wr : World} {s0 sv : Value} {box : Array Value} {l : List UInt8} (h : PutIn B w wr s0 sv box l) : wr.heap[w.heap.size]? = some (.cells box 25 (0, 0)) :=
  h.grew.kept (heap_alloc_new w _) (fun g hg e => by have := h.low g hg; omega)
theorem PutIn.post {B : Nat} {w wr : World} {s0 sv : Value} {box : Array Value} {l : List UInt8} (h : PutIn B w wr s0 sv box l) : PutPostK B s0 l w (.returned sv) wr := ⟨sv, rfl, h.row, ((Grew.refl w s0).alloc _).trans h.grew⟩
theorem PutIn.low_cells {B : Nat} {w wr : World} {s0 sv : Value} {box : Array Value} {l : List UInt8} (h : PutIn B w wr s0 sv box l) {c : CF} (hc : CLe c (cfU B w)) (hB : B ≤ w.heap.size) (hl : ∀ g, s0.ownBlock = some g → B ≤ g) : CLe c (cfU B wr) :=
  hc.trans (cfU_cfU (((Below.refl B w).alloc hB _).trans (h.grew.below (by simp; omega) hl)))

set_option maxRecDepth 100000 in
set_option maxHeartbeats 4000000 in
theorem put_int (B : Nat) (sv : Value) (l : List UInt8) (n : Int) (t : ByteArray) (nv iv : Value) (w : World) (hn : (Lit.int .i64 n).wf = true) (hb : BRow B w sv l) (hl : l.length + 200 ≤ 140737488355328) :
    Calls Tryz.prog 174 #[sv, .agg #[.int .i64 3, .int .i64 n, .string t, nv, iv]] w (PutPostK B sv (l ++ (4 :: be64 (n + 9223372036854775808).toNat)) w) := by
  obtain ⟨sa, scap, rfl, _⟩ := hb.shape
  have hn2 := wf_i64 hn
  have HB := Hold.mk (PutIn.start hb #[.int .i64 3, .int .i64 n, .string t, nv, iv])
  have HL := Hold.mk hl
  clear hb hl hn
  go_enter Tryz.func174, Tryz.ntmps174
  go_wp2_with (at_builtin; refine app_new rfl _ _ rfl B _ _ _ HB.out.row rfl _ [4] rfl _ rfl (by simp) (Nat.succ_pos _) (by have := HL.out; simp; omega) ?_)
  intro sv2 w2 hb2 hg2
  obtain ⟨l2, hl2⟩ : ∃ l2, l2 = l ++ [4] := ⟨_, rfl⟩
  rw [← hl2] at hb2
  have HL2 := Hold.mk hl2
  replace HB := Hold.mk (HB.out.next hb2 hg2)
  obtain ⟨sa2, scap2, rfl, _⟩ := hb2.shape
  obtain ⟨y0, y1, y2, y3, y4⟩ := cells_five HB.out.box
  have HF := Hold.mk (flip_top hn2.1 hn2.2)
  have HX : Hold ((n + 9223372036854775808).toNat < 18446744073709551616) := ⟨by omega⟩
  clear hb2 hg2 hl2
  go_wp2_with fail
  rw [HF.out]
  refine (append64_any B _ l2 _ _ HB.out.row (by have := HL.out; have e := HL2.out; rw [e]; simp; omega)).mono ?_
  rintro e w3 ⟨s3, rfl, hb3, hg3⟩
  have HP := Hold.mk ((HB.out.next hb3 hg3).post)
  clear hb3 hg3 y0 y1 y2 y3 y4
  go_wp2_with fail
  go_ret
  rw [show l ++ 4 :: be64 (n + 9223372036854775808).toNat = l2 ++ be64 (n + 9223372036854775808).toNat by rw [HL2.out, List.append_assoc]; rfl]
  exact HP.out

set_option maxRecDepth 100000 in
set_option maxHeartbeats 4000000 in
theorem put_string (B : Nat) (sv : Value) (l : List UInt8) (n : Int) (t : ByteArray) (nv iv : Value) (w : World) (ht : t.size ≤ 60) (hb : BRow B w sv l) (hl : l.length + 200 ≤ 140737488355328) :
    Calls Tryz.prog 174 #[sv, .agg #[.int .i64 4, .int .i64 n, .string t, nv, iv]] w (PutPostK B sv (l ++ (5 :: textK t.data.toList)) w) := by
  obtain ⟨sa, scap, rfl, _⟩ := hb.shape
  have HB := Hold.mk (PutIn.start hb #[.int .i64 4, .int .i64 n, .string t, nv, iv])
  have HL := Hold.mk hl
  clear hb hl
  go_enter Tryz.func174, Tryz.ntmps174
  go_wp2_with (at_builtin; refine app_new rfl _ _ rfl B _ _ _ HB.out.row rfl _ [5] rfl _ rfl (by simp) (Nat.succ_pos _) (by have := HL.out; simp; omega) ?_)
  intro sv2 w2 hb2 hg2
  obtain ⟨l2, hl2⟩ : ∃ l2, l2 = l ++ [5] := ⟨_, rfl⟩
  rw [← hl2] at hb2
  have HL2 := Hold.mk hl2
  replace HB := Hold.mk (HB.out.next hb2 hg2)
  obtain ⟨sa2, scap2, rfl, _⟩ := hb2.shape
  obtain ⟨y0, y1, y2, y3, y4⟩ := cells_five HB.out.box
  clear hb2 hg2 hl2
  go_wp2_with fail
  refine (text4_any B _ l2 t _ HB.out.row (by omega) (by have := HL.out; have e := HL2.out; rw [e]; simp; omega)).mono ?_
  rintro e w3 ⟨s3, rfl, hb3, hg3⟩
  have HP := Hold.mk ((HB.out.next hb3 hg3).post)
  clear hb3 hg3 y0 y1 y2 y3 y4
  go_wp2_with fail
  go_ret
  rw [show l ++ 5 :: textK t.data.toList = l2 ++ textK t.data.toList by rw [HL2.out, List.append_assoc]; rfl]
  exact HP.out

set_option maxRecDepth 100000 in
set_option maxHeartbeats 4000000 in
theorem put_word (k : Int) (hk : k = 0 ∨ k = 1 ∨ k = 2) (B : Nat) (sv : Value) (l : List UInt8) (n : Int) (t : ByteArray) (nv iv : Value) (w : World) (hb : BRow B w sv l) (hl : l.length + 200 ≤ 140737488355328) :
    Calls Tryz.prog 174 #[sv, .agg #[.int .i64 k, .int .i64 n, .string t, nv, iv]] w (PutPostK B sv (l ++ [(k + 1).toNat.toUInt8]) w) := by
  obtain ⟨sa, scap, rfl, _⟩ := hb.shape
  have HB := Hold.mk (PutIn.start hb #[.int .i64 k, .int .i64 n, .string t, nv, iv])
  have HL := Hold.mk hl
  clear hb hl
  rcases hk with rfl | rfl | rfl
  · go_enter Tryz.func174, Tryz.ntmps174
    go_wp2_with (at_builtin; refine app_new rfl _ _ rfl B _ _ _ HB.out.row rfl _ [1] rfl _ rfl (by simp) (Nat.succ_pos _) (by have := HL.out; simp; omega) ?_)
    intro sv2 w2 hb2 hg2
    replace HB := Hold.mk (HB.out.next hb2 hg2)
    obtain ⟨sa2, scap2, rfl, _⟩ := hb2.shape
    obtain ⟨y0, y1, y2, y3, y4⟩ := cells_five HB.out.box
    have HP := Hold.mk HB.out.post
    clear hb2 hg2
    go_wp2_with fail
    go_ret
    exact HP.out
  · go_enter Tryz.func174, Tryz.ntmps174
    go_wp2_with (at_builtin; refine app_new rfl _ _ rfl B _ _ _ HB.out.row rfl _ [2] rfl _ rfl (by simp) (Nat.succ_pos _) (by have := HL.out; simp; omega) ?_)
    intro sv2 w2 hb2 hg2
    replace HB := Hold.mk (HB.out.next hb2 hg2)
    obtain ⟨sa2, scap2, rfl, _⟩ := hb2.shape
    obtain ⟨y0, y1, y2, y3, y4⟩ := cells_five HB.out.box
    have HP := Hold.mk HB.out.post
    clear hb2 hg2
    go_wp2_with fail
    go_ret
    exact HP.out
  · go_enter Tryz.func174, Tryz.ntmps174
    go_wp2_with (at_builtin; refine app_new rfl _ _ rfl B _ _ _ HB.out.row rfl _ [3] rfl _ rfl (by simp) (Nat.succ_pos _) (by have := HL.out; simp; omega) ?_)
    intro sv2 w2 hb2 hg2
    replace HB := Hold.mk (HB.out.next hb2 hg2)
    obtain ⟨sa2, scap2, rfl, _⟩ := hb2.shape
    obtain ⟨y0, y1, y2, y3, y4⟩ := cells_five HB.out.box
    have HP := Hold.mk HB.out.post
    clear hb2 hg2
    go_wp2_with fail
    go_ret
    exact HP.out

end Go.Proofs.YtcmfanfkcbjeoaaGreatDoor
