/- Filters: all paths, plainly; paths of the program. -/
import Derived.Test.YtfllnlmanopfaaaDoorFI
import Derived.Test.YtfllnlmanopfaaaDoorKN
namespace Go.Proofs.YtfllnlmanopfaaaDoor
open Go.RowKit

/-- the paths of a clause, of a filter -/
def pathC (rec : JV → List ByteArray) (s : ByteArray) (v : JV) : List ByteArray := if isN s sAnd || isN s sOr then v.items.flatMap rec else if isN s sNot then rec v else [s]
def pathsF : Nat → JV → List ByteArray
  | 0, _ => []
  | d + 1, f => (f.names.zip f.items).flatMap fun p => pathC (pathsF d) p.1 p.2
theorem pc_and {rec : JV → List ByteArray} {s : ByteArray} {v : JV} (h : s.toList = sAnd ∨ s.toList = sOr) : pathC rec s v = v.items.flatMap rec := by
  unfold pathC
  rcases h with h | h
  · rw [isN_yes h]; rfl
  · rw [isN_yes h]; simp
theorem pc_not {rec : JV → List ByteArray} {s : ByteArray} {v : JV} (h : s.toList = sNot) : pathC rec s v = rec v := by
  unfold pathC
  rw [isN_ne h (by decide), isN_ne h (by decide), isN_yes h]; rfl
theorem pc_name {rec : JV → List ByteArray} {s : ByteArray} {v : JV} (h1 : ¬ s.toList = sAnd) (h2 : ¬ s.toList = sOr) (h3 : ¬ s.toList = sNot) : pathC rec s v = [s] := by
  unfold pathC
  rw [isN_no h1, isN_no h2, isN_no h3]; rfl
theorem flat_le {α β : Type} {l : List α} {f : α → List β} {L : Nat} (h : ∀ x ∈ l, (f x).length ≤ L) : (l.flatMap f).length ≤ l.length * L := by
  induction l with
  | nil => simp
  | cons x l ih =>
    have h1 := h x (by simp)
    have h2 := ih (fun y hy => h y (by simp [hy]))
    rw [List.flatMap_cons, List.length_append, List.length_cons, Nat.add_mul, Nat.one_mul]; omega
theorem itemK_formed {d : Nat} {k n : Int} {t : ByteArray} {nm : List ByteArray} {it : List JV} (hf : formedF (d + 1) (.mk k n t nm it) = true) {x : JV} (hx : x ∈ it) : formedF d x = true := by
  by_cases hk : k < 5
  · rw [formedF, if_pos hk, Bool.and_eq_true] at hf
    have := (of_decide_eq_true hf.2).1
    rw [List.length_eq_zero_iff.1 this] at hx; cases hx
  · exact (formed_body hf hk).2.2.2.1 x hx
theorem items_24 {d : Nat} {v : JV} (h : formedF (d + 1) v = true) : v.items.length ≤ 24 ∧ ∀ x ∈ v.items, formedF d x = true := by
  obtain ⟨k, n, t, nm, it⟩ := v
  refine ⟨?_, fun x hx => itemK_formed h hx⟩
  by_cases hk : k < 5
  · rw [formedF, if_pos hk, Bool.and_eq_true] at h
    have := (of_decide_eq_true h.2).1
    show it.length ≤ 24; omega
  · exact (formed_body h hk).1
theorem pathsF_len : ∀ (d e : Nat) (f : JV), formedF e f = true → (pathsF d f).length ≤ 24 ^ e
  | 0, e, f, _ => by simp [pathsF]
  | d + 1, 0, f, h => by simp [formedF] at h
  | d + 1, e + 1, f, h => by
    obtain ⟨h24, hfi⟩ := items_24 h
    rw [pathsF, Nat.pow_succ]
    refine Nat.le_trans (flat_le (L := 24 ^ e) fun p hp => ?_) ?_
    · have hv : formedF e p.2 = true := hfi p.2 (List.of_mem_zip hp).2
      unfold pathC
      split
      · cases e with
        | zero => simp [formedF] at hv
        | succ e =>
          obtain ⟨i24, hii⟩ := items_24 hv
          refine Nat.le_trans (flat_le (L := 24 ^ e) fun x hx => pathsF_len d e x (hii x hx)) ?_
          rw [Nat.pow_succ, Nat.mul_comm]
          exact Nat.mul_le_mul_left _ i24
      · split
        · exact pathsF_len d e p.2 hv
        · exact Nat.pow_pos (show 0 < 24 by decide)
    · rw [Nat.mul_comm]
      exact Nat.mul_le_mul_left _ (Nat.le_trans (by rw [List.length_zip]; exact Nat.min_le_right _ _) h24)

/-- a text -/
def RS : Rep ByteArray := fun _ s d => d = [.string s] ∧ s.size ≤ 9223372036854775807
theorem RS_mono : Mono RS := fun _ _ _ _ _ h => h

/-- where a function stands that hands a row on: its own box, the row as it has grown -/
structure PIn (w wr : World) (s0 sv : Value) (box : Array Value) : Prop where
  grew : Grew (w.alloc (.cells box 25)) wr s0 sv
  low : ∀ g, s0.ownBlock = some g → g < w.heap.size
theorem PIn.start {w : World} {sv : Value} (box : Array Value) (h : ∀ g, sv.ownBlock = some g → g < w.heap.size) : PIn w (w.alloc (.cells box 25)) sv sv box := ⟨Grew.refl _ _, h⟩
theorem PIn.next {w wr w2 : World} {s0 sv s2 : Value} {box : Array Value} (h : PIn w wr s0 sv box) (hg : Grew wr w2 sv s2) : PIn w w2 s0 s2 box := ⟨h.grew.trans hg, h.low⟩
theorem PIn.alloc {w wr : World} {s0 sv : Value} {box : Array Value} (h : PIn w wr s0 sv box) (o : Obj) : PIn w (wr.alloc o) s0 sv box := ⟨h.grew.alloc o, h.low⟩
theorem PIn.box {w wr : World} {s0 sv : Value} {box : Array Value} (h : PIn w wr s0 sv box) : wr.heap[w.heap.size]? = some (.cells box 25 (0, 0)) :=
  h.grew.kept (heap_alloc_new w _) (fun g hg e => by have := h.low g hg; omega)
theorem PIn.all {w wr : World} {s0 sv : Value} {box : Array Value} (h : PIn w wr s0 sv box) : Grew w wr s0 sv := ((Grew.refl w s0).alloc _).trans h.grew
theorem PIn.lowB {B : Nat} {w wr : World} {s0 sv : Value} {box : Array Value} (h : PIn w wr s0 sv box) (hB : B ≤ w.heap.size) (hl : ∀ g, s0.ownBlock = some g → B ≤ g) : Below B w wr := h.all.below hB hl

/-- a row of texts is handed back, longer -/
def PathsPost (B : Nat) (sl : Value) (p : Nat) (xs ys : List ByteArray) (w : World) (e : Ending) (w' : World) : Prop := ∃ s1 cs, e = .returned s1 ∧ OwnS 1 RS 9 B w' s1 (p + ys.length) (xs ++ ys) cs ∧ Grew w w' sl s1
/-- what paths is known to do, going down d -/
def PathsAt (d : Nat) : Prop := ∀ (v : JV) (x : Value) (B : Nat) (sl : Value) (p : Nat) (xs : List ByteArray) (cs : List Value) (c : CF) (w : World), formedF d v = true → JAt c v x → CLe c (cfU B w) → OwnS 1 RS 9 B w sl p xs cs → p + 2 * 24 ^ d ≤ 1000000000 →
  Calls Tryd.prog 68 #[sl, x] w (PathsPost B sl p xs (pathsF d v) w)
theorem cfU_below {B : Nat} {w w' : World} (hb : Below B w w') : CLe (cfU B w) (cfU B w') := fun b o u h => by
  unfold cfU at h ⊢; split at h
  · rename_i hB; rw [if_pos hB, hb.cell (p := ⟨b, o, none⟩) hB]; exact h
  · cases h
theorem flat_take {α β : Type} {l : List α} {f : α → List β} {i : Nat} {x : α} (h : l[i]? = some x) : (l.take (i + 1)).flatMap f = (l.take i).flatMap f ++ f x := by
  rw [take_succ h, List.flatMap_append]; simp

end Go.Proofs.YtfllnlmanopfaaaDoor
