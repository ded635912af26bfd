/- Lists of the reader's: the loop. -/
import Derived.Test.YtdhilnnohokoeaaDoorRQ
namespace Go.Proofs.YtdhilnnohokoeaaDoor
open Go.Shelf Go.RowKit

/-- the loop: what is still to be read tells the whole -/
def LInv (b : Nat) (s : ByteArray) (n : Nat) (k : Int) (R : Option (JV × List UInt8)) (w : World) (g : Nat) (f : Bool) (wr : World) : Prop :=
  But b w wr ∧ ∃ (j : Nat) (nv iv : Value) (nm : List ByteArray) (ps : PVl), RB b s j false wr ∧ LV w.heap.size k nv iv nm ps true wr ∧ (s.size - j ≤ g ∧ ps.length ≤ j ∧ upN nm ∧ (k = 5 → nm = []) ∧ (k = 6 → nm.length = ps.length)) ∧
    ∃ m, m ≤ n ∧ 2 * (s.size - j) + 2 ≤ m ∧ moreL f m k (dl s j) nm (itsOf ps) = R
theorem LV.start {w : World} {k : Int} (W : World) (hW : W = (w.alloc (.cells #[.int .i64 k, .int .i64 0, .string ⟨#[]⟩, .slice none 0 0, .slice none 0 0] 26)).alloc (.cells zero5R 26)) : LV w.heap.size k (.slice none 0 0) (.slice none 0 0) [] [] true W := by
  have h1 : W.heap[w.heap.size + 1]? = some (.cells zero5R 26 (0, 0)) := by
    rw [hW]
    have := heap_alloc_new (w.alloc (.cells #[.int .i64 k, .int .i64 0, .string ⟨#[]⟩, .slice none 0 0, .slice none 0 0] 26)) (.cells zero5R 26)
    simpa using this
  have h0 : W.heap[w.heap.size]? = some (.cells #[.int .i64 k, .int .i64 0, .string ⟨#[]⟩, .slice none 0 0, .slice none 0 0] 26 (0, 0)) := by
    rw [hW]
    exact keptR (heap_alloc_new w _) ((Below.refl _ _).alloc (Nat.le_refl _) _)
  exact ⟨h0, h1, ⟨rfl, .inl ⟨rfl, rfl⟩⟩, ⟨rfl, .inl ⟨rfl, rfl⟩⟩, (fun _ p hp => by cases hp), (fun g hg => by cases hg), (fun x hx => by cases hx)⟩
/-- any world -/
def AnyW : Type := { _w : World // True }
instance : Nonempty AnyW := ⟨⟨default, trivial⟩⟩
abbrev AnyC : World → Prop := fun w' => ∃ e : AnyW, w' = e.val
theorem anyC (w : World) : AnyC w := ⟨⟨w, trivial⟩, rfl⟩
theorem val_skip (m : Nat) (l : List UInt8) : valL m (skipL l) = valL m l := by
  cases m with
  | zero => simp [valL]
  | succ m => rw [valL, valL, skipL_skip]
theorem here_head {l : List UInt8} {c : UInt8} (hc : c ≠ 0) : hereB l = c ↔ l.head? = some c := by
  cases l with
  | nil => unfold hereB; simp; exact fun h => hc h.symm
  | cons a l => unfold hereB; simp
theorem here_dec (l : List UInt8) (c : UInt8) : (((hereB l).toNat : Int) == (c.toNat : Int)) = decide (hereB l = c) := by
  by_cases h : hereB l = c
  · rw [h]; simp
  · rw [decide_eq_false h]
    have : (hereB l).toNat ≠ c.toNat := fun e => h (UInt8.toNat_inj.1 e)
    simp; omega

theorem But.row {b : Nat} {w w1 w2 : World} {o : Option Nat} (h : But b w w1) (hg : w1.grownBy w2 o) (ho : ∀ q, o = some q → w.heap.size ≤ q) : But b w w2 :=
  ⟨hg.os.trans h.os, hg.tape.trans h.tape, hg.output.trans h.output, Nat.le_trans h.size hg.size, fun q hq hn => by
    rw [hg.block q (Nat.lt_of_lt_of_le hq h.size) (fun e => by have := ho q e.symm; omega)]; exact h.block q hq hn⟩
theorem RB.row {b : Nat} {s : ByteArray} {i : Nat} {bad : Bool} {w w' : World} {o : Option Nat} (h : RB b s i bad w) (hg : w.grownBy w' o) (ho : ∀ q, o = some q → b < q) : RB b s i bad w' :=
  ⟨by rw [hg.block b h.lt (fun e => by have := ho b e.symm; omega)]; exact h.box, h.le⟩
theorem box_row {b : Nat} {w w' : World} {x : Obj} {o : Option Nat} (h : w.heap[b]? = some x) (hg : w.grownBy w' o) (ho : ∀ q, o = some q → b < q) : w'.heap[b]? = some x := by
  rw [hg.block b (ltR h) (fun e => by have := ho b e.symm; omega)]; exact h
/-- a value was read, and its row grew by one -/
def Nxt (b : Nat) (s : ByteArray) (k : Int) (R : Option (JV × List UInt8)) (w : World) (m j : Nat) (wx : World) : Prop :=
  But b w wx ∧ ∃ (bd : Bool) (j3 : Nat) (nv iv : Value) (nm : List ByteArray) (ps : PVl), RB b s j3 bd wx ∧ LV w.heap.size k nv iv nm ps (!bd) wx ∧ (bd = false → j < j3 ∧ ps.length ≤ j3 ∧ upN nm ∧ (k = 5 → nm = []) ∧ (k = 6 → nm.length = ps.length) ∧ tailL m k (dl s j3) nm (itsOf ps) = R) ∧ (bd = true → R = none)
theorem nxt_arr {b : Nat} {s : ByteArray} {R : Option (JV × List UInt8)} {w w4 w5 : World} {nv iv sv : Value} {ps : PVl} {m j2 j3 : Nat} {bd : Bool} {v : JV} {xl : List Value}
    (hLV : LV w.heap.size 5 nv iv [] ps true w4) (hR : RB b s j3 bd w4) (hB : But b w w4) (hbw : b < w.heap.size)
    (hx : bd = false → valL m (dl s j2) = some (v, dl s j3) ∧ JAt (cfX (w.heap.size + 2) nv.ownBlock iv.ownBlock w4) v (.agg xl.toArray)) (hbad : bd = true → valL m (dl s j2) = none)
    (hq : arrL (m + 1) (dl s j2) (itsOf ps) = R) (hpl : ps.length ≤ j2) (hxl : xl.length = 5) (hx1 : ∀ u ∈ xl, u.oneCell' = true)
    (hown : w5.ownsRow (w.heap.size + 2) 26 5 sv (ps.length + 1) (rowOf ps ++ xl)) (hgr : w4.grownBy w5 iv.ownBlock) (hgg : ∀ q, sv.ownBlock = some q → iv.ownBlock = some q ∨ w4.heap.size ≤ q) :
    Nxt b s 5 R w m j2 (w5.setCell ⟨w.heap.size, 4, none⟩ sv) := by
  have hBi : ∀ q, iv.ownBlock = some q → w.heap.size + 2 ≤ q := fun q hq => (own_lt hLV.items hq).1
  have hset := But.set (b := w.heap.size) w5 4 sv
  refine ⟨But.own (hB.row hgr (fun q hq => by have := hBi q hq; omega)) (Nat.le_refl _) hset, bd, j3, nv, sv, [], ps ++ [(v, xl)], (hR.row hgr (fun q hq => by have := hBi q hq; omega)).keep hset (by omega),
    hLV.item hgr (by rw [List.length_append, row_app]; simpa [rowOf] using hown) hgg (!bd) (fun e => (hLV.vals rfl).add ⟨hxl, hx1, (hx (by simpa using e)).2⟩), fun e => ?_, fun e => by rw [← hq, arr_none (hbad e)]⟩
  obtain ⟨h1, h2⟩ := hx e
  have h3 := valL_len _ _ _ _ h1
  rw [dl_len, dl_len] at h3
  refine ⟨by omega, by rw [List.length_append]; simp; omega, List.Pairwise.nil, fun _ => rfl, fun h => by simp at h, ?_⟩
  rw [← hq, arr_some h1]
  unfold itsOf
  rw [List.map_append]; rfl

end Go.Proofs.YtdhilnnohokoeaaDoor
