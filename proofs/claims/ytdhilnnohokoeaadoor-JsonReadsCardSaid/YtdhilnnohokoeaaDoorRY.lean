/- Lists of the reader's: the steps at objects. -/
import Derived.Test.YtdhilnnohokoeaaDoorRU
namespace Go.Proofs.YtdhilnnohokoeaaDoor
open Go.Shelf Go.RowKit

theorem strL_no {l : List UInt8} (h : ∀ r, l ≠ 34 :: r) : strL l = none := by
  cases l with
  | nil => rfl
  | cons c r => rw [strL, if_neg (fun e => h r (by rw [e]))]
/-- behind a name: a colon -/
theorem colon_step {b : Nat} {s : ByteArray} {w8 : World} {bd : Bool} {t : ByteArray} {j2 j3 j4 m : Nat} {nm : List ByteArray} {it : List JV} (h3 : dl s j3 = skipL (dl s j2)) (hg : bd = false → strL (dl s j3) = some (t, dl s j4)) (hb : bd = true → strL (dl s j3) = none)
    (hk : (∃ r, skipL (dl s j4) = 58 :: r ∧ ∃ j', dl s j' = r ∧ j4 < j' ∧ RB b s j' bd w8) ∨ (∀ r, skipL (dl s j4) ≠ 58 :: r) ∧ RBad b s w8) :
    ∃ (bd8 : Bool) (j5 : Nat), RB b s j5 bd8 w8 ∧ (bd8 = false → strL (skipL (dl s j2)) = some (t, dl s j4) ∧ skipL (dl s j4) = 58 :: dl s j5) ∧ (bd8 = true → objL (m + 1) (dl s j2) nm it = none) := by
  rw [h3] at hg hb
  rcases hk with ⟨r, h1, j', h2, _, hr⟩ | ⟨h1, j', hr⟩
  · exact ⟨bd, j', hr, fun h => ⟨hg h, by rw [h1, h2]⟩, fun h => obj_str (hb h)⟩
  · refine ⟨true, j', hr, (fun h => by cases h), fun _ => ?_⟩
    cases bd with
    | true => exact obj_str (hb rfl)
    | false => exact obj_no (hg rfl) (.inl h1)
theorem map_ins {k : Nat} {t : ByteArray} {nm : List ByteArray} : (nm.map Value.string).take (k * 1) ++ [Value.string t] ++ (nm.map Value.string).drop (k * 1) = (insA k t nm).map Value.string := by
  unfold insA
  rw [Nat.mul_one, List.map_append, List.map_cons, List.map_take, List.map_drop, List.append_assoc]; rfl
theorem one_strs (nm : List ByteArray) : ∀ u ∈ nm.map Value.string, u.oneCell' = true := fun u hu => by
  obtain ⟨x, _, rfl⟩ := List.mem_map.1 hu
  rfl
/-- the name is put in its place -/
theorem name_step {w w10 w11 : World} {nv iv sv : Value} {nm : List ByteArray} {ps : PVl} {t : ByteArray} (hLV : LV w.heap.size 6 nv iv nm ps true w10) (ht : t.size ≤ 4000000)
    (h : w11.ownsRow (w.heap.size + 2) 9 1 sv (nm.length + 1) ((nm.map Value.string).take (placeN nm t * 1) ++ [Value.string t] ++ (nm.map Value.string).drop (placeN nm t * 1))) (hgr : w10.grownBy w11 nv.ownBlock) (hgg : ∀ q, sv.ownBlock = some q → nv.ownBlock = some q ∨ w10.heap.size ≤ q) :
    LV w.heap.size 6 sv iv (insA (placeN nm t) t nm) ps true (w11.setCell ⟨w.heap.size, 3, none⟩ sv) :=
  hLV.name hgr (by rw [insA_len _ _ _ (placeN_le nm t), ← map_ins]; exact h) hgg (fun x hx => by
    rcases insA_mem hx with rfl | hx
    · exact ht
    · exact hLV.small x hx)
theorem nxt_obj {b : Nat} {s : ByteArray} {R : Option (JV × List UInt8)} {w w4 w5 : World} {nv iv sv : Value} {nm : List ByteArray} {ps : PVl} {m j2 j3 j4 j5 : Nat} {t : ByteArray} {bd : Bool} {v : JV} {xl : List Value}
    (hLV : LV w.heap.size 6 nv iv (insA (placeN nm t) t nm) ps true w4) (hR : RB b s j3 bd w4) (hB : But b w w4) (hbw : b < w.heap.size)
    (hx : bd = false → valL m (dl s j5) = some (v, dl s j3) ∧ JAt (cfX (w.heap.size + 2) nv.ownBlock iv.ownBlock w4) v (.agg xl.toArray)) (hbad : bd = true → valL m (dl s j5) = none)
    (hq : objL (m + 1) (dl s j2) nm (itsOf ps) = R) (h1 : strL (skipL (dl s j2)) = some (t, dl s j4)) (h2 : skipL (dl s j4) = 58 :: dl s j5) (hj5 : j2 < j5) (hu : upN nm) (hl : nm.length = ps.length) (hh : hasN nm t = false) (hpl : ps.length ≤ j2) (hxl : xl.length = 5) (hx1 : ∀ u ∈ xl, u.oneCell' = true)
    (hown : w5.ownsRow (w.heap.size + 2) 26 5 sv (ps.length + 1) ((rowOf ps).take (placeN nm t * 5) ++ xl ++ (rowOf ps).drop (placeN nm t * 5))) (hgr : w4.grownBy w5 iv.ownBlock) (hgg : ∀ q, sv.ownBlock = some q → iv.ownBlock = some q ∨ w4.heap.size ≤ q) :
    Nxt b s 6 R w m j2 (w5.setCell ⟨w.heap.size, 4, none⟩ sv) := by
  have hBi : ∀ q, iv.ownBlock = some q → w.heap.size + 2 ≤ q := fun q hq => (own_lt hLV.items hq).1
  have hset := But.set (b := w.heap.size) w5 4 sv
  have hkp : placeN nm t ≤ ps.length := by rw [← hl]; exact placeN_le nm t
  refine ⟨But.own (hB.row hgr (fun q hq => by have := hBi q hq; omega)) (Nat.le_refl _) hset, bd, j3, nv, sv, _, insA (placeN nm t) (v, xl) ps, (hR.row hgr (fun q hq => by have := hBi q hq; omega)).keep hset (by omega),
    hLV.item hgr (by rw [insA_len _ _ _ hkp, ← row_ins (hLV.vals rfl) hkp]; exact hown) hgg (!bd) (fun e => (hLV.vals rfl).ins ⟨hxl, hx1, (hx (by simpa using e)).2⟩ _), fun e => ?_, fun e => by rw [← hq, obj_val h1 h2 hh (hbad e)]⟩
  obtain ⟨h3, h4⟩ := hx e
  have h5 := valL_len _ _ _ _ h3
  rw [dl_len, dl_len] at h5
  refine ⟨by omega, by rw [insA_len _ _ _ hkp]; omega, upN_ins hu (fun hm => ?_), fun h => by simp at h, fun _ => by rw [insA_len _ _ _ hkp, insA_len _ _ _ (placeN_le nm t), hl], ?_⟩
  · rw [(hasN_iff nm t).2 hm] at hh; cases hh
  · rw [← hq, obj_some h1 h2 hh h3, its_ins]

end Go.Proofs.YtdhilnnohokoeaaDoor
