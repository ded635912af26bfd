/- Catalogs: the least space that none has. -/
import Derived.Test.YticlnijkfclgcaaGreatDoorZ20
import Derived.Test.YticlnijkfclgcaaGreatDoorZ29
namespace Go.Proofs.YticlnijkfclgcaaGreatDoor
open Go.RowKit Go.Shelf

/-- the least number from 1 on that is not there -/
structure IsFresh (zs : List Int) (n : Nat) : Prop where
  pos : 1 ≤ n
  not_ : ¬ ((n : Int) ∈ zs)
  all : ∀ m : Nat, 1 ≤ m → m < n → (m : Int) ∈ zs
theorem IsFresh.uniq {zs : List Int} {n m : Nat} (h : IsFresh zs n) (k : IsFresh zs m) : n = m := by
  rcases Nat.lt_trichotomy n m with hl | hl | hl
  · exact absurd (k.all n h.pos hl) h.not_
  · exact hl
  · exact absurd (h.all m k.pos hl) k.not_
end Go.Proofs.YticlnijkfclgcaaGreatDoor

/- Catalogs: clones of placed indexes and of fields (printed by genXCE.py). -/
namespace Go.Proofs.YticlnijkfclgcaaGreatDoor
open Go.Shelf Go.RowKit

/-- a field's two cells -/
def RFd : Rep Fd := fun _ x d => d = [.string x.1, .bool x.2] ∧ x.1.size ≤ 9223372036854775807
theorem fieldsAt_sat {c : CF} {v : Value} {l : List Fd} (h : FieldsAt c v l) : SAt 2 RFd c v l := by
  obtain ⟨a, cap, rfl, h1, h2, h3⟩ := h
  refine ⟨a, cap, rfl, h1, h2, fun i x hx => ?_⟩
  obtain ⟨hs, b, off, e, c0, c1⟩ := h3 i x hx
  refine ⟨b, off, _, e, rfl, fun j u hu => ?_, rfl, hs⟩
  match j, hu with
  | 0, hu => cases hu; exact c0
  | 1, hu => cases hu; exact c1
  | j + 2, hu => simp at hu
theorem sat_fieldsAt {c : CF} {v : Value} {l : List Fd} (h : SAt 2 RFd c v l) : FieldsAt c v l := by
  obtain ⟨a, cap, rfl, h1, h2, h3⟩ := h
  refine ⟨a, cap, rfl, h1, h2, fun i x hx => ?_⟩
  obtain ⟨b, off, d, e, hd, hc, rfl, hs⟩ := h3 i x hx
  exact ⟨hs, b, off, e, hc 0 _ rfl, hc 1 _ rfl⟩
theorem infoPX : (Tryz.prog.info? 85).map (fun i => (i.zero, i.size, i.bytes)) = some (some (.agg #[.string ⟨#[]⟩, .slice none 0 0, .bool false, .int .i64 0]), 4, 56) := by kernel_rfl
end Go.Proofs.YticlnijkfclgcaaGreatDoor

/- Catalogs: BinarySearchFunc at collections and placed indexes (printed by genXCF.py). -/
namespace Go.Proofs.YticlnijkfclgcaaGreatDoor
open Go.Shelf Go.RowKit

/-- names that rise; where a name has its place -/
def upZ (nm : List ByteArray) : Prop := nm.Pairwise fun a b => strLt a b = true
def tbZ (s : ByteArray) : List UInt8 := s.data.toList
theorem strLt_tbZ (a b : ByteArray) : strLt a b = decide (tbZ a < tbZ b) := by unfold strLt tbZ; rw [ByteArray.toList_eq, ByteArray.toList_eq, bytesLess_eq]
theorem strLtZ_trans {a b c : ByteArray} (h : strLt a b = true) (k : strLt b c = true) : strLt a c = true := by
  rw [strLt_tbZ] at *
  exact decide_eq_true (List.lt_trans (of_decide_eq_true h) (of_decide_eq_true k))
theorem rises_upZ : ∀ {nm : List ByteArray}, rises nm = true → upZ nm
  | [], _ => List.Pairwise.nil
  | [a], _ => List.pairwise_singleton _ _
  | a :: b :: l, h => by
    rw [rises, Bool.and_eq_true] at h
    have ih := rises_upZ h.2
    refine List.pairwise_cons.2 ⟨fun c hc => ?_, ih⟩
    rcases List.mem_cons.1 hc with rfl | hc
    · exact h.1
    · exact strLtZ_trans h.1 ((List.pairwise_cons.1 ih).1 c hc)
theorem up_risesZ {nm : List ByteArray} (h : upZ nm) : rises nm = true :=
  rises_at fun i a b ha hb => by
    obtain ⟨hi, rfl⟩ := List.getElem?_eq_some_iff.1 ha
    obtain ⟨hj, rfl⟩ := List.getElem?_eq_some_iff.1 hb
    exact List.pairwise_iff_getElem.1 h i (i + 1) hi hj (by omega)
end Go.Proofs.YticlnijkfclgcaaGreatDoor
