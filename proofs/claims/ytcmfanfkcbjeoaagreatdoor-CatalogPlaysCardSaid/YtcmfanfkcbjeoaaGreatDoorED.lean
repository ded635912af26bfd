/- Indexes: an index as the reference has it (plain of the law). -/
import Derived.Test.YtcmfanfkcbjeoaaGreatDoorEB
import Derived.Test.YtcmfanfkcbjeoaaGreatDoorJGrow
import Derived.Deep.AppendLies
namespace Go.Proofs.YtcmfanfkcbjeoaaGreatDoor
open Go.RowKit

theorem infoFd : (Tryz.prog.info? 99).map (fun i => (i.zero, i.size, i.bytes)) = some (some (.agg #[.string ⟨#[]⟩, .bool false]), 2, 24) := by kernel_rfl

/-- fields as cells -/
def fcells : List Fd → List Value
  | [] => []
  | p :: l => .string p.1 :: .bool p.2 :: fcells l
theorem fcells_snoc (p : Fd) : ∀ l, fcells (l ++ [p]) = fcells l ++ [.string p.1, .bool p.2]
  | [] => rfl
  | q :: l => by simp [fcells, fcells_snoc p l]
theorem fcells_len : ∀ l, (fcells l).length = l.length * 2
  | [] => rfl
  | q :: l => by simp [fcells, fcells_len l]; omega
theorem fcells_at : ∀ (l : List Fd) (i : Nat) (p : Fd), l[i]? = some p → (fcells l)[i * 2]? = some (.string p.1) ∧ (fcells l)[i * 2 + 1]? = some (.bool p.2)
  | [], i, p, h => by simp at h
  | q :: l, 0, p, h => by simp at h; subst h; simp [fcells]
  | q :: l, i + 1, p, h => by
    have := fcells_at l i p (by simpa using h)
    rw [show (i + 1) * 2 = i * 2 + 1 + 1 by omega]
    simpa [fcells] using this
theorem fields_own_A {w : World} {B : Nat} {e : TypeId} {v : Value} {l : List Fd} (h : w.ownsRow B e 2 v l.length (fcells l)) (hs : ∀ p ∈ l, p.1.size ≤ 9223372036854775807) : FieldsAt (cfA B w) v l := by
  have h2 := h.2
  rcases h2 with ⟨hv, hn⟩ | ⟨g, cap, cur, hv, hb, _, hle, hcap, _⟩
  · obtain rfl : l = [] := List.length_eq_zero_iff.1 hn
    exact ⟨none, 0, hv, by simp, by simp, fun i s h => by simp at h⟩
  · refine ⟨some ⟨g, 0, none⟩, cap, hv, hle, by unfold maxLen at hcap; omega, fun i p hi => ⟨hs p (List.mem_of_getElem? hi), g, 0, rfl, ?_, ?_⟩⟩
    · have := h.cells (g := g) (by rw [hv]; rfl) (i * 2) (.string p.1) (fcells_at l i p hi).1
      rw [addr_at] at this
      unfold cfA; rw [Nat.zero_add, if_pos hb]; exact this
    · have := h.cells (g := g) (by rw [hv]; rfl) (i * 2 + 1) (.bool p.2) (fcells_at l i p hi).2
      rw [addr_at] at this
      unfold cfA; rw [Nat.zero_add, if_pos hb]; exact this
theorem fields_of_own {w : World} {B : Nat} {e : TypeId} {v : Value} {l : List Fd} (h : w.ownsRow B e 2 v l.length (fcells l)) (hs : ∀ p ∈ l, p.1.size ≤ 9223372036854775807) : FieldsAt (cf w) v l := (fields_own_A h hs).mono (cfA_le _ _)
theorem own_form2 {w : World} {B : Nat} {e : TypeId} {s : Nat} {v : Value} {n : Nat} {xs : List Value} (h : w.ownsRow B e s v n xs) : ∃ a cap, v = .slice a n cap := by
  rcases h.2 with ⟨hv, hn⟩ | ⟨g, cap, cur, hv, _⟩
  · exact ⟨none, 0, by rw [hv, hn]⟩
  · exact ⟨_, cap, hv⟩

theorem own_set {w : World} {B k o : Nat} {e : TypeId} {n sz : Nat} {v c : Value} {xs : List Value} (h : w.ownsRow B e sz v n xs) (hk : k < B) : (w.setCell ⟨k, o, none⟩ c).ownsRow B e sz v n xs := by
  obtain ⟨h1, h2⟩ := h
  refine ⟨h1, ?_⟩
  rcases h2 with h2 | ⟨g, cap, cur, hv, hb, hc, hrest⟩
  · exact .inl h2
  · exact .inr ⟨g, cap, cur, hv, hb, by rw [Below.heap_setCell _ _ _ _ (show g ≠ k by omega)]; exact hc, hrest⟩

abbrev zeroI : Array Value := #[.string ⟨#[]⟩, .slice none 0 0, .bool false]
/-- where plain stands -/
structure PL (w wr : World) (nm : ByteArray) (fv : Value) (u : Bool) (sv : Value) (j : Nat) (l : List Fd) : Prop where
  bel : Below w.heap.size w wr
  xb : wr.heap[w.heap.size]? = some (.cells #[.string nm, fv, .bool u] 44 (0, 0))
  rb : wr.heap[w.heap.size + 1]? = some (.cells zeroI 48 (0, 0))
  yb : wr.heap[w.heap.size + 1 + 1]? = some (.cells #[.string nm, sv, .bool u] 48 (0, 0))
  own : wr.ownsRow (w.heap.size + 1 + 1 + 1) 99 2 sv j (fcells (l.take j))
theorem PL.start (w : World) (nm : ByteArray) (fv : Value) (u : Bool) (l : List Fd) :
    PL w (((w.alloc (.cells #[.string nm, fv, .bool u] 44)).alloc (.cells zeroI 48)).alloc (.cells #[.string nm, .slice none 0 0, .bool u] 48)) nm fv u (.slice none 0 0) 0 l := by
  refine ⟨(((Below.refl _ w).alloc (Nat.le_refl _) _).alloc (by simp) _).alloc (by simp; omega) _, al_old2 (al_old2 (al_new2 rfl)), al_old2 (al_new2 (by simp)), al_new2 (by simp), World.ownsRow_nil _ _ _ _⟩
where
  al_old2 {w : World} {o x : Obj} {k : Nat} (h : w.heap[k]? = some x) : (w.alloc o).heap[k]? = some x := kept h ((Below.refl _ w).alloc (Nat.le_refl _) o)
  al_new2 {w : World} {o : Obj} {n : Nat} (h : n = w.heap.size) : (w.alloc o).heap[n]? = some o := by rw [h]; exact heap_alloc_new w o

theorem PL.alloc {w w1 : World} {nm : ByteArray} {fv : Value} {u : Bool} {sv : Value} {j : Nat} {l : List Fd} (h : PL w w1 nm fv u sv j l) (o : Obj) : PL w (w1.alloc o) nm fv u sv j l :=
  ⟨h.bel.alloc h.bel.size o, kept h.xb ((Below.refl _ w1).alloc (Nat.le_refl _) o), kept h.rb ((Below.refl _ w1).alloc (Nat.le_refl _) o), kept h.yb ((Below.refl _ w1).alloc (Nat.le_refl _) o), h.own.alloc o⟩

/-- y.Fields = append(y.Fields, f) -/
theorem PL.push {w w1 w2 : World} {nm : ByteArray} {fv : Value} {u : Bool} {sv : Value} {j g cap : Nat} {l : List Fd} {f : Fd} (h : PL w w1 nm fv u sv j l) (hf : l[j]? = some f)
    (hg : w1.grownBy w2 sv.ownBlock) (hown : w2.ownsRow (w.heap.size + 1 + 1 + 1) 99 2 (.slice (some ⟨g, 0, none⟩) (j + 1) cap) (j + 1) (fcells (l.take j) ++ [.string f.1, .bool f.2])) :
    PL w (w2.setCell ⟨w.heap.size + 1 + 1, 1, none⟩ (.slice (some ⟨g, 0, none⟩) (j + 1) cap)) nm fv u (.slice (some ⟨g, 0, none⟩) (j + 1) cap) (j + 1) l := by
  have hne : ∀ k, k < w.heap.size + 1 + 1 + 1 → sv.ownBlock ≠ some k := fun k hk e => by have := (h.own.lt k e).1; omega
  have hsz : w.heap.size + 1 + 1 < w1.heap.size := heap_lt h.yb
  have old : ∀ k, k < w.heap.size + 1 + 1 + 1 → w2.heap[k]? = w1.heap[k]? := fun k hk => hg.block k (by omega) (fun e => hne k hk e.symm)
  have ny : ∀ k, k ≠ w.heap.size + 1 + 1 → ∀ v, (w2.setCell ⟨w.heap.size + 1 + 1, 1, none⟩ v).heap[k]? = w2.heap[k]? := fun k hk v => Below.heap_setCell _ _ _ _ hk
  refine ⟨?_, ?_, ?_, ?_, ?_⟩
  · have hb2 : Below w.heap.size w w2 := h.bel.grown hg h.bel.size (fun q hq => by have := (h.own.lt q hq).1; omega)
    exact hb2.setCell (p := ⟨w.heap.size + 1 + 1, 1, none⟩) (by simp; omega) _
  · rw [ny _ (by omega), old _ (by omega)]; exact h.xb
  · rw [ny _ (by omega), old _ (by omega)]; exact h.rb
  · have := set_self (o := 1) (c := .slice (some ⟨g, 0, none⟩) (j + 1) cap) (by rw [old _ (by omega)]; exact h.yb : w2.heap[w.heap.size + 1 + 1]? = some (.cells #[.string nm, sv, .bool u] 48 (0, 0)))
    simpa using this
  · have e : l.take (j + 1) = l.take j ++ [f] := by rw [List.take_add_one, hf]; rfl
    rw [e, fcells_snoc]
    obtain ⟨h1, h2⟩ := hown
    refine ⟨h1, ?_⟩
    rcases h2 with ⟨hv, _⟩ | ⟨g', cap', cur, hv, hb, hc, hrest⟩
    · cases hv
    · refine .inr ⟨g', cap', cur, hv, hb, ?_, hrest⟩
      rw [ny _ (by omega)]; exact hc

end Go.Proofs.YtcmfanfkcbjeoaaGreatDoor
