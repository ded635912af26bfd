/- A slice of acts that comes in, opened. -/
import Derived.Test.YthdbmmefnlediaaClockE
import Derived.ProofKit
import Derived.OpenShut
import Derived.Deep.Slices
import Derived.ChangeOld
namespace Go.Proofs.Ythdbmmefnlediaa
open Go.ChangeShapes Go.WideShapes Go.ChangeAt Go.RowKit

theorem Try.own : ownKnob Try.prog.godebug = none := by kernel_rfl
theorem Try.laidOut : laidOutB Try.prog = true := by kernel_rfl

theorem addr_add (b off k : Nat) : (⟨b, off, none⟩ : Addr).add k = ⟨b, off + k, none⟩ := by
  unfold Addr.add; split <;> simp_all

theorem ops_of_trod {H : Type} {enc : TypeId × Value → H} {W : World} {base : Nat} {v : Value} {d : DataW H} {p : List MemPlace} (hv : Value.okWide Try.prog W .any base 23 v)
    (h : DataW.Trod enc Try.prog W 0 (fun _ => true) true 23 v d p) : ∃ ops, OpsAt W v ops ∧ ops.length ≤ 9223372036854775807 := by
  obtain ⟨a, len, cap, rfl⟩ := okWide_slice Try.underlying23 hv
  obtain ⟨fuel, hf⟩ := h
  rcases Go.Deep.open_slice Try.underlying23 hf with ⟨hcs, _⟩ | ⟨x, l, c, m, n, D, Pl, hcs, _, hl, hm, hmm, _, hi⟩
  · simp [Value.cells] at hcs
    obtain ⟨rfl, rfl, rfl⟩ := hcs
    exact ⟨[], ⟨none, 0, rfl, fun i kd n h => by simp at h⟩, by simp⟩
  · simp [Value.cells] at hcs
    obtain ⟨rfl, rfl, rfl⟩ := hcs
    have hm2 : m = cap := by simpa using hmm
    subst hm2
    have hC : Try.prog.cellsOf 35 = 2 := by kernel_rfl
    have hel : ∀ i, i < len → ∃ kn : Int × Int, W.cell? (x.add (i * 2)) = some (.int .i64 kn.1) ∧ W.cell? (x.add (i * 2 + 1)) = some (.int .i64 kn.2) ∧ (Lit.int .i64 kn.2).wf = true := by
      intro i hil
      obtain ⟨cs', hc, ht⟩ := hi i (by omega)
      rw [hC] at hc
      obtain ⟨_, hcl, hat⟩ := World.cells?_some hc
      obtain ⟨xs, n', _, _, hlen, hxl, hg⟩ := DataW.trod_struct Try.underlying35 ht
      have hI : Try.prog.cellsOf 3 = 1 := by kernel_rfl
      match cs', hcl, xs, hxl with
      | [c0, c1], _, [y0, y1], _ =>
        have g0 := hg 0 _ rfl
        have g1 := hg 1 _ rfl
        obtain ⟨kd, e0, _, _⟩ := DataW.trod_int Try.underlying3 g0
        obtain ⟨nn, e1, _, w1⟩ := DataW.trod_int Try.underlying3 g1
        simp [hI] at e0 e1
        subst e0 e1
        refine ⟨(kd, nn), ?_, ?_, w1⟩
        · have := hat 0 (by omega); simpa [Go.Deep.add_add] using this
        · have := hat 1 (by omega); simpa [Go.Deep.add_add] using this
    obtain ⟨f, hfl⟩ := Go.Deep.choose_lt hel
    refine ⟨(List.range len).map f, ⟨some x, m, by simp, fun i kd nn hop => ?_⟩, by unfold maxLen at hm; rw [List.length_map, List.length_range]; omega⟩
    obtain ⟨hil, e⟩ : i < len ∧ f i = (kd, nn) := by
      rw [List.getElem?_map] at hop
      by_cases hil : i < len
      · rw [List.getElem?_range hil] at hop; exact ⟨hil, by simpa using hop⟩
      · rw [List.getElem?_eq_none (by simp; omega)] at hop; cases hop
    have h3 := hfl i hil
    rw [e] at h3
    obtain ⟨b, off, spot⟩ := x
    have hs : spot = none := by
      by_cases hz : i * 2 = 0
      · have := World.cell?_spot h3.1; simpa [Addr.add, hz] using this
      · have h0 := (hfl 0 (by omega)).1
        have := World.cell?_spot h0; simpa [Addr.add] using this
    subst hs
    have ea : ∀ k : Nat, (⟨b, off, none⟩ : Addr).add k = ⟨b, off + k, none⟩ := fun k => addr_add b off k
    rw [ea, ea] at h3
    exact ⟨b, off, rfl, h3.1, by rw [Nat.add_assoc]; exact h3.2.1, h3.2.2⟩

end Go.Proofs.Ythdbmmefnlediaa
