/- ClockRises holds: whatever is done to a clock, neither the time nor the oldest time that is looked at falls; for every time and every slice of acts, without condition. -/
import Derived.Test.YthdbmmefnlediaaClockE
import Derived.ProofKit
import Derived.OpenShut
import Derived.Deep.Slices
import Derived.ChangeOld
namespace Go.Proofs.Ythdbmmefnlediaa
open Go.ChangeShapes Go.WideShapes Go.ChangeAt Go.RowKit

theorem Try.own : ownKnob Try.prog.godebug = none := by kernel_rfl
theorem Try.laidOut : laidOutB Try.prog = true := by kernel_rfl

theorem addr_add (b off k : Nat) : (⟨b, off, none⟩ : Addr).add k = ⟨b, off + k, none⟩ := by
  unfold Addr.add; split <;> simp_all

theorem ops_of_trod {H : Type} {enc : TypeId × Value → H} {W : World} {base : Nat} {v : Value} {d : DataW H} {p : List MemPlace} (hv : Value.okWide Try.prog W .any base 23 v)
    (h : DataW.Trod enc Try.prog W 0 (fun _ => true) true 23 v d p) : ∃ ops, OpsAt W v ops ∧ ops.length ≤ 9223372036854775807 := by
  obtain ⟨a, len, cap, rfl⟩ := okWide_slice Try.underlying23 hv
  obtain ⟨fuel, hf⟩ := h
  rcases Go.Deep.open_slice Try.underlying23 hf with ⟨hcs, _⟩ | ⟨x, l, c, m, n, D, Pl, hcs, _, hl, hm, hmm, _, hi⟩
  · simp [Value.cells] at hcs
    obtain ⟨rfl, rfl, rfl⟩ := hcs
    exact ⟨[], ⟨none, 0, rfl, fun i kd n h => by simp at h⟩, by simp⟩
  · simp [Value.cells] at hcs
    obtain ⟨rfl, rfl, rfl⟩ := hcs
    have hm2 : m = cap := by simpa using hmm
    subst hm2
    have hC : Try.prog.cellsOf 35 = 2 := by kernel_rfl
    have hel : ∀ i, i < len → ∃ kn : Int × Int, W.cell? (x.add (i * 2)) = some (.int .i64 kn.1) ∧ W.cell? (x.add (i * 2 + 1)) = some (.int .i64 kn.2) ∧ (Lit.int .i64 kn.2).wf = true := by
      intro i hil
      obtain ⟨cs', hc, ht⟩ := hi i (by omega)
      rw [hC] at hc
      obtain ⟨_, hcl, hat⟩ := World.cells?_some hc
      obtain ⟨xs, n', _, _, hlen, hxl, hg⟩ := DataW.trod_struct Try.underlying35 ht
      have hI : Try.prog.cellsOf 3 = 1 := by kernel_rfl
      match cs', hcl, xs, hxl with
      | [c0, c1], _, [y0, y1], _ =>
        have g0 := hg 0 _ rfl
        have g1 := hg 1 _ rfl
        obtain ⟨kd, e0, _, _⟩ := DataW.trod_int Try.underlying3 g0
        obtain ⟨nn, e1, _, w1⟩ := DataW.trod_int Try.underlying3 g1
        simp [hI] at e0 e1
        subst e0 e1
        refine ⟨(kd, nn), ?_, ?_, w1⟩
        · have := hat 0 (by omega); simpa [Go.Deep.add_add] using this
        · have := hat 1 (by omega); simpa [Go.Deep.add_add] using this
    obtain ⟨f, hfl⟩ := Go.Deep.choose_lt hel
    refine ⟨(List.range len).map f, ⟨some x, m, by simp, fun i kd nn hop => ?_⟩, by unfold maxLen at hm; rw [List.length_map, List.length_range]; omega⟩
    obtain ⟨hil, e⟩ : i < len ∧ f i = (kd, nn) := by
      rw [List.getElem?_map] at hop
      by_cases hil : i < len
      · rw [List.getElem?_range hil] at hop; exact ⟨hil, by simpa using hop⟩
      · rw [List.getElem?_eq_none (by simp; omega)] at hop; cases hop
    have h3 := hfl i hil
    rw [e] at h3
    obtain ⟨b, off, spot⟩ := x
    have hs : spot = none := by
      by_cases hz : i * 2 = 0
      · have := World.cell?_spot h3.1; simpa [Addr.add, hz] using this
      · have h0 := (hfl 0 (by omega)).1
        have := World.cell?_spot h0; simpa [Addr.add] using this
    subst hs
    have ea : ∀ k : Nat, (⟨b, off, none⟩ : Addr).add k = ⟨b, off + k, none⟩ := fun k => addr_add b off k
    rw [ea, ea] at h3
    exact ⟨b, off, rfl, h3.1, by rw [Nat.add_assoc]; exact h3.2.1, h3.2.2⟩

theorem ClockRises.walk (now : Int) (hn : (Lit.int .u64 now).wf = true) (v : Value) (ops : List (Int × Int)) (w : World) (ho : OpsAt w v ops) (hmax : ops.length ≤ 9223372036854775807) :
    Calls Try.prog 3 #[.int .u64 now, v] w fun e w' => e = .returned (.bool true) ∧ Below w.heap.size w w' := by
  by_cases h : ops.length ≤ 200
  · exact rises_short now hn v ops w ho h
  · exact rises_long now v ops w ho (by omega) hmax

set_option maxRecDepth 100000 in
theorem ClockRises.lifted (os : Os) (started : os.Started) (H : Type) (enc : TypeId × Value → H) :
    ReturnsInHanded {} Try.checked os 3 .any (Rows.clockRisesSpec.pre6 enc Try.prog Try.f3 Rows.clockRisesRow.domain false) (Rows.clockRisesSpec.post enc Try.prog Try.f3 false true false false) := by
  refine returnsInHanded_of_change (C := Try.checked) Try.own started (by kernel_rfl) Try.func3
    (ChangeSpec.witness6 (enc := enc) (C := Try.checked) false ⟨#[], #[.int .u64 0, .slice none 0 0], []⟩ 8 (by kernel_rfl) (by kernel_rfl) (by kernel_rfl) (by kernel_rfl)) ?_
  intro W base args ds gs before hval0 hW hcnd _
  have hval : ∀ (j : Nat) t v, Try.f3.params[j]? = some t → args[j]? = some v → Value.okWide Try.prog W .any base t v := hval0
  have hW' := hW
  obtain ⟨p, q, hA0, hV, rfl, hfz, hnd⟩ := hW
  have hA : DataW.TrodAll enc Try.prog W 0 (fun _ => true) true Try.f3.params.toList args.toList ds p := hA0
  rw [Try.params3] at hA hval
  obtain ⟨v0, vs0, d0, ds0, p0, q0, hargs, rfl, rfl, h0, r0⟩ := trodAll_cons hA
  obtain ⟨v1, vs1, d1, ds1, p1, q1, rfl, rfl, rfl, h1, r1⟩ := trodAll_cons r0
  obtain ⟨rfl, rfl, rfl⟩ := trodAll_nil r1
  obtain rfl : args = #[v0, v1] := by cases args; simp_all
  obtain ⟨rfl, rfl⟩ := trodVars_none hV
  have k0 := h0
  have lt0 : ∀ x ∈ p0, x.block < W.heap.size := by obtain ⟨m, hm⟩ := k0; exact DataW.trod_lt m _ _ _ hm
  have k1 := h1
  have lt1 : ∀ x ∈ p1, x.block < W.heap.size := by obtain ⟨m, hm⟩ := k1; exact DataW.trod_lt m _ _ _ hm
  obtain ⟨a0, rfl, _, _, w0⟩ := open_int Try.underlying22 (hval 0 _ v0 rfl rfl) h0
  obtain ⟨ops, w1, w1'⟩ := ops_of_trod (hval 1 _ v1 rfl rfl) h1
  clear hA0 hval0
  refine (ClockRises.walk a0 w0 v1 ops W w1 w1').mono fun e W' ⟨he, bel⟩ => ?_
  subst he
  exact ⟨_, rfl, _, _, _, [], _, [], hW', trodAll_mk1 (shut_bool Try.underlying4 _), (trodAll_cons_mk (Below.trod Try.laidOut (by kernel_rfl) (of_decide_eq_true (by kernel_rfl)) k0 bel lt0) (trodAll_cons_mk (Below.trod Try.laidOut (by kernel_rfl) (of_decide_eq_true (by kernel_rfl)) k1 bel lt1) trodAll_mk0)), rfl, bel.frame _, fun h => by cases h⟩

theorem ClockRises.over : Rows.clockRisesRow.holds Try.pinned (OpenSpec.ofChange Rows.clockRisesSpec) :=
  OpenClaim.holds_of_wide 3 Try.f3 rfl rfl rfl rfl rfl rfl rfl ⟨rfl, rfl, rfl, rfl, rfl⟩ rfl rfl rfl rfl rfl (by kernel_rfl) Try.func3 (by kernel_rfl)
    (of_decide_eq_true (by kernel_rfl)) (by unfold Func.isWrapper; first | (rw [if_pos (by decide +kernel)]; kernel_rfl) | (rw [if_neg (by decide +kernel)]; exact ⟨rfl, rfl⟩))
    (fun os started H enc _ => ClockRises.lifted os started H enc)

theorem clockRises_holds : Rows.ClockRisesSaid := ClockRises.over
#print axioms clockRises_holds

end Go.Proofs.Ythdbmmefnlediaa
