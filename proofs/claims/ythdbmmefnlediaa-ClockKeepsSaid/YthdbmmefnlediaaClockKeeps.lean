/- ClockKeeps holds: a snapshot keeps its time until it is dropped, and no two that live have one number; for all slices of acts, without condition. -/
import Derived.Test.YthdbmmefnlediaaClockJ
import Derived.Test.YthdbmmefnlediaaClockOpen
namespace Go.Proofs.Ythdbmmefnlediaa
open Go.ChangeShapes Go.WideShapes Go.ChangeAt Go.RowKit

theorem ClockKeeps.walk (v1 v2 : Value) (ops1 ops2 : List (Int × Int)) (w : World) (h1 : OpsAt w v1 ops1) (h2 : OpsAt w v2 ops2) (hm1 : ops1.length ≤ 9223372036854775807) (hm2 : ops2.length ≤ 9223372036854775807) :
    Calls Try.prog 6 #[v1, v2] w fun e w' => e = .returned (.bool true) ∧ Below w.heap.size w w' := by
  by_cases h : ops1.length ≤ 200 ∧ ops2.length ≤ 200
  · exact keeps_short v1 v2 ops1 ops2 w h1 h2 h.1 h.2
  · exact keeps_long v1 v2 ops1 ops2 w h1 h2 (by omega) hm1 hm2

set_option maxRecDepth 100000 in
theorem ClockKeeps.lifted (os : Os) (started : os.Started) (H : Type) (enc : TypeId × Value → H) :
    ReturnsInHanded {} Try.checked os 6 .any (Rows.clockKeepsSpec.pre6 enc Try.prog Try.f6 Rows.clockKeepsRow.domain false) (Rows.clockKeepsSpec.post enc Try.prog Try.f6 false true false false) := by
  refine returnsInHanded_of_change (C := Try.checked) Try.own started (by kernel_rfl) Try.func6
    (ChangeSpec.witness6 (enc := enc) (C := Try.checked) false ⟨#[], #[.slice none 0 0, .slice none 0 0], []⟩ 8 (by kernel_rfl) (by kernel_rfl) (by kernel_rfl) (by kernel_rfl)) ?_
  intro W base args ds gs before hval0 hW hcnd _
  have hval : ∀ (j : Nat) t v, Try.f6.params[j]? = some t → args[j]? = some v → Value.okWide Try.prog W .any base t v := hval0
  have hW' := hW
  obtain ⟨p, q, hA0, hV, rfl, hfz, hnd⟩ := hW
  have hA : DataW.TrodAll enc Try.prog W 0 (fun _ => true) true Try.f6.params.toList args.toList ds p := hA0
  rw [Try.params6] at hA hval
  obtain ⟨v0, vs0, d0, ds0, p0, q0, hargs, rfl, rfl, h0, r0⟩ := trodAll_cons hA
  obtain ⟨v1, vs1, d1, ds1, p1, q1, rfl, rfl, rfl, h1, r1⟩ := trodAll_cons r0
  obtain ⟨rfl, rfl, rfl⟩ := trodAll_nil r1
  obtain rfl : args = #[v0, v1] := by cases args; simp_all
  obtain ⟨rfl, rfl⟩ := trodVars_none hV
  have k0 := h0
  have lt0 : ∀ x ∈ p0, x.block < W.heap.size := by obtain ⟨m, hm⟩ := k0; exact DataW.trod_lt m _ _ _ hm
  have k1 := h1
  have lt1 : ∀ x ∈ p1, x.block < W.heap.size := by obtain ⟨m, hm⟩ := k1; exact DataW.trod_lt m _ _ _ hm
  obtain ⟨ops0, w0, w0'⟩ := ops_of_trod (hval 0 _ v0 rfl rfl) h0
  obtain ⟨ops1, w1, w1'⟩ := ops_of_trod (hval 1 _ v1 rfl rfl) h1
  clear hA0 hval0
  refine (ClockKeeps.walk v0 v1 ops0 ops1 W w0 w1 w0' w1').mono fun e W' ⟨he, bel⟩ => ?_
  subst he
  exact ⟨_, rfl, _, _, _, [], _, [], hW', trodAll_mk1 (shut_bool Try.underlying4 _), (trodAll_cons_mk (Below.trod Try.laidOut (by kernel_rfl) (of_decide_eq_true (by kernel_rfl)) k0 bel lt0) (trodAll_cons_mk (Below.trod Try.laidOut (by kernel_rfl) (of_decide_eq_true (by kernel_rfl)) k1 bel lt1) trodAll_mk0)), rfl, bel.frame _, fun h => by cases h⟩

theorem ClockKeeps.over : Rows.clockKeepsRow.holds Try.pinned (OpenSpec.ofChange Rows.clockKeepsSpec) :=
  OpenClaim.holds_of_wide 6 Try.f6 rfl rfl rfl rfl rfl rfl rfl ⟨rfl, rfl, rfl, rfl, rfl⟩ rfl rfl rfl rfl rfl (by kernel_rfl) Try.func6 (by kernel_rfl)
    (of_decide_eq_true (by kernel_rfl)) (by unfold Func.isWrapper; first | (rw [if_pos (by decide +kernel)]; kernel_rfl) | (rw [if_neg (by decide +kernel)]; exact ⟨rfl, rfl⟩))
    (fun os started H enc _ => ClockKeeps.lifted os started H enc)

theorem clockKeeps_holds : Rows.ClockKeepsSaid := ClockKeeps.over
#print axioms clockKeeps_holds

end Go.Proofs.Ythdbmmefnlediaa
