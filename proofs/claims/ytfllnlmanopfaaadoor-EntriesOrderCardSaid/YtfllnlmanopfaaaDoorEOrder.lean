/- EntriesOrder: the row and its card. -/
import Derived.Test.YtfllnlmanopfaaaDoorKS
import Derived.Test.YtfllnlmanopfaaaDoorEFrame
namespace Go.Proofs.YtfllnlmanopfaaaDoor
open Go.Shelf
open Go.ChangeShapes Go.WideShapes Go.ChangeAt Go.RowKit

theorem EntriesOrder.witness (os : Os) {H : Type} (enc : TypeId × Value → H) :
    (OpenSpec.ofChange Rows.entriesOrderSpec).preRow enc Tryd.prog Tryd.f12 Rows.entriesOrderRow.domain false Rows.entriesOrderRow.laid ((laidWorld3 os).forCall (fun _ _ => 0) ⟨#[], #[.agg #[.string ⟨#[]⟩, .slice none 0 0, .bool false], zeroV, zeroV], []⟩).memory #[.agg #[.string ⟨#[]⟩, .slice none 0 0, .bool false], zeroV, zeroV] := by
  have hw : (DataW.whole enc Tryd.prog ((laidWorld3 os).forCall (fun _ _ => 0) ⟨#[], #[.agg #[.string ⟨#[]⟩, .slice none 0 0, .bool false], zeroV, zeroV], []⟩).memory Tryd.f12.params.toList Rows.entriesOrderSpec.vars false #[.agg #[.string ⟨#[]⟩, .slice none 0 0, .bool false], zeroV, zeroV].toList 8).map (fun x => (x.1, x.2.1)) =
      some ([.agg [.lit (.string []), .nil, .lit (.bool false)], .agg [.lit (.int .i64 0), .lit (.int .i64 0), .lit (.string []), .nil, .nil], .agg [.lit (.int .i64 0), .lit (.int .i64 0), .lit (.string []), .nil, .nil]], []) := by kernel_rfl
  obtain ⟨⟨x1, x2, x3⟩, hx, hx1⟩ := Option.map_eq_some_iff.1 hw
  simp only [Prod.mk.injEq] at hx1
  obtain ⟨rfl, rfl⟩ := hx1
  exact OpenSpec.preRow_of_cond 8 hx (by kernel_rfl) (fun k hk => by cases hk) (by kernel_rfl) (laid_met3 os _)

set_option maxRecDepth 100000 in
set_option maxHeartbeats 2000000 in
theorem EntriesOrder.lifted (os : Os) (started : os.Started) (H : Type) (enc : TypeId × Value → H) (F : Stop.Interp) :
    ReturnsInHanded {} Tryd.checked os 12 .any ((OpenSpec.ofChange Rows.entriesOrderSpec).preRow enc Tryd.prog Tryd.f12 Rows.entriesOrderRow.domain false Rows.entriesOrderRow.laid) (((OpenSpec.ofChange Rows.entriesOrderSpec).at F).post enc Tryd.prog Tryd.f12 false true false false) := by
  refine returnsInHanded_of_row (C := Tryd.checked) (s := OpenSpec.ofChange Rows.entriesOrderSpec) Tryd.own started (by kernel_rfl) Tryd.func12
    (witness_row_atRef (enc := enc) (C := Tryd.checked) false (laidWorld3 os) #[.agg #[.string ⟨#[]⟩, .slice none 0 0, .bool false], zeroV, zeroV] rfl (by kernel_rfl) (by kernel_rfl) (by kernel_rfl) (EntriesOrder.witness os enc)) ?_
  intro W base args ds gs before hval0 hW _ _ _ hL _ _
  have hval : ∀ (j : Nat) t v, Tryd.f12.params[j]? = some t → args[j]? = some v → Value.okWide Tryd.prog W .any base t v := hval0
  have hW' := hW
  obtain ⟨p, q, hA0, hV, rfl, hfz, hnd⟩ := hW
  have hA : DataW.TrodAll enc Tryd.prog W 0 (fun _ => true) true Tryd.f12.params.toList args.toList ds p := hA0
  rw [Tryd.params12] at hA hval
  obtain ⟨a0, vs0, d0, ds0, p0, q0, hargs, rfl, rfl, h0, r0⟩ := trodAll_cons hA
  obtain ⟨a1, vs1, d1, ds1, p1, q1, rfl, rfl, rfl, h1, r1⟩ := trodAll_cons r0
  obtain ⟨a2, vs2, d2, ds2, p2, q2, rfl, rfl, rfl, h2, r2⟩ := trodAll_cons r1
  obtain ⟨rfl, rfl, rfl⟩ := trodAll_nil r2
  obtain rfl : args = #[a0, a1, a2] := by cases args; simp_all
  obtain ⟨rfl, rfl⟩ := trodVars_none hV
  have k0 := h0
  have lt0 : ∀ x ∈ p0, x.block < W.heap.size := by obtain ⟨m, hm⟩ := k0; exact DataW.trod_lt m _ _ _ hm
  obtain ⟨x0, hx0⟩ := index_of_Trod (hval 0 _ a0 rfl rfl) h0
  have k1 := h1
  have lt1 : ∀ x ∈ p1, x.block < W.heap.size := by obtain ⟨m, hm⟩ := k1; exact DataW.trod_lt m _ _ _ hm
  obtain ⟨v1, hv1⟩ := json_of_Trod (hval 1 _ a1 rfl rfl) h1
  have k2 := h2
  have lt2 : ∀ x ∈ p2, x.block < W.heap.size := by obtain ⟨m, hm⟩ := k2; exact DataW.trod_lt m _ _ _ hm
  obtain ⟨v2, hv2⟩ := json_of_Trod (hval 2 _ a2 rfl rfl) h2
  clear hA0 hval0
  refine (entriesOrder_walk x0 a0 v1 v2 a1 a2 W hx0 hv1 hv2 (tabs_of_laid3 hL)).mono fun e W' ⟨he, bel⟩ => ?_
  subst he
  exact ⟨_, rfl, _, _, _, [], _, [], hW', trodAll_mk1 (shut_bool Tryd.underlying4 _), (trodAll_cons_mk (Below.trod Tryd.laidOut (by kernel_rfl) (of_decide_eq_true (by kernel_rfl)) k0 bel lt0) (trodAll_cons_mk (Below.trod Tryd.laidOut (by kernel_rfl) (of_decide_eq_true (by kernel_rfl)) k1 bel lt1) (trodAll_cons_mk (Below.trod Tryd.laidOut (by kernel_rfl) (of_decide_eq_true (by kernel_rfl)) k2 bel lt2) trodAll_mk0))), rfl, bel.frame _, fun h => by cases h⟩

theorem EntriesOrder.said : Rows.EntriesOrderSaid :=
  OpenClaim.holds_of_cond 12 Tryd.f12 rfl rfl rfl rfl rfl rfl rfl ⟨rfl, rfl, rfl, rfl, rfl⟩ rfl rfl rfl rfl rfl (by kernel_rfl) Tryd.func12 (by kernel_rfl)
    (of_decide_eq_true (by kernel_rfl)) (by unfold Func.isWrapper; first | (rw [if_pos (by decide +kernel)]; kernel_rfl) | (rw [if_neg (by decide +kernel)]; exact ⟨rfl, rfl⟩))
    (fun os started H enc _ F => by rw [OpenClaim.pre_eq_preRow]; exact EntriesOrder.lifted os started H enc F)

theorem EntriesOrder.plain (f : FuncId) (fn : Func) (hf : Tryd.pinned.checked.prog.funcNamed "muniment/munimentlaw17.EntriesOrder" = some f) (hfn : Tryd.pinned.checked.prog.funcs[f]? = some fn) :
    false = Tryd.pinned.checked.prog.looks [] ∧ ∀ (j : Nat) t, fn.params[j]? = some t → Tryd.pinned.checked.prog.wantsStandIn t = false := by
  obtain rfl : f = 12 := Option.some.inj ((show Tryd.prog.funcNamed "muniment/munimentlaw17.EntriesOrder" = some 12 by kernel_rfl).symm.trans hf) |>.symm
  obtain rfl : fn = Tryd.f12 := (Option.some.inj (Tryd.func12.symm.trans hfn)).symm
  refine ⟨by kernel_rfl, fun j t ht => ?_⟩
  rw [Tryd.params12] at ht
  have hm := Array.mem_of_getElem? ht
  have hm2 : t = 37 ∨ t = 25 ∨ t = 25 := by simpa [or_assoc] using hm
  rcases hm2 with rfl | rfl | rfl
  · exact (show Tryd.prog.wantsStandIn 37 = false by kernel_rfl)
  · exact (show Tryd.prog.wantsStandIn 25 = false by kernel_rfl)
  · exact (show Tryd.prog.wantsStandIn 25 = false by kernel_rfl)

theorem entriesOrder_holds : Rows.EntriesOrderCardSaid :=
  Claim7.holds_tied_plain_at .later [] _ _ _ _ EntriesOrder.said (fun _ h => by cases h) (by kernel_rfl) (fun _ h => by cases h) entriesOrder_row_tie rfl ⟨rfl, rfl⟩ (by kernel_rfl) rfl EntriesOrder.plain (by kernel_rfl)
#print axioms entriesOrder_holds
end Go.Proofs.YtfllnlmanopfaaaDoor
