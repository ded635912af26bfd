/- CatalogShows: the row and its card. -/
import Derived.Test.YtfpphpjobkhalaaGreatDoorZ16
import Derived.Test.YtfpphpjobkhalaaGreatDoorZ24
import Derived.Test.YtfpphpjobkhalaaGreatDoorZ49
namespace Go.Proofs.YtfpphpjobkhalaaGreatDoor
open Go.Shelf
open Go.ChangeShapes Go.WideShapes Go.ChangeAt Go.RowKit

theorem CatalogShows.witness (os : Os) {H : Type} (enc : TypeId × Value → H) :
    (OpenSpec.ofChange Rows.catalogShowsSpec).preRow enc Tryz.prog Tryz.f4 Rows.catalogShowsRow.domain false Rows.catalogShowsRow.laid ((laidWorld3 os).forCall (fun _ _ => 0) ⟨#[], #[.agg #[.slice none 0 0], zeroV], []⟩).memory #[.agg #[.slice none 0 0], zeroV] := by
  have hw : (DataW.whole enc Tryz.prog ((laidWorld3 os).forCall (fun _ _ => 0) ⟨#[], #[.agg #[.slice none 0 0], zeroV], []⟩).memory Tryz.f4.params.toList Rows.catalogShowsSpec.vars false #[.agg #[.slice none 0 0], zeroV].toList 8).map (fun x => (x.1, x.2.1)) =
      some ([.agg [.nil], .agg [.lit (.int .i64 0), .lit (.int .i64 0), .lit (.string []), .nil, .nil]], []) := by kernel_rfl
  obtain ⟨⟨x1, x2, x3⟩, hx, hx1⟩ := Option.map_eq_some_iff.1 hw
  simp only [Prod.mk.injEq] at hx1
  obtain ⟨rfl, rfl⟩ := hx1
  exact OpenSpec.preRow_of_cond 8 hx (by kernel_rfl) (fun k hk => by cases hk) (by kernel_rfl) (laid_met3 os _)
set_option maxRecDepth 100000 in
set_option maxHeartbeats 2000000 in
theorem CatalogShows.lifted (os : Os) (started : os.Started) (H : Type) (enc : TypeId × Value → H) (F : Stop.Interp) :
    ReturnsInHanded {} Tryz.checked os 4 .any ((OpenSpec.ofChange Rows.catalogShowsSpec).preRow enc Tryz.prog Tryz.f4 Rows.catalogShowsRow.domain false Rows.catalogShowsRow.laid) (((OpenSpec.ofChange Rows.catalogShowsSpec).at F).post enc Tryz.prog Tryz.f4 false true false false) := by
  refine returnsInHanded_of_row (C := Tryz.checked) (s := OpenSpec.ofChange Rows.catalogShowsSpec) Tryz.own started (by kernel_rfl) Tryz.func4
    (witness_row_atRef (enc := enc) (C := Tryz.checked) false (laidWorld3 os) #[.agg #[.slice none 0 0], zeroV] rfl (by kernel_rfl) (by kernel_rfl) (by kernel_rfl) (CatalogShows.witness os enc)) ?_
  intro W base args ds gs before hval0 hW _ _ _ hL _ _
  have hval : ∀ (j : Nat) t v, Tryz.f4.params[j]? = some t → args[j]? = some v → Value.okWide Tryz.prog W .any base t v := hval0
  have hW' := hW
  obtain ⟨p, q, hA0, hV, rfl, hfz, hnd⟩ := hW
  have hA : DataW.TrodAll enc Tryz.prog W 0 (fun _ => true) true Tryz.f4.params.toList args.toList ds p := hA0
  rw [Tryz.params4] at hA hval
  obtain ⟨a0, vs0, d0, ds0, p0, q0, hargs, rfl, rfl, h0, r0⟩ := trodAll_cons hA
  obtain ⟨a1, vs1, d1, ds1, p1, q1, rfl, rfl, rfl, h1, r1⟩ := trodAll_cons r0
  obtain ⟨rfl, rfl, rfl⟩ := trodAll_nil r1
  obtain rfl : args = #[a0, a1] := by cases args; simp_all
  obtain ⟨rfl, rfl⟩ := trodVars_none hV
  have k0 := h0
  have lt0 : ∀ x ∈ p0, x.block < W.heap.size := by obtain ⟨m, hm⟩ := k0; exact DataW.trod_lt m _ _ _ hm
  obtain ⟨l0, hl0⟩ := cat_of_Trod (hval 0 _ a0 rfl rfl) h0
  have k1 := h1
  have lt1 : ∀ x ∈ p1, x.block < W.heap.size := by obtain ⟨m, hm⟩ := k1; exact DataW.trod_lt m _ _ _ hm
  obtain ⟨v1, hv1⟩ := json_of_Trod (hval 1 _ a1 rfl rfl) h1
  clear hA0 hval0
  refine (catalogShows_walk l0 a0 v1 a1 W hl0 hv1 (tabs_of_laid3 hL)).mono fun e W' ⟨he, bel⟩ => ?_
  subst he
  exact ⟨_, rfl, _, _, _, [], _, [], hW', trodAll_mk1 (shut_bool Tryz.underlying4 _), (trodAll_cons_mk (Below.trod Tryz.laidOut (by kernel_rfl) (of_decide_eq_true (by kernel_rfl)) k0 bel lt0) (trodAll_cons_mk (Below.trod Tryz.laidOut (by kernel_rfl) (of_decide_eq_true (by kernel_rfl)) k1 bel lt1) trodAll_mk0)), rfl, bel.frame _, fun h => by cases h⟩
theorem CatalogShows.said : Rows.CatalogShowsSaid :=
  OpenClaim.holds_of_cond 4 Tryz.f4 rfl rfl rfl rfl rfl rfl rfl ⟨rfl, rfl, rfl, rfl, rfl⟩ rfl rfl rfl rfl rfl (by kernel_rfl) Tryz.func4 (by kernel_rfl)
    (of_decide_eq_true (by kernel_rfl)) (by unfold Func.isWrapper; first | (rw [if_pos (by decide +kernel)]; kernel_rfl) | (rw [if_neg (by decide +kernel)]; exact ⟨rfl, rfl⟩))
    (fun os started H enc _ F => by rw [OpenClaim.pre_eq_preRow]; exact CatalogShows.lifted os started H enc F)
theorem CatalogShows.plain (f : FuncId) (fn : Func) (hf : Tryz.pinned.checked.prog.funcNamed "muniment/munimentlaw19.CatalogShows" = some f) (hfn : Tryz.pinned.checked.prog.funcs[f]? = some fn) :
    false = Tryz.pinned.checked.prog.looks [] ∧ ∀ (j : Nat) t, fn.params[j]? = some t → Tryz.pinned.checked.prog.wantsStandIn t = false := by
  obtain rfl : f = 4 := Option.some.inj ((show Tryz.prog.funcNamed "muniment/munimentlaw19.CatalogShows" = some 4 by kernel_rfl).symm.trans hf) |>.symm
  obtain rfl : fn = Tryz.f4 := (Option.some.inj (Tryz.func4.symm.trans hfn)).symm
  refine ⟨by kernel_rfl, fun j t ht => ?_⟩
  rw [Tryz.params4] at ht
  have hm := Array.mem_of_getElem? ht
  have hm2 : t = 24 ∨ t = 55 := by simpa [or_assoc] using hm
  rcases hm2 with rfl | rfl
  · exact (show Tryz.prog.wantsStandIn 24 = false by kernel_rfl)
  · exact (show Tryz.prog.wantsStandIn 55 = false by kernel_rfl)
theorem catalogShows_holds : Rows.CatalogShowsCardSaid :=
  Claim7.holds_tied_plain_at .later [] _ _ _ _ CatalogShows.said (fun _ h => by cases h) (by kernel_rfl) (fun _ h => by cases h) catalogShows_row_tie rfl ⟨rfl, rfl⟩ (by kernel_rfl) rfl CatalogShows.plain (by kernel_rfl)
#print axioms catalogShows_holds
end Go.Proofs.YtfpphpjobkhalaaGreatDoor
