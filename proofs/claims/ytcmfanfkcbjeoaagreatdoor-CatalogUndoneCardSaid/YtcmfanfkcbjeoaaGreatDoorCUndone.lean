/- CatalogUndone: the row and its card. -/
import Derived.Test.YtcmfanfkcbjeoaaGreatDoorCV
import Derived.Test.YtcmfanfkcbjeoaaGreatDoorCFrame
import Derived.Test.YtcmfanfkcbjeoaaGreatDoorEFrame
namespace Go.Proofs.YtcmfanfkcbjeoaaGreatDoor
open Go.Shelf
open Go.ChangeShapes Go.WideShapes Go.ChangeAt Go.RowKit

theorem CatalogUndone.witness (os : Os) {H : Type} (enc : TypeId × Value → H) :
    (OpenSpec.ofChange Rows.catalogUndoneSpec).preRow enc Tryz.prog Tryz.f6 Rows.catalogUndoneRow.domain false Rows.catalogUndoneRow.laid ((laidWorld3 os).forCall (fun _ _ => 0) ⟨#[], #[.agg #[.slice none 0 0], .string ⟨#[]⟩, .agg #[.string ⟨#[]⟩, .slice none 0 0, .bool false]], []⟩).memory #[.agg #[.slice none 0 0], .string ⟨#[]⟩, .agg #[.string ⟨#[]⟩, .slice none 0 0, .bool false]] := by
  have hw : (DataW.whole enc Tryz.prog ((laidWorld3 os).forCall (fun _ _ => 0) ⟨#[], #[.agg #[.slice none 0 0], .string ⟨#[]⟩, .agg #[.string ⟨#[]⟩, .slice none 0 0, .bool false]], []⟩).memory Tryz.f6.params.toList Rows.catalogUndoneSpec.vars false #[.agg #[.slice none 0 0], .string ⟨#[]⟩, .agg #[.string ⟨#[]⟩, .slice none 0 0, .bool false]].toList 8).map (fun x => (x.1, x.2.1)) =
      some ([.agg [.nil], .lit (.string []), .agg [.lit (.string []), .nil, .lit (.bool false)]], []) := by kernel_rfl
  obtain ⟨⟨x1, x2, x3⟩, hx, hx1⟩ := Option.map_eq_some_iff.1 hw
  simp only [Prod.mk.injEq] at hx1
  obtain ⟨rfl, rfl⟩ := hx1
  exact OpenSpec.preRow_of_cond 8 hx (by kernel_rfl) (fun k hk => by cases hk) (by kernel_rfl) (laid_met3 os _)

set_option maxRecDepth 100000 in
set_option maxHeartbeats 2000000 in
theorem CatalogUndone.lifted (os : Os) (started : os.Started) (H : Type) (enc : TypeId × Value → H) (F : Stop.Interp) :
    ReturnsInHanded {} Tryz.checked os 6 .any ((OpenSpec.ofChange Rows.catalogUndoneSpec).preRow enc Tryz.prog Tryz.f6 Rows.catalogUndoneRow.domain false Rows.catalogUndoneRow.laid) (((OpenSpec.ofChange Rows.catalogUndoneSpec).at F).post enc Tryz.prog Tryz.f6 false true false false) := by
  refine returnsInHanded_of_row (C := Tryz.checked) (s := OpenSpec.ofChange Rows.catalogUndoneSpec) Tryz.own started (by kernel_rfl) Tryz.func6
    (witness_row_atRef (enc := enc) (C := Tryz.checked) false (laidWorld3 os) #[.agg #[.slice none 0 0], .string ⟨#[]⟩, .agg #[.string ⟨#[]⟩, .slice none 0 0, .bool false]] rfl (by kernel_rfl) (by kernel_rfl) (by kernel_rfl) (CatalogUndone.witness os enc)) ?_
  intro W base args ds gs before hval0 hW _ _ _ hL _ _
  have hval : ∀ (j : Nat) t v, Tryz.f6.params[j]? = some t → args[j]? = some v → Value.okWide Tryz.prog W .any base t v := hval0
  have hW' := hW
  obtain ⟨p, q, hA0, hV, rfl, hfz, hnd⟩ := hW
  have hA : DataW.TrodAll enc Tryz.prog W 0 (fun _ => true) true Tryz.f6.params.toList args.toList ds p := hA0
  rw [Tryz.params6] at hA hval
  obtain ⟨a0, vs0, d0, ds0, p0, q0, hargs, rfl, rfl, h0, r0⟩ := trodAll_cons hA
  obtain ⟨a1, vs1, d1, ds1, p1, q1, rfl, rfl, rfl, h1, r1⟩ := trodAll_cons r0
  obtain ⟨a2, vs2, d2, ds2, p2, q2, rfl, rfl, rfl, h2, r2⟩ := trodAll_cons r1
  obtain ⟨rfl, rfl, rfl⟩ := trodAll_nil r2
  obtain rfl : args = #[a0, a1, a2] := by cases args; simp_all
  obtain ⟨rfl, rfl⟩ := trodVars_none hV
  have k0 := h0
  have lt0 : ∀ x ∈ p0, x.block < W.heap.size := by obtain ⟨m, hm⟩ := k0; exact DataW.trod_lt m _ _ _ hm
  obtain ⟨l0, hl0⟩ := cat_of_Trod (hval 0 _ a0 rfl rfl) h0
  have k1 := h1
  have lt1 : ∀ x ∈ p1, x.block < W.heap.size := by obtain ⟨m, hm⟩ := k1; exact DataW.trod_lt m _ _ _ hm
  obtain ⟨s1, rfl, _, _, ws1⟩ := Go.ChangeMaps.open_string Tryz.underlying9 (hval 1 _ a1 rfl rfl) h1
  have k2 := h2
  have lt2 : ∀ x ∈ p2, x.block < W.heap.size := by obtain ⟨m, hm⟩ := k2; exact DataW.trod_lt m _ _ _ hm
  obtain ⟨x2, hx2⟩ := index_of_Trod (hval 2 _ a2 rfl rfl) h2
  clear hA0 hval0
  refine (catalogUndone_walk l0 a0 s1 x2 a2 W hl0 (by unfold maxLen at ws1; omega) hx2 (tabs_of_laid3 hL)).mono fun e W' ⟨he, bel⟩ => ?_
  subst he
  exact ⟨_, rfl, _, _, _, [], _, [], hW', trodAll_mk1 (shut_bool Tryz.underlying4 _), (trodAll_cons_mk (Below.trod Tryz.laidOut (by kernel_rfl) (of_decide_eq_true (by kernel_rfl)) k0 bel lt0) (trodAll_cons_mk (Below.trod Tryz.laidOut (by kernel_rfl) (of_decide_eq_true (by kernel_rfl)) k1 bel lt1) (trodAll_cons_mk (Below.trod Tryz.laidOut (by kernel_rfl) (of_decide_eq_true (by kernel_rfl)) k2 bel lt2) trodAll_mk0))), rfl, bel.frame _, fun h => by cases h⟩

theorem CatalogUndone.said : Rows.CatalogUndoneSaid :=
  OpenClaim.holds_of_cond 6 Tryz.f6 rfl rfl rfl rfl rfl rfl rfl ⟨rfl, rfl, rfl, rfl, rfl⟩ rfl rfl rfl rfl rfl (by kernel_rfl) Tryz.func6 (by kernel_rfl)
    (of_decide_eq_true (by kernel_rfl)) (by unfold Func.isWrapper; first | (rw [if_pos (by decide +kernel)]; kernel_rfl) | (rw [if_neg (by decide +kernel)]; exact ⟨rfl, rfl⟩))
    (fun os started H enc _ F => by rw [OpenClaim.pre_eq_preRow]; exact CatalogUndone.lifted os started H enc F)

theorem CatalogUndone.plain (f : FuncId) (fn : Func) (hf : Tryz.pinned.checked.prog.funcNamed "muniment/munimentlaw19.CatalogUndone" = some f) (hfn : Tryz.pinned.checked.prog.funcs[f]? = some fn) :
    false = Tryz.pinned.checked.prog.looks [] ∧ ∀ (j : Nat) t, fn.params[j]? = some t → Tryz.pinned.checked.prog.wantsStandIn t = false := by
  obtain rfl : f = 6 := Option.some.inj ((show Tryz.prog.funcNamed "muniment/munimentlaw19.CatalogUndone" = some 6 by kernel_rfl).symm.trans hf) |>.symm
  obtain rfl : fn = Tryz.f6 := (Option.some.inj (Tryz.func6.symm.trans hfn)).symm
  refine ⟨by kernel_rfl, fun j t ht => ?_⟩
  rw [Tryz.params6] at ht
  have hm := Array.mem_of_getElem? ht
  have hm2 : t = 51 ∨ t = 9 ∨ t = 44 := by simpa [or_assoc] using hm
  rcases hm2 with rfl | rfl | rfl
  · exact (show Tryz.prog.wantsStandIn 51 = false by kernel_rfl)
  · exact (show Tryz.prog.wantsStandIn 9 = false by kernel_rfl)
  · exact (show Tryz.prog.wantsStandIn 44 = false by kernel_rfl)

theorem catalogUndone_holds : Rows.CatalogUndoneCardSaid :=
  Claim7.holds_tied_plain_at .later [] _ _ _ _ CatalogUndone.said (fun _ h => by cases h) (by kernel_rfl) (fun _ h => by cases h) catalogUndone_row_tie rfl ⟨rfl, rfl⟩ (by kernel_rfl) rfl CatalogUndone.plain (by kernel_rfl)
#print axioms catalogUndone_holds
end Go.Proofs.YtcmfanfkcbjeoaaGreatDoor
