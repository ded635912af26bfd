/- the law FilterHolds, walked. -/
import Derived.Test.YtfllnlmanopfaaaDoorGD
import Derived.Test.YtfllnlmanopfaaaDoorFY
import Derived.Test.YtfllnlmanopfaaaDoorFV
namespace Go.Proofs.YtfllnlmanopfaaaDoor
open Go.RowKit

set_option maxRecDepth 100000 in
set_option maxHeartbeats 16000000 in
theorem filterHolds_walk (f d : JV) (fv dv : Value) (w : World) (hf : JAt (cf w) f fv) (hd : JAt (cf w) d dv) (hT : Tabs w) :
    Calls Tryd.prog 3 #[fv, dv] w fun e w' => e = .returned (.bool true) ∧ Below w.heap.size w w' := by
  obtain ⟨k, n, t, nm, it, na, ncap, ia, icap, hfe, rfl, _⟩ := hf.open
  obtain ⟨k2, n2, t2, nm2, it2, na2, ncap2, ia2, icap2, hde, rfl, _⟩ := hd.open
  have HX := Hold.mk hf
  have HV := Hold.mk hd
  have HT := Hold.mk hT
  have H3 := Hold.mk (((Bx.nil w).add w.heap.size rfl (A5 k n t na nm.length ncap ia it.length icap)).add (w.heap.size + 1) (by simp) (A5 k2 n2 t2 na2 nm2.length ncap2 ia2 it2.length icap2))
  clear hf hd hT hfe hde
  go_enter Tryd.func3, Tryd.ntmps3
  go_wp2_with fail
  refine (awake15_any _ (HT.out.below H3.out.bel)).mono ?_
  rintro e w1 ⟨rfl, hb1⟩
  replace H3 := Hold.mk (H3.out.next hb1)
  clear hb1
  obtain ⟨y0, y1, y2, y3, y4⟩ := cells_five H3.out.tl.hd
  obtain ⟨z0, z1, z2, z3, z4⟩ := cells_five H3.out.hd
  go_wp2_with fail
  have hf3 := few15_any _ [f, d] _ (items2 (t := 25) (fr := (0, 0)) (al_new (w := w1) rfl) ((HX.out.mono (cle_below H3.out.bel)).mono (cle_alloc _ _)) ((HV.out.mono (cle_below H3.out.bel)).mono (cle_alloc _ _)))
  refine hf3.mono ?_
  clear hf3
  rintro e w2 ⟨rfl, hb2⟩
  replace H3 := Hold.mk ((H3.out.next ((Below.refl _ w1).alloc (Nat.le_refl _) _)).next hb2)
  clear hb2 y0 y1 y2 y3 y4 z0 z1 z2 z3 z4
  cases hfew : [f, d].all fewF with
  | false =>
    clear hfew
    go_wp2_with fail
    refine (awake15_any _ (HT.out.below H3.out.bel)).mono ?_
    rintro e w3 ⟨rfl, hb3⟩
    replace H3 := Hold.mk (H3.out.next hb3)
    clear hb3
    go_wp2_with fail
    go_ret
    exact ⟨rfl, H3.out.bel⟩
  | true =>
    clear hfew
    obtain ⟨y0, y1, y2, y3, y4⟩ := cells_five H3.out.tl.hd
    obtain ⟨z0, z1, z2, z3, z4⟩ := cells_five H3.out.hd
    have g0 := Grow.cell y0
    have g1 := Grow.cell y1
    have g2 := Grow.cell y2
    have g3 := Grow.cell y3
    have g4 := Grow.cell y4
    have u0 := Grow.cell z0
    have u1 := Grow.cell z1
    have u2 := Grow.cell z2
    have u3 := Grow.cell z3
    have u4 := Grow.cell z4
    have hcl := cle_below H3.out.bel
    have HP := Hold.mk (Calls.grow (fun e : Grow w2 => Holds_any f d _ _ e.val ((HX.out.mono hcl).mono (cle_below e.property)) ((HV.out.mono hcl).mono (cle_below e.property)) ((HT.out.below H3.out.bel).below e.property)))
    have HR := Hold.mk (Calls.grow (fun e : Grow w2 => rHolds_any f d _ _ e.val ((HX.out.mono hcl).mono (cle_below e.property)) ((HV.out.mono hcl).mono (cle_below e.property))))
    rw [← holds_law] at HR
    clear hcl
    generalize HoldsP f d = b at HP HR
    go_wp2_with fail
    clear y0 y1 y2 y3 y4 z0 z1 z2 z3 z4
    refine wp_region_grow (by kernel_rfl) (by kernel_rfl) ?_
    repeat (go_big_quiet_step (first | exact HP.out _ | exact HR.out _))
    refine wpQuiet_nil ?_
    rintro ⟨w3, hb3⟩
    replace H3 := Hold.mk (H3.out.next hb3)
    simp only
    clear hb3 g0 g1 g2 g3 g4 u0 u1 u2 u3 u4 HP HR
    cases b
    all_goals
      go_wp2_with fail
      go_ret
      exact ⟨rfl, H3.out.bel⟩

end Go.Proofs.YtfllnlmanopfaaaDoor
