/- Filters: all paths of the reference. -/
import Derived.Test.YtfllnlmanopfaaaDoorLF
import Derived.Test.YtfllnlmanopfaaaDoorGB
namespace Go.Proofs.YtfllnlmanopfaaaDoor
open Go.RowKit

set_option maxHeartbeats 4000000 in
theorem rPaths_any (f : JV) (x : Value) (w : World) (hx : JAt (cf w) f x) :
    Calls Tryd.prog 41 #[x] w fun e w' => ∃ sv, e = .returned sv ∧ SAt 1 RS (cf w') sv (pathsR f) ∧ Below w.heap.size w w' := by
  obtain ⟨k, n, t, nm, it, na, ncap, ia, icap, hve, rfl, _⟩ := hx.open
  have HB := Hold.mk (Boxed.refl w (.cells #[.int .i64 k, .int .i64 n, .string t, .slice na nm.length ncap, .slice ia it.length icap] 25))
  have HX := Hold.mk (rCheck_any f _ _ (hx.mono (cle_below HB.out.below)))
  have HJ := Hold.mk hx
  clear hx hve
  obtain ⟨q, hq⟩ : ∃ q, q = checkF f := ⟨_, rfl⟩
  rw [← hq] at HX
  have y0 := HB.out.c0
  have y1 := HB.out.c1
  have y2 := HB.out.c2
  have y3 := HB.out.c3
  have y4 := HB.out.c4
  by_cases h0 : q = 0
  · have HF := Hold.mk (check_formed (hq ▸ h0))
    have HR : Hold (pathsR f = foldP [] (pathsF 6 f)) := ⟨by unfold pathsR; rw [if_pos (hq ▸ h0)]⟩
    subst h0
    clear hq
    go_enter Tryd.func41, Tryd.ntmps41
    go_wp2_with fail
    clear y0 y1 y2 y3 y4
    refine HX.out.mono ?_
    rintro e w1 ⟨rfl, hb1⟩
    replace HB := Hold.mk (HB.out.next hb1)
    clear hb1 HX
    have y0 := HB.out.c0
    have y1 := HB.out.c1
    have y2 := HB.out.c2
    have y3 := HB.out.c3
    have y4 := HB.out.c4
    have HP := Hold.mk (rpaths_any 6 f _ (.slice none 0 0) [] w1 HF.out (HJ.out.mono (cle_below HB.out.below)) (SAt.none _ _ _) (by decide))
    go_wp2_with fail
    clear y0 y1 y2 y3 y4
    refine HP.out.mono ?_
    rintro e w2 ⟨sv, rfl, hsv, hb2⟩
    have HO : Hold (∃ sv2, Ending.returned sv = .returned sv2 ∧ SAt 1 RS (cf w2) sv2 (pathsR f) ∧ Below w.heap.size w w2) := ⟨sv, rfl, by rw [HR.out]; exact hsv, (HB.out.next hb2).below⟩
    clear hsv hb2 HP
    go_wp2_with fail
    go_ret
    exact HO.out
  · have HR : Hold (pathsR f = []) := ⟨by unfold pathsR; rw [if_neg (fun h => h0 (hq.trans h))]⟩
    clear hq
    go_enter Tryd.func41, Tryd.ntmps41
    go_wp2_with fail
    clear y0 y1 y2 y3 y4
    refine HX.out.mono ?_
    rintro e w1 ⟨rfl, hb1⟩
    replace HB := Hold.mk (HB.out.next hb1)
    clear hb1 HX
    go_wp2_with fail
    go_ret
    exact ⟨_, rfl, by rw [HR.out]; exact SAt.none _ _ _, HB.out.below⟩

end Go.Proofs.YtfllnlmanopfaaaDoor
