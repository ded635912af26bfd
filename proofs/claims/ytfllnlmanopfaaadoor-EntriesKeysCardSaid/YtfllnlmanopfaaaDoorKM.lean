/- EntriesKeys, walked. -/
import Derived.Test.YtfllnlmanopfaaaDoorKK
import Derived.Test.YtfllnlmanopfaaaDoorKL
import Derived.Test.YtfllnlmanopfaaaDoorEF
import Derived.Test.YtfllnlmanopfaaaDoorJC
namespace Go.Proofs.YtfllnlmanopfaaaDoor
open Go.RowKit

/-- the two boxes of what comes in -/
structure TBK (w wr : World) (o0 o1 : Obj) : Prop where
  bel : Below w.heap.size w wr
  one : wr.heap[w.heap.size]? = some o0
  two : wr.heap[w.heap.size + 1]? = some o1
theorem TBK.next {w wr w2 : World} {o0 o1 : Obj} (h : TBK w wr o0 o1) (hb : Below wr.heap.size wr w2) : TBK w w2 o0 o1 := ⟨h.bel.trans (hb.mono h.bel.size), kept h.one hb, kept h.two hb⟩

set_option maxRecDepth 100000 in
set_option maxHeartbeats 16000000 in
theorem entriesKeys_walk (x : IX) (xv : Value) (v : JV) (vv : Value) (w : World) (hx : IAt (cf w) x xv) (hv : JAt (cf w) v vv) (hT : Tabs w) :
    Calls Tryd.prog 9 #[xv, vv] w fun e w' => e = .returned (.bool true) ∧ Below w.heap.size w w' := by
  have HX := Hold.mk hx
  have HV := Hold.mk hv
  have HT := Hold.mk hT
  obtain ⟨hnm, fv, rfl, a, cap, rfl, hlen, hcap, hel⟩ := hx
  obtain ⟨k, n, t, nm, it, na, ncap, ia, icap, hve, rfl, _, _, _, hst, hit⟩ := hv.open
  obtain ⟨W, hW, hB, e0, e1⟩ := twoE w (.cells #[.string x.name, .slice a x.fields.length cap, .bool x.uniq] 37) (.cells #[.int .i64 k, .int .i64 n, .string t, .slice na nm.length ncap, .slice ia it.length icap] 25)
  have HB := Hold.mk (TBK.mk hB e0 e1)
  clear hel hnm hT hve hst hit hv hB e0 e1 hlen hcap
  go_enter Tryd.func9, Tryd.ntmps9
  go_wp2_with fail
  rw [← hW]
  clear hW
  refine (awake17_any _ (HT.out.below HB.out.bel)).mono ?_
  rintro e w1 ⟨rfl, hb1⟩
  replace HB := Hold.mk (HB.out.next hb1)
  clear hb1
  obtain ⟨y0, y1, y2⟩ := cells_three HB.out.one
  go_wp2_with fail
  clear y0 y1 y2
  refine (lfew_any x _ _ (HX.out.mono (cle_below HB.out.bel))).mono ?_
  rintro e w2 ⟨rfl, hb2⟩
  replace HB := Hold.mk (HB.out.next hb2)
  clear hb2
  cases hfew : fewI x with
  | false =>
    clear hfew
    go_wp2_with fail
    refine (awake17_any _ (HT.out.below HB.out.bel)).mono ?_
    rintro e w3 ⟨rfl, hb3⟩
    replace HB := Hold.mk (HB.out.next hb3)
    clear hb3
    go_wp2_with fail
    go_ret
    exact ⟨rfl, HB.out.bel⟩
  | true =>
  have HFW := Hold.mk hfew
  clear hfew
  obtain ⟨z0, z1, z2, z3, z4⟩ := cells_five HB.out.two
  go_wp2_with fail
  clear z0 z1 z2 z3 z4
  refine (few_any (HV.out.mono (cle_below HB.out.bel)) _ (CLe.refl _)).mono ?_
  rintro e w3 ⟨rfl, hb3⟩
  replace HB := Hold.mk (HB.out.next hb3)
  clear hb3
  cases hfew : fewF v with
  | false =>
    clear hfew
    go_wp2_with fail
    refine (awake17_any _ (HT.out.below HB.out.bel)).mono ?_
    rintro e w3 ⟨rfl, hb3⟩
    replace HB := Hold.mk (HB.out.next hb3)
    clear hb3
    go_wp2_with fail
    go_ret
    exact ⟨rfl, HB.out.bel⟩
  | true =>
  clear hfew
  obtain ⟨y0, y1, y2⟩ := cells_three HB.out.one
  obtain ⟨z0, z1, z2, z3, z4⟩ := cells_five HB.out.two
  go_wp2_with fail
  refine (EKey_any x _ v _ _ (HX.out.mono (cle_below HB.out.bel)) (HV.out.mono (cle_below HB.out.bel)) (fewI_small HFW.out) (by have := fewI_len HFW.out; omega) (HT.out.below HB.out.bel)).mono ?_
  rintro e w4 ⟨sa, rfl, hsa, hb4⟩
  have HSA := Hold.mk hsa
  replace HB := Hold.mk (HB.out.next hb4)
  clear hb4 hsa y0 y1 y2 z0 z1 z2 z3 z4
  obtain ⟨y0, y1, y2⟩ := cells_three HB.out.one
  obtain ⟨z0, z1, z2, z3, z4⟩ := cells_five HB.out.two
  have g0 := Grow.cell y0
  have g1 := Grow.cell y1
  have g2 := Grow.cell y2
  have p0 := Grow.cell z0
  have p1 := Grow.cell z1
  have p2 := Grow.cell z2
  have p3 := Grow.cell z3
  have p4 := Grow.cell z4
  have HO : Hold ((keyO x v == keyO x v) = true) := ⟨by simp⟩
  have HE : Hold ((keyE x v == keyE x v) = true) := ⟨by simp⟩
  generalize hko : keyO x v = ko at HO ⊢
  generalize hke : keyE x v = ke at HE ⊢
  have HKO := Hold.mk hko
  have HKE := Hold.mk hke
  clear hko hke
  go_wp2_with fail
  clear y0 y1 y2 z0 z1 z2 z3 z4
  refine wp_region_mix 11 rfl (by kernel_rfl) ?_
  rintro w5 hb3
  have HB3 := Hold.mk hb3
  replace HB := Hold.mk (HB.out.next hb3)
  clear hb3
  refine mixl_seg (by kernel_rfl) (fun _ _ d _ _ h => by cases d <;> exact h) [0, 2] [_, _] 9 11 rfl _ _ _ rfl (by kernel_rfl) (growC HB3.out) ?_
  repeat (go_big_quiet_step (fail))
  refine wpQuiet_nil ?_
  clear g0 g1 g2 p0 p1 p2 p3 p4
  refine mixl_act (i := 1) rfl (by kernel_rfl) (growC HB3.out) rfl (fun K hK => ?_)
  go_wp2_with fail
  refine (lplain_any x _ _ (HX.out.mono (cle_below HB.out.bel)) (by have := fewI_len HFW.out; omega)).mono ?_
  rintro e w6 ⟨y, rfl, hy, hb5⟩
  have HY := Hold.mk hy
  replace HB3 := Hold.mk (HB3.out.trans (hb5.mono HB3.out.size))
  replace HB := Hold.mk (HB.out.next hb5)
  clear hb5 hy
  go_wp2_with fail
  refine mixl_act (i := 3) rfl (by kernel_rfl) (growC HB3.out) rfl (fun K hK => ?_)
  go_wp2_with fail
  refine (rEKey_any x _ v _ _ HY.out (HV.out.mono (cle_below HB.out.bel)) (fewI_small HFW.out) (by have := fewI_len HFW.out; omega)).mono ?_
  rintro e w7 ⟨sb, rfl, hsb, hb5⟩
  rw [HKO.out, HKE.out]
  have HSB := Hold.mk hsb
  replace HB3 := Hold.mk (HB3.out.trans (hb5.mono HB3.out.size))
  replace HB := Hold.mk (HB.out.next hb5)
  replace HSA := Hold.mk (HSA.out.mono (cle_below HB3.out))
  clear hb5 hsb HY
  go_wp2_with fail
  refine mixl_seg (by kernel_rfl) (fun _ _ d _ _ h => by cases d <;> exact h) [4, 5, 6, 7, 8, 9, 10] [_, _, _, _, _, _, _] 0 7 rfl _ _ _ rfl (by kernel_rfl) (growC HB3.out) ?_
  repeat (go_big_quiet_step (fail))
  refine wpQuiet_nil ?_
  refine mix_done (by kernel_rfl) (growC HB3.out) ?_
  have ho := HO.out
  have he := HE.out
  go_wp2_with fail
  refine (Same4_any (keyB3 x v) (keyB3 x v) _ _ _ HSA.out HSB.out).mono ?_
  rintro e w8 ⟨rfl, hb6⟩
  rw [sameY_yes rfl]
  replace HB := Hold.mk (HB.out.next hb6)
  clear hb6
  go_wp2_with fail
  go_ret
  exact ⟨rfl, HB.out.bel⟩

end Go.Proofs.YtfllnlmanopfaaaDoor
