/- The law WalkTurns, walked (printed by genXXTU.py). -/
import Derived.Test.YtmiphphombkpdaaGreatWT49
namespace Go.Proofs.YtmiphphombkpdaaGreat
open Go.RowKit Go.Maps
theorem list_all {f t : Bts} {o : Top} {b : Bool} (h : (esO o).length <= 1000) : listE b f t 1000 o = rngE f t (ordE b (esO o)) := by
 unfold listE
 refine List.take_of_length_le (Nat.le_trans (List.length_filter_le ..) ?_)
 unfold ordE
 split
 ·rw [List.length_reverse]; exact h
 ·exact h
theorem list_turn {f t : Bts} {o : Top} (h : (esO o).length <= 1000) : listE true f t 1000 o = (listE false f t 1000 o).reverse := by
 rw [list_all h, list_all h, rng_ord, rng_ord]
 rfl
theorem list_in {f t : Bts} {o : Top} {x : Bts × Bts} (h : x ∈ listE false f t 1000 o) : inR f t x.1 = true := by
 unfold listE at h
 exact (List.mem_filter.1 (List.mem_of_mem_take h)).2
theorem list_up {f t : Bts} {o : Top} (h : (esO o).length <= 1000) (hu : upB ((esO o).map (·.1))) : upB ((listE false f t 1000 o).map (·.1)) := by
 rw [list_all h]
 exact rng_up hu
set_option maxHeartbeats 16000000 in
set_option maxRecDepth 100000 in
theorem walkTurns_walk {W : World} {l : List LOp} {a fa ta : Option Addr} {n c fl fc tl tc : Nat} {f t : Bts} {most : Int} (h : LA W l a fa ta n c fl fc tl tc f t) :
  Calls Tryz.prog 4 #[.slice a n c, .agg #[.slice fa fl fc, .slice ta tl tc, .int .i64 most]] W fun e w' => e = .returned (.bool true) /\ Below W.heap.size W w' := by
 have HH := HoldT.mk h
 clear h
 obtain ⟨q, hq⟩ : ∃ q, q = W.heap.size := ⟨_, rfl⟩
 obtain ⟨w1, hw1⟩ : ∃ w1, w1 = W.alloc (.cells #[.slice fa fl fc, .slice ta tl tc, .int .i64 most] 25) := ⟨_, rfl⟩
 have hb1 : Below W.heap.size W w1 := by rw [hw1]; exact (Below.refl _ W).alloc (Nat.le_refl _) _
 have hbx : w1.heap[q]? = some (.cells #[.slice fa fl fc, .slice ta tl tc, .int .i64 most] 25 (0, 0)) := by rw [hw1, hq]; exact heap_alloc_new W _
 have HB1 := HoldT.mk (And.intro hb1 hbx)
 have HW := HoldT.mk (And.intro hq hw1)
 have HA1 := HoldT.mk (law_awake w1)
 clear hb1 hbx hq hw1
 have HX : HoldT (∀ wz : World, Below w1.heap.size w1 wz -> wz.cell? ⟨q, 0, none⟩ = some (.slice fa fl fc) /\ wz.cell? ⟨q, 1, none⟩ = some (.slice ta tl tc) /\ wz.cell? ⟨q, 2, none⟩ = some (.int .i64 most)) := ⟨fun wz hz => by
  have hk := kept HB1.out.2 hz
  refine ⟨?_, ?_, ?_⟩ <;> simp [World.cell?, hk]⟩
 go_enter Tryz.func4, Tryz.ntmps4
 go_upto_region 1 with (fail)
 rw [<- HW.out.1, <- HW.out.2]
 go_wp2_with fail
 refine HA1.out.mono ?_
 rintro e w2 ⟨rfl, hb2⟩
 have HFE := HoldT.mk (law_few a fa ta n c fl fc tl tc most w2)
 obtain ⟨x0, x1, x2⟩ := HX.out w2 hb2
 have HB2 := HoldT.mk hb2
 clear hb2
 go_wp2_with fail
 refine HFE.out.mono ?_
 rintro e w3 ⟨rfl, hb3⟩
 have HB3 := HoldT.mk (HB2.out.trans (hb3.mono HB2.out.size))
 clear hb3 x0 x1 x2
 obtain ⟨fw, hfw⟩ : ∃ fw, fw = (decide (n <= 80) && decide (fl <= 1000) && decide (tl <= 1000)) := ⟨_, rfl⟩
 rw [<- hfw]
 cases fw
 ·clear hfw
  have HA2 := HoldT.mk (law_awake w3)
  go_wp2_with fail
  refine HA2.out.mono ?_
  rintro e w4 ⟨rfl, hb4⟩
  have HE := HoldT.mk (HB1.out.1.trans ((HB3.out.trans (hb4.mono HB3.out.size)).mono HB1.out.1.size))
  clear hb4
  go_wp2_with fail
  go_ret
  exact ⟨rfl, HE.out⟩
 ·simp only [Bool.true_eq, Bool.and_eq_true, decide_eq_true_eq] at hfw
  have hwb := HB1.out.1.trans (HB3.out.mono HB1.out.1.size)
  have HBU := HoldT.mk (law_built (w0 := w3) (HH.out.list.mono ROp12_mono (cle_below hwb)) (by rw [<- HH.out.len]; exact hfw.1.1))
  have HN := HoldT.mk hfw.1.1
  have HWB := HoldT.mk hwb
  clear hfw hwb
  go_wp2_with fail
  refine HBU.out.mono ?_
  rintro e w4 ⟨Q, R, H, S, p, tb, mb, o, root, sl, rfl, hL, he⟩
  obtain ⟨hw, hp⟩ := hL.lw (by rw [<- HH.out.len]; exact HN.out)
  have HYF : HoldT (∀ wz : World, Below w3.heap.size w3 wz -> YAt (cfL w3.heap.size wz) (.slice fa fl fc) f /\ YAt (cfL w3.heap.size wz) (.slice ta tl tc) t) := ⟨fun wz hz => ⟨(HH.out.from_.mono RY_mono (cle_below HWB.out)).mono RY_mono (cf_cfL (Nat.le_refl _) hz), (HH.out.to_.mono RY_mono (cle_below HWB.out)).mono RY_mono (cf_cfL (Nat.le_refl _) hz)⟩⟩
  have HU := HoldT.mk (hw.up (most := 1000) (by omega) (HYF.out w4 hw.bel).1 (HYF.out w4 hw.bel).2)
  have HL4 := HoldT.mk (And.intro hw hp)
  obtain ⟨x0, x1, _⟩ := HX.out w4 (HB3.out.trans (hw.bel.mono HB3.out.size))
  clear hL he hw hp HBU
  go_upto_region 6 with (fail)
  go_wp2_with fail
  refine HU.out.mono ?_
  intro e w5 hpost
  obtain ⟨sv5, H5, S5, p5, rfl, hw5, hp5, hr5, hT5, hu5, _⟩ := HL4.out.1.ranged hpost
  have hq5 := HL4.out.2
  have HD := HoldT.mk (hw5.down (most := 1000) (by omega) (HYF.out w5 hw5.bel).1 (HYF.out w5 hw5.bel).2)
  replace x0 := (HX.out w5 (HB3.out.trans (hw5.bel.mono HB3.out.size))).1
  replace x1 := (HX.out w5 (HB3.out.trans (hw5.bel.mono HB3.out.size))).2.1
  obtain ⟨la, lc, rfl⟩ := hr5.at_.form
  have HL5 := HoldT.mk (And.intro hw5 (And.intro (show p5 <= 160316 by omega) hr5))
  clear hpost hw5 hp5 hr5 hT5 hu5 hq5 HU HL4
  obtain ⟨ln5, hln5⟩ : ∃ q, q = (listE false f t 1000 o).length := ⟨_, rfl⟩
  rw [<- hln5]
  have HLN5 := HoldT.mk hln5
  clear hln5
  go_wp2_with fail
  refine HD.out.mono ?_
  intro e w6 hpost
  obtain ⟨sv6, H6, S6, p6, rfl, hw6, hp6, hr6, hT6, hu6, _⟩ := HL5.out.1.ranged hpost
  have hq6 := HL5.out.2.1
  have hr56 := HL5.out.2.2.turn hT6 HL5.out.1.pg.noU
  obtain ⟨lb, lbc, rfl⟩ := hr6.at_.form
  have HSM := HoldT.mk (show (esO o).length <= 1000 by obtain ⟨jj, h1, h2⟩ := hw6.ok; have := (okO_few h2 h1).2.2; omega)
  have hln : (listE true f t 1000 o).length = ln5 := by rw [HLN5.out, list_turn HSM.out, List.length_reverse]
  rw [hln] at hr6 |-
  rw [<- HLN5.out] at hr56
  have hln5 : ln5 <= 1000 := by rw [HLN5.out, list_all HSM.out]; exact Nat.le_trans (List.length_filter_le ..) HSM.out
  have HRA := HoldT.mk hr56.at_
  have hrb := hr6.at_
  rw [list_turn HSM.out] at hrb
  have HRB := HoldT.mk hrb
  have HUP := HoldT.mk (list_up (f := f) (t := t) HSM.out hw6.low.2.2.2)
  have HIN := HoldT.mk (fun (x : Bts × Bts) (h : x ∈ listE false f t 1000 o) => list_in h)
  have HB6 := HoldT.mk (HB3.out.trans (hw6.bel.mono HB3.out.size))
  obtain ⟨E, hE⟩ : ∃ E, E = listE false f t 1000 o := ⟨_, rfl⟩
  rw [<- hE] at HRA HRB HUP HIN HLN5
  clear x0 x1 hln hrb hE hpost hw6 hp6 hr6 hT6 hu6 hq6 hr56 HD HL5 HN HWB HYF
  have bb : ((ln5 : Int) != (ln5 : Int)) = false := by simp
  go_wp2_with fail
  go_loopw [12] (fun s12 wr => ∃ j : Nat, s12 = .int .i64 (j : Int) /\ j <= ln5 /\ HoldT (Below w6.heap.size w6 wr)) (fun s12 _ => ln5 - (intOf s12).toNat)
  case atStart => exact ⟨0, rfl, Nat.zero_le _, ⟨Below.refl _ _⟩⟩
  case round =>
   obtain ⟨j, rfl, hj, HB⟩ := hrel
   by_cases hlt : j < ln5
   ·obtain ⟨x, hx⟩ : ∃ x, E[j]? = some x := ⟨E[j]'(by rw [<- HLN5.out]; exact hlt), List.getElem?_eq_getElem _⟩
    obtain ⟨q2, hq2⟩ : ∃ q2, q2 = ln5 - 1 - j := ⟨_, rfl⟩
    have hie : (ln5 : Int) - 1 - (j : Int) = (q2 : Int) := by omega
    have hq2n : q2 < ln5 := by omega
    have hxr : E.reverse[q2]? = some x := by
     rw [List.getElem?_reverse (by rw [<- HLN5.out]; exact hq2n), <- HLN5.out, show ln5 - 1 - q2 = j by omega]
     exact hx
    obtain ⟨b, off, xa, xc, ya, yc, rfl, z0, _, hk1, _⟩ := row_at HRA.out hx
    obtain ⟨b2, off2, ua, uc, va, vc, rfl, z1, _, hk2, _⟩ := row_at HRB.out hxr
    have hin := HIN.out x (List.mem_of_getElem? hx)
    unfold inR at hin
    rw [Bool.and_eq_true, Bool.not_eq_true', Bool.or_eq_true, decide_eq_true_eq] at hin
    have HFT : HoldT (∀ wz : World, Below w6.heap.size w6 wz -> YAt (cf wz) (.slice fa fl fc) f /\ YAt (cf wz) (.slice ta tl tc) t) := ⟨fun wz hz => by
     have hb := HB1.out.1.trans ((HB6.out.trans (hz.mono HB6.out.size)).mono HB1.out.1.size)
     exact ⟨HH.out.from_.mono RY_mono (cle_below hb), HH.out.to_.mono RY_mono (cle_below hb)⟩⟩
    have HS : HoldT (∀ e : Grow wr, Calls Tryz.prog 16 #[.slice xa x.1.length xc, .slice ua x.1.length uc] e.val fun r w' => r = .returned (.bool true) /\ ∃ e2 : Grow wr, w' = e2.val) := ⟨fun e => Calls.grow (fun e => by
     have hu := cfU_below (HB.out.trans (e.property.mono HB.out.size))
     have h := Same4_any x.1 x.1 _ _ e.val (ybytes (hk1.mono RY_mono hu)) (ybytes (hk2.mono RY_mono hu))
     rw [sameY_yes rfl] at h
     exact h) e⟩
    have HLF : HoldT (∀ wz : World, Below w6.heap.size w6 wz -> Calls Tryz.prog 10 #[.slice xa x.1.length xc, .slice fa fl fc] wz fun r w' => r = .returned (.bool false) /\ Below wz.heap.size wz w') := ⟨fun wz hz => by
     have h := Less4_any x.1 f _ _ wz (ybytes (hk1.mono RY_mono (cfU_below hz))) (YAt.bytes (HFT.out wz hz).1)
     rw [show lessY x.1 f = false from hin.1] at h
     exact h⟩
    have HLT : HoldT (t = [] \/ ∀ wz : World, Below w6.heap.size w6 wz -> Calls Tryz.prog 10 #[.slice xa x.1.length xc, .slice ta tl tc] wz fun r w' => r = .returned (.bool true) /\ Below wz.heap.size wz w') := ⟨by
     rcases hin.2 with h0 | h0
     ·exact .inl h0
     ·refine .inr fun wz hz => ?_
      have h := Less4_any x.1 t _ _ wz (ybytes (hk1.mono RY_mono (cfU_below hz))) (YAt.bytes (HFT.out wz hz).2)
      rw [show lessY x.1 t = true from h0] at h
      exact h⟩
    obtain ⟨xl, hxl⟩ : ∃ q, q = x.1.length := ⟨_, rfl⟩
    have c0 := cle_below HB.out _ _ _ (show cf w6 b (off + j * 2) = _ from z0)
    have c1 := cle_below HB.out _ _ _ (show cf w6 b2 (off2 + q2 * 2) = _ from z1)
    unfold cf at c0 c1
    rw [<- hxl] at c0 c1 z0 HS HLF HLT
    have HZ0 := HoldT.mk z0
    have b1 : decide ((j : Int) < (ln5 : Int)) = true := decide_eq_true (by omega)
    have HK1 := HoldT.mk (And.intro hk1 (And.intro hx hxl))
    clear z0 z1 hk1 hk2 hin hxr hx hxl hq2
    have hnx : ∀ wz : World, Below wr.heap.size wr wz -> HoldT (Below w6.heap.size w6 wz) := fun wz hz => ⟨HB.out.trans (hz.mono HB.out.size)⟩
    have HNX := HoldT.mk hnx
    clear hnx
    by_cases hj0 : j = 0
    case' pos =>
     have b2 : decide (0 < (j : Int)) = false := decide_eq_false (by omega)
     have b3 : decide (0 < j) = false := decide_eq_false (by omega)
     clear hj0
     have g0 := Grow.cell c0
     have g1 := Grow.cell c1
     clear c0 c1
     go_upto_region 13 with (fail)
     refine wp_region_grow (by kernel_rfl) (by kernel_rfl) ?_
     repeat (go_big_quiet_step (with_reducible exact HS.out _))
     refine wpQuiet_nil ?_
     rintro ⟨wz, hbz⟩
     simp only
     have HZ := HoldT.mk hbz
     clear hbz g0 g1
     go_upto_region 15 with (fail)
    case' neg =>
     obtain ⟨k, hk⟩ : ∃ k, k + 1 = j := ⟨j - 1, by omega⟩
     obtain ⟨y, hy⟩ : ∃ y, E[k]? = some y := ⟨E[k]'(by rw [<- HLN5.out]; omega), List.getElem?_eq_getElem _⟩
     obtain ⟨b', off', pa, pc, _, _, e0, z0, _, hk3, _⟩ := row_at HRA.out hy
     simp only [Option.some.injEq, Addr.mk.injEq, and_true] at e0
     obtain ⟨rfl, rfl⟩ := e0
     have hl := upB_at HUP.out (at_key hy) (at_key HK1.out.2.1) (by omega)
     have HLP : HoldT (∀ e : Grow wr, Calls Tryz.prog 10 #[.slice pa y.1.length pc, .slice xa xl xc] e.val fun r w' => r = .returned (.bool true) /\ ∃ e2 : Grow wr, w' = e2.val) := ⟨fun e => Calls.grow (fun e => by
      have hu := cfU_below (HB.out.trans (e.property.mono HB.out.size))
      have h := Less4_any y.1 x.1 (.slice pa y.1.length pc) (.slice xa x.1.length xc) e.val (ybytes (hk3.mono RY_mono hu)) (ybytes (HK1.out.1.mono RY_mono hu))
      rw [show lessY y.1 x.1 = true from hl, <- HK1.out.2.2] at h
      exact h) e⟩
     obtain ⟨yl, hyl⟩ : ∃ q, q = y.1.length := ⟨_, rfl⟩
     have c2 := cle_below HB.out _ _ _ (show cf w6 b (off + k * 2) = _ from z0)
     unfold cf at c2
     rw [<- hyl] at c2 HLP
     have hkj : (j : Int) - 1 = (k : Int) := by omega
     have hkn : k < ln5 := by omega
     have b2 : decide (0 < (j : Int)) = true := decide_eq_true (by omega)
     have b3 : decide (0 < j) = true := decide_eq_true (by omega)
     have g0 := Grow.cell c0
     have g1 := Grow.cell c1
     have g2 := Grow.cell c2
     clear c0 c1 c2 hk hy z0 hk3 hl hyl
     go_upto_region 13 with (fail)
     refine wp_region_grow (by kernel_rfl) (by kernel_rfl) ?_
     repeat (go_big_quiet_step (first | with_reducible exact HS.out _ | with_reducible exact HLP.out _))
     refine wpQuiet_nil ?_
     rintro ⟨wz, hbz⟩
     simp only
     have HZ := HoldT.mk hbz
     clear hbz g0 g1 g2
     go_upto_region 15 with (fail)
    all_goals
     have HBZ := HoldT.mk (HB.out.trans (HZ.out.mono HB.out.size))
     have htl : tl = t.length := by
      obtain ⟨_, _, e⟩ := HH.out.to_.form
      simp only [Value.slice.injEq] at e
      exact e.2.1
     obtain ⟨x0, x1, _⟩ := HX.out wz (HB6.out.trans (HBZ.out.mono HB6.out.size))
     have c0 := cle_below HBZ.out _ _ _ (show cf w6 b (off + j * 2) = _ from HZ0.out)
     unfold cf at c0
     have g0 := Grow.cell c0
     have g1 := Grow.cell x0
     have g2 := Grow.cell x1
     have HF2 : HoldT (∀ e : Grow wz, Calls Tryz.prog 10 #[.slice xa xl xc, .slice fa fl fc] e.val fun r w' => r = .returned (.bool false) /\ ∃ e2 : Grow wz, w' = e2.val) := ⟨fun e => Calls.grow (fun e => HLF.out e.val (HBZ.out.trans (e.property.mono HBZ.out.size))) e⟩
     by_cases ht0 : tl = 0
     ·have d1 : decide (0 < (tl : Int)) = false := decide_eq_false (by omega)
      have d2 : decide (0 < tl) = false := decide_eq_false (by omega)
      clear c0 x0 x1 ht0 htl
      refine wp_region_grow (by kernel_rfl) (by kernel_rfl) ?_
      repeat (go_big_quiet_step (with_reducible exact HF2.out _))
      refine wpQuiet_nil ?_
      rintro ⟨wy, hby⟩
      simp only
      have HE := HoldT.mk (HBZ.out.trans (hby.mono HBZ.out.size))
      clear hby g0 g1 g2
      go_wp2_with fail
      exact ⟨⟨j + 1, by go_num, hlt, HE⟩, by simp [intOf]; omega⟩
     ·have d1 : decide (0 < (tl : Int)) = true := decide_eq_true (by omega)
      have d2 : decide (0 < tl) = true := decide_eq_true (by omega)
      have hlt2 := HLT.out.resolve_left fun e => ht0 (by rw [htl, e]; rfl)
      have HT2 : HoldT (∀ e : Grow wz, Calls Tryz.prog 10 #[.slice xa xl xc, .slice ta tl tc] e.val fun r w' => r = .returned (.bool true) /\ ∃ e2 : Grow wz, w' = e2.val) := ⟨fun e => Calls.grow (fun e => hlt2 e.val (HBZ.out.trans (e.property.mono HBZ.out.size))) e⟩
      clear c0 x0 x1 ht0 htl hlt2
      refine wp_region_grow (by kernel_rfl) (by kernel_rfl) ?_
      repeat (go_big_quiet_step (first | with_reducible exact HF2.out _ | with_reducible exact HT2.out _))
      refine wpQuiet_nil ?_
      rintro ⟨wy, hby⟩
      simp only
      have HE := HoldT.mk (HBZ.out.trans (hby.mono HBZ.out.size))
      clear hby g0 g1 g2
      go_wp2_with fail
      exact ⟨⟨j + 1, by go_num, hlt, HE⟩, by simp [intOf]; omega⟩
   ·obtain rfl : j = ln5 := by omega
    have b1 : ¬ (j : Int) < (j : Int) := by omega
    have HE := HoldT.mk (HB1.out.1.trans ((HB6.out.trans (HB.out.mono HB6.out.size)).mono HB1.out.1.size))
    go_wp2_with fail
    go_ret
    exact ⟨rfl, HE.out⟩
end Go.Proofs.YtmiphphombkpdaaGreat
namespace Go.Proofs.YtmiphphombkpdaaGreat
open Go.ChangeShapes Go.WideShapes Go.ChangeAt Go.RowKit
set_option maxRecDepth 100000 in
set_option maxHeartbeats 2000000 in
theorem WalkTurns.lifted (os : Os) (started : os.Started) (H : Type) (enc : TypeId × Value -> H) :
  ReturnsInHanded {} Tryz.checked os 4 .any (Rows.walkTurnsSpec.pre6 enc Tryz.prog Tryz.f4 Rows.walkTurnsRow.domain false) (Rows.walkTurnsSpec.post enc Tryz.prog Tryz.f4 false true false false) := by
 refine returnsInHanded_of_change (C := Tryz.checked) Tryz.own started (by kernel_rfl) Tryz.func4
  (ChangeSpec.witness6 (enc := enc) (C := Tryz.checked) false ⟨#[], #[.slice none 0 0, .agg #[.slice none 0 0, .slice none 0 0, .int .i64 0]], []⟩ 8 (by kernel_rfl) (by kernel_rfl) (by kernel_rfl) (by kernel_rfl)) ?_
 intro W base args ds gs before hval0 hW hcnd _
 have hval : ∀ (j : Nat) t v, Tryz.f4.params[j]? = some t -> args[j]? = some v -> Value.okWide Tryz.prog W .any base t v := hval0
 have hW' := hW
 obtain ⟨p, q, hA0, hV, rfl, hfz, hnd⟩ := hW
 have hA : DataW.TrodAll enc Tryz.prog W 0 (fun _ => true) true Tryz.f4.params.toList args.toList ds p := hA0
 rw [Tryz.params4] at hA hval
 obtain ⟨a0, vs0, d0, ds0, p0, q0, hargs, rfl, rfl, h0, r0⟩ := trodAll_cons hA
 obtain ⟨a1, vs1, d1, ds1, p1, q1, rfl, rfl, rfl, h1, r1⟩ := trodAll_cons r0
 obtain ⟨rfl, rfl, rfl⟩ := trodAll_nil r1
 obtain rfl : args = #[a0, a1] := by cases args; simp_all
 obtain ⟨rfl, rfl⟩ := trodVars_none hV
 have k0 := h0
 have lt0 : ∀ x ∈ p0, x.block < W.heap.size := by obtain ⟨m, hm⟩ := k0; exact DataW.trod_lt m _ _ _ hm
 obtain ⟨l, la, ln, lc, rfl, hln, hl⟩ := lops_of_Trod (hval 0 _ a0 rfl rfl) h0
 have k1 := h1
 have lt1 : ∀ x ∈ p1, x.block < W.heap.size := by obtain ⟨m, hm⟩ := k1; exact DataW.trod_lt m _ _ _ hm
 obtain ⟨f, t, fa, ta, fl, fc, tl, tc, most, rfl, hmw, hfl, htl, hf, ht⟩ := range_of_Trod (hval 1 _ a1 rfl rfl) h1
 clear hA0 hval0
 refine (walkTurns_walk (W := W) (l := l) (f := f) (t := t) (most := most) ⟨hl, hln, hf, ht⟩).mono fun e W' ⟨he, bel⟩ => ?_
 subst he
 exact ⟨_, rfl, _, _, _, [], _, [], hW', trodAll_mk1 (shut_bool Tryz.underlying4 _), (trodAll_cons_mk (Below.trod Tryz.laidOut (by kernel_rfl) (of_decide_eq_true (by kernel_rfl)) k0 bel lt0) (trodAll_cons_mk (Below.trod Tryz.laidOut (by kernel_rfl) (of_decide_eq_true (by kernel_rfl)) k1 bel lt1) trodAll_mk0)), rfl, bel.frame _, fun h => by cases h⟩
theorem WalkTurns.over : Rows.walkTurnsRow.holds Tryz.pinned (OpenSpec.ofChange Rows.walkTurnsSpec) :=
 OpenClaim.holds_of_wide 4 Tryz.f4 rfl rfl rfl rfl rfl rfl rfl ⟨rfl, rfl, rfl, rfl, rfl⟩ rfl rfl rfl rfl rfl (by kernel_rfl) Tryz.func4 (by kernel_rfl)
  (of_decide_eq_true (by kernel_rfl)) (by unfold Func.isWrapper; first | (rw [if_pos (by decide +kernel)]; kernel_rfl) | (rw [if_neg (by decide +kernel)]; exact ⟨rfl, rfl⟩))
  (fun os started H enc _ => WalkTurns.lifted os started H enc)
theorem walkTurns_holds : Rows.WalkTurnsSaid := WalkTurns.over
#print axioms walkTurns_holds
end Go.Proofs.YtmiphphombkpdaaGreat
