/- The law WalkMeets, walked (printed by genXXME.py). -/
import Derived.Test.YtmiphphombkpdaaGreatWM49
namespace Go.Proofs.YtmiphphombkpdaaGreat
open Go.RowKit Go.Maps
theorem own_up {n : Nat} {α : Type} {R : Rep α} {T : TypeId} {w : World} {sl : Value} {p : Nat} {xs : List α} {cs : List Value} (h : OwnS n R T 0 w sl p xs cs) {B : Nat} (hB : ∀ g, sl.ownBlock = some g -> B <= g) (hle : B <= w.heap.size) : OwnS n R T B w sl p xs cs := by
 refine ⟨⟨h.own.1, ?_⟩, h.len, h.row, hle⟩
 rcases h.own.2 with e | ⟨g, cap, cur, e, e1, e2⟩
 ·exact .inl e
 ·exact .inr ⟨g, cap, cur, e, hB g (by rw [e]; rfl), e2⟩
theorem SAt.rep_le {α : Type} {n : Nat} {R R' : Rep α} {c : CF} {v : Value} {xs : List α} (h : SAt n R c v xs) (hr : ∀ m x d, R m x d -> R' m x d) : SAt n R' c v xs := by
 obtain ⟨a, cap, e, h1, h2, h3⟩ := h
 refine ⟨a, cap, e, h1, h2, fun i x hx => ?_⟩
 obtain ⟨b, off, d, e2, h4, h5, h6⟩ := h3 i x hx
 exact ⟨b, off, d, e2, h4, h5, hr _ _ _ h6⟩
theorem WRow.side {T : TypeId} {H : HS} {w : World} {sv sl : Value} {es : EL} (h : WRow T H w sv es) {B : Nat} (hB : ∀ g, sv.ownBlock = some g -> B <= g) (hle : B <= w.heap.size) (hs : ∀ g, sl.ownBlock = some g -> g < B) : SAt 2 (RE (cfU w)) (cfN sl w) sv es := by
 obtain ⟨cs, ho⟩ := h.row
 have h2 := own_up ho hB hle
 exact (h2.atA h2.row).mono (RE_mono _) (cfA_cfN hs)
theorem meets_all {f m t : Bts} {o : Top} (h : (esO o).length <= 1000) (hu : upB ((esO o).map (·.1))) (hm : m ≠ []) (h1 : ltB m f = false) (h2 : t = [] \/ ltB t m = false) : listE false f m 1000 o ++ listE false m t 1000 o = listE false f t 1000 o := by
 rw [list_all h, list_all h, list_all h]
 exact rng_meet hm h1 h2 hu
theorem list_first {f t : Bts} {o : Top} {n : Nat} (hn : n <= (listE false f t 1000 o).length) : (listE false f t (n : Int) o).length = n := by
 unfold listE at hn |-
 rw [List.length_take] at hn |-
 omega
set_option maxHeartbeats 16000000 in
set_option maxRecDepth 100000 in
theorem walkMeets_walk {W : World} {l : List LOp} {a fa ta ma : Option Addr} {n c fl fc tl tc mc : Nat} {f t mm : Bts} {most : Int} (h : LA W l a fa ta n c fl fc tl tc f t) (hm : YAt (cf W) (.slice ma mm.length mc) mm) :
  Calls Tryz.prog 3 #[.slice a n c, .agg #[.slice fa fl fc, .slice ta tl tc, .int .i64 most], .slice ma mm.length mc] W fun e w' => e = .returned (.bool true) /\ Below W.heap.size W w' := by
 have HH := HoldT.mk h
 obtain ⟨ml, hml⟩ : ∃ n, n = mm.length := ⟨_, rfl⟩
 rw [<- hml] at hm |-
 have HM := HoldT.mk (And.intro hm hml)
 have htl : tl = t.length := by
  obtain ⟨_, _, e⟩ := h.to_.form
  simp only [Value.slice.injEq] at e
  exact e.2.1
 have HTL := HoldT.mk htl
 clear h hm hml htl
 obtain ⟨q, hq⟩ : ∃ q, q = W.heap.size := ⟨_, rfl⟩
 obtain ⟨w1, hw1⟩ : ∃ w1, w1 = W.alloc (.cells #[.slice fa fl fc, .slice ta tl tc, .int .i64 most] 25) := ⟨_, rfl⟩
 have hb1 : Below W.heap.size W w1 := by rw [hw1]; exact (Below.refl _ W).alloc (Nat.le_refl _) _
 have hbx : w1.heap[q]? = some (.cells #[.slice fa fl fc, .slice ta tl tc, .int .i64 most] 25 (0, 0)) := by rw [hw1, hq]; exact heap_alloc_new W _
 have HB1 := HoldT.mk (And.intro hb1 hbx)
 have HW := HoldT.mk (And.intro hq hw1)
 have HA1 := HoldT.mk (law_awake w1)
 clear hb1 hbx hq hw1
 have HX : HoldT (∀ wz : World, Below w1.heap.size w1 wz -> wz.cell? ⟨q, 0, none⟩ = some (.slice fa fl fc) /\ wz.cell? ⟨q, 1, none⟩ = some (.slice ta tl tc) /\ wz.cell? ⟨q, 2, none⟩ = some (.int .i64 most)) := ⟨fun wz hz => by
  have hk := kept HB1.out.2 hz
  refine ⟨?_, ?_, ?_⟩ <;> simp [World.cell?, hk]⟩
 go_enter Tryz.func3, Tryz.ntmps3
 go_upto_region 1 with (fail)
 rw [<- HW.out.1, <- HW.out.2]
 go_wp2_with fail
 refine HA1.out.mono ?_
 rintro e w2 ⟨rfl, hb2⟩
 have HFE := HoldT.mk (law_few a fa ta n c fl fc tl tc most w2)
 obtain ⟨x0, x1, x2⟩ := HX.out w2 hb2
 have HB2 := HoldT.mk hb2
 clear hb2
 go_wp2_with fail
 refine HFE.out.mono ?_
 rintro e w3 ⟨rfl, hb3⟩
 have HB3 := HoldT.mk (HB2.out.trans (hb3.mono HB2.out.size))
 clear hb3 x0 x1 x2
 obtain ⟨fw, hfw⟩ : ∃ fw, fw = (decide (n <= 80) && decide (fl <= 1000) && decide (tl <= 1000)) := ⟨_, rfl⟩
 rw [<- hfw]
 cases fw
 ·clear hfw
  have HA2 := HoldT.mk (law_awake w3)
  go_wp2_with fail
  refine HA2.out.mono ?_
  rintro e w3' ⟨rfl, hb4⟩
  have HE := HoldT.mk (HB1.out.1.trans ((HB3.out.trans (hb4.mono HB3.out.size)).mono HB1.out.1.size))
  clear hb4
  go_wp2_with fail
  go_ret
  exact ⟨rfl, HE.out⟩
 simp only [Bool.true_eq, Bool.and_eq_true, decide_eq_true_eq] at hfw
 have HN := HoldT.mk hfw.1.1
 clear hfw
 by_cases hm0 : ml = 0
 ·have z0 : ((ml : Int) == 0) = true := by rw [hm0]; rfl
  clear hm0
  have HA2 := HoldT.mk (law_awake w3)
  go_wp2_with fail
  refine HA2.out.mono ?_
  rintro e w3' ⟨rfl, hb4⟩
  have HE := HoldT.mk (HB1.out.1.trans ((HB3.out.trans (hb4.mono HB3.out.size)).mono HB1.out.1.size))
  clear hb4
  go_wp2_with fail
  go_ret
  exact ⟨rfl, HE.out⟩
 have z0 : ((ml : Int) == 0) = false := by rw [beq_eq_false_iff_ne]; omega
 have HM0 := HoldT.mk hm0
 clear hm0
 by_cases hm1 : 1000 < ml
 ·have z1 : decide (1000 < (ml : Int)) = true := decide_eq_true (by omega)
  have z2 : decide (1000 < ml) = true := decide_eq_true (by omega)
  clear hm1
  have HA2 := HoldT.mk (law_awake w3)
  go_wp2_with fail
  refine HA2.out.mono ?_
  rintro e w3' ⟨rfl, hb4⟩
  have HE := HoldT.mk (HB1.out.1.trans ((HB3.out.trans (hb4.mono HB3.out.size)).mono HB1.out.1.size))
  clear hb4
  go_wp2_with fail
  go_ret
  exact ⟨rfl, HE.out⟩
 have z1 : decide (1000 < (ml : Int)) = false := decide_eq_false (by omega)
 have z2 : decide (1000 < ml) = false := decide_eq_false (by omega)
 obtain ⟨x0, x1, _⟩ := HX.out w3 HB3.out
 have HWW : HoldT (∀ wz : World, Below w1.heap.size w1 wz -> YAt (cf wz) (.slice fa fl fc) f /\ YAt (cf wz) (.slice ta tl tc) t /\ YAt (cf wz) (.slice ma ml mc) mm) := ⟨fun wz hz => by
  have hb := HB1.out.1.trans (hz.mono HB1.out.1.size)
  exact ⟨HH.out.from_.mono RY_mono (cle_below hb), HH.out.to_.mono RY_mono (cle_below hb), HM.out.1.mono RY_mono (cle_below hb)⟩⟩
 have HLM := HoldT.mk (Less4_any mm f (.slice ma ml mc) (.slice fa fl fc) w3 (YAt.bytes (HWW.out w3 HB3.out).2.2) (YAt.bytes (HWW.out w3 HB3.out).1))
 obtain ⟨l1, hl1⟩ : ∃ b, b = lessY mm f := ⟨_, rfl⟩
 rw [<- hl1] at HLM
 have HL1 := HoldT.mk hl1
 clear hl1
 go_wp2_with fail
 refine HLM.out.mono ?_
 rintro e w4 ⟨rfl, hb4⟩
 have HB4 := HoldT.mk (HB3.out.trans (hb4.mono HB3.out.size))
 clear hb4 HLM x0 x1
 obtain ⟨x0, x1, _⟩ := HX.out w4 HB4.out
 cases l1
 case true =>
  have HA2 := HoldT.mk (law_awake w4)
  go_wp2_with fail
  refine HA2.out.mono ?_
  rintro e w4' ⟨rfl, hb5⟩
  have HE := HoldT.mk (HB1.out.1.trans ((HB4.out.trans (hb5.mono HB4.out.size)).mono HB1.out.1.size))
  clear hb5
  go_wp2_with fail
  go_ret
  exact ⟨rfl, HE.out⟩
 by_cases ht0 : tl = 0
 case' pos =>
  have z3 : decide (0 < (tl : Int)) = false := decide_eq_false (by omega)
  have z4 : decide (0 < tl) = false := decide_eq_false (by omega)
  have HL2 := HoldT.mk (show t = [] \/ lessY t mm = false from .inl (List.length_eq_zero_iff.1 (by rw [<- HTL.out]; exact ht0)))
  clear ht0
  go_upto_region 3 with (fail)
  obtain ⟨wb, hwb⟩ : ∃ wb, wb = w4 := ⟨w4, rfl⟩
  rw [<- hwb]
  rw [<- hwb] at HB4 x0 x1
  have HBb := HB4
  clear hwb z3 z4
 case' neg =>
  have z3 : decide (0 < (tl : Int)) = true := decide_eq_true (by omega)
  have z4 : decide (0 < tl) = true := decide_eq_true (by omega)
  have HLN := HoldT.mk (Less4_any t mm (.slice ta tl tc) (.slice ma ml mc) w4 (YAt.bytes (HWW.out w4 HB4.out).2.1) (YAt.bytes (HWW.out w4 HB4.out).2.2))
  obtain ⟨l2, hl2⟩ : ∃ b, b = lessY t mm := ⟨_, rfl⟩
  rw [<- hl2] at HLN
  have HLL := HoldT.mk hl2
  clear hl2 ht0
  go_wp2_with fail
  refine HLN.out.mono ?_
  rintro e wb ⟨rfl, hb5⟩
  have HBb := HoldT.mk (HB4.out.trans (hb5.mono HB4.out.size))
  clear hb5 HLN x0 x1
  obtain ⟨x0, x1, _⟩ := HX.out wb HBb.out
  rcases Bool.eq_false_or_eq_true l2 with hc | hc
  ·subst hc
   have HA2 := HoldT.mk (law_awake wb)
   go_wp2_with fail
   refine HA2.out.mono ?_
   rintro e wb' ⟨rfl, hb6⟩
   have HE := HoldT.mk (HB1.out.1.trans ((HBb.out.trans (hb6.mono HBb.out.size)).mono HB1.out.1.size))
   clear hb6
   go_wp2_with fail
   go_ret
   exact ⟨rfl, HE.out⟩
  subst hc
  have HL2 := HoldT.mk (show t = [] \/ lessY t mm = false from .inr HLL.out.symm)
  go_upto_region 3 with (fail)
  clear HLL z3 z4
 all_goals
  clear x0 x1 z0 z1 z2
  have HWB := HoldT.mk (HB1.out.1.trans (HBb.out.mono HB1.out.1.size))
  have HBU := HoldT.mk (law_built (w0 := wb) (HH.out.list.mono ROp12_mono (cle_below HWB.out)) (by rw [<- HH.out.len]; exact HN.out))
  go_wp2_with fail
  refine HBU.out.mono ?_
  rintro e w5 ⟨Q, R, H, S, p, tb, mb, o, root, sl, rfl, hL, he⟩
  obtain ⟨hw, hp⟩ := hL.lw (by rw [<- HH.out.len]; exact HN.out)
  have HYF : HoldT (∀ wz : World, Below wb.heap.size wb wz -> YAt (cfL wb.heap.size wz) (.slice fa fl fc) f /\ YAt (cfL wb.heap.size wz) (.slice ta tl tc) t /\ YAt (cfL wb.heap.size wz) (.slice ma ml mc) mm) := ⟨fun wz hz => ⟨(HWW.out wb HBb.out).1.mono RY_mono (cf_cfL (Nat.le_refl _) hz), (HWW.out wb HBb.out).2.1.mono RY_mono (cf_cfL (Nat.le_refl _) hz), (HWW.out wb HBb.out).2.2.mono RY_mono (cf_cfL (Nat.le_refl _) hz)⟩⟩
  have HSM := HoldT.mk (show (esO o).length <= 1000 by obtain ⟨jj, h1, h2⟩ := hw.ok; have := (okO_few h2 h1).2.2; omega)
  have HME := HoldT.mk (meets_all (f := f) (m := mm) (t := t) HSM.out hw.low.2.2.2 (fun e => HM0.out (by rw [HM.out.2, e]; rfl)) HL1.out.symm HL2.out)
  have HXX : HoldT (∀ wz : World, Below wb.heap.size wb wz -> wz.cell? ⟨q, 0, none⟩ = some (.slice fa fl fc) /\ wz.cell? ⟨q, 1, none⟩ = some (.slice ta tl tc) /\ wz.cell? ⟨q, 2, none⟩ = some (.int .i64 most)) := ⟨fun wz hz => HX.out wz (HBb.out.trans (hz.mono HBb.out.size))⟩
  have HL0 := HoldT.mk (And.intro hw hp)
  clear hL he hw hp HBU
  go_upto_region 6 with (fail)
  obtain ⟨x0, x1, _⟩ := HXX.out w5 HL0.out.1.bel
  have HU := HoldT.mk (HL0.out.1.up (most := 1000) (by have := HL0.out.2; omega) (HYF.out w5 HL0.out.1.bel).1 (HYF.out w5 HL0.out.1.bel).2.2)
  go_wp2_with fail
  refine HU.out.mono ?_
  intro e w6 hpost
  obtain ⟨sv6, H6, S6, p6, rfl, hw6, hp6, hr6, hT6, hu6, _, hg6⟩ := HL0.out.1.ranged hpost
  obtain ⟨aa, ac, rfl⟩ := hr6.at_.form
  obtain ⟨E1, hE1⟩ : ∃ E, E = listE false f mm 1000 o := ⟨_, rfl⟩
  rw [<- hE1] at hr6 HME |-
  obtain ⟨n1, hn1⟩ : ∃ n, n = E1.length := ⟨_, rfl⟩
  rw [<- hn1] at hr6 |-
  rw [<- hE1, <- hn1] at hg6
  have HG6 := HoldT.mk (fun g hg => Nat.le_trans HL0.out.1.bel.size (hg6 g hg))
  have HL6 := HoldT.mk (And.intro hw6 (And.intro (show p6 <= 160316 by have := HL0.out.2; omega) hr6))
  have HN1 := HoldT.mk (And.intro hn1 (show E1.length <= 1000 by rw [hE1, list_all HSM.out]; exact Nat.le_trans (List.length_filter_le ..) HSM.out))
  have HE1 := HoldT.mk hE1
  clear hpost hw6 hp6 hr6 hT6 hu6 hg6 hE1 hn1 HU HL0 x0 x1
  go_upto_region 7 with (fail)
  obtain ⟨x0, x1, _⟩ := HXX.out w6 HL6.out.1.bel
  have HU := HoldT.mk (HL6.out.1.up (most := 1000) (by have := HL6.out.2.1; omega) (HYF.out w6 HL6.out.1.bel).2.2 (HYF.out w6 HL6.out.1.bel).2.1)
  go_wp2_with fail
  refine HU.out.mono ?_
  intro e w7 hpost
  obtain ⟨sv7, H7, S7, p7, rfl, hw7, hp7, hr7, hT7, hu7, _, hg7⟩ := HL6.out.1.ranged hpost
  obtain ⟨ba, bc, rfl⟩ := hr7.at_.form
  obtain ⟨E2, hE2⟩ : ∃ E, E = listE false mm t 1000 o := ⟨_, rfl⟩
  rw [<- hE2] at hr7 HME |-
  obtain ⟨n2, hn2⟩ : ∃ n, n = E2.length := ⟨_, rfl⟩
  rw [<- hE2, <- hn2] at hg7
  rw [<- hn2] at hr7 |-
  have ha7 := HL6.out.2.2.turn hT7 HL6.out.1.pg.noU
  have hal : ∀ g, (Value.slice aa n1 ac).ownBlock = some g -> g < w6.heap.size := fun g hg => by
   obtain ⟨cs, ho⟩ := HL6.out.2.2.row
   exact (ho.low g hg).2
  have HL7 := HoldT.mk (And.intro hw7 (And.intro (show p7 <= 160632 by have := HL6.out.2.1; omega) (And.intro ha7 hr7)))
  have HLO := HoldT.mk (And.intro hal (And.intro hg7 hT7.size))
  have HN2 := HoldT.mk (And.intro hn2 (show E2.length <= 1000 by rw [hE2, list_all HSM.out]; exact Nat.le_trans (List.length_filter_le ..) HSM.out))
  clear hpost hw7 hp7 hr7 hT7 hu7 hg7 hE2 hn2 hal ha7 HU HL6 x0 x1
  go_upto_region 8 with (fail)
  obtain ⟨x0, x1, _⟩ := HXX.out w7 HL7.out.1.bel
  have HU := HoldT.mk (HL7.out.1.up (most := 1000) (by have := HL7.out.2.1; omega) (HYF.out w7 HL7.out.1.bel).1 (HYF.out w7 HL7.out.1.bel).2.1)
  go_wp2_with fail
  refine HU.out.mono ?_
  intro e w8 hpost
  obtain ⟨sv8, H8, S8, p8, rfl, hw8, hp8, hr8, hT8, hu8, _, hg8⟩ := HL7.out.1.ranged hpost
  obtain ⟨ca, cc, rfl⟩ := hr8.at_.form
  rw [<- HME.out] at hr8 hg8 |-
  have ha8 := HL7.out.2.2.1.turn hT8 HL7.out.1.pg.noU
  have hb8 := HL7.out.2.2.2.turn hT8 HL7.out.1.pg.noU
  obtain ⟨n3, hn3⟩ : ∃ n, n = (E1 ++ E2).length := ⟨_, rfl⟩
  rw [<- hn3] at hr8 hg8 |-
  have HG8 := HoldT.mk (And.intro hg8 hT8.size)
  have HL8 := HoldT.mk (And.intro hw8 (And.intro (show p8 <= 160948 by have := HL7.out.2.1; omega) (And.intro ha8 (And.intro hb8 hr8))))
  have HLO8 := HoldT.mk (Nat.le_trans HLO.out.2.2 hT8.size)
  have HN3 := HoldT.mk hn3
  clear hpost hw8 hp8 hr8 hT8 hu8 hg8 ha8 hb8 hn3 HU HL7 x0 x1
  go_upto_region 9 with (fail)
  obtain ⟨x0, x1, _⟩ := HXX.out w8 HL8.out.1.bel
  have HU := HoldT.mk (HL8.out.1.up (most := (n1 : Int)) (by have := HL8.out.2.1; omega) (HYF.out w8 HL8.out.1.bel).1 (HYF.out w8 HL8.out.1.bel).2.1)
  go_wp2_with fail
  refine HU.out.mono ?_
  intro e w9 hpost
  obtain ⟨sv9, H9, S9, p9, rfl, hw9, hp9, hr9, hT9, hu9, _, _⟩ := HL8.out.1.ranged hpost
  obtain ⟨da, dc, rfl⟩ := hr9.at_.form
  have hd9 : (listE false f t (n1 : Int) o).length = n1 := list_first (by rw [<- HME.out, List.length_append, <- HN1.out.1]; omega)
  rw [hd9]
  have ha9 := HL8.out.2.2.1.turn hT9 HL8.out.1.pg.noU
  have hb9 := HL8.out.2.2.2.1.turn hT9 HL8.out.1.pg.noU
  have hc9 := HL8.out.2.2.2.2.turn hT9 HL8.out.1.pg.noU
  have hsb := hb9.side HLO.out.2.1 (Nat.le_trans HLO8.out hT9.size) HLO.out.1
  obtain ⟨csa, hoa⟩ := ha9.row
  rw [<- HN1.out.1] at hoa
  have hsc := hc9.side (sl := .slice aa n1 ac) HG8.out.1 (Nat.le_trans HG8.out.2 hT9.size) (fun g hg => Nat.lt_of_lt_of_le (HLO.out.1 g hg) HLO.out.2.2)
  have HR := HoldT.mk (And.intro hoa (And.intro hsb hsc))
  have HB9 := HoldT.mk (HWB.out.trans (hw9.bel.mono HWB.out.size))
  clear hpost hw9 hp9 hr9 hT9 hu9 hd9 ha9 hb9 hc9 hsb hsc hoa HU HL8 x0 x1 HLO HLO8 HYF HXX
  have hE2l : E2.length <= 1000 := HN2.out.2
  have hn1l : n1 <= 1000 := by rw [HN1.out.1]; exact HN1.out.2
  have HE2L := HoldT.mk hE2l
  clear hE2l
  go_wp2_with (at_builtin; refine push_src (RE_mono _) (RE_one _) rfl _ _ rfl infoE Tryz.underlying33 rfl (by decide) 0 _ _ n1 _ _ HR.out.1 rfl _ E2 HR.out.2.1 rfl (by have := HE2L.out; omega) (by decide) ?_)
  intro sl10 w10 cs10 ho10 hg10
  rw [<- HN2.out.1] at ho10
  obtain ⟨aa2, ac2, rfl⟩ := ho10.shape
  have hu10 : CLe (cfU w9) (cfU w10) := cfU_grown hg10.by_ fun b e => fun ⟨_, _, e2⟩ => by
   obtain ⟨cur, e3⟩ := own_kind HR.out.1 e
   rw [e3] at e2
   cases e2
  have hb10 : Below W.heap.size W w10 := HB9.out.grown hg10.by_ HB9.out.size fun g hg => Nat.le_trans HWB.out.size (HG6.out g hg)
  have hsa := ((ho10.rep (RE_le hu10)).at_ (RE_mono _))
  have hsc := (HR.out.2.2.mono (RE_mono _) ((cfN_grew hg10).trans (cfN_cf _ _))).rep_le (RE_le hu10)
  have hn3l : (E1 ++ E2).length <= 1000000 := by rw [List.length_append]; have := HE2L.out; have := HN1.out.2; omega
  have H10 := HoldT.mk (And.intro hb10 (And.intro hsc hn3l))
  have HP1 := HoldT.mk (law_plain hsa hn3l)
  clear ho10 hg10 hu10 hb10 hsa hsc hn3l HR HB9 HG6 HG8
  have bb : ((n1 : Int) == (n1 : Int)) = true := by simp
  go_wp2_with fail
  refine HP1.out.mono ?_
  rintro e w11 ⟨sv11, rfl, hg11⟩
  obtain ⟨cs11, ho11⟩ := hg11.row
  obtain ⟨ka, kc, rfl⟩ := ho11.shape
  rw [<- HN3.out] at hg11 |-
  have HG11 := HoldT.mk hg11
  have HP2 := HoldT.mk (law_plain ((H10.out.2.1.mono (RE_mono _) (cle_below hg11.bel)).rep_le (RE_le (cfU_below hg11.bel))) H10.out.2.2)
  clear hg11 ho11 HP1
  go_wp2_with fail
  refine HP2.out.mono ?_
  rintro e w12 ⟨sv12, rfl, hg12⟩
  obtain ⟨cs12, ho12⟩ := hg12.row
  obtain ⟨ja, jc, rfl⟩ := ho12.shape
  rw [<- HN3.out] at hg12 |-
  have hs := ref_Same (HG11.out.sat hg12.bel (cfU_below (HG11.out.bel.trans (hg12.bel.mono HG11.out.bel.size)))) (hg12.sat (Below.refl _ _) (cfU_below hg12.bel)) H10.out.2.2 H10.out.2.2
  rw [sameE_yes rfl] at hs
  have HSA := HoldT.mk hs
  have HE := HoldT.mk (H10.out.1.trans ((HG11.out.bel.trans (hg12.bel.mono HG11.out.bel.size)).mono H10.out.1.size))
  clear hg12 ho12 hs HP2
  go_wp2_with fail
  refine HSA.out.mono ?_
  rintro e w13 ⟨rfl, hb13⟩
  have HE2 := HoldT.mk (HE.out.trans (hb13.mono HE.out.size))
  clear hb13
  go_wp2_with fail
  go_ret
  exact ⟨rfl, HE2.out⟩
end Go.Proofs.YtmiphphombkpdaaGreat
namespace Go.Proofs.YtmiphphombkpdaaGreat
open Go.ChangeShapes Go.WideShapes Go.ChangeAt Go.RowKit
set_option maxRecDepth 100000 in
set_option maxHeartbeats 2000000 in
theorem WalkMeets.lifted (os : Os) (started : os.Started) (H : Type) (enc : TypeId × Value -> H) :
  ReturnsInHanded {} Tryz.checked os 3 .any (Rows.walkMeetsSpec.pre6 enc Tryz.prog Tryz.f3 Rows.walkMeetsRow.domain false) (Rows.walkMeetsSpec.post enc Tryz.prog Tryz.f3 false true false false) := by
 refine returnsInHanded_of_change (C := Tryz.checked) Tryz.own started (by kernel_rfl) Tryz.func3
  (ChangeSpec.witness6 (enc := enc) (C := Tryz.checked) false ⟨#[], #[.slice none 0 0, .agg #[.slice none 0 0, .slice none 0 0, .int .i64 0], .slice none 0 0], []⟩ 8 (by kernel_rfl) (by kernel_rfl) (by kernel_rfl) (by kernel_rfl)) ?_
 intro W base args ds gs before hval0 hW hcnd _
 have hval : ∀ (j : Nat) t v, Tryz.f3.params[j]? = some t -> args[j]? = some v -> Value.okWide Tryz.prog W .any base t v := hval0
 have hW' := hW
 obtain ⟨p, q, hA0, hV, rfl, hfz, hnd⟩ := hW
 have hA : DataW.TrodAll enc Tryz.prog W 0 (fun _ => true) true Tryz.f3.params.toList args.toList ds p := hA0
 rw [Tryz.params3] at hA hval
 obtain ⟨a0, vs0, d0, ds0, p0, q0, hargs, rfl, rfl, h0, r0⟩ := trodAll_cons hA
 obtain ⟨a1, vs1, d1, ds1, p1, q1, rfl, rfl, rfl, h1, r1⟩ := trodAll_cons r0
 obtain ⟨a2, vs2, d2, ds2, p2, q2, rfl, rfl, rfl, h2, r2⟩ := trodAll_cons r1
 obtain ⟨rfl, rfl, rfl⟩ := trodAll_nil r2
 obtain rfl : args = #[a0, a1, a2] := by cases args; simp_all
 obtain ⟨rfl, rfl⟩ := trodVars_none hV
 have k0 := h0
 have lt0 : ∀ x ∈ p0, x.block < W.heap.size := by obtain ⟨m, hm⟩ := k0; exact DataW.trod_lt m _ _ _ hm
 obtain ⟨l, la, ln, lc, rfl, hln, hl⟩ := lops_of_Trod (hval 0 _ a0 rfl rfl) h0
 have k1 := h1
 have lt1 : ∀ x ∈ p1, x.block < W.heap.size := by obtain ⟨m, hm⟩ := k1; exact DataW.trod_lt m _ _ _ hm
 obtain ⟨f, t, fa, ta, fl, fc, tl, tc, most, rfl, hmw, hfl, htl, hf, ht⟩ := range_of_Trod (hval 1 _ a1 rfl rfl) h1
 have k2 := h2
 have lt2 : ∀ x ∈ p2, x.block < W.heap.size := by obtain ⟨m, hm⟩ := k2; exact DataW.trod_lt m _ _ _ hm
 obtain ⟨mm, hm⟩ := yat_of_Trod (hval 2 _ a2 rfl rfl) h2; obtain ⟨ma, mc, rfl⟩ := hm.form
 clear hA0 hval0
 refine (walkMeets_walk (W := W) (l := l) (f := f) (t := t) (most := most) ⟨hl, hln, hf, ht⟩ hm).mono fun e W' ⟨he, bel⟩ => ?_
 subst he
 exact ⟨_, rfl, _, _, _, [], _, [], hW', trodAll_mk1 (shut_bool Tryz.underlying4 _), (trodAll_cons_mk (Below.trod Tryz.laidOut (by kernel_rfl) (of_decide_eq_true (by kernel_rfl)) k0 bel lt0) (trodAll_cons_mk (Below.trod Tryz.laidOut (by kernel_rfl) (of_decide_eq_true (by kernel_rfl)) k1 bel lt1) (trodAll_cons_mk (Below.trod Tryz.laidOut (by kernel_rfl) (of_decide_eq_true (by kernel_rfl)) k2 bel lt2) trodAll_mk0))), rfl, bel.frame _, fun h => by cases h⟩
theorem WalkMeets.over : Rows.walkMeetsRow.holds Tryz.pinned (OpenSpec.ofChange Rows.walkMeetsSpec) :=
 OpenClaim.holds_of_wide 3 Tryz.f3 rfl rfl rfl rfl rfl rfl rfl ⟨rfl, rfl, rfl, rfl, rfl⟩ rfl rfl rfl rfl rfl (by kernel_rfl) Tryz.func3 (by kernel_rfl)
  (of_decide_eq_true (by kernel_rfl)) (by unfold Func.isWrapper; first | (rw [if_pos (by decide +kernel)]; kernel_rfl) | (rw [if_neg (by decide +kernel)]; exact ⟨rfl, rfl⟩))
  (fun os started H enc _ => WalkMeets.lifted os started H enc)
theorem walkMeets_holds : Rows.WalkMeetsSaid := WalkMeets.over
#print axioms walkMeets_holds
end Go.Proofs.YtmiphphombkpdaaGreat
