/- Plans: PlanMakes, walked (printed by genXHW.py). -/
import Derived.Test.YtcmfanfkcbjeoaaGreatDoorHV
import Derived.Test.YtcmfanfkcbjeoaaGreatDoorHO
import Derived.Test.YtcmfanfkcbjeoaaGreatDoorKI
namespace Go.Proofs.YtcmfanfkcbjeoaaGreatDoor
open Go.RowKit

def ixM (f : JV) (l : List IX) : Int := if makeE f l = 0 then stI (makeB f l) else 0
def frM (f : JV) (l : List IX) : List UInt8 := if makeE f l = 0 then stF (makeB f l) else []
def toM (f : JV) (l : List IX) : List UInt8 := if makeE f l = 0 then stT (makeB f l) else []
/-- the reference's plan, in a box -/
def MBox (f : JV) (l : List IX) (B : Nat) (w : World) (s1 s2 : Value) (wx : World) : Prop := ∃ zb fv tv, s1 = .pointer (some ⟨zb, 0, none⟩) ∧ s2 = .int .i64 (makeE f l) ∧ wx.heap[zb]? = some (.cells #[.int .i64 (ixM f l), fv, tv] 35 (0, 0)) ∧ BRow B wx fv (frM f l) ∧ BRow B wx tv (toM f l) ∧ Below w.heap.size w wx
theorem sub_grow {w w7 : World} (hb : Below w.heap.size w w7) : ∀ W, GrowC w7 W → GrowC w W := fun W ⟨e, he⟩ => by
  subst he
  exact growC (hb.trans (e.property.mono hb.size))

set_option maxRecDepth 100000 in
set_option maxHeartbeats 32000000 in
theorem planMakes_walk (f : JV) (fx : Value) (l : List IX) (lv : Value) (w : World) (hfx : JAt (cf w) f fx) (hl : SAt 3 RX (cf w) lv l) (hT : Tabs w) :
    Calls Tryz.prog 3 #[fx, lv] w fun e w' => e = .returned (.bool true) ∧ Below w.heap.size w w' := by
  have HFX := Hold.mk hfx
  have HLV := Hold.mk hl
  obtain ⟨k, n, t, nm, it, na, ncap, ia, icap, hfe, rfl, _⟩ := id hfx.open
  clear hfe
  obtain ⟨la, lcap, rfl, hle, hcap, hel⟩ := hl
  have HB := Hold.mk (Boxed.refl w (.cells #[.int .i64 k, .int .i64 n, .string t, .slice na nm.length ncap, .slice ia it.length icap] 25))
  have HE := Hold.mk hel
  have HT := Hold.mk hT
  clear hfx hel hT
  go_enter Tryz.func3, Tryz.ntmps3
  go_wp2_with fail
  refine (awake18_any _ (HT.out.below HB.out.below)).mono ?_
  rintro e w1 ⟨rfl, hb1⟩
  replace HB := Hold.mk (HB.out.next hb1)
  clear hb1
  have HFW := Hold.mk (few18_any f _ l _ w1 (HFX.out.mono (cle_below HB.out.below)) (HLV.out.mono RX_mono (cle_below HB.out.below)))
  obtain ⟨y0, y1, y2, y3, y4⟩ := cells_five HB.out.blk
  go_wp2_with fail
  refine HFW.out.mono ?_
  rintro e w2 ⟨rfl, hb2⟩
  replace HB := Hold.mk (HB.out.next hb2)
  clear hb2 y0 y1 y2 y3 y4 HFW
  cases hfew : few18 f l with
  | false =>
    clear hfew
    go_wp2_with fail
    refine (awake18_any _ (HT.out.below HB.out.below)).mono ?_
    rintro e w3 ⟨rfl, hb3⟩
    replace HB := Hold.mk (HB.out.next hb3)
    clear hb3
    go_wp2_with fail
    go_ret
    exact ⟨rfl, HB.out.below⟩
  | true =>
  obtain ⟨hl10, hsm, _⟩ := few18_small hfew
  have HSM : Hold (∀ x ∈ l, ∀ p ∈ x.fields, p.1.size ≤ 1000000) := ⟨fun x hx => (hsm x hx).2⟩
  have HPLN := Hold.mk (fun (W : World) (hb : Below w.heap.size w W) => plain18_any l (.slice la l.length lcap) W (HLV.out.mono RX_mono (cle_below hb)) (fun x hx => by have := (hsm x hx).1; omega) (by omega))
  have HRMK := Hold.mk (fun (W : World) (y : Value) (hb : Below w.heap.size w W) (hy : SAt 3 RX (cf W) y l) => rMake_any f (.agg #[.int .i64 k, .int .i64 n, .string t, .slice na nm.length ncap, .slice ia it.length icap]) l y W (HFX.out.mono (cle_below hb)) hy HSM.out)
  have HRK := Hold.mk (fun (W : World) (hb : Below w.heap.size w W) (x : IX) (v : Value) (hm : x ∈ l) (hi : IAt (cf w) x v) => Rank_any f (.agg #[.int .i64 k, .int .i64 n, .string t, .slice na nm.length ncap, .slice ia it.length icap]) x v W (HFX.out.mono (cle_below hb)) (hi.mono (cle_below hb)) (HSM.out x hm) (HT.out.below hb))
  have HRR := Hold.mk (fun (W : World) (hb : Below w.heap.size w W) (x : IX) (v : Value) (hm : x ∈ l) (hi : IAt (cf W) x v) => rRank_any f (.agg #[.int .i64 k, .int .i64 n, .string t, .slice na nm.length ncap, .slice ia it.length icap]) x v W (HFX.out.mono (cle_below hb)) hi (HSM.out x hm))
  clear hfew hl10 hsm
  have HMK := Hold.mk (Make_any f _ l _ w2 (HFX.out.mono (cle_below HB.out.below)) (HLV.out.mono RX_mono (cle_below HB.out.below)) HSM.out (HT.out.below HB.out.below))
  obtain ⟨y0, y1, y2, y3, y4⟩ := cells_five HB.out.blk
  go_wp2_with fail
  refine HMK.out.mono ?_
  rintro e w3 ⟨fv, tv, he3, hf, ht, hb3⟩
  have he4 : e = .returned (.tuple #[.agg #[.int .i64 (ixM f l), fv, tv], .int .i64 (makeE f l)]) := he3
  have hf4 : BRow w2.heap.size w3 fv (frM f l) := hf
  have ht4 : BRow w2.heap.size w3 tv (toM f l) := ht
  subst he4
  obtain ⟨fl, hfl⟩ : ∃ fl, fl = frM f l := ⟨_, rfl⟩
  obtain ⟨tl, htl⟩ : ∃ tl, tl = toM f l := ⟨_, rfl⟩
  rw [← hfl] at hf4
  rw [← htl] at ht4
  obtain ⟨fa, fcap, rfl, _⟩ := hf4.shape
  obtain ⟨ta, tcap, rfl, _⟩ := ht4.shape
  have HFL := Hold.mk hfl
  have HTL := Hold.mk htl
  obtain ⟨W4, hW4⟩ : ∃ W4, W4 = w3.alloc (.cells #[.int .i64 (ixM f l), .slice fa fl.length fcap, .slice ta tl.length tcap] 31) := ⟨_, rfl⟩
  have hb4 : Below w3.heap.size w3 W4 := by rw [hW4]; exact (Below.refl _ w3).alloc (Nat.le_refl _) _
  have HP4 : Hold (W4.heap[w3.heap.size]? = some (.cells #[.int .i64 (ixM f l), .slice fa fl.length fcap, .slice ta tl.length tcap] 31 (0, 0))) := ⟨by rw [hW4]; exact heap_alloc_new w3 _⟩
  have HF4 := Hold.mk (hf4.quiet hb4)
  have HT4 := Hold.mk (ht4.quiet hb4)
  replace HB := Hold.mk ((HB.out.next hb3).next hb4)
  clear hf ht hf4 ht4 hb3 hb4 y0 y1 y2 y3 y4 HMK hfl htl he3
  go_upto_region 4 with (fail)
  rw [← hW4]
  clear hW4
  generalize w3.heap.size = pb at *
  obtain ⟨y0, y1, y2, y3, y4⟩ := cells_five HB.out.blk
  have g0 := Grow.cell y0
  have g1 := Grow.cell y1
  have g2 := Grow.cell y2
  have g3 := Grow.cell y3
  have g4 := Grow.cell y4
  clear y0 y1 y2 y3 y4
  go_cut [7, 8] (fun s7 s8 wx => MBox f l w.heap.size W4 s7 s8 wx)
  case first =>
    have HWS := Hold.mk HB.out.below.size
    refine wp_region_mix 10 rfl (by kernel_rfl) ?_
    rintro w5 hb5
    refine mixl_seg (by kernel_rfl) (fun _ _ d _ _ h => by cases d <;> exact h) [0, 1] [_, _] 8 10 rfl _ _ _ rfl (by kernel_rfl) (growC hb5) ?_
    repeat (go_big_quiet_step (fail))
    refine wpQuiet_nil ?_
    clear g0 g1 g2 g3 g4
    have HB5 := Hold.mk hb5
    clear hb5
    refine mixl_two (i := 2) (j := 7) rfl rfl (by kernel_rfl) (growC HB5.out) rfl rfl (fun K hK => ?_) (fun K hK => ?_)
    · skip
      go_wp2_with fail
      refine (HPLN.out w5 (HB.out.below.trans (HB5.out.mono HB.out.below.size))).mono ?_
      rintro e w6 ⟨y, rfl, hy, hbp⟩
      obtain ⟨ya, ycap, rfl, _⟩ := id hy
      have HY := Hold.mk hy
      have HB6 := Hold.mk (HB5.out.trans (hbp.mono HB5.out.size))
      clear hy hbp
      go_wp2_with fail
      refine mixl_two (i := 3) (j := 7) rfl rfl (by kernel_rfl) (growC HB6.out) rfl rfl (fun K hK => ?_) (fun K hK => ?_)
      · skip
        go_wp2_with fail
        refine (HRMK.out w6 _ (HB.out.below.trans (HB6.out.mono HB.out.below.size)) HY.out).mono ?_
        rintro e w7 ⟨gv, uv, he7, hg, hu, hbm⟩
        have he8 : e = .returned (.tuple #[.agg #[.int .i64 (ixM f l), gv, uv], .int .i64 (makeE f l)]) := he7
        have hg8 : BRow w6.heap.size w7 gv (frM f l) := hg
        have hu8 : BRow w6.heap.size w7 uv (toM f l) := hu
        subst he8
        obtain ⟨gl, hgl⟩ : ∃ gl, gl = frM f l := ⟨_, rfl⟩
        obtain ⟨ul, hul⟩ : ∃ ul, ul = toM f l := ⟨_, rfl⟩
        rw [← hgl] at hg8
        rw [← hul] at hu8
        obtain ⟨ga, gcap, rfl, _⟩ := hg8.shape
        obtain ⟨ua, ucap, rfl, _⟩ := hu8.shape
        have HGL := Hold.mk hgl
        have HUL := Hold.mk hul
        have HB7 := Hold.mk (HB6.out.trans (hbm.mono HB6.out.size))
        have HGR := Hold.mk (hg8.bel (Nat.le_trans HWS.out HB6.out.size))
        have HUR := Hold.mk (hu8.bel (Nat.le_trans HWS.out HB6.out.size))
        clear hg hu hg8 hu8 hgl hul he7
        clear hbm
        go_wp2_with fail
        refine mixl_seg (by kernel_rfl) (fun _ _ d _ _ h => by cases d <;> exact h) [4, 5, 6] [_, _, _] 3 6 rfl _ _ _ rfl (by kernel_rfl) (growC HB7.out) ?_
        repeat (go_big_quiet_step (fail))
        refine wpQuiet_nil ?_
        refine mixl_act (i := 7) rfl (by kernel_rfl) (growC HB7.out) rfl (fun K hK => ?_)
        go_wp2_with fail
        obtain ⟨w8, hwa⟩ : ∃ w8, w8 = w7.alloc (.cells #[.int .i64 0, .slice none 0 0, .slice none 0 0] 35) := ⟨_, rfl⟩
        rw [← hwa]
        have hba : Below w7.heap.size w7 w8 := by rw [hwa]; exact (Below.refl _ w7).alloc (Nat.le_refl _) _
        have HZB : Hold (w8.heap[w7.heap.size]? = some (.cells #[.int .i64 0, .slice none 0 0, .slice none 0 0] 35 (0, 0))) := ⟨by rw [hwa]; exact heap_alloc_new w7 _⟩
        have HB8 := Hold.mk (HB7.out.trans (hba.mono HB7.out.size))
        have HZL : Hold (W4.heap.size ≤ w7.heap.size) := ⟨HB7.out.size⟩
        replace HGR := Hold.mk (HGR.out.quiet hba)
        replace HUR := Hold.mk (HUR.out.quiet hba)
        clear hwa hba
        generalize w7.heap.size = zb at *
        obtain ⟨c0, c1, c2⟩ := cells_three HZB.out
        have f0 := free_box HZB.out 0
        have f1 := free_box HZB.out 1
        have f2 := free_box HZB.out 2
        refine mixl_act (i := 8) rfl (by kernel_rfl) (growC HB8.out) rfl (fun K hK => ?_)
        go_wp2_with fail
        obtain ⟨W9, hW9⟩ : ∃ W9, W9 = ((w8.setCell ⟨zb, 0, none⟩ (.int .i64 (ixM f l))).setCell ⟨zb, 1, none⟩ (.slice ga gl.length gcap)).setCell ⟨zb, 2, none⟩ (.slice ua ul.length ucap) := ⟨_, rfl⟩
        rw [← hW9]
        have hk : w8.grownBy W9 (some zb) := by rw [hW9]; exact grown_trans (grown_trans (grown_set _ _ _ _) (grown_set _ _ _ _)) (grown_set _ _ _ _)
        have HB9 := Hold.mk (HB8.out.trans (grown_low hk HB8.out.size HZL.out))
        have HPX : Hold (MBox f l w.heap.size W4 (.pointer (some ⟨zb, 0, none⟩)) (.int .i64 (makeE f l)) W9) := ⟨⟨zb, _, _, rfl, rfl, by rw [hW9, setP (setP (setP HZB.out))]; rfl, by rw [← HGL.out]; exact HGR.out.butR HZB.out hk, by rw [← HUL.out]; exact HUR.out.butR HZB.out hk, HB9.out⟩⟩
        clear hW9 hk c0 c1 c2 f0 f1 f2
        refine mixl_seg (by kernel_rfl) (fun _ _ d _ _ h => by cases d <;> exact h) [9] [_] 0 1 rfl _ _ _ rfl (by kernel_rfl) (growC HB9.out) ?_
        repeat (go_big_quiet_step (fail))
        refine wpQuiet_nil ?_
        refine mix_done (by kernel_rfl) (growC HB9.out) ?_
        go_wp2_with fail
        go_meet
        case rel => exact HPX.out
      · skip
        go_wp2_with fail
        obtain ⟨w7, hwa⟩ : ∃ w7, w7 = w6.alloc (.cells #[.int .i64 0, .slice none 0 0, .slice none 0 0] 35) := ⟨_, rfl⟩
        rw [← hwa]
        have hba : Below w6.heap.size w6 w7 := by rw [hwa]; exact (Below.refl _ w6).alloc (Nat.le_refl _) _
        have HZB : Hold (w7.heap[w6.heap.size]? = some (.cells #[.int .i64 0, .slice none 0 0, .slice none 0 0] 35 (0, 0))) := ⟨by rw [hwa]; exact heap_alloc_new w6 _⟩
        have HB7 := Hold.mk (HB6.out.trans (hba.mono HB6.out.size))
        have HZL : Hold (W4.heap.size ≤ w6.heap.size) := ⟨HB6.out.size⟩
        replace HY := Hold.mk (HY.out.mono RX_mono (cle_below hba))
        clear hwa hba
        generalize w6.heap.size = zb at *
        refine mixl_act (i := 3) rfl (by kernel_rfl) (growC HB7.out) rfl (fun K hK => ?_)
        go_wp2_with fail
        refine (HRMK.out w7 _ (HB.out.below.trans (HB7.out.mono HB.out.below.size)) HY.out).mono ?_
        rintro e w8 ⟨gv, uv, he7, hg, hu, hbm⟩
        have he8 : e = .returned (.tuple #[.agg #[.int .i64 (ixM f l), gv, uv], .int .i64 (makeE f l)]) := he7
        have hg8 : BRow w7.heap.size w8 gv (frM f l) := hg
        have hu8 : BRow w7.heap.size w8 uv (toM f l) := hu
        subst he8
        obtain ⟨gl, hgl⟩ : ∃ gl, gl = frM f l := ⟨_, rfl⟩
        obtain ⟨ul, hul⟩ : ∃ ul, ul = toM f l := ⟨_, rfl⟩
        rw [← hgl] at hg8
        rw [← hul] at hu8
        obtain ⟨ga, gcap, rfl, _⟩ := hg8.shape
        obtain ⟨ua, ucap, rfl, _⟩ := hu8.shape
        have HGL := Hold.mk hgl
        have HUL := Hold.mk hul
        have HB8 := Hold.mk (HB7.out.trans (hbm.mono HB7.out.size))
        have HGR := Hold.mk (hg8.bel (Nat.le_trans HWS.out HB7.out.size))
        have HUR := Hold.mk (hu8.bel (Nat.le_trans HWS.out HB7.out.size))
        clear hg hu hg8 hu8 hgl hul he7
        replace HZB := Hold.mk (kept HZB.out hbm)
        clear hbm
        go_wp2_with fail
        refine mixl_seg (by kernel_rfl) (fun _ _ d _ _ h => by cases d <;> exact h) [4, 5, 6] [_, _, _] 2 5 rfl _ _ _ rfl (by kernel_rfl) (growC HB8.out) ?_
        repeat (go_big_quiet_step (fail))
        refine wpQuiet_nil ?_
        obtain ⟨c0, c1, c2⟩ := cells_three HZB.out
        have f0 := free_box HZB.out 0
        have f1 := free_box HZB.out 1
        have f2 := free_box HZB.out 2
        refine mixl_act (i := 8) rfl (by kernel_rfl) (growC HB8.out) rfl (fun K hK => ?_)
        go_wp2_with fail
        obtain ⟨W9, hW9⟩ : ∃ W9, W9 = ((w8.setCell ⟨zb, 0, none⟩ (.int .i64 (ixM f l))).setCell ⟨zb, 1, none⟩ (.slice ga gl.length gcap)).setCell ⟨zb, 2, none⟩ (.slice ua ul.length ucap) := ⟨_, rfl⟩
        rw [← hW9]
        have hk : w8.grownBy W9 (some zb) := by rw [hW9]; exact grown_trans (grown_trans (grown_set _ _ _ _) (grown_set _ _ _ _)) (grown_set _ _ _ _)
        have HB9 := Hold.mk (HB8.out.trans (grown_low hk HB8.out.size HZL.out))
        have HPX : Hold (MBox f l w.heap.size W4 (.pointer (some ⟨zb, 0, none⟩)) (.int .i64 (makeE f l)) W9) := ⟨⟨zb, _, _, rfl, rfl, by rw [hW9, setP (setP (setP HZB.out))]; rfl, by rw [← HGL.out]; exact HGR.out.butR HZB.out hk, by rw [← HUL.out]; exact HUR.out.butR HZB.out hk, HB9.out⟩⟩
        clear hW9 hk c0 c1 c2 f0 f1 f2
        refine mixl_seg (by kernel_rfl) (fun _ _ d _ _ h => by cases d <;> exact h) [9] [_] 0 1 rfl _ _ _ rfl (by kernel_rfl) (growC HB9.out) ?_
        repeat (go_big_quiet_step (fail))
        refine wpQuiet_nil ?_
        refine mix_done (by kernel_rfl) (growC HB9.out) ?_
        go_wp2_with fail
        go_meet
        case rel => exact HPX.out
    · skip
      go_wp2_with fail
      obtain ⟨w6, hwa⟩ : ∃ w6, w6 = w5.alloc (.cells #[.int .i64 0, .slice none 0 0, .slice none 0 0] 35) := ⟨_, rfl⟩
      rw [← hwa]
      have hba : Below w5.heap.size w5 w6 := by rw [hwa]; exact (Below.refl _ w5).alloc (Nat.le_refl _) _
      have HZB : Hold (w6.heap[w5.heap.size]? = some (.cells #[.int .i64 0, .slice none 0 0, .slice none 0 0] 35 (0, 0))) := ⟨by rw [hwa]; exact heap_alloc_new w5 _⟩
      have HB6 := Hold.mk (HB5.out.trans (hba.mono HB5.out.size))
      have HZL : Hold (W4.heap.size ≤ w5.heap.size) := ⟨HB5.out.size⟩
      skip
      clear hwa hba
      generalize w5.heap.size = zb at *
      refine mixl_act (i := 2) rfl (by kernel_rfl) (growC HB6.out) rfl (fun K hK => ?_)
      go_wp2_with fail
      refine (HPLN.out w6 (HB.out.below.trans (HB6.out.mono HB.out.below.size))).mono ?_
      rintro e w7 ⟨y, rfl, hy, hbp⟩
      obtain ⟨ya, ycap, rfl, _⟩ := id hy
      have HY := Hold.mk hy
      have HB7 := Hold.mk (HB6.out.trans (hbp.mono HB6.out.size))
      replace HZB := Hold.mk (kept HZB.out hbp)
      clear hy hbp
      go_wp2_with fail
      refine mixl_act (i := 3) rfl (by kernel_rfl) (growC HB7.out) rfl (fun K hK => ?_)
      go_wp2_with fail
      refine (HRMK.out w7 _ (HB.out.below.trans (HB7.out.mono HB.out.below.size)) HY.out).mono ?_
      rintro e w8 ⟨gv, uv, he7, hg, hu, hbm⟩
      have he8 : e = .returned (.tuple #[.agg #[.int .i64 (ixM f l), gv, uv], .int .i64 (makeE f l)]) := he7
      have hg8 : BRow w7.heap.size w8 gv (frM f l) := hg
      have hu8 : BRow w7.heap.size w8 uv (toM f l) := hu
      subst he8
      obtain ⟨gl, hgl⟩ : ∃ gl, gl = frM f l := ⟨_, rfl⟩
      obtain ⟨ul, hul⟩ : ∃ ul, ul = toM f l := ⟨_, rfl⟩
      rw [← hgl] at hg8
      rw [← hul] at hu8
      obtain ⟨ga, gcap, rfl, _⟩ := hg8.shape
      obtain ⟨ua, ucap, rfl, _⟩ := hu8.shape
      have HGL := Hold.mk hgl
      have HUL := Hold.mk hul
      have HB8 := Hold.mk (HB7.out.trans (hbm.mono HB7.out.size))
      have HGR := Hold.mk (hg8.bel (Nat.le_trans HWS.out HB7.out.size))
      have HUR := Hold.mk (hu8.bel (Nat.le_trans HWS.out HB7.out.size))
      clear hg hu hg8 hu8 hgl hul he7
      replace HZB := Hold.mk (kept HZB.out hbm)
      clear hbm
      go_wp2_with fail
      refine mixl_seg (by kernel_rfl) (fun _ _ d _ _ h => by cases d <;> exact h) [4, 5, 6] [_, _, _] 2 5 rfl _ _ _ rfl (by kernel_rfl) (growC HB8.out) ?_
      repeat (go_big_quiet_step (fail))
      refine wpQuiet_nil ?_
      obtain ⟨c0, c1, c2⟩ := cells_three HZB.out
      have f0 := free_box HZB.out 0
      have f1 := free_box HZB.out 1
      have f2 := free_box HZB.out 2
      refine mixl_act (i := 8) rfl (by kernel_rfl) (growC HB8.out) rfl (fun K hK => ?_)
      go_wp2_with fail
      obtain ⟨W9, hW9⟩ : ∃ W9, W9 = ((w8.setCell ⟨zb, 0, none⟩ (.int .i64 (ixM f l))).setCell ⟨zb, 1, none⟩ (.slice ga gl.length gcap)).setCell ⟨zb, 2, none⟩ (.slice ua ul.length ucap) := ⟨_, rfl⟩
      rw [← hW9]
      have hk : w8.grownBy W9 (some zb) := by rw [hW9]; exact grown_trans (grown_trans (grown_set _ _ _ _) (grown_set _ _ _ _)) (grown_set _ _ _ _)
      have HB9 := Hold.mk (HB8.out.trans (grown_low hk HB8.out.size HZL.out))
      have HPX : Hold (MBox f l w.heap.size W4 (.pointer (some ⟨zb, 0, none⟩)) (.int .i64 (makeE f l)) W9) := ⟨⟨zb, _, _, rfl, rfl, by rw [hW9, setP (setP (setP HZB.out))]; rfl, by rw [← HGL.out]; exact HGR.out.butR HZB.out hk, by rw [← HUL.out]; exact HUR.out.butR HZB.out hk, HB9.out⟩⟩
      clear hW9 hk c0 c1 c2 f0 f1 f2
      refine mixl_seg (by kernel_rfl) (fun _ _ d _ _ h => by cases d <;> exact h) [9] [_] 0 1 rfl _ _ _ rfl (by kernel_rfl) (growC HB9.out) ?_
      repeat (go_big_quiet_step (fail))
      refine wpQuiet_nil ?_
      refine mix_done (by kernel_rfl) (growC HB9.out) ?_
      go_wp2_with fail
      go_meet
      case rel => exact HPX.out
  case rest =>
    clear g0 g1 g2 g3 g4
    obtain ⟨zb, gv, uv, rfl, rfl, hzb, hgr, hur, hbx⟩ := hcut
    generalize wc = W5 at *
    rw [← HFL.out] at hgr
    rw [← HTL.out] at hur
    obtain ⟨ga, gcap, rfl, _⟩ := hgr.shape
    obtain ⟨ua, ucap, rfl, _⟩ := hur.shape
    have HP5 := Hold.mk (kept HP4.out hbx)
    have HF5 := Hold.mk (HF4.out.quiet hbx)
    have HT5 := Hold.mk (HT4.out.quiet hbx)
    replace HB := Hold.mk (HB.out.next hbx)
    have HS1 := Hold.mk (Same4_any fl fl _ _ W5 HF5.out.bytes hgr.bytes)
    have HS2 := Hold.mk (fun (W : World) (hb : Below W5.heap.size W5 W) => Same4_any tl tl _ _ W ((HT5.out.quiet hb).bytes) ((hur.quiet hb).bytes))
    have HZB := Hold.mk hzb
    obtain ⟨me, hme⟩ : ∃ me, me = makeE f l := ⟨_, rfl⟩
    rw [← hme]
    obtain ⟨ix, hix⟩ : ∃ ix, ix = ixM f l := ⟨_, rfl⟩
    rw [← hix] at HP5 HZB
    have hmm : (me != me) = false := by simp
    have hii : (ix != ix) = false := by simp
    clear hzb hgr hur hbx HP4 HF4 HT4 HF5 HT5 hme hix
    obtain ⟨c0, c1, c2⟩ := cells_three HP5.out
    obtain ⟨d0, d1, d2⟩ := cells_three HZB.out
    go_wp2_with fail
    refine HS1.out.mono ?_
    rintro e w6 ⟨rfl, hb6⟩
    have HB6 := Hold.mk (HB.out.next hb6)
    have HP6 := Hold.mk (kept HP5.out hb6)
    have HZ6 := Hold.mk (kept HZB.out hb6)
    have HS3 := Hold.mk (HS2.out w6 hb6)
    rw [sameY_yes rfl] at *
    clear hb6 c0 c1 c2 d0 d1 d2 HS1 HS2
    obtain ⟨c0, c1, c2⟩ := cells_three HP6.out
    obtain ⟨d0, d1, d2⟩ := cells_three HZ6.out
    go_wp2_with fail
    refine HS3.out.mono ?_
    rintro e w7 ⟨rfl, hb7⟩
    replace HB6 := Hold.mk (HB6.out.next hb7)
    clear hb7 c0 c1 c2 d0 d1 d2 HS3 HP5 HZB HP6 HZ6 HB
    have HB := HB6
    clear HB6
    go_wp2_with fail
    go_loopw [9] (fun i wr => ∃ j : Nat, i = .int .i64 j ∧ j ≤ l.length ∧ Below w7.heap.size w7 wr) (fun i _ => l.length - (intOf i).toNat)
    case atStart => exact ⟨0, rfl, Nat.zero_le _, Below.refl _ _⟩
    case round =>
      obtain ⟨j, rfl, hj, hbl⟩ := hrel
      have HBL := Hold.mk hbl
      clear hbl
      have HBR := Hold.mk (HB.out.next HBL.out)
      by_cases hlt : j < l.length
      · obtain ⟨x, hx⟩ : ∃ x, l[j]? = some x := ⟨l[j], List.getElem?_eq_getElem hlt⟩
        obtain ⟨b, off, d, rfl, hd, hcc, hxi⟩ := HE.out j x hx
        obtain ⟨xa, xcap, rfl⟩ := hxi.open
        have hcl := cle_below HBR.out.below
        have z0 := hcl _ _ _ (hcc 0 _ rfl)
        have z1 := hcl _ _ _ (hcc 1 _ rfl)
        have z2 := hcl _ _ _ (hcc 2 _ rfl)
        unfold cf at z0 z1 z2
        rw [Nat.add_zero] at z0
        obtain ⟨y0, y1, y2, y3, y4⟩ := cells_five HBR.out.blk
        have g0 := Grow.cell z0
        have g1 := Grow.cell z1
        have g2 := Grow.cell z2
        have h0 := Grow.cell y0
        have h1 := Grow.cell y1
        have h2 := Grow.cell y2
        have h3 := Grow.cell y3
        have h4 := Grow.cell y4
        have HXM := Hold.mk (List.mem_of_getElem? hx)
        have HXE := Hold.mk hx
        have HXI : Hold (IAt (cf w) x (.agg #[.string x.name, .slice xa x.fields.length xcap, .bool x.uniq])) := ⟨hxi⟩
        obtain ⟨r, hr⟩ : ∃ r, r = rankR f x := ⟨_, rfl⟩
        have HRE := Hold.mk hr
        have hrr : ((r : Int) != (r : Int)) = false := by simp
        clear hx hd hcc hxi hcl hr
        go_upto_region 10 with (fail)
        clear z0 z1 z2 y0 y1 y2 y3 y4
        refine wp_region_mix 14 rfl (by kernel_rfl) ?_
        rintro w8 hb8
        refine mixl_seg (by kernel_rfl) (fun _ _ d _ _ h => by cases d <;> exact h) [0, 1, 2, 3, 4, 6, 7, 9] [_, _, _, _, _, _, _, _] 6 14 rfl _ _ _ rfl (by kernel_rfl) (growC hb8) ?_
        repeat (go_big_quiet_step (fail))
        refine wpQuiet_nil ?_
        clear g0 g1 g2 h0 h1 h2 h3 h4
        have HB8 := Hold.mk hb8
        have HBW8 : Hold (Below w.heap.size w w8) := ⟨HBR.out.below.trans (hb8.mono HBR.out.below.size)⟩
        have HK := Hold.mk (HRK.out w8 HBW8.out x _ HXM.out HXI.out)
        rw [← HRE.out] at HK
        clear hb8
        refine mixl_act (i := 5) rfl (by kernel_rfl) (growC HB8.out) rfl (fun K hK => ?_)
        go_wp2_with fail
        refine HK.out.mono ?_
        rintro e w9 ⟨rfl, hb9⟩
        have HB9 := Hold.mk (HB8.out.trans (hb9.mono HB8.out.size))
        have HBW9 : Hold (Below w.heap.size w w9) := ⟨HBW8.out.trans (hb9.mono HBW8.out.size)⟩
        clear hb9 HK
        go_wp2_with fail
        refine mixl_act (i := 8) rfl (by kernel_rfl) (growC HB9.out) rfl (fun K hK => ?_)
        go_wp2_with fail
        refine (HPLN.out w9 HBW9.out).mono ?_
        rintro e w10 ⟨y, rfl, hy, hb10⟩
        obtain ⟨ya, ycap, rfl, hy1, hy2, hye⟩ := hy
        obtain ⟨yb, yoff, yd, rfl, hd, hcc, hyi⟩ := hye j x HXE.out
        obtain ⟨xa2, xcap2, rfl⟩ := hyi.open
        have HB10 := Hold.mk (HB9.out.trans (hb10.mono HB9.out.size))
        have HBW10 : Hold (Below w.heap.size w w10) := ⟨HBW9.out.trans (hb10.mono HBW9.out.size)⟩
        have u0 := hcc 0 _ rfl
        have u1 := hcc 1 _ rfl
        have u2 := hcc 2 _ rfl
        unfold cf at u0 u1 u2
        rw [Nat.add_zero] at u0
        have g0 := Grow.cell u0
        have g1 := Grow.cell u1
        have g2 := Grow.cell u2
        have HYI : Hold (IAt (cf w10) x (.agg #[.string x.name, .slice xa2 x.fields.length xcap2, .bool x.uniq])) := ⟨hyi⟩
        clear hb10 hye hd hcc hyi
        go_wp2_with fail
        clear u0 u1 u2
        refine wpAnyC_sub (sub_grow HB10.out) _ _ _ _ ?_
        have HR10 := Hold.mk (Below.refl w10.heap.size w10)
        refine mixl_seg (by kernel_rfl) (fun _ _ d _ _ h => by cases d <;> exact h) [10, 11] [_, _] 2 4 rfl _ _ _ rfl (by kernel_rfl) (growC HR10.out) ?_
        repeat (go_big_quiet_step (fail))
        refine wpQuiet_nil ?_
        clear g0 g1 g2
        have HK2 := Hold.mk (HRR.out w10 HBW10.out x _ HXM.out HYI.out)
        rw [← HRE.out] at HK2
        refine mixl_act (i := 12) rfl (by kernel_rfl) (growC HR10.out) rfl (fun K hK => ?_)
        go_wp2_with fail
        refine HK2.out.mono ?_
        rintro e w11 ⟨rfl, hb11⟩
        have HB11 := Hold.mk hb11
        have HBE := Hold.mk (HBL.out.trans ((HB10.out.trans (hb11.mono HB10.out.size)).mono HBL.out.size))
        clear hb11 HK2
        go_wp2_with fail
        refine mixl_seg (by kernel_rfl) (fun _ _ d _ _ h => by cases d <;> exact h) [13] [_] 0 1 rfl _ _ _ rfl (by kernel_rfl) (growC HB11.out) ?_
        repeat (go_big_quiet_step (fail))
        refine wpQuiet_nil ?_
        refine mix_done (by kernel_rfl) (growC HB11.out) ?_
        go_wp2_with fail
        exact ⟨⟨j + 1, by go_num, hlt, HBE.out⟩, by simp [intOf]; omega⟩
      · go_wp2_with fail
        go_ret
        exact ⟨rfl, HBR.out.below⟩

end Go.Proofs.YtcmfanfkcbjeoaaGreatDoor
