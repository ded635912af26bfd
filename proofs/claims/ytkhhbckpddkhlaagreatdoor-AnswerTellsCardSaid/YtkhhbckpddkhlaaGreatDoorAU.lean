/- Answers: Project of the reference walked. (printed by genXAU.py) -/
import Derived.Test.YtkhhbckpddkhlaaGreatDoorAT
import Derived.Test.YtkhhbckpddkhlaaGreatDoorAC
namespace Go.Proofs.YtkhhbckpddkhlaaGreatDoor
open Go.Shelf Go.RowKit

/-- what Steps hands back, whether there are any or not -/
theorem steps_optU {s : ByteArray} {w w' : World} {e : Ending} (h : StepsPost s w e w') : ∃ a n k, e = .returned (.tuple #[.slice a n k, .int .i64 (if (stepsF s).isNone = true then 2 else 0)]) ∧ (∀ l, stepsF s = some l → SAt 1 RS (cf w') (.slice a n k) l) ∧ Below w.heap.size w w' := by
  unfold StepsPost at h
  cases hs : stepsF s with
  | none =>
    rw [hs] at h
    obtain ⟨rfl, hb⟩ := h
    exact ⟨none, 0, 0, rfl, (fun l hl => by cases hl), hb⟩
  | some l =>
    rw [hs] at h
    obtain ⟨⟨sv, rfl, h1, h2⟩, hb⟩ := h
    have h3 := sat_of_strs (h1.mono (cfA_le _ _)) h2
    obtain ⟨a, k, rfl⟩ := h3.form
    exact ⟨a, _, k, rfl, (fun m hm => by cases hm; exact h3), hb⟩
theorem getJ_none {v : JV} {p : ByteArray} (h : stepsF p = none) : getJ v p = none := by unfold getJ; rw [h]; rfl

set_option maxRecDepth 100000 in
set_option maxHeartbeats 32000000 in
theorem rProject_any (c : CF) (q : QR) (d : List Value) (v : JV) (x : Value) (w : World) (hq : QAt (cf w) q d) (hc : CLe c (cfU w.heap.size w)) (hx : JAt c v x) (hfz : ∀ p ∈ q.fields, p.size ≤ 1000000) :
    Calls Tryz.prog 23 #[.agg d.toArray, x] w (ProjPost c (projF q.fields v) w) := by
  obtain ⟨k, n, t, na, nl, nc, ia, il, ic, sv, fv, rfl, hj, hs, hf⟩ := hq
  have HFV := Hold.mk hf
  obtain ⟨fa, fcap, rfl, hfl, hfc, hfe⟩ := hf
  obtain ⟨vk, vn, vt, vnm, vit, vna, vnc, via, vic, hve, rfl, _⟩ := hx.open
  obtain ⟨vnl, hvnl⟩ : ∃ m, vnm.length = m := ⟨_, rfl⟩
  obtain ⟨vil, hvil⟩ : ∃ m, vit.length = m := ⟨_, rfl⟩
  rw [hvnl, hvil] at hx ⊢
  have HX := Hold.mk hx
  have HCL := Hold.mk hc
  have HFE := Hold.mk hfe
  have HFZ := Hold.mk hfz
  have HC4 : Hold (CLe c (cfU (w.heap.size + 4) w)) := ⟨cle_upA hc (by omega)⟩
  have H3 := Hold.mk (ThreeA.refl w #[.int .i64 k, .int .i64 n, .string t, .slice na nl nc, .slice ia il ic, sv, .slice fa q.fields.length fcap, .int .i64 q.skip, .int .i64 q.lim] #[.int .i64 vk, .int .i64 vn, .string vt, .slice vna vnl vnc, .slice via vil vic] #[.int .i64 0, .int .i64 0, .string ⟨#[]⟩, .slice none 0 0, .slice none 0 0] 40 25 25)
  clear hj hs hve hx hc hfe hfz hvnl hvil
  have hfl3 : q.fields.length ≤ 9223372036854775807 := by omega
  go_enter Tryz.func23, Tryz.ntmps23
  go_upto_region 1 with (fail)
  obtain ⟨W, hW⟩ : ∃ W, W = (((w.alloc (.cells #[.int .i64 k, .int .i64 n, .string t, .slice na nl nc, .slice ia il ic, sv, .slice fa q.fields.length fcap, .int .i64 q.skip, .int .i64 q.lim] 40)).alloc (.cells #[.int .i64 vk, .int .i64 vn, .string vt, .slice vna vnl vnc, .slice via vil vic] 25)).alloc (.cells #[.int .i64 0, .int .i64 0, .string ⟨#[]⟩, .slice none 0 0, .slice none 0 0] 25)) := ⟨_, rfl⟩
  have HWS : Hold (W.heap.size = w.heap.size + 3) := ⟨by rw [hW]; simp⟩
  rw [← hW] at H3 ⊢
  clear hW
  obtain ⟨y0, y1, y2, y3, y4, y5, y6, y7, y8⟩ := cells9A H3.out.one
  obtain ⟨x0, x1, x2, x3, x4⟩ := cells_five H3.out.two
  obtain ⟨z0, z1, z2, z3, z4⟩ := cells_five H3.out.three
  have f0 := free_box H3.out.three 0
  have f1 := free_box H3.out.three 1
  have f2 := free_box H3.out.three 2
  have f3 := free_box H3.out.three 3
  have f4 := free_box H3.out.three 4
  by_cases h0 : q.fields.length = 0
  · have HE : Hold (projF q.fields v = v) := ⟨by rw [List.length_eq_zero_iff.1 h0]; rfl⟩
    have hn0 : (q.fields.length : Int) = 0 := by omega
    go_wp2_with fail
    obtain ⟨q0, q1, q2, q3, q4⟩ := cells_five (set5_self (c0 := .int .i64 vk) (c1 := .int .i64 vn) (c2 := .string vt) (c3 := .slice vna vnl vnc) (c4 := .slice via vil vic) H3.out.three)
    refine bodyPost_ret (v := .agg #[.int .i64 vk, .int .i64 vn, .string vt, .slice vna vnl vnc, .slice via vil vic]) (by simp [results, Tryz.results23, go_sem, q0, q1, q2, q3, q4]) rfl (proj_mk ?_ (set5_below H3.out.bel (by omega)))
    rw [HE.out]
    exact HX.out.mono (cle_cfV HCL.out)
  have hn0 : ¬ (q.fields.length : Int) = 0 := by omega
  have hnb : ((q.fields.length : Int) == 0) = false := by simpa using hn0
  have HNE : Hold (q.fields ≠ []) := ⟨fun e => h0 (by rw [e]; rfl)⟩
  clear h0 x0 x1 x2 x3 x4 z0 z1 z2 z3 z4 f0 f1 f2 f3 f4
  go_upto_region 4 with (fail)
  obtain ⟨W2, hW2⟩ : ∃ W2, W2 = W.alloc (.cells #[.int .i64 6, .int .i64 0, .string ⟨#[]⟩, .slice none 0 0, .slice none 0 0] 25) := ⟨_, rfl⟩
  have HPJ : Hold (PJ 40 c q.fields v w W2 #[.int .i64 k, .int .i64 n, .string t, .slice na nl nc, .slice ia il ic, sv, .slice fa q.fields.length fcap, .int .i64 q.skip, .int .i64 q.lim] #[.int .i64 vk, .int .i64 vn, .string vt, .slice vna vnl vnc, .slice via vil vic] #[.int .i64 6, .int .i64 0, .string ⟨#[]⟩, .slice none 0 0, .slice none 0 0] 0 objE) := ⟨H3.out.next (by rw [hW2]; exact (Below.refl _ W).alloc (Nat.le_refl _) _), by rw [hW2, ← HWS.out]; exact heap_alloc_new W _, by rw [List.take_zero]; rfl, objE_formed, objE_at _⟩
  rw [← hW2, HWS.out]
  clear hW2 H3 HWS y0 y1 y2 y3 y4 y5 y6 y7 y8
  obtain ⟨y0, y1, y2, y3, y4, y5, y6, y7, y8⟩ := cells9A HPJ.out.three.one
  go_wp2_with fail
  go_loopw [6] (fun i wr => ∃ (j : Nat) (out : JV) (ok on : Int) (ot : ByteArray) (ona : Option Addr) (onl onc : Nat) (oia : Option Addr) (oil oic : Nat), i = .int .i64 j ∧ j ≤ q.fields.length ∧ PJ 40 c q.fields v w wr #[.int .i64 k, .int .i64 n, .string t, .slice na nl nc, .slice ia il ic, sv, .slice fa q.fields.length fcap, .int .i64 q.skip, .int .i64 q.lim] #[.int .i64 vk, .int .i64 vn, .string vt, .slice vna vnl vnc, .slice via vil vic] #[.int .i64 ok, .int .i64 on, .string ot, .slice ona onl onc, .slice oia oil oic] j out) (fun i _ => q.fields.length - (intOf i).toNat)
  case atStart => exact ⟨0, objE, 6, 0, _, _, _, _, _, _, _, rfl, Nat.zero_le _, HPJ.out⟩
  case round =>
    obtain ⟨j, out, ok, on, ot, ona, onl, onc, oia, oil, oic, rfl, hj, hpj⟩ := hrel
    clear HPJ y0 y1 y2 y3 y4 y5 y6 y7 y8
    have HP := Hold.mk hpj
    clear hpj
    by_cases hlt : j < q.fields.length
    · obtain ⟨p, hp⟩ : ∃ p, q.fields[j]? = some p := ⟨q.fields[j], List.getElem?_eq_getElem hlt⟩
      obtain ⟨b, off, d, rfl, hd, hcc, hpe⟩ := HFE.out j p hp
      obtain ⟨rfl, _⟩ := hpe
      have hps := HFZ.out p (List.mem_of_getElem? hp)
      have HPP := Hold.mk hp
      have HBW := Hold.mk HP.out.three.bel
      have z0 := cle_below HBW.out _ _ _ (hcc 0 _ rfl)
      unfold cf at z0
      rw [Nat.add_zero, Nat.mul_one] at z0
      have HS := Hold.mk (rSteps_any p wr hps)
      obtain ⟨y0, y1, y2, y3, y4, y5, y6, y7, y8⟩ := cells9A HP.out.three.one
      clear hp hd
      have HZC := Hold.mk (hcc 0 _ rfl)
      clear hcc
      go_wp2_with fail
      refine HS.out.mono ?_
      rintro e w2 hst
      obtain ⟨sa, sn, sk, rfl, hsl, hb2⟩ := steps_optU hst
      obtain ⟨er, her⟩ : ∃ er : Int, (if (stepsF p).isNone = true then 2 else 0) = er := ⟨_, rfl⟩
      rw [her]
      have HER := Hold.mk her
      have HSL := Hold.mk hsl
      replace HP := Hold.mk (HP.out.next hb2)
      have HB2 := Hold.mk hb2
      clear hst hsl hb2 her HS z0 y0 y1 y2 y3 y4 y5 y6 y7 y8
      go_upto_region 8 with (fail)
      go_cut [9, 10] (fun s1 s2 wx => OBox c (getJ v p) w2 s1 s2 wx)
      case first =>
        obtain ⟨y0, y1, y2, y3, y4, y5, y6, y7, y8⟩ := cells9A HP.out.three.one
        obtain ⟨x0, x1, x2, x3, x4⟩ := cells_five HP.out.three.two
        have g0 := Grow.cell x0
        have g1 := Grow.cell x1
        have g2 := Grow.cell x2
        have g3 := Grow.cell x3
        have g4 := Grow.cell x4
        have g5 := Grow.cell y6
        have HBW2 := Hold.mk HP.out.three.bel
        have u0 := cle_below HBW2.out _ _ _ HZC.out
        unfold cf at u0
        rw [Nat.add_zero, Nat.mul_one] at u0
        have g6 := Grow.cell u0
        clear y0 y1 y2 y3 y4 y5 y6 y7 y8 x0 x1 x2 x3 x4 u0
        refine wp_region_mix 13 rfl (by kernel_rfl) ?_
        rintro w3 hb3

        refine mixl_seg (by kernel_rfl) (fun _ _ d _ _ h => by cases d <;> exact h) [0, 1, 2, 3, 4, 5] [_, _, _, _, _, _] 7 13 rfl _ _ _ rfl (by kernel_rfl) (growC hb3) ?_
        repeat (go_big_quiet_step (fail))
        refine wpQuiet_nil ?_
        clear g0 g1 g2 g3 g4 g5 g6
        have HG4 := Hold.mk hb3
        clear hb3
        refine mixl_two (i := 6) (j := 10) rfl rfl (by kernel_rfl) (growC HG4.out) rfl rfl (fun K hK => ?_) (fun K hK => ?_)
        · go_wp2_with fail
          refine (rGetC_any c v _ p w3 ((HCL.out.trans (cfU_keep (HBW2.out.trans (HG4.out.mono HBW2.out.size)))).trans (cle_cfU _)) HX.out hps).mono ?_
          rintro e w5 hg
          obtain ⟨gk, gn, gt, gna, gnl, gnc, gia, gil, gic, rfl, hu, hb5⟩ := get_optC hg
          have HOU := Hold.mk hu
          have HG6 : Hold (Below w2.heap.size w2 w5) := ⟨HG4.out.trans (hb5.mono HG4.out.size)⟩
          clear hb5 hg hu
          go_wp2_with fail

          refine mixl_seg (by kernel_rfl) (fun _ _ d _ _ h => by cases d <;> exact h) [7, 8, 9] [_, _, _] 3 6 rfl _ _ _ rfl (by kernel_rfl) (growC HG6.out) ?_
          repeat (go_big_quiet_step (fail))
          refine wpQuiet_nil ?_
          refine mixl_act (i := 10) rfl (by kernel_rfl) (growC HG6.out) rfl (fun K hK => ?_)
          go_wp2_with fail
          have HWL : Hold (w2.heap.size ≤ w5.heap.size) := ⟨HG6.out.size⟩
          replace HG6 := Hold.mk (HG6.out.alloc HG6.out.size (.cells #[.int .i64 0, .int .i64 0, .string ⟨#[]⟩, .slice none 0 0, .slice none 0 0] 25))
          have HZB := Hold.mk (heap_alloc_new w5 (.cells #[.int .i64 0, .int .i64 0, .string ⟨#[]⟩, .slice none 0 0, .slice none 0 0] 25))
          generalize w5.alloc (.cells #[.int .i64 0, .int .i64 0, .string ⟨#[]⟩, .slice none 0 0, .slice none 0 0] 25) = w6 at HG6 HZB ⊢
          generalize w5.heap.size = zb at HZB HWL ⊢
          refine mixl_act (i := 11) rfl (by kernel_rfl) (growC HG6.out) rfl (fun K hK => ?_)
          obtain ⟨v0, v1, v2, v3, v4⟩ := cells_five HZB.out
          have q0 := free_box HZB.out 0
          have q1 := free_box HZB.out 1
          have q2 := free_box HZB.out 2
          have q3 := free_box HZB.out 3
          have q4 := free_box HZB.out 4
          go_wp2_with fail
          clear v0 v1 v2 v3 v4 q0 q1 q2 q3 q4
          have HZ6 := Hold.mk (set5_self (c0 := .int .i64 gk) (c1 := .int .i64 gn) (c2 := .string gt) (c3 := .slice gna gnl gnc) (c4 := .slice gia gil gic) HZB.out)
          replace HG6 := Hold.mk (set5_below (k := zb) (c0 := .int .i64 gk) (c1 := .int .i64 gn) (c2 := .string gt) (c3 := .slice gna gnl gnc) (c4 := .slice gia gil gic) HG6.out HWL.out)
          unfold set5 at HZ6 HG6
          generalize hw8 : ((((w6.setCell ⟨zb, 0, none⟩ (.int .i64 gk)).setCell ⟨zb, 1, none⟩ (.int .i64 gn)).setCell ⟨zb, 2, none⟩ (.string gt)).setCell ⟨zb, 3, none⟩ (.slice gna gnl gnc)).setCell ⟨zb, 4, none⟩ (.slice gia gil gic) = w8 at HZ6 HG6 ⊢
          clear hw8

          refine mixl_seg (by kernel_rfl) (fun _ _ d _ _ h => by cases d <;> exact h) [12] [_] 0 1 rfl _ _ _ rfl (by kernel_rfl) (growC HG6.out) ?_
          repeat (go_big_quiet_step (fail))
          refine wpQuiet_nil ?_
          refine mix_done (by kernel_rfl) (growC HG6.out) ?_
          have HVX : Hold (OBox c (getJ v p) w2 (.pointer (some ⟨zb, 0, none⟩)) (.bool (getJ v p).isSome) w8) := ⟨zb, gk, gn, gt, gna, gnl, gnc, gia, gil, gic, rfl, rfl, HZ6.out, HOU.out, HG6.out⟩
          go_wp2_with fail
          go_meet
          case rel => exact HVX.out
        · go_wp2_with fail
          have HZB := Hold.mk (heap_alloc_new w3 (.cells #[.int .i64 0, .int .i64 0, .string ⟨#[]⟩, .slice none 0 0, .slice none 0 0] 25))
          have HWL : Hold (w2.heap.size ≤ w3.heap.size) := ⟨HG4.out.size⟩
          have HGZ := Hold.mk (HG4.out.alloc HG4.out.size (.cells #[.int .i64 0, .int .i64 0, .string ⟨#[]⟩, .slice none 0 0, .slice none 0 0] 25))
          generalize w3.alloc (.cells #[.int .i64 0, .int .i64 0, .string ⟨#[]⟩, .slice none 0 0, .slice none 0 0] 25) = wz at HZB HGZ ⊢
          generalize w3.heap.size = zb at HZB HWL ⊢
          refine mixl_act (i := 6) rfl (by kernel_rfl) (growC HGZ.out) rfl (fun K hK => ?_)
          go_wp2_with fail
          refine (rGetC_any c v _ p wz ((HCL.out.trans (cfU_keep (HBW2.out.trans (HGZ.out.mono HBW2.out.size)))).trans (cle_cfU _)) HX.out hps).mono ?_
          rintro e w5 hg
          obtain ⟨gk, gn, gt, gna, gnl, gnc, gia, gil, gic, rfl, hu, hb5⟩ := get_optC hg
          have HOU := Hold.mk hu
          have HG6 : Hold (Below w2.heap.size w2 w5) := ⟨HGZ.out.trans (hb5.mono HGZ.out.size)⟩
          replace HZB := Hold.mk (kept HZB.out hb5)
          clear hb5 hg hu
          go_wp2_with fail

          refine mixl_seg (by kernel_rfl) (fun _ _ d _ _ h => by cases d <;> exact h) [7, 8, 9] [_, _, _] 2 5 rfl _ _ _ rfl (by kernel_rfl) (growC HG6.out) ?_
          repeat (go_big_quiet_step (fail))
          refine wpQuiet_nil ?_
          refine mixl_act (i := 11) rfl (by kernel_rfl) (growC HG6.out) rfl (fun K hK => ?_)
          obtain ⟨v0, v1, v2, v3, v4⟩ := cells_five HZB.out
          have q0 := free_box HZB.out 0
          have q1 := free_box HZB.out 1
          have q2 := free_box HZB.out 2
          have q3 := free_box HZB.out 3
          have q4 := free_box HZB.out 4
          go_wp2_with fail
          clear v0 v1 v2 v3 v4 q0 q1 q2 q3 q4
          have HZ6 := Hold.mk (set5_self (c0 := .int .i64 gk) (c1 := .int .i64 gn) (c2 := .string gt) (c3 := .slice gna gnl gnc) (c4 := .slice gia gil gic) HZB.out)
          replace HG6 := Hold.mk (set5_below (k := zb) (c0 := .int .i64 gk) (c1 := .int .i64 gn) (c2 := .string gt) (c3 := .slice gna gnl gnc) (c4 := .slice gia gil gic) HG6.out HWL.out)
          unfold set5 at HZ6 HG6
          generalize hw8 : ((((w5.setCell ⟨zb, 0, none⟩ (.int .i64 gk)).setCell ⟨zb, 1, none⟩ (.int .i64 gn)).setCell ⟨zb, 2, none⟩ (.string gt)).setCell ⟨zb, 3, none⟩ (.slice gna gnl gnc)).setCell ⟨zb, 4, none⟩ (.slice gia gil gic) = w8 at HZ6 HG6 ⊢
          clear hw8

          refine mixl_seg (by kernel_rfl) (fun _ _ d _ _ h => by cases d <;> exact h) [12] [_] 0 1 rfl _ _ _ rfl (by kernel_rfl) (growC HG6.out) ?_
          repeat (go_big_quiet_step (fail))
          refine wpQuiet_nil ?_
          refine mix_done (by kernel_rfl) (growC HG6.out) ?_
          have HVX : Hold (OBox c (getJ v p) w2 (.pointer (some ⟨zb, 0, none⟩)) (.bool (getJ v p).isSome) w8) := ⟨zb, gk, gn, gt, gna, gnl, gnc, gia, gil, gic, rfl, rfl, HZ6.out, HOU.out, HG6.out⟩
          go_wp2_with fail
          go_meet
          case rel => exact HVX.out
      case rest =>
      obtain ⟨gb, gk, gn, gt, gna, gnl, gnc, gia, gil, gic, rfl, rfl, hza, hou, hbx⟩ := hcut
      generalize wc = W3 at *
      have HZ3 := Hold.mk hza
      replace HP := Hold.mk (HP.out.next hbx)
      replace HB2 := Hold.mk hbx
      obtain ⟨g, hgg⟩ : ∃ g, getJ v p = g := ⟨_, rfl⟩
      rw [hgg] at hou ⊢
      have HGG := Hold.mk hgg
      have HGU := Hold.mk hou
      clear hgg hou hza hbx
      cases g with
      | none =>
        have HSK := Hold.mk (HP.out.skip HPP.out (projS_none HGG.out))
        cases hs : stepsF p with
        | none =>
          obtain rfl : er = 2 := by have := HER.out; rw [hs] at this; exact this.symm
          go_wp2_with fail
          exact ⟨⟨j + 1, out, ok, on, ot, _, _, _, _, _, _, by go_num, hlt, HSK.out⟩, by simp [intOf]; omega⟩
        | some l =>
          obtain rfl : er = 0 := by have := HER.out; rw [hs] at this; exact this.symm
          clear hs
          go_wp2_with fail
          exact ⟨⟨j + 1, out, ok, on, ot, _, _, _, _, _, _, by go_num, hlt, HSK.out⟩, by simp [intOf]; omega⟩
      | some u =>
        obtain ⟨l, hl⟩ := get_steps HGG.out
        have HLL := Hold.mk hl
        obtain rfl : er = 0 := by have := HER.out; rw [hl] at this; exact this.symm
        have HSA := Hold.mk ((HSL.out l hl).mono RS_mono (cle_below HB2.out))
        clear hl
        obtain ⟨y0, y1, y2, y3, y4⟩ := cells_five HP.out.box
        obtain ⟨x0, x1, x2, x3, x4⟩ := cells_five HZ3.out
        have HCW : Hold (CLe (cfV c (w.heap.size + 4) W3) (cfU W3.heap.size W3)) := ⟨(cfV_cf2 HCL.out HP.out.three.bel).trans (cle_cfU _)⟩
        have HPU := Hold.mk (rput_any l (steps_ne HLL.out) (cfV c (w.heap.size + 4) W3) out u _ _ _ W3 HCW.out HP.out.at_ HSA.out ((HGU.out u rfl).mono (cle_cfV HC4.out)) ⟨6, HP.out.formed⟩ (steps_small hps HLL.out))
        go_wp2_with fail
        refine HPU.out.mono ?_
        rintro e w5 ⟨pk, pn, pt, pna, pnl, pnc, pia, pil, pic, rfl, hpu, hb5⟩
        obtain ⟨r, hr⟩ : ∃ r, putJ l out u = r := ⟨_, rfl⟩
        rw [hr] at hpu ⊢
        have HRR := Hold.mk hr
        have HW4 : Hold (w.heap.size + 4 ≤ W3.heap.size) := ⟨heap_lt HP.out.box⟩
        obtain ⟨W6, hW6⟩ : ∃ W6, W6 = w5.alloc (.cells #[.int .i64 pk, .int .i64 pn, .string pt, .slice pna pnl pnc, .slice pia pil pic] 25) := ⟨_, rfl⟩
        have hb6 : Below w5.heap.size w5 W6 := by rw [hW6]; exact (Below.refl _ w5).alloc (Nat.le_refl _) _
        have HZ6 : Hold (W6.heap[w5.heap.size]? = some (.cells #[.int .i64 pk, .int .i64 pn, .string pt, .slice pna pnl pnc, .slice pia pil pic] 25 (0, 0))) := ⟨by rw [hW6]; exact heap_alloc_new w5 _⟩
        have HBL4 : Hold (Below W3.heap.size W3 W6) := ⟨hb5.trans (hb6.mono hb5.size)⟩
        have HBL5 := Hold.mk hb6
        have HPV := Hold.mk hpu
        have HCF : Hold (CLe (cfV (cfV c (w.heap.size + 4) W3) W3.heap.size w5) (cf W6)) := ⟨(cfV_cf2 HCW.out hb5).trans (cle_below hb6)⟩
        replace HP := Hold.mk (HP.out.next HBL4.out)
        clear hr hpu hb5 hb6 HPU HZ3 HSA x0 x1 x2 x3 x4 y0 y1 y2 y3 y4
        cases r with
        | none =>
          have HSK := Hold.mk (HP.out.skip HPP.out (projS_put HGG.out HLL.out HRR.out))
          subst hW6
          go_wp2_with fail
          exact ⟨⟨j + 1, out, ok, on, ot, _, _, _, _, _, _, by go_num, hlt, HSK.out⟩, by simp [intOf]; omega⟩
        | some y =>
          have HFM := Hold.mk (rFormed_any y _ W6 ((HPV.out y rfl).mono HCF.out))
          obtain ⟨fy, hfy⟩ : ∃ fy, formedF 6 y = fy := ⟨_, rfl⟩
          rw [← formed_law, hfy] at HFM
          have HFY := Hold.mk hfy
          clear hfy
          go_upto_region 11 with (fail)
          rw [← hW6]
          clear hW6
          generalize w5.heap.size = pb at HZ6 ⊢
          obtain ⟨x0, x1, x2, x3, x4⟩ := cells_five HZ6.out
          go_wp2_with fail
          refine HFM.out.mono ?_
          rintro e w7 ⟨rfl, hb7⟩
          replace HP := Hold.mk (HP.out.next hb7)
          replace HZ6 := Hold.mk (kept HZ6.out hb7)
          replace HBL4 := Hold.mk (HBL4.out.trans (hb7.mono HBL4.out.size))
          replace HBL5 := Hold.mk (HBL5.out.trans (hb7.mono HBL5.out.size))
          clear hb7 HFM x0 x1 x2 x3 x4
          cases fy with
          | false =>
            have HSK := Hold.mk (HP.out.skip HPP.out (projS_bad HGG.out HLL.out HRR.out HFY.out))
            go_wp2_with fail
            exact ⟨⟨j + 1, out, ok, on, ot, _, _, _, _, _, _, by go_num, hlt, HSK.out⟩, by simp [intOf]; omega⟩
          | true =>
            have HST := Hold.mk (HP.out.set HPP.out (projS_ok HGG.out HLL.out HRR.out HFY.out) HFY.out HW4.out HBL4.out HBL5.out (HPV.out y rfl))
            obtain ⟨x0, x1, x2, x3, x4⟩ := cells_five HZ6.out
            obtain ⟨z0, z1, z2, z3, z4⟩ := cells_five HP.out.box
            have f0 := free_box HP.out.box 0
            have f1 := free_box HP.out.box 1
            have f2 := free_box HP.out.box 2
            have f3 := free_box HP.out.box 3
            have f4 := free_box HP.out.box 4
            go_wp2_with fail
            exact ⟨⟨j + 1, y, pk, pn, pt, _, _, _, _, _, _, by go_num, hlt, HST.out⟩, by simp [intOf]; omega⟩
    · obtain rfl : j = q.fields.length := by omega
      have HE : Hold (projF q.fields v = out) := ⟨by rw [projF_some HNE.out, ← HP.out.eq, List.take_of_length_le (Nat.le_refl _)]⟩
      obtain ⟨y0, y1, y2, y3, y4, y5, y6, y7, y8⟩ := cells9A HP.out.three.one
      obtain ⟨x0, x1, x2, x3, x4⟩ := cells_five HP.out.box
      obtain ⟨z0, z1, z2, z3, z4⟩ := cells_five HP.out.three.three
      have f0 := free_box HP.out.three.three 0
      have f1 := free_box HP.out.three.three 1
      have f2 := free_box HP.out.three.three 2
      have f3 := free_box HP.out.three.three 3
      have f4 := free_box HP.out.three.three 4
      go_wp2_with fail
      obtain ⟨q0, q1, q2, q3, q4⟩ := cells_five (set5_self (c0 := .int .i64 ok) (c1 := .int .i64 on) (c2 := .string ot) (c3 := .slice ona onl onc) (c4 := .slice oia oil oic) HP.out.three.three)
      refine bodyPost_ret (v := .agg #[.int .i64 ok, .int .i64 on, .string ot, .slice ona onl onc, .slice oia oil oic]) (by simp [results, Tryz.results23, go_sem, q0, q1, q2, q3, q4]) rfl (proj_mk ?_ (set5_below HP.out.three.bel (by omega)))
      rw [HE.out]
      exact HP.out.at_.mono (cfV_to HCL.out (by omega) (fun b o u hb hu => by rw [set5_cells (by omega)]; exact hu))

end Go.Proofs.YtkhhbckpddkhlaaGreatDoor
