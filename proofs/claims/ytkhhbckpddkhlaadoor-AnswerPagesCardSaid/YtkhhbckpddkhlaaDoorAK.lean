/- Answers: put of the program walked. (printed by genXAK.py) -/
import Derived.Test.YtkhhbckpddkhlaaDoorAJ
namespace Go.Proofs.YtkhhbckpddkhlaaDoor
open Go.Shelf Go.RowKit

set_option maxRecDepth 100000 in
set_option maxHeartbeats 32000000 in
theorem put_step (s : ByteArray) (l : List ByteArray)
    (ih : l ≠ [] → ∀ (c : CF) (v x : JV) (vv lv xv : Value) (w : World), CLe c (cfU w.heap.size w) → JAt c v vv → SAt 1 RS (cf w) lv l → JAt c x xv → (∃ d, formedF d v = true) → (∀ y ∈ l, y.size ≤ 1000000) → Calls Tryd.prog 37 #[vv, lv, xv] w (PutPost c (putJ l v x) w))
    (c : CF) (v x : JV) (vv lv xv : Value) (w : World) (hc : CLe c (cfU w.heap.size w)) (hv : JAt c v vv) (hl : SAt 1 RS (cf w) lv (s :: l)) (hx : JAt c x xv) (hf : ∃ d, formedF d v = true) (hsz : ∀ y ∈ s :: l, y.size ≤ 1000000) :
    Calls Tryd.prog 37 #[vv, lv, xv] w (PutPost c (putJ (s :: l) v x) w) := by
  have HIH := Hold.mk ih
  have HCL := Hold.mk hc
  have HV := Hold.mk hv
  have HX := Hold.mk hx
  have HF := Hold.mk hf
  have HSZ := Hold.mk hsz
  have HC3 : Hold (CLe c (cfU (w.heap.size + 3) w)) := ⟨cle_upA hc (by omega)⟩
  obtain ⟨k, n, t, nm, it, na, ncap, ia, icap, rfl, rfl, _, _, _, hst, hit⟩ := hv.open
  obtain ⟨k2, n2, t2, nm2, it2, na2, ncap2, ia2, icap2, hxe, rfl, _⟩ := hx.open
  obtain ⟨L, hL⟩ : ∃ L, L = l.length + 1 := ⟨_, rfl⟩
  obtain ⟨la, lcap, rfl, hle, hcap, hel⟩ := id hl
  rw [List.length_cons, ← hL] at hl hle ⊢
  have HLN := Hold.mk hL
  have hL0 : 1 ≤ L := by omega
  obtain ⟨lb, lo, ld, rfl, _, hlc, hls⟩ := hel 0 s rfl
  obtain ⟨rfl, _⟩ := hls
  have HL := Hold.mk hl
  have HLC := Hold.mk (hlc 0 _ rfl)
  have HST := Hold.mk hst
  have HIT := Hold.mk hit
  have H3 := Hold.mk (ThreeA.refl w #[.int .i64 k, .int .i64 n, .string t, .slice na nm.length ncap, .slice ia it.length icap] #[.int .i64 k2, .int .i64 n2, .string t2, .slice na2 nm2.length ncap2, .slice ia2 it2.length icap2] #[.int .i64 0, .int .i64 0, .string ⟨#[]⟩, .slice none 0 0, .slice none 0 0] 25 25 25)
  clear ih hc hv hx hl hf hsz hel hlc hst hit hxe hL
  go_enter Tryd.func37, Tryd.ntmps37
  go_upto_region 1 with (fail)
  obtain ⟨W, hW⟩ : ∃ W, W = (((w.alloc (.cells #[.int .i64 k, .int .i64 n, .string t, .slice na nm.length ncap, .slice ia it.length icap] 25)).alloc (.cells #[.int .i64 k2, .int .i64 n2, .string t2, .slice na2 nm2.length ncap2, .slice ia2 it2.length icap2] 25)).alloc (.cells #[.int .i64 0, .int .i64 0, .string ⟨#[]⟩, .slice none 0 0, .slice none 0 0] 25)) := ⟨_, rfl⟩
  rw [← hW] at H3 ⊢
  clear hW
  obtain ⟨y0, y1, y2, y3, y4⟩ := cells_five H3.out.one
  by_cases h6 : k = 6
  case neg =>
    have HN : Hold (putJ (s :: l) (.mk k n t nm it) x = none) := ⟨by rw [putJ_step, if_neg (show ¬ (JV.mk k n t nm it).kind = 6 from h6)]⟩
    obtain ⟨z0, z1, z2, z3, z4⟩ := cells_five H3.out.three
    have f0 := free_box H3.out.three 0
    have f1 := free_box H3.out.three 1
    have f2 := free_box H3.out.three 2
    have f3 := free_box H3.out.three 3
    have f4 := free_box H3.out.three 4
    go_wp2_with fail
    obtain ⟨q0, q1, q2, q3, q4⟩ := cells_five (set5_self (c0 := .int .i64 k) (c1 := .int .i64 n) (c2 := .string t) (c3 := .slice na nm.length ncap) (c4 := .slice ia it.length icap) H3.out.three)
    exact bodyPost_ret (v := .tuple #[.agg #[.int .i64 k, .int .i64 n, .string t, .slice na nm.length ncap, .slice ia it.length icap], .bool false]) (by simp [results, Tryd.results37, go_sem, q0, q1, q2, q3, q4]) rfl (put_no HN.out (set5_below H3.out.bel (by omega)))
  subst h6
  have HO := Hold.mk (obj_facts HF.out rfl)
  have hup : Hold (upN nm) := ⟨HO.out.1⟩
  have HLEN : Hold (nm.length = it.length) := ⟨HO.out.2.1⟩
  have H24 : Hold (it.length ≤ 24) := ⟨HO.out.2.2.1⟩
  go_upto_region 3 with (fail)
  have g3 := Grow.cell y3
  have g5 := Grow.cell (cle_below H3.out.bel _ _ _ HLC.out)
  simp only [Nat.add_zero, Nat.zero_mul] at g5
  have HPL := Hold.mk (Calls.grow (fun e : Grow W => binS_any (HST.out.mono ((HCL.out.trans (cfU_keep H3.out.bel)).trans (cle_below e.property))) hup.out (by have := HLEN.out; have := H24.out; omega) s))
  clear y0 y1 y2 y3 y4
  refine wp_region_grow (by kernel_rfl) (by kernel_rfl) ?_
  repeat (go_big_quiet_step (exact HPL.out _))
  refine wpQuiet_nil ?_
  rintro ⟨w3, hb3⟩
  replace H3 := Hold.mk (H3.out.next hb3)
  simp only
  clear hb3 g3 g5 HPL
  obtain ⟨pl, hpl⟩ : ∃ pl, placeN nm s = pl := ⟨_, rfl⟩
  obtain ⟨hb, hhb⟩ : ∃ hb, hasN nm s = hb := ⟨_, rfl⟩
  have HPN := Hold.mk hpl
  have HHB := Hold.mk hhb
  rw [hpl, hhb]
  clear hpl hhb
  go_upto_if 29 with (fail)
  go_cut [10, 11, 12] (fun s10 s11 s12 wx => ∃ (q m : Int) (u : ByteArray) (a1 : Option Addr) (l1 c1 : Nat) (a2 : Option Addr) (l2 c2 : Nat) (r : JV), ThreeA w wx #[.int .i64 6, .int .i64 n, .string t, .slice na nm.length ncap, .slice ia it.length icap] #[.int .i64 q, .int .i64 m, .string u, .slice a1 l1 c1, .slice a2 l2 c2] #[.int .i64 0, .int .i64 0, .string ⟨#[]⟩, .slice none 0 0, .slice none 0 0] 25 25 25 ∧ withinJ l (innerJ (.mk 6 n t nm it) s) x = some r ∧ JAt (cfV c (w.heap.size + 3) wx) r (.agg #[.int .i64 q, .int .i64 m, .string u, .slice a1 l1 c1, .slice a2 l2 c2]))
  case first =>
    rcases l with _ | ⟨t1, l⟩
    · have hL1 : ¬ (1 : Int) < (L : Int) := by have := HLN.out; simp at this; omega
      have HRR : Hold (JAt (cfV c (w.heap.size + 3) w3) x (.agg #[.int .i64 k2, .int .i64 n2, .string t2, .slice na2 nm2.length ncap2, .slice ia2 it2.length icap2])) := ⟨HX.out.mono (cle_cfV HC3.out)⟩
      go_wp2_with fail
      go_meet
      case rel => exact ⟨k2, n2, t2, _, _, _, _, _, _, x, H3.out, rfl, HRR.out⟩
    · have hL1 : (1 : Int) < (L : Int) := by have := HLN.out; simp at this; omega
      go_upto_if 31 with (fail)
      obtain ⟨w4, hw4⟩ : ∃ w4, w4 = w3.alloc (.cells #[.int .i64 6, .int .i64 0, .string ⟨#[]⟩, .slice none 0 0, .slice none 0 0] 25) := ⟨_, rfl⟩
      have HZ4 : Hold (w4.heap[w3.heap.size]? = some (.cells #[.int .i64 6, .int .i64 0, .string ⟨#[]⟩, .slice none 0 0, .slice none 0 0] 25 (0, 0))) := ⟨by rw [hw4]; exact heap_alloc_new w3 _⟩
      have HB4 : Hold (Below w3.heap.size w3 w4) := ⟨by rw [hw4]; exact (Below.refl _ w3).alloc (Nat.le_refl _) _⟩
      rw [← hw4]
      clear hw4
      go_cut [] (fun wx => ∃ (kk kn : Int) (kt : ByteArray) (ka : Option Addr) (kl kc : Nat) (kia : Option Addr) (kil kic : Nat), wx.heap[w3.heap.size]? = some (.cells #[.int .i64 kk, .int .i64 kn, .string kt, .slice ka kl kc, .slice kia kil kic] 25 (0, 0)) ∧ JAt c (innerJ (.mk 6 n t nm it) s) (.agg #[.int .i64 kk, .int .i64 kn, .string kt, .slice ka kl kc, .slice kia kil kic]) ∧ Below w3.heap.size w3 wx)
      case first =>
        cases hb with
        | false =>
          have HRR : Hold (JAt c (innerJ (.mk 6 n t nm it) s) (.agg #[.int .i64 6, .int .i64 0, .string ⟨#[]⟩, .slice none 0 0, .slice none 0 0])) := ⟨by
            have e : innerJ (.mk 6 n t nm it) s = objE := by unfold innerJ; rw [show hasN (JV.mk 6 n t nm it).names s = false from HHB.out]
            rw [e]
            exact JAt.shut (by kernel_rfl) (by kernel_rfl) (by decide) ⟨none, 0, rfl, by decide, fun i x h => by simp at h⟩ ⟨none, 0, rfl, by decide, fun i x h => by simp at h⟩⟩
          go_wp2_with fail
          go_meet
          case rel => exact ⟨6, 0, _, _, _, _, _, _, _, HZ4.out, HRR.out, HB4.out⟩
        | true =>
          have hpm := (placeN_mem hup.out s).1 ((hasN_iff nm s).1 HHB.out)
          rw [HPN.out] at hpm
          have hql : pl < it.length := by have := (List.getElem?_eq_some_iff.1 hpm).1; have := HLEN.out; omega
          obtain ⟨xi, hxi⟩ : ∃ xi, it[pl]? = some xi := ⟨it[pl], List.getElem?_eq_getElem hql⟩
          obtain ⟨ia', icap', e, hilen, hiel⟩ := HIT.out
          cases e
          obtain ⟨bb, off, kk, kn, kt, knm, kit, ka, kc, kia, kic, rfl, hxe, x0, x1, x2, x3, x4, hxj⟩ := hiel pl xi hxi
          have HRR : Hold (JAt c (innerJ (.mk 6 n t nm it) s) (.agg #[.int .i64 kk, .int .i64 kn, .string kt, .slice ka knm.length kc, .slice kia kit.length kic])) := ⟨by
            have e : innerJ (.mk 6 n t nm it) s = xi := by
              unfold innerJ
              rw [show hasN (JV.mk 6 n t nm it).names s = true from HHB.out, show placeN (JV.mk 6 n t nm it).names s = pl from HPN.out]
              show (it[pl]?).getD objE = xi
              rw [hxi]; rfl
            rw [e]; exact hxj⟩
          have hcl := (HCL.out.trans (cfU_keep H3.out.bel)).trans (cle_below HB4.out)
          have z0 := hcl _ _ _ x0
          have z1 := hcl _ _ _ x1
          have z2 := hcl _ _ _ x2
          have z3 := hcl _ _ _ x3
          have z4 := hcl _ _ _ x4
          unfold cf at z0 z1 z2 z3 z4
          obtain ⟨y0, y1, y2, y3, y4⟩ := cells_five (kept H3.out.one HB4.out)
          obtain ⟨v0, v1, v2, v3, v4⟩ := cells_five HZ4.out
          have f0 := free_box HZ4.out 0
          have f1 := free_box HZ4.out 1
          have f2 := free_box HZ4.out 2
          have f3 := free_box HZ4.out 3
          have f4 := free_box HZ4.out 4
          clear x0 x1 x2 x3 x4 hxj hiel hxi hxe hpm hcl
          go_wp2_with fail
          go_meet
          case rel => exact ⟨kk, kn, kt, _, _, _, _, _, _, set5_self HZ4.out, HRR.out, set5_below HB4.out (Nat.le_refl _)⟩
      case rest =>
      obtain ⟨kk, kn, kt, ka, kl, kc, kia, kil, kic, hzi, hji, hb5⟩ := hcut
      generalize wc = w5 at *
      have HZI := Hold.mk hzi
      have HJI := Hold.mk hji
      have HI3 : Hold (ThreeA w w5 #[.int .i64 6, .int .i64 n, .string t, .slice na nm.length ncap, .slice ia it.length icap] #[.int .i64 k2, .int .i64 n2, .string t2, .slice na2 nm2.length ncap2, .slice ia2 it2.length icap2] #[.int .i64 0, .int .i64 0, .string ⟨#[]⟩, .slice none 0 0, .slice none 0 0] 25 25 25) := ⟨H3.out.next hb5⟩
      clear hzi hji hb5 HB4 HZ4
      obtain ⟨a', hsl0, hsl1⟩ := slice_tail (n := 1) Tryd.underlying22 (by kernel_rfl) infoStr (some ⟨lb, lo, none⟩) L lcap 1 hL0 hle hcap
      have hsl : ∀ w, (Instr.slice 22 (.slice (some ⟨lb, lo, none⟩) L lcap) (some (.int .i64 1)) none none).run Tryd.prog w = .ok (.slice a' (L - 1) (lcap - 1)) w := hsl0
      have HLT := Hold.mk (hsl1 (l := s :: t1 :: l) (by have := HLN.out; simp at this ⊢; omega) HL.out)
      clear hsl0 hsl1
      obtain ⟨r, hr⟩ : ∃ r, putJ (t1 :: l) (innerJ (.mk 6 n t nm it) s) x = r := ⟨_, rfl⟩
      have HR := Hold.mk hr
      have HPUT : Hold (∀ ww, Below w5.heap.size w5 ww → Calls Tryd.prog 37 #[.agg #[.int .i64 kk, .int .i64 kn, .string kt, .slice ka kl kc, .slice kia kil kic], .slice a' (L - 1) (lcap - 1), .agg #[.int .i64 k2, .int .i64 n2, .string t2, .slice na2 nm2.length ncap2, .slice ia2 it2.length icap2]] ww (PutPost c r ww)) := ⟨fun ww hbw => by
        rw [← hr]
        exact HIH.out (by simp) c _ x _ _ _ ww ((HCL.out.trans (cfU_keep (HI3.out.bel.trans (hbw.mono HI3.out.bel.size)))).trans (cle_cfU ww)) HJI.out (HLT.out.mono RS_mono (cle_below (HI3.out.bel.trans (hbw.mono HI3.out.bel.size)))) HX.out (inner_formed HF.out rfl s) (fun y hy => HSZ.out y (List.mem_cons_of_mem _ hy))⟩
      clear hr
      go_upto_region 8 with (fail)
      go_cut [11, 12] (fun s11 s12 wx => YBox c (w.heap.size + 3) r w5 s11 s12 wx)
      case first =>
        obtain ⟨y0, y1, y2, y3, y4⟩ := cells_five HZI.out
        obtain ⟨z0, z1, z2, z3, z4⟩ := cells_five HI3.out.two
        have g0 := Grow.cell y0
        have g1 := Grow.cell y1
        have g2 := Grow.cell y2
        have g3 := Grow.cell y3
        have g4 := Grow.cell y4
        have h0 := Grow.cell z0
        have h1 := Grow.cell z1
        have h2 := Grow.cell z2
        have h3 := Grow.cell z3
        have h4 := Grow.cell z4
        have HW3 : Hold (w.heap.size + 3 ≤ w5.heap.size) := ⟨heap_lt HI3.out.three⟩
        clear y0 y1 y2 y3 y4 z0 z1 z2 z3 z4
        refine wp_region_mix 11 rfl (by kernel_rfl) ?_
        rintro w6 hb6
        refine mixl_seg (by kernel_rfl) (fun _ _ d _ _ h => by cases d <;> exact h) [0, 1, 2, 3] [_, _, _, _] 7 11 rfl _ _ _ rfl (by kernel_rfl) (growC hb6) ?_
        repeat (go_big_quiet_step (fail))
        refine wpQuiet_nil ?_
        have HG := Hold.mk hb6
        clear hb6 g0 g1 g2 g3 g4 h0 h1 h2 h3 h4
        refine mixl_two (i := 4) (j := 8) rfl rfl (by kernel_rfl) (growC HG.out) rfl rfl (fun K hK => ?_) (fun K hK => ?_)
        · go_wp2_with fail
          refine (HPUT.out w6 HG.out).mono ?_
          rintro e w7 ⟨yk, yn, yt, yna, ynl, ync, yia, yil, yic, rfl, hu, hb7⟩
          have HOU0 := Hold.mk hu
          have HWS : Hold (w.heap.size + 3 ≤ w6.heap.size) := ⟨Nat.le_trans HW3.out HG.out.size⟩
          replace HG : Hold (Below w5.heap.size w5 w7) := ⟨HG.out.trans (hb7.mono HG.out.size)⟩
          clear hb7 hu
          go_wp2_with fail
          refine mixl_seg (by kernel_rfl) (fun _ _ d _ _ h => by cases d <;> exact h) [5, 6, 7] [_, _, _] 3 6 rfl _ _ _ rfl (by kernel_rfl) (growC HG.out) ?_
          repeat (go_big_quiet_step (fail))
          refine wpQuiet_nil ?_
          refine mixl_act (i := 8) rfl (by kernel_rfl) (growC HG.out) rfl (fun K hK => ?_)
          go_wp2_with fail
          have HWL : Hold (w5.heap.size ≤ w7.heap.size) := ⟨HG.out.size⟩
          replace HG := Hold.mk (HG.out.alloc HG.out.size (.cells #[.int .i64 0, .int .i64 0, .string ⟨#[]⟩, .slice none 0 0, .slice none 0 0] 25))
          have HZB := Hold.mk (heap_alloc_new w7 (.cells #[.int .i64 0, .int .i64 0, .string ⟨#[]⟩, .slice none 0 0, .slice none 0 0] 25))
          have HOU : Hold (∀ c0 c1 c2 c3 c4 : Value, ∀ u, r = some u → JAt (cfV c (w.heap.size + 3) (set5 (w7.alloc (.cells #[.int .i64 0, .int .i64 0, .string ⟨#[]⟩, .slice none 0 0, .slice none 0 0] 25)) w7.heap.size c0 c1 c2 c3 c4)) u (.agg #[.int .i64 yk, .int .i64 yn, .string yt, .slice yna ynl ync, .slice yia yil yic])) := ⟨fun c0 c1 c2 c3 c4 u hu => (HOU0.out u hu).mono (cfV_to HC3.out HWS.out (fun b o v hb hv => by
            have hlt := lt_of_cell hv
            rw [set5_cells (by omega)]
            exact Lib.cell?_alloc_some _ hv))⟩
          clear HOU0
          generalize w7.alloc (.cells #[.int .i64 0, .int .i64 0, .string ⟨#[]⟩, .slice none 0 0, .slice none 0 0] 25) = w8 at HG HZB HOU ⊢
          generalize w7.heap.size = zb at HZB HWL HOU ⊢
          refine mixl_act (i := 9) rfl (by kernel_rfl) (growC HG.out) rfl (fun K hK => ?_)
          obtain ⟨v0, v1, v2, v3, v4⟩ := cells_five HZB.out
          have q0 := free_box HZB.out 0
          have q1 := free_box HZB.out 1
          have q2 := free_box HZB.out 2
          have q3 := free_box HZB.out 3
          have q4 := free_box HZB.out 4
          go_wp2_with fail
          clear v0 v1 v2 v3 v4 q0 q1 q2 q3 q4
          have HZ6 := Hold.mk (set5_self (c0 := .int .i64 yk) (c1 := .int .i64 yn) (c2 := .string yt) (c3 := .slice yna ynl ync) (c4 := .slice yia yil yic) HZB.out)
          replace HG := Hold.mk (set5_below (k := zb) (c0 := .int .i64 yk) (c1 := .int .i64 yn) (c2 := .string yt) (c3 := .slice yna ynl ync) (c4 := .slice yia yil yic) HG.out HWL.out)
          replace HOU := Hold.mk (HOU.out (.int .i64 yk) (.int .i64 yn) (.string yt) (.slice yna ynl ync) (.slice yia yil yic))
          unfold set5 at HZ6 HG HOU
          generalize hw8 : ((((w8.setCell ⟨zb, 0, none⟩ (.int .i64 yk)).setCell ⟨zb, 1, none⟩ (.int .i64 yn)).setCell ⟨zb, 2, none⟩ (.string yt)).setCell ⟨zb, 3, none⟩ (.slice yna ynl ync)).setCell ⟨zb, 4, none⟩ (.slice yia yil yic) = w9 at HZ6 HG HOU ⊢
          clear hw8
          refine mixl_seg (by kernel_rfl) (fun _ _ d _ _ h => by cases d <;> exact h) [10] [_] 0 1 rfl _ _ _ rfl (by kernel_rfl) (growC HG.out) ?_
          repeat (go_big_quiet_step (fail))
          refine wpQuiet_nil ?_
          refine mix_done (by kernel_rfl) (growC HG.out) ?_
          have HVX : Hold (YBox c (w.heap.size + 3) r w5 (.pointer (some ⟨zb, 0, none⟩)) (.bool r.isSome) w9) := ⟨zb, yk, yn, yt, yna, ynl, ync, yia, yil, yic, rfl, rfl, HZ6.out, HOU.out, HG.out⟩
          go_wp2_with fail
          go_meet
          case rel => exact HVX.out
        · go_wp2_with fail
          have HZB := Hold.mk (heap_alloc_new w6 (.cells #[.int .i64 0, .int .i64 0, .string ⟨#[]⟩, .slice none 0 0, .slice none 0 0] 25))
          have HWL : Hold (w5.heap.size ≤ w6.heap.size) := ⟨HG.out.size⟩
          replace HG := Hold.mk (HG.out.alloc HG.out.size (.cells #[.int .i64 0, .int .i64 0, .string ⟨#[]⟩, .slice none 0 0, .slice none 0 0] 25))
          have HZS : Hold ((w6.alloc (.cells #[.int .i64 0, .int .i64 0, .string ⟨#[]⟩, .slice none 0 0, .slice none 0 0] 25)).heap.size = w6.heap.size + 1) := ⟨by simp⟩
          generalize w6.alloc (.cells #[.int .i64 0, .int .i64 0, .string ⟨#[]⟩, .slice none 0 0, .slice none 0 0] 25) = w7 at HZB HG HZS ⊢
          generalize w6.heap.size = zb at HZB HWL HZS ⊢
          refine mixl_act (i := 4) rfl (by kernel_rfl) (growC HG.out) rfl (fun K hK => ?_)
          go_wp2_with fail
          refine (HPUT.out w7 HG.out).mono ?_
          rintro e w8 ⟨yk, yn, yt, yna, ynl, ync, yia, yil, yic, rfl, hu, hb7⟩
          replace HZB := Hold.mk (kept HZB.out hb7)
          replace HG : Hold (Below w5.heap.size w5 w8) := ⟨HG.out.trans (hb7.mono HG.out.size)⟩
          have HOU : Hold (∀ c0 c1 c2 c3 c4 : Value, ∀ u, r = some u → JAt (cfV c (w.heap.size + 3) (set5 w8 zb c0 c1 c2 c3 c4)) u (.agg #[.int .i64 yk, .int .i64 yn, .string yt, .slice yna ynl ync, .slice yia yil yic])) := ⟨fun c0 c1 c2 c3 c4 u hq => (hu u hq).mono (cfV_to HC3.out (by have := HW3.out; have := HWL.out; have := HZS.out; omega) (fun b o v hbb hv => by
            rw [set5_cells (by have := HZS.out; omega)]; exact hv))⟩
          clear hb7 hu
          go_wp2_with fail
          refine mixl_seg (by kernel_rfl) (fun _ _ d _ _ h => by cases d <;> exact h) [5, 6, 7] [_, _, _] 2 5 rfl _ _ _ rfl (by kernel_rfl) (growC HG.out) ?_
          repeat (go_big_quiet_step (fail))
          refine wpQuiet_nil ?_
          refine mixl_act (i := 9) rfl (by kernel_rfl) (growC HG.out) rfl (fun K hK => ?_)
          obtain ⟨v0, v1, v2, v3, v4⟩ := cells_five HZB.out
          have q0 := free_box HZB.out 0
          have q1 := free_box HZB.out 1
          have q2 := free_box HZB.out 2
          have q3 := free_box HZB.out 3
          have q4 := free_box HZB.out 4
          go_wp2_with fail
          clear v0 v1 v2 v3 v4 q0 q1 q2 q3 q4
          have HZ6 := Hold.mk (set5_self (c0 := .int .i64 yk) (c1 := .int .i64 yn) (c2 := .string yt) (c3 := .slice yna ynl ync) (c4 := .slice yia yil yic) HZB.out)
          replace HG := Hold.mk (set5_below (k := zb) (c0 := .int .i64 yk) (c1 := .int .i64 yn) (c2 := .string yt) (c3 := .slice yna ynl ync) (c4 := .slice yia yil yic) HG.out HWL.out)
          replace HOU := Hold.mk (HOU.out (.int .i64 yk) (.int .i64 yn) (.string yt) (.slice yna ynl ync) (.slice yia yil yic))
          unfold set5 at HZ6 HG HOU
          generalize hw8 : ((((w8.setCell ⟨zb, 0, none⟩ (.int .i64 yk)).setCell ⟨zb, 1, none⟩ (.int .i64 yn)).setCell ⟨zb, 2, none⟩ (.string yt)).setCell ⟨zb, 3, none⟩ (.slice yna ynl ync)).setCell ⟨zb, 4, none⟩ (.slice yia yil yic) = w9 at HZ6 HG HOU ⊢
          clear hw8
          refine mixl_seg (by kernel_rfl) (fun _ _ d _ _ h => by cases d <;> exact h) [10] [_] 0 1 rfl _ _ _ rfl (by kernel_rfl) (growC HG.out) ?_
          repeat (go_big_quiet_step (fail))
          refine wpQuiet_nil ?_
          refine mix_done (by kernel_rfl) (growC HG.out) ?_
          have HVX : Hold (YBox c (w.heap.size + 3) r w5 (.pointer (some ⟨zb, 0, none⟩)) (.bool r.isSome) w9) := ⟨zb, yk, yn, yt, yna, ynl, ync, yia, yil, yic, rfl, rfl, HZ6.out, HOU.out, HG.out⟩
          go_wp2_with fail
          go_meet
          case rel => exact HVX.out
      case rest =>
      obtain ⟨yb, yk, yn, yt, yna, ynl, ync, yia, yil, yic, rfl, rfl, hyb, hyj, hb7⟩ := hcut
      generalize wc = w7 at *
      replace HI3 := Hold.mk (HI3.out.next hb7)
      have HYB := Hold.mk hyb
      have HYJ := Hold.mk hyj
      clear hyb hyj hb7 HPUT HZI HJI
      obtain ⟨y0, y1, y2, y3, y4⟩ := cells_five HI3.out.one
      obtain ⟨z0, z1, z2, z3, z4⟩ := cells_five HI3.out.three
      cases r with
      | none =>
        have HN : Hold (putJ (s :: t1 :: l) (.mk 6 n t nm it) x = none) := ⟨by
          rw [putJ_step, if_pos (show (JV.mk 6 n t nm it).kind = 6 from rfl)]
          show (putJ (t1 :: l) _ x).map _ = none
          rw [HR.out]; rfl⟩
        have f0 := free_box HI3.out.three 0
        have f1 := free_box HI3.out.three 1
        have f2 := free_box HI3.out.three 2
        have f3 := free_box HI3.out.three 3
        have f4 := free_box HI3.out.three 4
        go_wp2_with fail
        obtain ⟨q0, q1, q2, q3, q4⟩ := cells_five (set5_self (c0 := .int .i64 6) (c1 := .int .i64 n) (c2 := .string t) (c3 := .slice na nm.length ncap) (c4 := .slice ia it.length icap) HI3.out.three)
        exact bodyPost_ret (v := .tuple #[.agg #[.int .i64 6, .int .i64 n, .string t, .slice na nm.length ncap, .slice ia it.length icap], .bool false]) (by simp [results, Tryd.results37, go_sem, q0, q1, q2, q3, q4]) rfl (put_no HN.out (set5_below HI3.out.bel (by omega)))
      | some y =>
        obtain ⟨v0, v1, v2, v3, v4⟩ := cells_five HYB.out
        obtain ⟨x0, x1, x2, x3, x4⟩ := cells_five HI3.out.two
        have f0 := free_box HI3.out.two 0
        have f1 := free_box HI3.out.two 1
        have f2 := free_box HI3.out.two 2
        have f3 := free_box HI3.out.two 3
        have f4 := free_box HI3.out.two 4
        have HRR : Hold (JAt (cfV c (w.heap.size + 3) (set5 w7 (w.heap.size + 1) (.int .i64 yk) (.int .i64 yn) (.string yt) (.slice yna ynl ync) (.slice yia yil yic))) y (.agg #[.int .i64 yk, .int .i64 yn, .string yt, .slice yna ynl ync, .slice yia yil yic])) := ⟨(HYJ.out y rfl).mono (cfV_to HC3.out (Nat.le_refl _) (fun b o v hbb hv => by rw [set5_cells (by omega)]; exact hv))⟩
        have HTT : Hold (ThreeA w (set5 w7 (w.heap.size + 1) (.int .i64 yk) (.int .i64 yn) (.string yt) (.slice yna ynl ync) (.slice yia yil yic)) #[.int .i64 6, .int .i64 n, .string t, .slice na nm.length ncap, .slice ia it.length icap] #[.int .i64 yk, .int .i64 yn, .string yt, .slice yna ynl ync, .slice yia yil yic] #[.int .i64 0, .int .i64 0, .string ⟨#[]⟩, .slice none 0 0, .slice none 0 0] 25 25 25) := ⟨set5_below HI3.out.bel (by omega), by rw [set5_other (by omega)]; exact HI3.out.one, set5_self HI3.out.two, by rw [set5_other (by omega)]; exact HI3.out.three⟩
        go_wp2_with fail
        go_meet
        case rel => exact ⟨yk, yn, yt, _, _, _, _, _, _, y, HTT.out, HR.out, HRR.out⟩
  case rest =>
    obtain ⟨q, m, u, a1, l1, c1, a2, l2, c2, r, h3, hwi, hrj⟩ := hcut
    generalize wc = wb at *
    replace H3 := Hold.mk h3
    have HWI := Hold.mk hwi
    have HRJ := Hold.mk hrj
    have HW3 : Hold (w.heap.size + 3 ≤ wb.heap.size) := ⟨heap_lt h3.three⟩
    have HVC : Hold (CLe (cfV c (w.heap.size + 3) wb) (cf wb)) := ⟨cfV_cf2 HCL.out h3.bel⟩
    have HCN : Hold (∀ ww, Below wb.heap.size wb ww → Calls Tryd.prog 59 #[.slice na nm.length ncap] ww (CloneC 9 1 (nm.map .string) nm.length ww)) := ⟨fun ww hbw =>
      cloneN_any nm _ ww (HST.out.mono ((cle_cfV HC3.out).trans (HVC.out.trans (cle_below hbw)))) (by have := HLEN.out; have := H24.out; omega)⟩
    have HCI : Hold (∀ ww, Below wb.heap.size wb ww → Calls Tryd.prog 60 #[.slice ia it.length icap] ww (CloneI (cfV c (w.heap.size + 3) wb) it ww)) := ⟨fun ww hbw =>
      cloneI_any (cfV c (w.heap.size + 3) wb) it _ ww (HVC.out.trans (cle_below hbw)) (ItemsAt.mono HIT.out (cle_cfV HC3.out)) (by have := H24.out; omega)⟩
    clear h3 hwi hrj HIH
    go_upto_region 12 with (fail)
    go_cut [13] (fun s13 wx => ∃ (zb : Nat) (nv iv : Value) (cs : List Value), s13 = .pointer (some ⟨zb, 0, none⟩) ∧ PBox (cfV c (w.heap.size + 3) wb) wb.heap.size wx zb nv iv nm it cs ∧ Below wb.heap.size wb wx)
    case first =>
      obtain ⟨y0, y1, y2, y3, y4⟩ := cells_five H3.out.one
      have g3 := Grow.cell y3
      have g4 := Grow.cell y4
      clear y0 y1 y2 y3 y4
      refine wp_region_mix 9 rfl (by kernel_rfl) ?_
      rintro w6 hb6
      refine mixl_seg (by kernel_rfl) (fun _ _ d _ _ h => by cases d <;> exact h) [0, 1, 3, 4] [_, _, _, _] 5 9 rfl _ _ _ rfl (by kernel_rfl) (growC hb6) ?_
      repeat (go_big_quiet_step (fail))
      refine wpQuiet_nil ?_
      have HG := Hold.mk hb6
      clear hb6 g3 g4
      refine mixl_two (i := 2) (j := 7) rfl rfl (by kernel_rfl) (growC HG.out) rfl rfl (fun K hK => ?_) (fun K hK => ?_)
      · skip
        go_wp2_with fail
        refine (HCN.out w6 HG.out).mono ?_
        rintro e w7 ⟨nv, rfl, hown, hb7⟩
        obtain ⟨nva, nvc, rfl, _, _⟩ := own_shapeA hown
        have HNL : Hold (w6.heap.size ≤ w7.heap.size ∧ ∀ g, (Value.slice nva nm.length nvc).ownBlock = some g → w6.heap.size ≤ g ∧ g < w7.heap.size) := ⟨hb7.size, fun g hg => hown.lt g hg⟩
        have HN := Hold.mk (own_baseA hown HG.out.size)
        replace HG : Hold (Below wb.heap.size wb w7) := ⟨HG.out.trans (hb7.mono HG.out.size)⟩
        clear hb7 hown
        go_wp2_with fail
        refine mixl_two (i := 5) (j := 7) rfl rfl (by kernel_rfl) (growC HG.out) rfl rfl (fun K hK => ?_) (fun K hK => ?_)
        · skip
          go_wp2_with fail
          refine (HCI.out w7 HG.out).mono ?_
          rintro e w8 ⟨cs, hgr, iv, rfl, hown, hb8⟩
          obtain ⟨iva, ivc, rfl, _, _⟩ := own_shapeA hown
          have HIL : Hold (∀ g, (Value.slice iva it.length ivc).ownBlock = some g → w7.heap.size ≤ g ∧ g < w8.heap.size) := ⟨fun g hg => hown.lt g hg⟩
          have HI := Hold.mk (own_baseA hown HG.out.size)
          have HGR := Hold.mk hgr
          replace HN := Hold.mk (own_quietA HN.out hb8)
          replace HG : Hold (Below wb.heap.size wb w8) := ⟨HG.out.trans (hb8.mono HG.out.size)⟩
          have HAP : Hold (∀ g, (Value.slice nva nm.length nvc).ownBlock = some g → (Value.slice iva it.length ivc).ownBlock ≠ some g) := ⟨fun g hg e => by have := (HNL.out.2 g hg).2; have := (HIL.out g e).1; omega⟩
          have HSZ8 : Hold (w7.heap.size ≤ w8.heap.size) := ⟨hb8.size⟩
          clear hb8 hown hgr
          go_wp2_with fail
          refine mixl_seg (by kernel_rfl) (fun _ _ d _ _ h => by cases d <;> exact h) [6] [_] 2 3 rfl _ _ _ rfl (by kernel_rfl) (growC HG.out) ?_
          repeat (go_big_quiet_step (fail))
          refine wpQuiet_nil ?_
          refine mixl_act (i := 7) rfl (by kernel_rfl) (growC HG.out) rfl (fun K hK => ?_)
          go_wp2_with fail
          have hbz : Below w8.heap.size w8 (w8.alloc (.cells #[.int .i64 0, .int .i64 0, .string ⟨#[]⟩, .slice none 0 0, .slice none 0 0] 25)) := (Below.refl _ w8).alloc (Nat.le_refl _) _
          have HWL : Hold (wb.heap.size ≤ w8.heap.size) := ⟨HG.out.size⟩
          replace HG := Hold.mk (HG.out.alloc HG.out.size (.cells #[.int .i64 0, .int .i64 0, .string ⟨#[]⟩, .slice none 0 0, .slice none 0 0] 25))
          have HZB := Hold.mk (heap_alloc_new w8 (.cells #[.int .i64 0, .int .i64 0, .string ⟨#[]⟩, .slice none 0 0, .slice none 0 0] 25))
          replace HN := Hold.mk (own_quietA HN.out hbz)
          replace HI := Hold.mk (own_quietA HI.out hbz)
          clear hbz
          generalize w8.alloc (.cells #[.int .i64 0, .int .i64 0, .string ⟨#[]⟩, .slice none 0 0, .slice none 0 0] 25) = wz at HG HZB HN HI ⊢
          have HA1 : Hold (∀ g, (Value.slice iva it.length ivc).ownBlock = some g → g ≠ w8.heap.size) := ⟨fun g hg => by have := (HIL.out g hg).2; omega⟩
          have HA2 : Hold (∀ g, (Value.slice nva nm.length nvc).ownBlock = some g → g ≠ w8.heap.size ∧ (Value.slice iva it.length ivc).ownBlock ≠ some g) := ⟨fun g hg => ⟨by have := (HNL.out.2 g hg).2; have := HSZ8.out; omega, HAP.out g hg⟩⟩
          generalize w8.heap.size = zb at HZB HWL HA1 HA2 ⊢
          refine mixl_act (i := 8) rfl (by kernel_rfl) (growC HG.out) rfl (fun K hK => ?_)
          obtain ⟨v0, v1, v2, v3, v4⟩ := cells_five HZB.out
          have q0 := free_box HZB.out 0
          have q1 := free_box HZB.out 1
          have q2 := free_box HZB.out 2
          have q3 := free_box HZB.out 3
          have q4 := free_box HZB.out 4
          go_wp2_with fail
          clear v0 v1 v2 v3 v4 q0 q1 q2 q3 q4
          have HPB := Hold.mk (PBox.make (c := cfV c (w.heap.size + 3) wb) HZB.out HN.out HI.out HGR.out HWL.out HA1.out HA2.out)
          replace HG := Hold.mk (set5_below (k := zb) (c0 := .int .i64 6) (c1 := .int .i64 0) (c2 := .string ⟨#[]⟩) (c3 := .slice nva nm.length nvc) (c4 := .slice iva it.length ivc) HG.out HWL.out)
          unfold set5 at HG HPB
          generalize hw9 : ((((wz.setCell ⟨zb, 0, none⟩ (.int .i64 6)).setCell ⟨zb, 1, none⟩ (.int .i64 0)).setCell ⟨zb, 2, none⟩ (.string ⟨#[]⟩)).setCell ⟨zb, 3, none⟩ (.slice nva nm.length nvc)).setCell ⟨zb, 4, none⟩ (.slice iva it.length ivc) = w9 at HG HPB ⊢
          clear hw9
          refine mix_done (by kernel_rfl) (growC HG.out) ?_
          go_wp2_with fail
          go_meet
          case rel => exact ⟨zb, _, _, cs, rfl, HPB.out, HG.out⟩
        · skip
          go_wp2_with fail
          have hbz : Below w7.heap.size w7 (w7.alloc (.cells #[.int .i64 0, .int .i64 0, .string ⟨#[]⟩, .slice none 0 0, .slice none 0 0] 25)) := (Below.refl _ w7).alloc (Nat.le_refl _) _
          have HWL : Hold (wb.heap.size ≤ w7.heap.size) := ⟨HG.out.size⟩
          replace HG := Hold.mk (HG.out.alloc HG.out.size (.cells #[.int .i64 0, .int .i64 0, .string ⟨#[]⟩, .slice none 0 0, .slice none 0 0] 25))
          have HZB := Hold.mk (heap_alloc_new w7 (.cells #[.int .i64 0, .int .i64 0, .string ⟨#[]⟩, .slice none 0 0, .slice none 0 0] 25))
          replace HN := Hold.mk (own_quietA HN.out hbz)
          have HZS : Hold ((w7.alloc (.cells #[.int .i64 0, .int .i64 0, .string ⟨#[]⟩, .slice none 0 0, .slice none 0 0] 25)).heap.size = w7.heap.size + 1) := ⟨by simp⟩
          clear hbz
          generalize w7.alloc (.cells #[.int .i64 0, .int .i64 0, .string ⟨#[]⟩, .slice none 0 0, .slice none 0 0] 25) = wy at HG HZB HN HZS ⊢
          refine mixl_act (i := 5) rfl (by kernel_rfl) (growC HG.out) rfl (fun K hK => ?_)
          go_wp2_with fail
          refine (HCI.out wy HG.out).mono ?_
          rintro e wz ⟨cs, hgr, iv, rfl, hown, hb8⟩
          obtain ⟨iva, ivc, rfl, _, _⟩ := own_shapeA hown
          have HIL : Hold (∀ g, (Value.slice iva it.length ivc).ownBlock = some g → wy.heap.size ≤ g ∧ g < wz.heap.size) := ⟨fun g hg => hown.lt g hg⟩
          have HI := Hold.mk (own_baseA hown HG.out.size)
          have HGR := Hold.mk hgr
          replace HN := Hold.mk (own_quietA HN.out hb8)
          replace HG : Hold (Below wb.heap.size wb wz) := ⟨HG.out.trans (hb8.mono HG.out.size)⟩
          replace HZB := Hold.mk (kept HZB.out hb8)
          have HA1 : Hold (∀ g, (Value.slice iva it.length ivc).ownBlock = some g → g ≠ w7.heap.size) := ⟨fun g hg => by have := (HIL.out g hg).1; have := HZS.out; omega⟩
          have HA2 : Hold (∀ g, (Value.slice nva nm.length nvc).ownBlock = some g → g ≠ w7.heap.size ∧ (Value.slice iva it.length ivc).ownBlock ≠ some g) := ⟨fun g hg => ⟨by have := (HNL.out.2 g hg).2; omega, fun e => by have := (HNL.out.2 g hg).2; have := (HIL.out g e).1; have := HZS.out; omega⟩⟩
          clear hb8 hown hgr
          generalize w7.heap.size = zb at HZB HWL HA1 HA2 ⊢
          go_wp2_with fail
          refine mixl_seg (by kernel_rfl) (fun _ _ d _ _ h => by cases d <;> exact h) [6] [_] 1 2 rfl _ _ _ rfl (by kernel_rfl) (growC HG.out) ?_
          repeat (go_big_quiet_step (fail))
          refine wpQuiet_nil ?_
          refine mixl_act (i := 8) rfl (by kernel_rfl) (growC HG.out) rfl (fun K hK => ?_)
          obtain ⟨v0, v1, v2, v3, v4⟩ := cells_five HZB.out
          have q0 := free_box HZB.out 0
          have q1 := free_box HZB.out 1
          have q2 := free_box HZB.out 2
          have q3 := free_box HZB.out 3
          have q4 := free_box HZB.out 4
          go_wp2_with fail
          clear v0 v1 v2 v3 v4 q0 q1 q2 q3 q4
          have HPB := Hold.mk (PBox.make (c := cfV c (w.heap.size + 3) wb) HZB.out HN.out HI.out HGR.out HWL.out HA1.out HA2.out)
          replace HG := Hold.mk (set5_below (k := zb) (c0 := .int .i64 6) (c1 := .int .i64 0) (c2 := .string ⟨#[]⟩) (c3 := .slice nva nm.length nvc) (c4 := .slice iva it.length ivc) HG.out HWL.out)
          unfold set5 at HG HPB
          generalize hw9 : ((((wz.setCell ⟨zb, 0, none⟩ (.int .i64 6)).setCell ⟨zb, 1, none⟩ (.int .i64 0)).setCell ⟨zb, 2, none⟩ (.string ⟨#[]⟩)).setCell ⟨zb, 3, none⟩ (.slice nva nm.length nvc)).setCell ⟨zb, 4, none⟩ (.slice iva it.length ivc) = w9 at HG HPB ⊢
          clear hw9
          refine mix_done (by kernel_rfl) (growC HG.out) ?_
          go_wp2_with fail
          go_meet
          case rel => exact ⟨zb, _, _, cs, rfl, HPB.out, HG.out⟩
      · skip
        go_wp2_with fail
        have hbz : Below w6.heap.size w6 (w6.alloc (.cells #[.int .i64 0, .int .i64 0, .string ⟨#[]⟩, .slice none 0 0, .slice none 0 0] 25)) := (Below.refl _ w6).alloc (Nat.le_refl _) _
        have HWL : Hold (wb.heap.size ≤ w6.heap.size) := ⟨HG.out.size⟩
        replace HG := Hold.mk (HG.out.alloc HG.out.size (.cells #[.int .i64 0, .int .i64 0, .string ⟨#[]⟩, .slice none 0 0, .slice none 0 0] 25))
        have HZB := Hold.mk (heap_alloc_new w6 (.cells #[.int .i64 0, .int .i64 0, .string ⟨#[]⟩, .slice none 0 0, .slice none 0 0] 25))
        have HZS : Hold ((w6.alloc (.cells #[.int .i64 0, .int .i64 0, .string ⟨#[]⟩, .slice none 0 0, .slice none 0 0] 25)).heap.size = w6.heap.size + 1) := ⟨by simp⟩
        clear hbz
        generalize w6.alloc (.cells #[.int .i64 0, .int .i64 0, .string ⟨#[]⟩, .slice none 0 0, .slice none 0 0] 25) = wx at HG HZB HZS ⊢
        refine mixl_act (i := 2) rfl (by kernel_rfl) (growC HG.out) rfl (fun K hK => ?_)
        go_wp2_with fail
        refine (HCN.out wx HG.out).mono ?_
        rintro e wy ⟨nv, rfl, hown, hb7⟩
        obtain ⟨nva, nvc, rfl, _, _⟩ := own_shapeA hown
        have HNL : Hold (wx.heap.size ≤ wy.heap.size ∧ ∀ g, (Value.slice nva nm.length nvc).ownBlock = some g → wx.heap.size ≤ g ∧ g < wy.heap.size) := ⟨hb7.size, fun g hg => hown.lt g hg⟩
        have HN := Hold.mk (own_baseA hown HG.out.size)
        replace HG : Hold (Below wb.heap.size wb wy) := ⟨HG.out.trans (hb7.mono HG.out.size)⟩
        replace HZB := Hold.mk (kept HZB.out hb7)
        clear hb7 hown
        go_wp2_with fail
        refine mixl_act (i := 5) rfl (by kernel_rfl) (growC HG.out) rfl (fun K hK => ?_)
        go_wp2_with fail
        refine (HCI.out wy HG.out).mono ?_
        rintro e wz ⟨cs, hgr, iv, rfl, hown, hb8⟩
        obtain ⟨iva, ivc, rfl, _, _⟩ := own_shapeA hown
        have HIL : Hold (∀ g, (Value.slice iva it.length ivc).ownBlock = some g → wy.heap.size ≤ g ∧ g < wz.heap.size) := ⟨fun g hg => hown.lt g hg⟩
        have HI := Hold.mk (own_baseA hown HG.out.size)
        have HGR := Hold.mk hgr
        replace HN := Hold.mk (own_quietA HN.out hb8)
        replace HG : Hold (Below wb.heap.size wb wz) := ⟨HG.out.trans (hb8.mono HG.out.size)⟩
        replace HZB := Hold.mk (kept HZB.out hb8)
        have HA1 : Hold (∀ g, (Value.slice iva it.length ivc).ownBlock = some g → g ≠ w6.heap.size) := ⟨fun g hg => by have := (HIL.out g hg).1; have := HNL.out.1; have := HZS.out; omega⟩
        have HA2 : Hold (∀ g, (Value.slice nva nm.length nvc).ownBlock = some g → g ≠ w6.heap.size ∧ (Value.slice iva it.length ivc).ownBlock ≠ some g) := ⟨fun g hg => ⟨by have := (HNL.out.2 g hg).1; have := HZS.out; omega, fun e => by have := (HNL.out.2 g hg).2; have := (HIL.out g e).1; omega⟩⟩
        clear hb8 hown hgr
        generalize w6.heap.size = zb at HZB HWL HA1 HA2 ⊢
        go_wp2_with fail
        refine mixl_seg (by kernel_rfl) (fun _ _ d _ _ h => by cases d <;> exact h) [6] [_] 1 2 rfl _ _ _ rfl (by kernel_rfl) (growC HG.out) ?_
        repeat (go_big_quiet_step (fail))
        refine wpQuiet_nil ?_
        refine mixl_act (i := 8) rfl (by kernel_rfl) (growC HG.out) rfl (fun K hK => ?_)
        obtain ⟨v0, v1, v2, v3, v4⟩ := cells_five HZB.out
        have q0 := free_box HZB.out 0
        have q1 := free_box HZB.out 1
        have q2 := free_box HZB.out 2
        have q3 := free_box HZB.out 3
        have q4 := free_box HZB.out 4
        go_wp2_with fail
        clear v0 v1 v2 v3 v4 q0 q1 q2 q3 q4
        have HPB := Hold.mk (PBox.make (c := cfV c (w.heap.size + 3) wb) HZB.out HN.out HI.out HGR.out HWL.out HA1.out HA2.out)
        replace HG := Hold.mk (set5_below (k := zb) (c0 := .int .i64 6) (c1 := .int .i64 0) (c2 := .string ⟨#[]⟩) (c3 := .slice nva nm.length nvc) (c4 := .slice iva it.length ivc) HG.out HWL.out)
        unfold set5 at HG HPB
        generalize hw9 : ((((wz.setCell ⟨zb, 0, none⟩ (.int .i64 6)).setCell ⟨zb, 1, none⟩ (.int .i64 0)).setCell ⟨zb, 2, none⟩ (.string ⟨#[]⟩)).setCell ⟨zb, 3, none⟩ (.slice nva nm.length nvc)).setCell ⟨zb, 4, none⟩ (.slice iva it.length ivc) = w9 at HG HPB ⊢
        clear hw9
        refine mix_done (by kernel_rfl) (growC HG.out) ?_
        go_wp2_with fail
        go_meet
        case rel => exact ⟨zb, _, _, cs, rfl, HPB.out, HG.out⟩
    case rest =>
    obtain ⟨zb, nv, iv, cs, rfl, hp, hbp⟩ := hcut
    generalize wc = wp at *
    obtain ⟨nva, nvc, rfl, _, _⟩ := own_shapeA hp.n
    obtain ⟨iva, ivc, rfl, _, _⟩ := own_shapeA hp.i
    have HP := Hold.mk hp
    have HBP := Hold.mk hbp
    have HX3 : Hold (ThreeA w wp #[.int .i64 6, .int .i64 n, .string t, .slice na nm.length ncap, .slice ia it.length icap] #[.int .i64 q, .int .i64 m, .string u, .slice a1 l1 c1, .slice a2 l2 c2] #[.int .i64 0, .int .i64 0, .string ⟨#[]⟩, .slice none 0 0, .slice none 0 0] 25 25 25) := ⟨H3.out.next hbp⟩
    have HRV : Hold (RV (cfV c (w.heap.size + 3) wb) r [.int .i64 q, .int .i64 m, .string u, .slice a1 l1 c1, .slice a2 l2 c2]) := ⟨rfl, by simp [Value.oneCell'], HRJ.out⟩
    clear hp hbp HCN HCI HVC
    go_upto_if 56 with (fail)
    go_cut [] (fun wx => ∃ (nv iv : Value) (cs : List Value), PBox (cfV c (w.heap.size + 3) wb) wb.heap.size wx zb nv iv (setN nm s) (setI nm it s r) cs ∧ Below wb.heap.size wb wx)
    case first =>
      cases hb with
      | true =>
        have hpm := (placeN_mem hup.out s).1 ((hasN_iff nm s).1 HHB.out)
        rw [HPN.out] at hpm
        have hql : pl < it.length := by have := (List.getElem?_eq_some_iff.1 hpm).1; have := HLEN.out; omega
        obtain ⟨g, hcs0, hgb⟩ : ∃ g, iva = some ⟨g, 0, none⟩ ∧ ∃ cur, wp.heap[g]? = some (.cells cur 25 (0, 0)) := by
          rcases HP.out.i.2 with ⟨_, hn⟩ | ⟨g, cap, cur, hv, _, hg, _⟩
          · omega
          · simp only [Value.slice.injEq] at hv
            exact ⟨g, hv.1, cur, hg⟩
        subst hcs0
        obtain ⟨cur, hgb⟩ := hgb
        have hcl := HP.out.i.1
        have HCE : Hold (∀ j, j < 5 → ∃ u, wp.cell? ⟨g, pl * 5 + j, none⟩ = some u) := ⟨fun j hj => by
          have hlt : pl * 5 + j < cs.length := by omega
          have := HP.out.i.cells (g := g) rfl (pl * 5 + j) _ (List.getElem?_eq_getElem hlt)
          rw [addr_at] at this
          exact ⟨_, this⟩⟩
        obtain ⟨u0, e0⟩ := HCE.out 0 (by omega)
        obtain ⟨u1, e1⟩ := HCE.out 1 (by omega)
        obtain ⟨u2, e2⟩ := HCE.out 2 (by omega)
        obtain ⟨u3, e3⟩ := HCE.out 3 (by omega)
        obtain ⟨u4, e4⟩ := HCE.out 4 (by omega)
        rw [Nat.add_zero] at e0
        have HST2 := Hold.mk (HP.out.set5 (k := pl) rfl hql HRV.out)
        have HBE : Hold (Below wb.heap.size wb (set5A wp g (pl * 5) (.int .i64 q) (.int .i64 m) (.string u) (.slice a1 l1 c1) (.slice a2 l2 c2))) := ⟨HBP.out.grown HST2.out.2 HBP.out.size (fun k hk => by rw [← Option.some.inj hk]; exact (HP.out.i.lt g rfl).1)⟩
        have HSN : Hold (setN nm s = nm ∧ setI nm it s r = it.set pl r) := ⟨by
          unfold setN setI
          rw [HHB.out, HPN.out]; exact ⟨rfl, rfl⟩⟩
        have f0 : ∀ j, wp.frozen? ⟨g, j, none⟩ = false := free_box hgb
        obtain ⟨z0, z1, z2, z3, z4⟩ := cells_five HP.out.box
        obtain ⟨x0, x1, x2, x3, x4⟩ := cells_five HX3.out.two
        clear hgb hcl hpm
        go_wp2_with fail
        go_meet
        case rel =>
          rw [HSN.out.1, HSN.out.2]
          exact ⟨_, _, _, HST2.out.1, HBE.out⟩
      | false =>
        have hpk : pl ≤ nm.length := by rw [← HPN.out]; exact placeN_le nm s
        have HSN : Hold (setN nm s = insA pl s nm ∧ setI nm it s r = insA pl r it) := ⟨by
          unfold setN setI
          rw [HHB.out, HPN.out]; exact ⟨rfl, rfl⟩⟩
        have HS : Hold (ISt wb.heap.size zb (.slice nva nm.length nvc) (.slice iva it.length ivc) nm it.length cs wp wp.drew) := ⟨(ISt.mk (Below.refl _ _) rfl (heap_lt HP.out.box) HP.out.n HP.out.i HP.out.apart2 HP.out.apart).drew⟩
        have HBW : Hold (wb.heap.size ≤ wp.heap.size) := ⟨HBP.out.size⟩
        have HON : Hold (∀ u ∈ nm.map Value.string, u.oneCell' = true) := ⟨fun u hu => by
          obtain ⟨s, _, rfl⟩ := List.mem_map.1 hu
          rfl⟩
        have HOI := Hold.mk HP.out.row.onesA
        have hlt2 := heap_lt H3.out.two
        have hltb := lt_of_cell HLC.out
        have hw3 := HW3.out
        obtain ⟨x0, x1, x2, x3, x4⟩ := cells_five HX3.out.two
        have x5 := cle_below HX3.out.bel _ _ _ HLC.out
        simp only [Nat.add_zero, Nat.zero_mul] at x5
        obtain ⟨z0, z1, z2, z3, z4⟩ := cells_five HP.out.box
        have g0 := GrowB.cell (B := wb.heap.size) x0 (by omega)
        have g1 := GrowB.cell (B := wb.heap.size) x1 (by omega)
        have g2 := GrowB.cell (B := wb.heap.size) x2 (by omega)
        have g3 := GrowB.cell (B := wb.heap.size) x3 (by omega)
        have g4 := GrowB.cell (B := wb.heap.size) x4 (by omega)
        have g5 := GrowB.cell (B := wb.heap.size) x5 (by omega)
        have h3 := BoxT.cell (B := wb.heap.size) z3
        have h4 := BoxT.cell (B := wb.heap.size) z4
        clear x0 x1 x2 x3 x4 x5 z0 z1 z2 z3 z4 hlt2 hltb hw3
        go_upto_region 15 with (fail)
        refine wp_region_mixL (KeepC wb.heap.size zb wp [7, 13]) 18 rfl (by kernel_rfl) ?_
        generalize wp.drew = w1 at HS ⊢
        refine mixL_seg (by kernel_rfl) (fun _ _ d _ _ h => by cases d <;> exact h) (GrowBC wb.heap.size wp) keepC_base [0, 2, 3, 4, 5, 8, 10, 11] (keepC_back rfl) [_, _, _, _, _, _, _, _] 10 18 rfl _ _ _ rfl (by kernel_rfl) ?_
        repeat (go_big_quiet_step (fail))
        refine wpQuiet_nil ?_
        clear g0 g1 g2 g3 g4 g5
        refine mixL_one (by kernel_rfl) (fun _ _ d _ _ h => by cases d <;> exact h) (BoxC wb.heap.size zb wp) 7 (keepC_box (by decide)) 1 (fun l w => keepC_back (is := [1]) rfl 1 (by simp) l w) _ 9 _ _ _ rfl (by kernel_rfl) (by kernel_rfl) (by kernel_rfl) ?_
        repeat (go_big_quiet_step (fail))
        refine wpQuiet_nil ?_
        refine mixL_one (by kernel_rfl) (fun _ _ d _ _ h => by cases d <;> exact h) (BoxC wb.heap.size zb wp) 13 (keepC_box (by decide)) 9 (fun l w => keepC_back (is := [9]) rfl 9 (by simp) l w) _ 8 _ _ _ rfl (by kernel_rfl) (by kernel_rfl) (by kernel_rfl) ?_
        repeat (go_big_quiet_step (fail))
        refine wpQuiet_nil ?_
        clear h3 h4
        refine mixL_two (i := 6) (j := 12) rfl rfl (by kernel_rfl) (keepC_on HS.out.bel HS.out.box) rfl rfl (fun K hK => ?_) (fun K hK => ?_)
        · skip
          go_wp2_with fail
          have hba : Below w1.heap.size w1 (w1.alloc (.cells #[.string s] 9)) := (Below.refl _ w1).alloc (Nat.le_refl _) _
          have HH1 : Hold ((w1.alloc (.cells #[.string s] 9)).heap[w1.heap.size]? = some (.cells #[.string s] 9 (0, 0))) := ⟨heap_alloc_new w1 _⟩
          have HE1 : Hold ((Value.slice nva nm.length nvc).ownBlock ≠ some w1.heap.size) := ⟨fun e => by have := (HS.out.n.lt _ e).2; omega⟩
          replace HS := Hold.mk (HS.out.alloc HBW.out (.cells #[.string s] 9))
          clear hba
          generalize w1.alloc (.cells #[.string s] 9) = w2 at HS HH1 ⊢
          generalize w1.heap.size = b1 at HH1 HE1 ⊢
          refine mixL_two (i := 7) (j := 12) rfl rfl (by kernel_rfl) (keepC_on HS.out.bel HS.out.box) rfl rfl (fun K hK => ?_) (fun K hK => ?_)
          · skip
            go_wp2_with fail
            refine (insStr_any wb.heap.size w2 _ nm.length _ HS.out.n pl hpk b1 [.string s] HH1.out rfl (by simp [Value.oneCell']) HON.out (Nat.le_trans HBW.out HS.out.bel.size) (by have := HLEN.out; have := H24.out; omega) HE1.out).mono ?_
            rintro e w3 hpo
            obtain ⟨nxa, nxc, rfl, hs3, hg3⟩ := HS.out.insN HBW.out hpk hpo
            replace HS := Hold.mk hs3
            clear hpo hs3 hg3 HH1 HE1
            go_wp2_with fail
            refine mixL_seg (by kernel_rfl) (fun _ _ d _ _ h => by cases d <;> exact h) (GrowBC wb.heap.size wp) keepC_base [14] (keepC_back rfl) [_] 5 6 rfl _ _ _ rfl (by kernel_rfl) ?_
            repeat (go_big_quiet_step (fail))
            refine wpQuiet_nil ?_
            refine mixL_act (i := 12) rfl (by kernel_rfl) (keepC_on HS.out.bel HS.out.box) rfl (fun K hK => ?_)
            go_wp2_with fail
            have hba : Below w3.heap.size w3 (w3.alloc (.cells #[.int .i64 q, .int .i64 m, .string u, .slice a1 l1 c1, .slice a2 l2 c2] 25)) := (Below.refl _ w3).alloc (Nat.le_refl _) _
            have HH2 : Hold ((w3.alloc (.cells #[.int .i64 q, .int .i64 m, .string u, .slice a1 l1 c1, .slice a2 l2 c2] 25)).heap[w3.heap.size]? = some (.cells #[.int .i64 q, .int .i64 m, .string u, .slice a1 l1 c1, .slice a2 l2 c2] 25 (0, 0))) := ⟨heap_alloc_new w3 _⟩
            have HE2 : Hold ((Value.slice iva it.length ivc).ownBlock ≠ some w3.heap.size ∧ (Value.slice nxa (nm.length + 1) nxc).ownBlock ≠ some w3.heap.size) := ⟨⟨fun e => by have := (HS.out.i.lt _ e).2; omega, fun e => by have := (HS.out.n.lt _ e).2; omega⟩⟩
            replace HS := Hold.mk (HS.out.alloc HBW.out (.cells #[.int .i64 q, .int .i64 m, .string u, .slice a1 l1 c1, .slice a2 l2 c2] 25))
            clear hba
            generalize w3.alloc (.cells #[.int .i64 q, .int .i64 m, .string u, .slice a1 l1 c1, .slice a2 l2 c2] 25) = w4 at HS HH2 ⊢
            generalize w3.heap.size = b2 at HH2 HE2 ⊢
            refine mixL_act (i := 13) rfl (by kernel_rfl) (keepC_on HS.out.bel HS.out.box) rfl (fun K hK => ?_)
            go_wp2_with fail
            refine (insVal_any wb.heap.size w4 _ it.length _ HS.out.i pl (by have := HLEN.out; omega) b2 [.int .i64 q, .int .i64 m, .string u, .slice a1 l1 c1, .slice a2 l2 c2] HH2.out rfl HRV.out.2.1 HOI.out (Nat.le_trans HBW.out HS.out.bel.size) (by have := H24.out; omega) HE2.out.1).mono ?_
            rintro e w5 hpo
            obtain ⟨ixa, ixc, rfl, hs5⟩ := HS.out.insI HBW.out hpo
            have HS5 : Hold (ISt wb.heap.size zb (.slice nxa (nm.length + 1) nxc) (.slice ixa (it.length + 1) ixc) (insA pl s nm) (insA pl r it).length (cs.take (pl * 5) ++ [.int .i64 q, .int .i64 m, .string u, .slice a1 l1 c1, .slice a2 l2 c2] ++ cs.drop (pl * 5)) wp w5) := ⟨by rw [insA_len _ _ _ (by have := HLEN.out; omega)]; exact hs5⟩
            have HD := Hold.mk (HS5.out.done HP.out.box (HP.out.row.insA pl rfl HRV.out) HP.out.low)
            have hbx := hs5.box.trans HP.out.box
            replace HS := Hold.mk hs5
            clear hpo hs5 HH2 HE2 HS5
            go_wp2_with fail
            refine mixL_act (i := 15) rfl (by kernel_rfl) (keepC_off HS.out.bel (by kernel_rfl)) rfl (fun K hK => ?_)
            obtain ⟨z0, z1, z2, z3, z4⟩ := cells_five hbx
            have f3 := free_box hbx 3
            go_wp2_with fail
            clear z0 z1 z2 z3 z4 f3
            have hb6 : (w5.setCell ⟨zb, 3, none⟩ (.slice nxa (nm.length + 1) nxc)).heap[zb]? = some (.cells #[.int .i64 6, .int .i64 0, .string ⟨#[]⟩, .slice nxa (nm.length + 1) nxc, .slice iva it.length ivc] 25 (0, 0)) := by
              have := set_self (o := 3) (c := .slice nxa (nm.length + 1) nxc) hbx
              simpa using this
            have HB6 : Hold (Below wb.heap.size wp (w5.setCell ⟨zb, 3, none⟩ (.slice nxa (nm.length + 1) nxc))) := ⟨HS.out.bel.setCell (p := ⟨zb, 3, none⟩) HP.out.low _⟩
            clear hbx HS
            generalize w5.setCell ⟨zb, 3, none⟩ (.slice nxa (nm.length + 1) nxc) = w6 at hb6 HB6 HD ⊢
            refine mixL_seg (by kernel_rfl) (fun _ _ d _ _ h => by cases d <;> exact h) (GrowBC wb.heap.size wp) keepC_base [16] (keepC_back rfl) [_] 1 2 rfl _ _ _ rfl (by kernel_rfl) ?_
            repeat (go_big_quiet_step (fail))
            refine wpQuiet_nil ?_
            refine mixL_act (i := 17) rfl (by kernel_rfl) (keepC_off HB6.out (by kernel_rfl)) rfl (fun K hK => ?_)
            obtain ⟨z0, z1, z2, z3, z4⟩ := cells_five hb6
            have f4 := free_box hb6 4
            go_wp2_with fail
            clear z0 z1 z2 z3 z4 f4 hb6
            refine mixL_done (by kernel_rfl) (keepC_off HD.out.2 (by kernel_rfl)) ?_
            go_wp2_with fail
            go_meet
            case rel =>
              rw [HSN.out.1, HSN.out.2]
              exact ⟨_, _, _, HD.out.1, HBP.out.trans HD.out.2⟩
          · skip
            go_wp2_with fail
            have hba : Below w2.heap.size w2 (w2.alloc (.cells #[.int .i64 q, .int .i64 m, .string u, .slice a1 l1 c1, .slice a2 l2 c2] 25)) := (Below.refl _ w2).alloc (Nat.le_refl _) _
            have HH2 : Hold ((w2.alloc (.cells #[.int .i64 q, .int .i64 m, .string u, .slice a1 l1 c1, .slice a2 l2 c2] 25)).heap[w2.heap.size]? = some (.cells #[.int .i64 q, .int .i64 m, .string u, .slice a1 l1 c1, .slice a2 l2 c2] 25 (0, 0))) := ⟨heap_alloc_new w2 _⟩
            have HE2 : Hold ((Value.slice iva it.length ivc).ownBlock ≠ some w2.heap.size ∧ (Value.slice nva nm.length nvc).ownBlock ≠ some w2.heap.size) := ⟨⟨fun e => by have := (HS.out.i.lt _ e).2; omega, fun e => by have := (HS.out.n.lt _ e).2; omega⟩⟩
            replace HH1 := Hold.mk (kept HH1.out hba)
            replace HS := Hold.mk (HS.out.alloc HBW.out (.cells #[.int .i64 q, .int .i64 m, .string u, .slice a1 l1 c1, .slice a2 l2 c2] 25))
            clear hba
            generalize w2.alloc (.cells #[.int .i64 q, .int .i64 m, .string u, .slice a1 l1 c1, .slice a2 l2 c2] 25) = w3 at HS HH2 HH1 ⊢
            generalize w2.heap.size = b2 at HH2 HE2 ⊢
            refine mixL_act (i := 7) rfl (by kernel_rfl) (keepC_on HS.out.bel HS.out.box) rfl (fun K hK => ?_)
            go_wp2_with fail
            refine (insStr_any wb.heap.size w3 _ nm.length _ HS.out.n pl hpk b1 [.string s] HH1.out rfl (by simp [Value.oneCell']) HON.out (Nat.le_trans HBW.out HS.out.bel.size) (by have := HLEN.out; have := H24.out; omega) HE1.out).mono ?_
            rintro e w4 hpo
            obtain ⟨nxa, nxc, rfl, hs3, hg3⟩ := HS.out.insN HBW.out hpk hpo
            replace HH2 : Hold (w4.heap[b2]? = some (.cells #[.int .i64 q, .int .i64 m, .string u, .slice a1 l1 c1, .slice a2 l2 c2] 25 (0, 0))) := ⟨by rw [hg3.block b2 (heap_lt HH2.out) (fun e => HE2.out.2 e.symm)]; exact HH2.out⟩
            replace HS := Hold.mk hs3
            clear hpo hs3 hg3 HH1 HE1
            go_wp2_with fail
            refine mixL_seg (by kernel_rfl) (fun _ _ d _ _ h => by cases d <;> exact h) (GrowBC wb.heap.size wp) keepC_base [14] (keepC_back rfl) [_] 4 5 rfl _ _ _ rfl (by kernel_rfl) ?_
            repeat (go_big_quiet_step (fail))
            refine wpQuiet_nil ?_
            refine mixL_act (i := 13) rfl (by kernel_rfl) (keepC_on HS.out.bel HS.out.box) rfl (fun K hK => ?_)
            go_wp2_with fail
            refine (insVal_any wb.heap.size w4 _ it.length _ HS.out.i pl (by have := HLEN.out; omega) b2 [.int .i64 q, .int .i64 m, .string u, .slice a1 l1 c1, .slice a2 l2 c2] HH2.out rfl HRV.out.2.1 HOI.out (Nat.le_trans HBW.out HS.out.bel.size) (by have := H24.out; omega) HE2.out.1).mono ?_
            rintro e w5 hpo
            obtain ⟨ixa, ixc, rfl, hs5⟩ := HS.out.insI HBW.out hpo
            have HS5 : Hold (ISt wb.heap.size zb (.slice nxa (nm.length + 1) nxc) (.slice ixa (it.length + 1) ixc) (insA pl s nm) (insA pl r it).length (cs.take (pl * 5) ++ [.int .i64 q, .int .i64 m, .string u, .slice a1 l1 c1, .slice a2 l2 c2] ++ cs.drop (pl * 5)) wp w5) := ⟨by rw [insA_len _ _ _ (by have := HLEN.out; omega)]; exact hs5⟩
            have HD := Hold.mk (HS5.out.done HP.out.box (HP.out.row.insA pl rfl HRV.out) HP.out.low)
            have hbx := hs5.box.trans HP.out.box
            replace HS := Hold.mk hs5
            clear hpo hs5 HH2 HE2 HS5
            go_wp2_with fail
            refine mixL_act (i := 15) rfl (by kernel_rfl) (keepC_off HS.out.bel (by kernel_rfl)) rfl (fun K hK => ?_)
            obtain ⟨z0, z1, z2, z3, z4⟩ := cells_five hbx
            have f3 := free_box hbx 3
            go_wp2_with fail
            clear z0 z1 z2 z3 z4 f3
            have hb6 : (w5.setCell ⟨zb, 3, none⟩ (.slice nxa (nm.length + 1) nxc)).heap[zb]? = some (.cells #[.int .i64 6, .int .i64 0, .string ⟨#[]⟩, .slice nxa (nm.length + 1) nxc, .slice iva it.length ivc] 25 (0, 0)) := by
              have := set_self (o := 3) (c := .slice nxa (nm.length + 1) nxc) hbx
              simpa using this
            have HB6 : Hold (Below wb.heap.size wp (w5.setCell ⟨zb, 3, none⟩ (.slice nxa (nm.length + 1) nxc))) := ⟨HS.out.bel.setCell (p := ⟨zb, 3, none⟩) HP.out.low _⟩
            clear hbx HS
            generalize w5.setCell ⟨zb, 3, none⟩ (.slice nxa (nm.length + 1) nxc) = w6 at hb6 HB6 HD ⊢
            refine mixL_seg (by kernel_rfl) (fun _ _ d _ _ h => by cases d <;> exact h) (GrowBC wb.heap.size wp) keepC_base [16] (keepC_back rfl) [_] 1 2 rfl _ _ _ rfl (by kernel_rfl) ?_
            repeat (go_big_quiet_step (fail))
            refine wpQuiet_nil ?_
            refine mixL_act (i := 17) rfl (by kernel_rfl) (keepC_off HB6.out (by kernel_rfl)) rfl (fun K hK => ?_)
            obtain ⟨z0, z1, z2, z3, z4⟩ := cells_five hb6
            have f4 := free_box hb6 4
            go_wp2_with fail
            clear z0 z1 z2 z3 z4 f4 hb6
            refine mixL_done (by kernel_rfl) (keepC_off HD.out.2 (by kernel_rfl)) ?_
            go_wp2_with fail
            go_meet
            case rel =>
              rw [HSN.out.1, HSN.out.2]
              exact ⟨_, _, _, HD.out.1, HBP.out.trans HD.out.2⟩
        · skip
          go_wp2_with fail
          have hba : Below w1.heap.size w1 (w1.alloc (.cells #[.int .i64 q, .int .i64 m, .string u, .slice a1 l1 c1, .slice a2 l2 c2] 25)) := (Below.refl _ w1).alloc (Nat.le_refl _) _
          have HH2 : Hold ((w1.alloc (.cells #[.int .i64 q, .int .i64 m, .string u, .slice a1 l1 c1, .slice a2 l2 c2] 25)).heap[w1.heap.size]? = some (.cells #[.int .i64 q, .int .i64 m, .string u, .slice a1 l1 c1, .slice a2 l2 c2] 25 (0, 0))) := ⟨heap_alloc_new w1 _⟩
          have HE2 : Hold ((Value.slice iva it.length ivc).ownBlock ≠ some w1.heap.size ∧ (Value.slice nva nm.length nvc).ownBlock ≠ some w1.heap.size) := ⟨⟨fun e => by have := (HS.out.i.lt _ e).2; omega, fun e => by have := (HS.out.n.lt _ e).2; omega⟩⟩
          replace HS := Hold.mk (HS.out.alloc HBW.out (.cells #[.int .i64 q, .int .i64 m, .string u, .slice a1 l1 c1, .slice a2 l2 c2] 25))
          clear hba
          generalize w1.alloc (.cells #[.int .i64 q, .int .i64 m, .string u, .slice a1 l1 c1, .slice a2 l2 c2] 25) = w2 at HS HH2 ⊢
          generalize w1.heap.size = b2 at HH2 HE2 ⊢
          refine mixL_act (i := 6) rfl (by kernel_rfl) (keepC_on HS.out.bel HS.out.box) rfl (fun K hK => ?_)
          go_wp2_with fail
          have hba : Below w2.heap.size w2 (w2.alloc (.cells #[.string s] 9)) := (Below.refl _ w2).alloc (Nat.le_refl _) _
          have HH1 : Hold ((w2.alloc (.cells #[.string s] 9)).heap[w2.heap.size]? = some (.cells #[.string s] 9 (0, 0))) := ⟨heap_alloc_new w2 _⟩
          have HE1 : Hold ((Value.slice nva nm.length nvc).ownBlock ≠ some w2.heap.size) := ⟨fun e => by have := (HS.out.n.lt _ e).2; omega⟩
          replace HH2 := Hold.mk (kept HH2.out hba)
          replace HS := Hold.mk (HS.out.alloc HBW.out (.cells #[.string s] 9))
          clear hba
          generalize w2.alloc (.cells #[.string s] 9) = w3 at HS HH1 HH2 ⊢
          generalize w2.heap.size = b1 at HH1 HE1 ⊢
          refine mixL_act (i := 7) rfl (by kernel_rfl) (keepC_on HS.out.bel HS.out.box) rfl (fun K hK => ?_)
          go_wp2_with fail
          refine (insStr_any wb.heap.size w3 _ nm.length _ HS.out.n pl hpk b1 [.string s] HH1.out rfl (by simp [Value.oneCell']) HON.out (Nat.le_trans HBW.out HS.out.bel.size) (by have := HLEN.out; have := H24.out; omega) HE1.out).mono ?_
          rintro e w4 hpo
          obtain ⟨nxa, nxc, rfl, hs3, hg3⟩ := HS.out.insN HBW.out hpk hpo
          replace HH2 : Hold (w4.heap[b2]? = some (.cells #[.int .i64 q, .int .i64 m, .string u, .slice a1 l1 c1, .slice a2 l2 c2] 25 (0, 0))) := ⟨by rw [hg3.block b2 (heap_lt HH2.out) (fun e => HE2.out.2 e.symm)]; exact HH2.out⟩
          replace HS := Hold.mk hs3
          clear hpo hs3 hg3 HH1 HE1
          go_wp2_with fail
          refine mixL_seg (by kernel_rfl) (fun _ _ d _ _ h => by cases d <;> exact h) (GrowBC wb.heap.size wp) keepC_base [14] (keepC_back rfl) [_] 4 5 rfl _ _ _ rfl (by kernel_rfl) ?_
          repeat (go_big_quiet_step (fail))
          refine wpQuiet_nil ?_
          refine mixL_act (i := 13) rfl (by kernel_rfl) (keepC_on HS.out.bel HS.out.box) rfl (fun K hK => ?_)
          go_wp2_with fail
          refine (insVal_any wb.heap.size w4 _ it.length _ HS.out.i pl (by have := HLEN.out; omega) b2 [.int .i64 q, .int .i64 m, .string u, .slice a1 l1 c1, .slice a2 l2 c2] HH2.out rfl HRV.out.2.1 HOI.out (Nat.le_trans HBW.out HS.out.bel.size) (by have := H24.out; omega) HE2.out.1).mono ?_
          rintro e w5 hpo
          obtain ⟨ixa, ixc, rfl, hs5⟩ := HS.out.insI HBW.out hpo
          have HS5 : Hold (ISt wb.heap.size zb (.slice nxa (nm.length + 1) nxc) (.slice ixa (it.length + 1) ixc) (insA pl s nm) (insA pl r it).length (cs.take (pl * 5) ++ [.int .i64 q, .int .i64 m, .string u, .slice a1 l1 c1, .slice a2 l2 c2] ++ cs.drop (pl * 5)) wp w5) := ⟨by rw [insA_len _ _ _ (by have := HLEN.out; omega)]; exact hs5⟩
          have HD := Hold.mk (HS5.out.done HP.out.box (HP.out.row.insA pl rfl HRV.out) HP.out.low)
          have hbx := hs5.box.trans HP.out.box
          replace HS := Hold.mk hs5
          clear hpo hs5 HH2 HE2 HS5
          go_wp2_with fail
          refine mixL_act (i := 15) rfl (by kernel_rfl) (keepC_off HS.out.bel (by kernel_rfl)) rfl (fun K hK => ?_)
          obtain ⟨z0, z1, z2, z3, z4⟩ := cells_five hbx
          have f3 := free_box hbx 3
          go_wp2_with fail
          clear z0 z1 z2 z3 z4 f3
          have hb6 : (w5.setCell ⟨zb, 3, none⟩ (.slice nxa (nm.length + 1) nxc)).heap[zb]? = some (.cells #[.int .i64 6, .int .i64 0, .string ⟨#[]⟩, .slice nxa (nm.length + 1) nxc, .slice iva it.length ivc] 25 (0, 0)) := by
            have := set_self (o := 3) (c := .slice nxa (nm.length + 1) nxc) hbx
            simpa using this
          have HB6 : Hold (Below wb.heap.size wp (w5.setCell ⟨zb, 3, none⟩ (.slice nxa (nm.length + 1) nxc))) := ⟨HS.out.bel.setCell (p := ⟨zb, 3, none⟩) HP.out.low _⟩
          clear hbx HS
          generalize w5.setCell ⟨zb, 3, none⟩ (.slice nxa (nm.length + 1) nxc) = w6 at hb6 HB6 HD ⊢
          refine mixL_seg (by kernel_rfl) (fun _ _ d _ _ h => by cases d <;> exact h) (GrowBC wb.heap.size wp) keepC_base [16] (keepC_back rfl) [_] 1 2 rfl _ _ _ rfl (by kernel_rfl) ?_
          repeat (go_big_quiet_step (fail))
          refine wpQuiet_nil ?_
          refine mixL_act (i := 17) rfl (by kernel_rfl) (keepC_off HB6.out (by kernel_rfl)) rfl (fun K hK => ?_)
          obtain ⟨z0, z1, z2, z3, z4⟩ := cells_five hb6
          have f4 := free_box hb6 4
          go_wp2_with fail
          clear z0 z1 z2 z3 z4 f4 hb6
          refine mixL_done (by kernel_rfl) (keepC_off HD.out.2 (by kernel_rfl)) ?_
          go_wp2_with fail
          go_meet
          case rel =>
            rw [HSN.out.1, HSN.out.2]
            exact ⟨_, _, _, HD.out.1, HBP.out.trans HD.out.2⟩
    case rest =>
      obtain ⟨nv, iv, cs2, hp, hbx⟩ := hcut
      generalize wc = wx at *
      obtain ⟨nxa, nxc, rfl, _, _⟩ := own_shapeA hp.n
      obtain ⟨ixa, ixc, rfl, _, _⟩ := own_shapeA hp.i
      replace HX3 := Hold.mk (H3.out.next hbx)
      have HPX := Hold.mk hp
      have HBX := Hold.mk hbx
      clear hp hbx HP HBP HRV
      have HPUT : Hold (putJ (s :: l) (.mk 6 n t nm it) x = some (setJ (.mk 6 n t nm it) s r)) := ⟨by
        rw [putJ_step, if_pos (show (JV.mk 6 n t nm it).kind = 6 from rfl), HWI.out]; rfl⟩
      obtain ⟨z0, z1, z2, z3, z4⟩ := cells_five HPX.out.box
      obtain ⟨y0, y1, y2, y3, y4⟩ := cells_five HX3.out.three
      have f0 := free_box HX3.out.three 0
      have f1 := free_box HX3.out.three 1
      have f2 := free_box HX3.out.three 2
      have f3 := free_box HX3.out.three 3
      have f4 := free_box HX3.out.three 4
      have HJF : Hold (JAt (cfV c w.heap.size (set5 wx (w.heap.size + 2) (.int .i64 6) (.int .i64 0) (.string ⟨#[]⟩) (.slice nxa (setN nm s).length nxc) (.slice ixa (setI nm it s r).length ixc))) (setJ (.mk 6 n t nm it) s r) (.agg #[.int .i64 6, .int .i64 0, .string ⟨#[]⟩, .slice nxa (setN nm s).length nxc, .slice ixa (setI nm it s r).length ixc])) := ⟨by
        refine HPX.out.done (fun y hy => ?_) (by have := setN_len nm s; have := HLEN.out; have := H24.out; omega) (by have := setI_len nm it s r HLEN.out; have := H24.out; omega) (cfV_to HCL.out (by omega) (fun b o v hb hv => ?_)) (fun b o v hv => ?_)
        · rcases setN_mem hy with e | hm
          · rw [e]; have := HSZ.out s (by simp); omega
          · exact strs_sizes HST.out y hm
        · rw [set5_cells (by omega)]; exact cle_below HBX.out _ _ _ hv
        · unfold cfA at hv
          split at hv
          · have := HW3.out
            unfold cfV
            rw [if_neg (by omega), set5_cells (by omega)]; exact hv
          · cases hv⟩
      go_wp2_with fail
      obtain ⟨q0, q1, q2, q3, q4⟩ := cells_five (set5_self (c0 := .int .i64 6) (c1 := .int .i64 0) (c2 := .string ⟨#[]⟩) (c3 := .slice nxa (setN nm s).length nxc) (c4 := .slice ixa (setI nm it s r).length ixc) HX3.out.three)
      exact bodyPost_ret (v := .tuple #[.agg #[.int .i64 6, .int .i64 0, .string ⟨#[]⟩, .slice nxa (setN nm s).length nxc, .slice ixa (setI nm it s r).length ixc], .bool true]) (by simp [results, Tryd.results37, go_sem, q0, q1, q2, q3, q4]) rfl (put_yes HPUT.out HJF.out (set5_below HX3.out.bel (by omega)))

theorem put_any : ∀ (l : List ByteArray), l ≠ [] → ∀ (c : CF) (v x : JV) (vv lv xv : Value) (w : World), CLe c (cfU w.heap.size w) → JAt c v vv → SAt 1 RS (cf w) lv l → JAt c x xv → (∃ d, formedF d v = true) → (∀ y ∈ l, y.size ≤ 1000000) → Calls Tryd.prog 37 #[vv, lv, xv] w (PutPost c (putJ l v x) w)
  | [], h => absurd rfl h
  | s :: l, _ => fun c v x vv lv xv w hc hv hl hx hf hsz => put_step s l (put_any l) c v x vv lv xv w hc hv hl hx hf hsz

end Go.Proofs.YtkhhbckpddkhlaaDoor
