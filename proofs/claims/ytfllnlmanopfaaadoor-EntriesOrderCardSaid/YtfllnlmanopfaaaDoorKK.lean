/- Entries: Key of the program. -/
import Derived.Test.YtfllnlmanopfaaaDoorKJ
namespace Go.Proofs.YtfllnlmanopfaaaDoor
open Go.RowKit

set_option maxRecDepth 100000 in
set_option maxHeartbeats 16000000 in
theorem EKey_any (x : IX) (xv : Value) (v : JV) (vv : Value) (w : World) (hx : IAt (cf w) x xv) (hv : JAt (cf w) v vv) (hsm : ∀ f ∈ x.fields, f.1.size ≤ 1000000) (h100 : x.fields.length ≤ 100) (hT : Tabs w) :
    Calls Tryd.prog 35 #[xv, vv] w (EKPost x v w) := by
  have HX := Hold.mk hx
  have HV := Hold.mk hv
  obtain ⟨hnm, fv, rfl, a, cap, rfl, hlen, hcap, hel⟩ := hx
  obtain ⟨k, n, t, nm, it, na, ncap, ia, icap, hve, rfl, _⟩ := hv.open
  obtain ⟨W, hW, hB, e0, e1⟩ := twoE w (.cells #[.string x.name, .slice a x.fields.length cap, .bool x.uniq] 37) (.cells #[.int .i64 k, .int .i64 n, .string t, .slice na nm.length ncap, .slice ia it.length icap] 25)
  have HB := Hold.mk hB
  have HXB := Hold.mk e0
  have HVB := Hold.mk e1
  have HE := Hold.mk hel
  have HS := Hold.mk hsm
  have HT := Hold.mk hT
  have HKK : Hold (v.kind = k) := ⟨by rw [hve]; rfl⟩
  obtain ⟨ib, hi, hz0, hz1, hz2⟩ := info_parts infoBool
  have HIB := Hold.mk (And.intro hi (And.intro hz0 (And.intro hz1 hz2)))
  clear hi hz0 hz1 hz2
  obtain ⟨i0, hi, hz0, hz1, hz2⟩ := info_parts infoVal
  have HI := Hold.mk (And.intro hi (And.intro hz0 (And.intro hz1 hz2)))
  obtain ⟨xn, l, u⟩ := x
  simp only at *
  clear hel hsm hT hB e0 e1 hnm hve hi hz0 hz1 hz2 hv
  go_enter Tryd.func35, Tryd.ntmps35
  go_wp2_with fail
  rw [← hW]
  clear hW
  refine (FormedI_any ⟨xn, l, u⟩ _ _ (HX.out.mono (cle_below HB.out)) HS.out (HT.out.below HB.out)).mono ?_
  rintro e w1 ⟨rfl, hb1⟩
  replace HXB := Hold.mk (kept HXB.out hb1)
  replace HVB := Hold.mk (kept HVB.out hb1)
  replace HB := Hold.mk (HB.out.trans (hb1.mono HB.out.size))
  clear hb1
  cases hf : formI ⟨xn, l, u⟩ with
  | false =>
    have HA : Hold (askK ⟨xn, l, u⟩ v = false) := ⟨by unfold askK; rw [hf]; rfl⟩
    clear hf
    go_wp2_with fail
    go_ret3
    exact EK_bad HA.out HB.out
  | true =>
  have HFI := Hold.mk hf
  clear hf
  obtain ⟨y0, y1, y2, y3, y4⟩ := cells_five HVB.out
  by_cases hk : k = 6
  case neg =>
    have hkb : (k != 6) = true := by simpa using hk
    have HA : Hold (askK ⟨xn, l, u⟩ v = false) := ⟨by unfold askK; rw [HKK.out, decide_eq_false hk]; simp⟩
    clear hk
    go_wp2_with fail
    go_ret3
    exact EK_bad HA.out HB.out
  subst hk
  go_wp2_with fail
  refine (Formed_any v _ _ (HV.out.mono (cle_below HB.out)) (HT.out.below HB.out)).mono ?_
  rintro e w2 ⟨rfl, hb1⟩
  replace HXB := Hold.mk (kept HXB.out hb1)
  replace HVB := Hold.mk (kept HVB.out hb1)
  replace HB := Hold.mk (HB.out.trans (hb1.mono HB.out.size))
  clear hb1 y0 y1 y2 y3 y4
  cases hf : formedF 6 v with
  | false =>
    have HA : Hold (askK ⟨xn, l, u⟩ v = false) := ⟨by unfold askK; rw [hf]; simp⟩
    clear hf
    go_wp2_with fail
    go_ret3
    exact EK_bad HA.out HB.out
  | true =>
  have HA : Hold (askK ⟨xn, l, u⟩ v = true) := ⟨by unfold askK; rw [hf, HFI.out, HKK.out]; rfl⟩
  clear hf
  obtain ⟨x0, x1, x2⟩ := cells_three HXB.out
  go_wp2_with fail
  clear x0 x1 x2
  go_loopw [7, 8, 31] (fun sl sd i wr => ∃ (j : Nat) (cs : List Value), i = .int .i64 j ∧ j ≤ l.length ∧ (l.take j).all (hasK v) = true ∧ KL w2 wr (cf w) sl sd j ((l.take j).map (valK v)) j (l.take j) cs) (fun _ _ i _ => l.length - (intOf i).toNat)
  case atStart => exact ⟨0, [], rfl, Nat.zero_le _, rfl, KL.start w2 _⟩
  case round =>
    obtain ⟨j, cs, rfl, hj, hall, hkl⟩ := hrel
    obtain ⟨sa, scap, rfl⟩ := own_form2 hkl.v
    obtain ⟨da, dcap, rfl⟩ := own_form2 hkl.b
    obtain ⟨vs, hvs⟩ : ∃ vs, vs = (l.take j).map (valK v) := ⟨_, rfl⟩
    obtain ⟨fs, hfs⟩ : ∃ fs, fs = l.take j := ⟨_, rfl⟩
    rw [← hvs, ← hfs] at hkl
    have HK := Hold.mk hkl
    have HALL := Hold.mk hall
    have HVS := Hold.mk hvs
    have HFS := Hold.mk hfs
    clear hkl hall hvs hfs
    by_cases hlt : j < l.length
    · obtain ⟨f, hf⟩ : ∃ f, l[j]? = some f := ⟨l[j], List.getElem?_eq_getElem hlt⟩
      obtain ⟨hfz, b, off, rfl, z0, z1⟩ := HE.out j f hf
      have hcl := cle_below (HB.out.trans (HK.out.bel.mono HB.out.size))
      replace z0 := hcl _ _ _ z0
      replace z1 := hcl _ _ _ z1
      unfold cf at z0 z1
      have HST1 : Hold ((l.take (j + 1)).map (valK v) = vs ++ [valK v f]) := ⟨by rw [take_succ hf, List.map_append, ← HVS.out]; rfl⟩
      have HST2 : Hold (l.take (j + 1) = fs ++ [f]) := ⟨by rw [take_succ hf, ← HFS.out]⟩
      have HFL := Hold.mk hf
      have HSF := Hold.mk (HS.out f (List.mem_of_getElem? hf))
      obtain ⟨s, d⟩ := f
      simp only at *
      have HVB2 := Hold.mk (kept HVB.out HK.out.bel)
      obtain ⟨y0, y1, y2, y3, y4⟩ := cells_five HVB2.out
      have hlow := heap_lt HVB2.out
      have HK3 := Hold.mk (HK.out.alloc (.cells #[.string s, .bool d] 71))
      have HFB : Hold ((wr.alloc (.cells #[.string s, .bool d] 71)).heap[wr.heap.size]? = some (.cells #[.string s, .bool d] 71 (0, 0))) := ⟨heap_alloc_new wr _⟩
      have HB3 : Hold (Below w.heap.size w (wr.alloc (.cells #[.string s, .bool d] 71))) := ⟨HB.out.trans (HK3.out.bel.mono HB.out.size)⟩
      clear hf hcl
      go_wp2_with fail
      refine (GetC_any (cf w) v _ s _ ((cle_below HB3.out).trans (cle_cfU _)) HV.out HSF.out (HT.out.below HB3.out)).mono ?_
      rintro e w4 ⟨hg, hb4⟩
      replace HK3 := Hold.mk (HK3.out.quiet hb4)
      replace HFB := Hold.mk (kept HFB.out hb4)
      replace HB3 := Hold.mk (HB3.out.trans (hb4.mono HB3.out.size))
      clear hb4 y0 y1 y2 y3 y4 z0 z1
      cases hgv : getF v s with
      | none =>
        rw [hgv] at hg
        simp only at hg
        subst hg
        have HN : Hold (l.all (hasK v) = false) := ⟨all_false HFL.out (by unfold hasK; rw [hgv]; rfl)⟩
        clear hgv
        have HB4 := Hold.mk (HB3.out.alloc HB3.out.size (.cells #[.int .i64 0, .int .i64 0, .string ⟨#[]⟩, .slice none 0 0, .slice none 0 0] 25))
        go_wp2_with fail
        go_ret3
        exact EK_none HA.out HN.out HB4.out
      | some uu =>
        rw [hgv] at hg
        simp only at hg
        obtain ⟨y, rfl, hju⟩ := hg
        obtain ⟨k2, n2, t2, nm2, it2, na2, ncap2, ia2, icap2, _, rfl, _⟩ := hju.open
        have HALL2 : Hold ((l.take (j + 1)).all (hasK v) = true) := ⟨by rw [take_succ HFL.out, List.all_append, HALL.out]; simp [hasK, hgv]⟩
        have HJU : Hold (JAt (cf w) (valK v (s, d)) (.agg #[.int .i64 k2, .int .i64 n2, .string t2, .slice na2 nm2.length ncap2, .slice ia2 it2.length icap2])) := ⟨by unfold valK; rw [hgv]; exact hju⟩
        clear hgv hju
        have HK5 := Hold.mk (HK3.out.alloc (.cells #[.int .i64 k2, .int .i64 n2, .string t2, .slice na2 nm2.length ncap2, .slice ia2 it2.length icap2] 25))
        have hwb : (w4.alloc (.cells #[.int .i64 k2, .int .i64 n2, .string t2, .slice na2 nm2.length ncap2, .slice ia2 it2.length icap2] 25)).heap[w4.heap.size]? = some (.cells #[.int .i64 k2, .int .i64 n2, .string t2, .slice na2 nm2.length ncap2, .slice ia2 it2.length icap2] 25 (0, 0)) := heap_alloc_new w4 _
        have hfb : (w4.alloc (.cells #[.int .i64 k2, .int .i64 n2, .string t2, .slice na2 nm2.length ncap2, .slice ia2 it2.length icap2] 25)).heap[wr.heap.size]? = some (.cells #[.string s, .bool d] 71 (0, 0)) := kept HFB.out ((Below.refl _ w4).alloc (Nat.le_refl _) _)
        obtain ⟨v0, v1, v2, v3, v4⟩ := cells_five hwb
        obtain ⟨f0, f1⟩ := cells_two hfb
        have hl4 := HK3.out.low (Nat.le_refl _)
        have hlr := HK.out.low (Nat.le_refl _)
        have g0 := GrewX.cell v0 hl4.1 hl4.2
        have g1 := GrewX.cell v1 hl4.1 hl4.2
        have g2 := GrewX.cell v2 hl4.1 hl4.2
        have g3 := GrewX.cell v3 hl4.1 hl4.2
        have g4 := GrewX.cell v4 hl4.1 hl4.2
        have g5 := GrewX.cell f1 hlr.1 hlr.2
        clear hwb hfb v0 v1 v2 v3 v4 f0 f1 hl4 hlr
        go_wp2_with fail
        refine wp_region_mixX (.slice sa j scap) (.slice da j dcap) 11 rfl (by kernel_rfl) ?_
        rintro w6 hw6
        have HX6 := Hold.mk ((KeptX.refl (w4.alloc (.cells #[.int .i64 k2, .int .i64 n2, .string t2, .slice na2 nm2.length ncap2, .slice ia2 it2.length icap2] 25)) (.slice sa j scap) (.slice da j dcap)).drew)
        have HK6 := Hold.mk HK5.out.drew
        rw [← hw6] at HX6 HK6
        clear hw6 HK5
        refine mixl_seg (by kernel_rfl) (fun _ _ d _ _ h => by cases d <;> exact h) [0, 1, 4, 5, 6] [_, _, _, _, _] 6 11 rfl _ _ _ rfl (by kernel_rfl) (grewXC HX6.out) ?_
        repeat (go_big_quiet_step (fail))
        refine wpQuiet_nil ?_
        clear g0 g1 g2 g3 g4 g5
        refine mixl_two (i := 2) (j := 7) rfl rfl (by kernel_rfl) (grewXC HX6.out) rfl rfl (fun K hK => ?_) (fun K hK => ?_)
        · go_wp2_with fail
          have HX7 := Hold.mk (HX6.out.alloc (.cells #[.int .i64 k2, .int .i64 n2, .string t2, .slice na2 nm2.length ncap2, .slice ia2 it2.length icap2] 25))
          have HK7 := Hold.mk (HK6.out.alloc (.cells #[.int .i64 k2, .int .i64 n2, .string t2, .slice na2 nm2.length ncap2, .slice ia2 it2.length icap2] 25))
          have HNV := Hold.mk (heap_alloc_new w6 (.cells #[.int .i64 k2, .int .i64 n2, .string t2, .slice na2 nm2.length ncap2, .slice ia2 it2.length icap2] 25))
          have HOLD := Hold.mk (fun (r : Nat) (h : r < w6.heap.size) => heap_alloc_old w6 (.cells #[.int .i64 k2, .int .i64 n2, .string t2, .slice na2 nm2.length ncap2, .slice ia2 it2.length icap2] 25) h)
          generalize w6.alloc (.cells #[.int .i64 k2, .int .i64 n2, .string t2, .slice na2 nm2.length ncap2, .slice ia2 it2.length icap2] 25) = w7 at HX7 HK7 HNV HOLD ⊢
          refine mixl_two (i := 3) (j := 7) rfl rfl (by kernel_rfl) (grewXC HX7.out) rfl rfl (fun K hK => ?_) (fun K hK => ?_)
          · refine wp_append_lies w7 (.tmp 44) (.tmp 46) 23 rfl w2.heap.size 25 i0 (.agg #[.int .i64 0, .int .i64 0, .string ⟨#[]⟩, .slice none 0 0, .slice none 0 0]) 5 80 Tryd.underlying23 HI.out.1 HI.out.2.1 HI.out.2.2.1 HI.out.2.2.2 rfl (by decide) (.slice sa j scap) j _ rfl HK7.out.v ⟨w6.heap.size, 0, none⟩ 1 1 [.int .i64 k2, .int .i64 n2, .string t2, .slice na2 nm2.length ncap2, .slice ia2 it2.length icap2] rfl rfl (World.news_of_block HNV.out) (by simp [Value.oneCell']) (by decide) (by unfold maxLen; omega) (by omega) HK7.out.bel.size _ rfl ?_
            intro g8 cap8 w8 hown hgr _ _
            refine hK _ _ ?_
            clear hK K
            have HX8 := Hold.mk (HX7.out.growS hgr)
            have HK8 := Hold.mk (HK7.out.pushV hgr hown HJU.out)
            clear hown hgr
            refine mixl_act (i := 7) rfl (by kernel_rfl) (grewXC HX8.out) rfl (fun K hK => ?_)
            go_wp2_with fail
            have HNEB := Hold.mk (HK8.out.low (Nat.le_refl _)).1
            have HX9 := Hold.mk (HX8.out.alloc (.cells #[.bool d] 4))
            have HK9 := Hold.mk (HK8.out.alloc (.cells #[.bool d] 4))
            have HNB := Hold.mk (heap_alloc_new w8 (.cells #[.bool d] 4))
            have HOLD := Hold.mk (fun (r : Nat) (h : r < w8.heap.size) => heap_alloc_old w8 (.cells #[.bool d] 4) h)
            generalize w8.alloc (.cells #[.bool d] 4) = w9 at HX9 HK9 HNB HOLD ⊢
            refine mixl_act (i := 8) rfl (by kernel_rfl) (grewXC HX9.out) rfl (fun K hK => ?_)
            refine wp_append_lies w9 (.tmp 48) (.tmp 51) 88 rfl w2.heap.size 4 ib (.bool false) 1 1 Tryd.underlying88 HIB.out.1 HIB.out.2.1 HIB.out.2.2.1 HIB.out.2.2.2 rfl (by decide) (.slice da j dcap) j _ rfl HK9.out.b ⟨w8.heap.size, 0, none⟩ 1 1 [.bool d] rfl rfl (World.news_of_block HNB.out) (by simp [Value.oneCell']) (by decide) (by unfold maxLen; omega) (by omega) HK9.out.bel.size _ rfl ?_
            intro g10 cap10 w10 hown hgr _ _
            refine hK _ _ ?_
            clear hK K
            have HX10 := Hold.mk (HX9.out.growT hgr)
            have HK10 := Hold.mk (HK9.out.pushB (f := (s, d)) hgr hown)
            clear hown hgr
            refine mixl_act (i := 9) rfl (by kernel_rfl) (grewXC HX10.out) rfl (fun K hK => ?_)
            go_wp2_with fail
            refine mixl_act (i := 10) rfl (by kernel_rfl) (grewXC HX10.out) rfl (fun K hK => ?_)
            go_wp2_with fail
            refine mix_done (by kernel_rfl) (grewXC HX10.out) ?_
            go_wp2_with fail
            exact ⟨⟨j + 1, _, by go_num, hlt, HALL2.out, by rw [HST1.out, HST2.out]; exact HK10.out⟩, by simp [intOf]; omega⟩
          · go_wp2_with fail
            have HNEB := Hold.mk (HK7.out.low (Nat.le_refl _)).1
            have HX8 := Hold.mk (HX7.out.alloc (.cells #[.bool d] 4))
            have HK8 := Hold.mk (HK7.out.alloc (.cells #[.bool d] 4))
            have HNB := Hold.mk (heap_alloc_new w7 (.cells #[.bool d] 4))
            have HOLD := Hold.mk (fun (r : Nat) (h : r < w7.heap.size) => heap_alloc_old w7 (.cells #[.bool d] 4) h)
            generalize w7.alloc (.cells #[.bool d] 4) = w8 at HX8 HK8 HNB HOLD ⊢
            replace HNV := Hold.mk ((HOLD.out _ (heap_lt HNV.out)).trans HNV.out)
            refine mixl_act (i := 3) rfl (by kernel_rfl) (grewXC HX8.out) rfl (fun K hK => ?_)
            refine wp_append_lies w8 (.tmp 44) (.tmp 46) 23 rfl w2.heap.size 25 i0 (.agg #[.int .i64 0, .int .i64 0, .string ⟨#[]⟩, .slice none 0 0, .slice none 0 0]) 5 80 Tryd.underlying23 HI.out.1 HI.out.2.1 HI.out.2.2.1 HI.out.2.2.2 rfl (by decide) (.slice sa j scap) j _ rfl HK8.out.v ⟨w6.heap.size, 0, none⟩ 1 1 [.int .i64 k2, .int .i64 n2, .string t2, .slice na2 nm2.length ncap2, .slice ia2 it2.length icap2] rfl rfl (World.news_of_block HNV.out) (by simp [Value.oneCell']) (by decide) (by unfold maxLen; omega) (by omega) HK8.out.bel.size _ rfl ?_
            intro g9 cap9 w9 hown hgr _ _
            refine hK _ _ ?_
            clear hK K
            have HX9 := Hold.mk (HX8.out.growS hgr)
            have HK9 := Hold.mk (HK8.out.pushV hgr hown HJU.out)
            replace HNB := Hold.mk ((hgr.block _ (heap_lt HNB.out) HNEB.out).trans HNB.out)
            clear hown hgr
            refine mixl_act (i := 8) rfl (by kernel_rfl) (grewXC HX9.out) rfl (fun K hK => ?_)
            refine wp_append_lies w9 (.tmp 48) (.tmp 51) 88 rfl w2.heap.size 4 ib (.bool false) 1 1 Tryd.underlying88 HIB.out.1 HIB.out.2.1 HIB.out.2.2.1 HIB.out.2.2.2 rfl (by decide) (.slice da j dcap) j _ rfl HK9.out.b ⟨w7.heap.size, 0, none⟩ 1 1 [.bool d] rfl rfl (World.news_of_block HNB.out) (by simp [Value.oneCell']) (by decide) (by unfold maxLen; omega) (by omega) HK9.out.bel.size _ rfl ?_
            intro g10 cap10 w10 hown hgr _ _
            refine hK _ _ ?_
            clear hK K
            have HX10 := Hold.mk (HX9.out.growT hgr)
            have HK10 := Hold.mk (HK9.out.pushB (f := (s, d)) hgr hown)
            clear hown hgr
            refine mixl_act (i := 9) rfl (by kernel_rfl) (grewXC HX10.out) rfl (fun K hK => ?_)
            go_wp2_with fail
            refine mixl_act (i := 10) rfl (by kernel_rfl) (grewXC HX10.out) rfl (fun K hK => ?_)
            go_wp2_with fail
            refine mix_done (by kernel_rfl) (grewXC HX10.out) ?_
            go_wp2_with fail
            exact ⟨⟨j + 1, _, by go_num, hlt, HALL2.out, by rw [HST1.out, HST2.out]; exact HK10.out⟩, by simp [intOf]; omega⟩
        · go_wp2_with fail
          have HNEB := Hold.mk (HK6.out.low (Nat.le_refl _)).1
          have HX7 := Hold.mk (HX6.out.alloc (.cells #[.bool d] 4))
          have HK7 := Hold.mk (HK6.out.alloc (.cells #[.bool d] 4))
          have HNB := Hold.mk (heap_alloc_new w6 (.cells #[.bool d] 4))
          have HOLD := Hold.mk (fun (r : Nat) (h : r < w6.heap.size) => heap_alloc_old w6 (.cells #[.bool d] 4) h)
          generalize w6.alloc (.cells #[.bool d] 4) = w7 at HX7 HK7 HNB HOLD ⊢
          refine mixl_act (i := 2) rfl (by kernel_rfl) (grewXC HX7.out) rfl (fun K hK => ?_)
          go_wp2_with fail
          have HX8 := Hold.mk (HX7.out.alloc (.cells #[.int .i64 k2, .int .i64 n2, .string t2, .slice na2 nm2.length ncap2, .slice ia2 it2.length icap2] 25))
          have HK8 := Hold.mk (HK7.out.alloc (.cells #[.int .i64 k2, .int .i64 n2, .string t2, .slice na2 nm2.length ncap2, .slice ia2 it2.length icap2] 25))
          have HNV := Hold.mk (heap_alloc_new w7 (.cells #[.int .i64 k2, .int .i64 n2, .string t2, .slice na2 nm2.length ncap2, .slice ia2 it2.length icap2] 25))
          have HOLD := Hold.mk (fun (r : Nat) (h : r < w7.heap.size) => heap_alloc_old w7 (.cells #[.int .i64 k2, .int .i64 n2, .string t2, .slice na2 nm2.length ncap2, .slice ia2 it2.length icap2] 25) h)
          generalize w7.alloc (.cells #[.int .i64 k2, .int .i64 n2, .string t2, .slice na2 nm2.length ncap2, .slice ia2 it2.length icap2] 25) = w8 at HX8 HK8 HNV HOLD ⊢
          replace HNB := Hold.mk ((HOLD.out _ (heap_lt HNB.out)).trans HNB.out)
          refine mixl_act (i := 3) rfl (by kernel_rfl) (grewXC HX8.out) rfl (fun K hK => ?_)
          refine wp_append_lies w8 (.tmp 44) (.tmp 46) 23 rfl w2.heap.size 25 i0 (.agg #[.int .i64 0, .int .i64 0, .string ⟨#[]⟩, .slice none 0 0, .slice none 0 0]) 5 80 Tryd.underlying23 HI.out.1 HI.out.2.1 HI.out.2.2.1 HI.out.2.2.2 rfl (by decide) (.slice sa j scap) j _ rfl HK8.out.v ⟨w7.heap.size, 0, none⟩ 1 1 [.int .i64 k2, .int .i64 n2, .string t2, .slice na2 nm2.length ncap2, .slice ia2 it2.length icap2] rfl rfl (World.news_of_block HNV.out) (by simp [Value.oneCell']) (by decide) (by unfold maxLen; omega) (by omega) HK8.out.bel.size _ rfl ?_
          intro g9 cap9 w9 hown hgr _ _
          refine hK _ _ ?_
          clear hK K
          have HX9 := Hold.mk (HX8.out.growS hgr)
          have HK9 := Hold.mk (HK8.out.pushV hgr hown HJU.out)
          replace HNB := Hold.mk ((hgr.block _ (heap_lt HNB.out) HNEB.out).trans HNB.out)
          clear hown hgr
          refine mixl_act (i := 8) rfl (by kernel_rfl) (grewXC HX9.out) rfl (fun K hK => ?_)
          refine wp_append_lies w9 (.tmp 48) (.tmp 51) 88 rfl w2.heap.size 4 ib (.bool false) 1 1 Tryd.underlying88 HIB.out.1 HIB.out.2.1 HIB.out.2.2.1 HIB.out.2.2.2 rfl (by decide) (.slice da j dcap) j _ rfl HK9.out.b ⟨w6.heap.size, 0, none⟩ 1 1 [.bool d] rfl rfl (World.news_of_block HNB.out) (by simp [Value.oneCell']) (by decide) (by unfold maxLen; omega) (by omega) HK9.out.bel.size _ rfl ?_
          intro g10 cap10 w10 hown hgr _ _
          refine hK _ _ ?_
          clear hK K
          have HX10 := Hold.mk (HX9.out.growT hgr)
          have HK10 := Hold.mk (HK9.out.pushB (f := (s, d)) hgr hown)
          clear hown hgr
          refine mixl_act (i := 9) rfl (by kernel_rfl) (grewXC HX10.out) rfl (fun K hK => ?_)
          go_wp2_with fail
          refine mixl_act (i := 10) rfl (by kernel_rfl) (grewXC HX10.out) rfl (fun K hK => ?_)
          go_wp2_with fail
          refine mix_done (by kernel_rfl) (grewXC HX10.out) ?_
          go_wp2_with fail
          exact ⟨⟨j + 1, _, by go_num, hlt, HALL2.out, by rw [HST1.out, HST2.out]; exact HK10.out⟩, by simp [intOf]; omega⟩
    · obtain rfl : j = l.length := by omega
      have HT3 : Hold (Tabs wr) := ⟨HT.out.below (HB.out.trans (HK.out.bel.mono HB.out.size))⟩
      have HIT := Hold.mk (HK.out.items (cle_below (HB.out.trans (HK.out.bel.mono HB.out.size))))
      have HBT := Hold.mk HK.out.bools
      have HEE : Hold (compF vs (fs.map (·.2)) = entB ⟨xn, l, u⟩ v) := ⟨by rw [HVS.out, HFS.out, List.take_of_length_le (Nat.le_refl _)]; rfl⟩
      have HALL3 : Hold (l.all (hasK v) = true) := ⟨by have := HALL.out; rw [List.take_of_length_le (Nat.le_refl _)] at this; exact this⟩
      have HPL := Hold.mk HK.out.pl
      have HQL := Hold.mk HK.out.ql
      have HVF : Hold (∀ x ∈ vs, formedF 6 x = true) := ⟨fun x hx => by rw [HVS.out] at hx; obtain ⟨f, _, rfl⟩ := List.mem_map.1 hx; exact valK_formed v f⟩
      have HB3 : Hold (Below w.heap.size w wr) := ⟨HB.out.trans (HK.out.bel.mono HB.out.size)⟩
      go_wp2_with fail
      refine (Compound_any vs (fs.map (·.2)) _ _ _ HIT.out HBT.out (by rw [List.length_map, HPL.out, HQL.out]) (by rw [HPL.out]; exact h100) HVF.out HT3.out).mono ?_
      rintro e w3 ⟨hcp, hb3⟩
      rw [HEE.out] at hcp
      have HB4 : Hold (Below w.heap.size w w3) := ⟨HB3.out.trans (hb3.mono HB3.out.size)⟩
      clear hb3
      by_cases h200 : (entB ⟨xn, l, u⟩ v).length ≤ 200
      · rw [if_pos h200] at hcp
        obtain ⟨sv, rfl, hsv⟩ := hcp
        have HSV := Hold.mk (hsv.bytesA.mono (cfA_anti _ HB3.out.size))
        obtain ⟨ca, ccap, rfl, _⟩ := hsv.shape
        clear hsv
        by_cases h90 : (entB ⟨xn, l, u⟩ v).length ≤ 90
        · have H90 := Hold.mk h90
          go_wp2_with fail
          go_ret3
          exact EK_ok HA.out HALL3.out H90.out HSV.out HB4.out
        · have H90 := Hold.mk h90
          go_wp2_with fail
          go_ret3
          exact EK_long HA.out HALL3.out H90.out HB4.out
      · rw [if_neg h200] at hcp
        subst hcp
        have H90 : Hold (¬ (entB ⟨xn, l, u⟩ v).length ≤ 90) := ⟨by omega⟩
        clear h200
        go_wp2_with fail
        go_ret3
        exact EK_long HA.out HALL3.out H90.out HB4.out

end Go.Proofs.YtfllnlmanopfaaaDoor
