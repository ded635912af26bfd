/- Entries: All of the reference. -/
import Derived.Test.YtfllnlmanopfaaaDoorKO
namespace Go.Proofs.YtfllnlmanopfaaaDoor
open Go.RowKit

set_option maxRecDepth 100000 in
set_option maxHeartbeats 8000000 in
theorem rAll_any (l : List IX) (lv : Value) (v : JV) (vv : Value) (w : World) (hl : SAt 3 RI (cf w) lv l) (hv : JAt (cf w) v vv) (hsm : ∀ x ∈ l, x.fields.length ≤ 100 ∧ ∀ f ∈ x.fields, f.1.size ≤ 1000000) (h100 : l.length ≤ 100) :
    Calls Tryd.prog 39 #[lv, vv] w (AllPost l v w) := by
  obtain ⟨la, lcap, rfl, hle, hcap, hel⟩ := hl
  obtain ⟨k, n, t, nm, it, na, ncap, ia, icap, hve, rfl, _⟩ := id hv.open
  have HV := Hold.mk hv
  have HE := Hold.mk hel
  have HS := Hold.mk hsm
  have HB := Hold.mk (Boxed.refl w (.cells #[.int .i64 k, .int .i64 n, .string t, .slice na nm.length ncap, .slice ia it.length icap] 25))
  have HO : Hold (OwnS 1 RB 55 (w.heap.size + 1) (w.alloc (.cells #[.int .i64 k, .int .i64 n, .string t, .slice na nm.length ncap, .slice ia it.length icap] 25)) (.slice none 0 0) 0 [] []) := ⟨OwnS.start _ _ _ (by simp)⟩
  clear hel hsm hve hv
  go_enter Tryd.func39, Tryd.ntmps39
  go_wp2_with fail
  go_loopw [6, 7] (fun sl i wr => ∃ (j : Nat) (cs : List Value), i = .int .i64 j ∧ j ≤ l.length ∧ allE l v = allE (l.drop j) v ∧ OwnS 1 RB 55 (w.heap.size + 1) wr sl j ((l.take j).map (keyB3 · v)) cs ∧ Boxed w wr (.cells #[.int .i64 k, .int .i64 n, .string t, .slice na nm.length ncap, .slice ia it.length icap] 25)) (fun _ i _ => l.length - (intOf i).toNat)
  case atStart => exact ⟨0, [], rfl, Nat.zero_le _, rfl, HO.out, HB.out⟩
  case round =>
    obtain ⟨j, cs, rfl, hj, hst, hown, hbx⟩ := hrel
    clear HO HB
    obtain ⟨sa, scap, rfl⟩ := hown.shape
    obtain ⟨ks, hks⟩ : ∃ ks, ks = (l.take j).map (keyB3 · v) := ⟨_, rfl⟩
    rw [← hks] at hown
    have HO := Hold.mk hown
    have HB := Hold.mk hbx
    have HST := Hold.mk hst
    have HKS := Hold.mk hks
    obtain ⟨y0, y1, y2, y3, y4⟩ := cells_five hbx.blk
    have hlow := heap_lt hbx.blk
    clear hown hbx hst hks
    by_cases hlt : j < l.length
    · obtain ⟨x, hx⟩ : ∃ x, l[j]? = some x := ⟨l[j], List.getElem?_eq_getElem hlt⟩
      obtain ⟨b, off, d, rfl, hd, hc, hxi⟩ := HE.out j x hx
      obtain ⟨fa, fcap, rfl⟩ := hxi.open
      have hcl := cle_below HB.out.below
      have z0 := hcl _ _ _ (hc 0 _ rfl)
      have z1 := hcl _ _ _ (hc 1 _ rfl)
      have z2 := hcl _ _ _ (hc 2 _ rfl)
      unfold cf at z0 z1 z2
      rw [Nat.add_zero] at z0
      have HXI : Hold (IAt (cf w) x (.agg #[.string x.name, .slice fa x.fields.length fcap, .bool x.uniq])) := ⟨hxi⟩
      have HSX := Hold.mk (HS.out x (List.mem_of_getElem? hx))
      have HD : Hold (allE l v = (if keyE x v = 0 then allE (l.drop (j + 1)) v else keyE x v)) := ⟨by obtain ⟨h1, e1⟩ := List.getElem?_eq_some_iff.1 hx; rw [HST.out, List.drop_eq_getElem_cons h1, e1]; rfl⟩
      have HTK : Hold ((l.take (j + 1)).map (keyB3 · v) = ks ++ [keyB3 x v]) := ⟨by rw [take_succ hx, List.map_append, ← HKS.out]; rfl⟩
      have g0 := Grow.cell z0
      have g1 := Grow.cell z1
      have g2 := Grow.cell z2
      have p0 := Grow.cell y0
      have p1 := Grow.cell y1
      have p2 := Grow.cell y2
      have p3 := Grow.cell y3
      have p4 := Grow.cell y4
      clear hx hd hc hxi hcl
      go_wp2_with fail
      clear y0 y1 y2 y3 y4 z0 z1 z2
      refine wp_region_mix 13 rfl (by kernel_rfl) ?_
      rintro w3 hb3
      have HG := Hold.mk hb3
      have HO3 := Hold.mk (HO.out.quiet RB_mono hb3)
      have HB3 := Hold.mk (HB.out.next hb3)
      clear hb3
      refine mixl_seg (by kernel_rfl) (fun _ _ d _ _ h => by cases d <;> exact h) [0, 1, 2, 3, 4] [_, _, _, _, _] 8 13 rfl _ _ _ rfl (by kernel_rfl) (growC HG.out) ?_
      repeat (go_big_quiet_step (fail))
      refine wpQuiet_nil ?_
      clear g0 g1 g2 p0 p1 p2 p3 p4
      refine mixl_act (i := 5) rfl (by kernel_rfl) (growC HG.out) rfl (fun K hK => ?_)
      go_wp2_with fail
      refine (rEKey_any x _ v _ _ (HXI.out.mono (cle_below HB3.out.below)) (HV.out.mono (cle_below HB3.out.below)) HSX.out.2 HSX.out.1).mono ?_
      rintro e w4 ⟨sb, rfl, hsb, hb4⟩
      replace HG := Hold.mk (HG.out.trans (hb4.mono HG.out.size))
      obtain ⟨ba, bcap, rfl⟩ := hsb.form
      have HRB : Hold (RB (cfN (.slice sa j scap) w4) (keyB3 x v) [.slice ba (keyB3 x v).length bcap]) := ⟨⟨_, rfl, hsb.mono (cfA_cfN (fun g hg => (HO3.out.low g hg).2))⟩⟩
      replace HO3 := Hold.mk (HO3.out.quiet RB_mono hb4)
      replace HB3 := Hold.mk (HB3.out.next hb4)
      clear hb4 hsb
      generalize hko : keyO x v = ko
      clear hko
      generalize hkb : keyB3 x v = kb at HRB ⊢
      have HKB := Hold.mk hkb
      clear hkb
      generalize hke2 : keyE x v = ke2
      have HKE := Hold.mk hke2
      clear hke2
      go_wp2_with fail
      refine mixl_seg (by kernel_rfl) (fun _ _ d _ _ h => by cases d <;> exact h) [6, 7, 8, 9, 10, 11, 12] [_, _, _, _, _, _, _] 0 7 rfl _ _ _ rfl (by kernel_rfl) (growC HG.out) ?_
      repeat (go_big_quiet_step (fail))
      refine wpQuiet_nil ?_
      refine mix_done (by kernel_rfl) (growC HG.out) ?_
      by_cases hke : keyE x v = 0
      · obtain rfl : ke2 = 0 := HKE.out.symm.trans hke
        have HEQ : Hold (allE l v = allE (l.drop (j + 1)) v) := ⟨by rw [HD.out, if_pos hke]⟩
        clear hke
        go_wp2_with (at_builtin; refine push_new RB_mono rfl _ _ rfl infoBs Tryd.underlying62 rfl (by decide) _ _ _ j _ _ HO3.out rfl _ [_] rfl rfl (by simp [Value.oneCell']) kb HRB.out _ rfl rfl (by omega) (by decide) ?_)
        intro sl2 w5 ho5 hg5
        have HN : Hold (OwnS 1 RB 55 (w.heap.size + 1) w5 sl2 (j + 1) ((l.take (j + 1)).map (keyB3 · v)) _) := ⟨by rw [HTK.out, HKB.out]; exact ho5⟩
        have HW : Hold (Boxed w w5 (.cells #[.int .i64 k, .int .i64 n, .string t, .slice na nm.length ncap, .slice ia it.length icap] 25)) := ⟨⟨HB3.out.bel.trans (HO3.out.below hg5)⟩⟩
        clear ho5 hg5
        go_wp2_with fail
        exact ⟨⟨j + 1, _, by go_num, hlt, HEQ.out, HN.out, HW.out⟩, by simp [intOf]; omega⟩
      · have hkb2 : (ke2 != 0) = true := by rw [← HKE.out]; simpa using hke
        have HP := Hold.mk (all_bad (l := l) (w := w) (by rw [HD.out, if_neg hke]) hke HB3.out.below)
        rw [HKE.out] at HP
        clear hke
        go_wp2_with fail
        go_ret2
        exact HP.out
    · obtain rfl : j = l.length := by omega
      have HP := Hold.mk (all_ok (l := l) (v := v) (w := w) (w' := wr) (sv := .slice sa l.length scap) (by rw [HST.out, List.drop_eq_nil_of_le (Nat.le_refl _)]; rfl) (by have := HO.out.at_ RB_mono; rw [HKS.out, List.take_of_length_le (Nat.le_refl _)] at this; exact this) HB.out.below)
      go_wp2_with fail
      go_ret2
      exact HP.out

end Go.Proofs.YtfllnlmanopfaaaDoor
