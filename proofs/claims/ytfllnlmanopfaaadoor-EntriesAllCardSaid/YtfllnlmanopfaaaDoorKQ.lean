/- EntriesAll, walked. -/
import Derived.Test.YtfllnlmanopfaaaDoorKP
import Derived.Test.YtfllnlmanopfaaaDoorEF
import Derived.Test.YtfllnlmanopfaaaDoorJC
namespace Go.Proofs.YtfllnlmanopfaaaDoor
open Go.RowKit

theorem infoIx : (Tryd.prog.info? 42).map (fun i => (i.zero, i.size, i.bytes)) = some (some (.agg #[.string ⟨#[]⟩, .slice none 0 0, .bool false]), 3, 48) := by kernel_rfl
theorem SAt.form {α : Type} {n : Nat} {R : Rep α} {c : CF} {v : Value} {xs : List α} (h : SAt n R c v xs) : ∃ a cap, v = .slice a xs.length cap := by obtain ⟨a, cap, e, _⟩ := h; exact ⟨a, cap, e⟩
theorem IAt.form {c : CF} {x : IX} {v : Value} (h : IAt c x v) : ∃ a cap, v = .agg #[.string x.name, .slice a x.fields.length cap, .bool x.uniq] := by
  obtain ⟨_, fv, e, a, cap, rfl, _⟩ := h
  exact ⟨a, cap, e⟩

set_option maxRecDepth 100000 in
set_option maxHeartbeats 16000000 in
theorem entriesAll_walk (l : List IX) (lv : Value) (v : JV) (vv : Value) (w : World) (hl : SAt 3 RI (cf w) lv l) (hv : JAt (cf w) v vv) (hT : Tabs w) :
    Calls Tryd.prog 10 #[lv, vv] w fun e w' => e = .returned (.bool true) ∧ Below w.heap.size w w' := by
  have HLV := Hold.mk hl
  obtain ⟨la, lcap, rfl, hle, hcap, hel⟩ := hl
  obtain ⟨k, n, t, nm, it, na, ncap, ia, icap, hve, rfl, _⟩ := id hv.open
  have HV := Hold.mk hv
  have HE := Hold.mk hel
  have HT := Hold.mk hT
  have HB := Hold.mk (Boxed.refl w (.cells #[.int .i64 k, .int .i64 n, .string t, .slice na nm.length ncap, .slice ia it.length icap] 25))
  clear hel hT hve hv
  go_enter Tryd.func10, Tryd.ntmps10
  go_wp2_with fail
  refine (awake17_any _ (HT.out.below HB.out.below)).mono ?_
  rintro e w1 ⟨rfl, hb1⟩
  replace HB := Hold.mk (HB.out.next hb1)
  clear hb1
  by_cases h10 : l.length ≤ 10
  case neg =>
    have h10b : ((10 : Int) < (l.length : Int)) := by omega
    go_wp2_with fail
    refine (awake17_any _ (HT.out.below HB.out.below)).mono ?_
    rintro e w3 ⟨rfl, hb3⟩
    replace HB := Hold.mk (HB.out.next hb3)
    clear hb3
    go_wp2_with fail
    go_ret
    exact ⟨rfl, HB.out.below⟩
  have h10b : ¬ ((10 : Int) < (l.length : Int)) := by omega
  obtain ⟨y0, y1, y2, y3, y4⟩ := cells_five HB.out.blk
  go_wp2_with fail
  refine (few_any (HV.out.mono (cle_below HB.out.below)) _ (CLe.refl _)).mono ?_
  rintro e w3 ⟨rfl, hb3⟩
  replace HB := Hold.mk (HB.out.next hb3)
  clear hb3 y0 y1 y2 y3 y4
  cases hfew : fewF v with
  | false =>
    clear hfew
    go_wp2_with fail
    refine (awake17_any _ (HT.out.below HB.out.below)).mono ?_
    rintro e w3 ⟨rfl, hb3⟩
    replace HB := Hold.mk (HB.out.next hb3)
    clear hb3
    go_wp2_with fail
    go_ret
    exact ⟨rfl, HB.out.below⟩
  | true =>
  clear hfew
  have HO : Hold (OwnS 3 RI 42 (w.heap.size + 1) w3 (.slice none 0 0) 0 [] []) := ⟨OwnS.start _ _ _ HB.out.lt⟩
  go_wp2_with fail
  go_loopw [5, 6] (fun sl i wr => ∃ (j : Nat) (cs : List Value), i = .int .i64 j ∧ j ≤ l.length ∧ (∀ (q : Nat) x, q < j → l[q]? = some x → fewI x = true) ∧ OwnS 3 RI 42 (w.heap.size + 1) wr sl j (l.take j) cs ∧ Boxed w wr (.cells #[.int .i64 k, .int .i64 n, .string t, .slice na nm.length ncap, .slice ia it.length icap] 25)) (fun _ i _ => l.length - (intOf i).toNat)
  case atStart => exact ⟨0, [], rfl, Nat.zero_le _, fun q x h => by omega, HO.out, HB.out⟩
  case round =>
    obtain ⟨j, cs, rfl, hj, hall, hown, hbx⟩ := hrel
    clear HO HB
    obtain ⟨sa, scap, rfl⟩ := hown.shape
    obtain ⟨ks, hks⟩ : ∃ ks, ks = l.take j := ⟨_, rfl⟩
    rw [← hks] at hown
    have HO := Hold.mk hown
    have HB := Hold.mk hbx
    have HALL := Hold.mk hall
    have HKS := Hold.mk hks
    clear hown hbx hall hks
    by_cases hlt : j < l.length
    · obtain ⟨x, hx⟩ : ∃ x, l[j]? = some x := ⟨l[j], List.getElem?_eq_getElem hlt⟩
      obtain ⟨b, off, d, rfl, hd, hc, hxi⟩ := HE.out j x hx
      obtain ⟨fa, fcap, rfl⟩ := hxi.open
      have HC := Hold.mk hc
      have hcl := cle_below HB.out.below
      have z0 := hcl _ _ _ (hc 0 _ rfl)
      have z1 := hcl _ _ _ (hc 1 _ rfl)
      have z2 := hcl _ _ _ (hc 2 _ rfl)
      unfold cf at z0 z1 z2
      rw [Nat.add_zero] at z0
      have HXI : Hold (IAt (cf w) x (.agg #[.string x.name, .slice fa x.fields.length fcap, .bool x.uniq])) := ⟨hxi⟩
      have HLX := Hold.mk hx
      clear hx hd hc hxi hcl
      go_wp2_with fail
      refine (lfew_any x _ _ (HXI.out.mono (cle_below HB.out.below))).mono ?_
      rintro e w4 ⟨rfl, hb4⟩
      replace HB := Hold.mk (HB.out.next hb4)
      replace HO := Hold.mk (HO.out.quiet RI_mono hb4)
      clear hb4 z0 z1 z2
      cases hfx : fewI x with
      | false =>
        clear hfx
        go_wp2_with fail
        go_ret
        exact ⟨rfl, HB.out.below⟩
      | true =>
        have HFX := Hold.mk hfx
        have hcl := cle_below HB.out.below
        have z0 := hcl _ _ _ (HC.out 0 _ rfl)
        have z1 := hcl _ _ _ (HC.out 1 _ rfl)
        have z2 := hcl _ _ _ (HC.out 2 _ rfl)
        unfold cf at z0 z1 z2
        rw [Nat.add_zero] at z0
        have HTK : Hold (l.take (j + 1) = ks ++ [x]) := ⟨by rw [take_succ HLX.out, ← HKS.out]⟩
        clear hfx hcl
        go_wp2_with fail
        refine (lplainA_any x _ _ (HXI.out.mono (cle_below HB.out.below)) (by have := fewI_len HFX.out; omega)).mono ?_
        rintro e w5 ⟨y, rfl, hy, hb5⟩
        obtain ⟨ga, gcap, rfl⟩ := hy.form
        have HRI : Hold (RI (cfN (.slice sa j scap) w5) x [.string x.name, .slice ga x.fields.length gcap, .bool x.uniq]) := ⟨IAt.mono hy (cfA_cfN (fun g hg => (HO.out.low g hg).2))⟩
        replace HB := Hold.mk (HB.out.next hb5)
        replace HO := Hold.mk (HO.out.quiet RI_mono hb5)
        clear hb5 hy z0 z1 z2
        go_wp2_with (at_builtin; refine push_new RI_mono rfl _ _ rfl infoIx Tryd.underlying61 rfl (by decide) _ _ _ j _ _ HO.out rfl _ [_, _, _] rfl rfl (by simp [Value.oneCell']) x HRI.out _ rfl rfl (by omega) (by decide) ?_)
        intro sl2 w6 ho6 hg6
        have HN : Hold (OwnS 3 RI 42 (w.heap.size + 1) w6 sl2 (j + 1) (l.take (j + 1)) _) := ⟨by rw [HTK.out]; exact ho6⟩
        have HW : Hold (Boxed w w6 (.cells #[.int .i64 k, .int .i64 n, .string t, .slice na nm.length ncap, .slice ia it.length icap] 25)) := ⟨⟨HB.out.bel.trans (HO.out.below hg6)⟩⟩
        have HA2 : Hold (∀ (q : Nat) x, q < j + 1 → l[q]? = some x → fewI x = true) := ⟨fun q x' hq hx' => by
          by_cases e : q = j
          · subst e; rw [HLX.out] at hx'; cases hx'; exact HFX.out
          · exact HALL.out q x' (by omega) hx'⟩
        clear ho6 hg6
        go_wp2_with fail
        exact ⟨⟨j + 1, _, by go_num, hlt, HA2.out, HN.out, HW.out⟩, by simp [intOf]; omega⟩
    · obtain rfl : j = l.length := by omega
      have HSM : Hold (∀ x ∈ l, x.fields.length ≤ 100 ∧ ∀ f ∈ x.fields, f.1.size ≤ 1000000) := ⟨fun x hx => by
        obtain ⟨i, hil, e⟩ := List.getElem_of_mem hx
        have := HALL.out i x hil (by rw [← e]; exact List.getElem?_eq_getElem hil)
        exact ⟨by have := fewI_len this; omega, fewI_small this⟩⟩
      have HM := Hold.mk (HO.out.at_ RI_mono)
      rw [HKS.out, List.take_of_length_le (Nat.le_refl _)] at HM
      obtain ⟨y0, y1, y2, y3, y4⟩ := cells_five HB.out.blk
      go_wp2_with fail
      refine (All_any l _ v _ _ (HLV.out.mono RI_mono (cle_below HB.out.below)) (HV.out.mono (cle_below HB.out.below)) HSM.out (by omega) (HT.out.below HB.out.below)).mono ?_
      rintro e w4 ⟨s1, rfl, hs1, hb4⟩
      obtain ⟨pa, pcap, rfl⟩ := hs1.form
      have HS1 := Hold.mk hs1
      replace HB := Hold.mk (HB.out.next hb4)
      replace HM := Hold.mk (HM.out.mono RI_mono (cle_below hb4))
      clear hb4 hs1 y0 y1 y2 y3 y4
      obtain ⟨y0, y1, y2, y3, y4⟩ := cells_five HB.out.blk
      go_wp2_with fail
      refine (rAll_any l _ v _ _ HM.out (HV.out.mono (cle_below HB.out.below)) HSM.out (by omega)).mono ?_
      rintro e w5 ⟨s2, rfl, hs2, hb5⟩
      obtain ⟨qa, qcap, rfl⟩ := hs2.form
      have HS2 := Hold.mk hs2
      replace HB := Hold.mk (HB.out.next hb5)
      replace HS1 := Hold.mk (HS1.out.mono RB_mono (cle_below hb5))
      have hee : (allE l v != allE l v) = false := by simp
      have hnn : (((allB l v).length : Int) != ((allB l v).length : Int)) = false := by simp
      clear hb5 hs2 y0 y1 y2 y3 y4
      generalize allE l v = ee at hee ⊢
      obtain ⟨bs, hbs⟩ : ∃ bs, bs = allB l v := ⟨_, rfl⟩
      rw [← hbs] at hnn HS1 HS2 ⊢
      have HBW := Hold.mk HB.out.below
      clear hbs HO HM HALL HKS HSM HB
      go_wp2_with fail
      go_loopw [11] (fun i wq => ∃ p : Nat, i = .int .i64 p ∧ p ≤ bs.length ∧ Below w5.heap.size w5 wq) (fun i _ => bs.length - (intOf i).toNat)
      case atStart => exact ⟨0, rfl, Nat.zero_le _, Below.refl _ _⟩
      case round =>
        obtain ⟨p, rfl, hp, hbl⟩ := hrel
        have HBL := Hold.mk hbl
        clear hbl
        by_cases hlt : p < bs.length
        · obtain ⟨x, hx⟩ : ∃ x, bs[p]? = some x := ⟨bs[p], List.getElem?_eq_getElem hlt⟩
          obtain ⟨_, _, e1, _, _, h1⟩ := HS1.out
          cases e1
          obtain ⟨_, _, e2, _, _, h2⟩ := HS2.out
          cases e2
          obtain ⟨b1, o1, d1, rfl, _, c1, u1, rfl, hu1⟩ := h1 p x hx
          obtain ⟨b2, o2, d2, rfl, _, c2, u2, rfl, hu2⟩ := h2 p x hx
          obtain ⟨ra, rcap, rfl⟩ := hu1.form
          obtain ⟨ta, tcap, rfl⟩ := hu2.form
          have hcl := cle_below HBL.out
          have z0 := hcl _ _ _ (c1 0 _ rfl)
          have z1 := hcl _ _ _ (c2 0 _ rfl)
          simp only [Nat.mul_one, Nat.add_zero] at z0 z1
          have g0 := Grow.cell z0
          have g1 := Grow.cell z1
          have HU1 := Hold.mk (hu1.mono hcl)
          have HU2 := Hold.mk (hu2.mono hcl)
          clear hx h1 h2 c1 c2 hu1 hu2 hcl z0 z1
          go_wp2_with fail
          have HC := Hold.mk (Calls.grow (fun e : Grow wr => by have h := Same4_any x x _ _ e.val (HU1.out.mono (cle_below e.property)) (HU2.out.mono (cle_below e.property)); rw [sameY_yes rfl] at h; exact h))
          refine wp_region_grow (by kernel_rfl) (by kernel_rfl) ?_
          repeat (go_big_quiet_step (exact HC.out _))
          refine wpQuiet_nil ?_
          rintro ⟨w8, hb8⟩
          have HN := Hold.mk (HBL.out.trans (hb8.mono HBL.out.size))
          simp only
          clear hb8 g0 g1 HC
          go_wp2_with fail
          exact ⟨⟨p + 1, by go_num, hlt, HN.out⟩, by simp [intOf]; omega⟩
        · go_wp2_with fail
          go_ret
          exact ⟨rfl, HBW.out.trans (HBL.out.mono HBW.out.size)⟩

end Go.Proofs.YtfllnlmanopfaaaDoor
