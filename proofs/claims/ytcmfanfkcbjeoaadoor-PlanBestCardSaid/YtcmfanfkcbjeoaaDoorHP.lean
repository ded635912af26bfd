/- Plans: PlanBest, walked. -/
import Derived.Test.YtcmfanfkcbjeoaaDoorHO
import Derived.Deep.DeepCutAuto
namespace Go.Proofs.YtcmfanfkcbjeoaaDoor
open Go.RowKit

theorem make_ok {f : JV} {l : List IX} (h : makeE f l = 0) : checkF f = 0 ∧ l.all formI = true := by
  unfold makeE at h
  by_cases hc : checkF f = 0
  · rw [if_pos hc] at h
    by_cases hl : l.all formI = true
    · exact ⟨hc, hl⟩
    · rw [if_neg hl] at h; cases h
  · rw [if_neg hc] at h; exact absurd h hc
theorem rank_at {f : JV} {l : List IX} {j : Nat} {x : IX} (h : l[j]? = some x) : (l.map (rankR f))[j]? = some (rankR f x) := by rw [List.getElem?_map, h]; rfl

set_option maxRecDepth 100000 in
set_option maxHeartbeats 16000000 in
theorem planBest_walk (f : JV) (fx : Value) (l : List IX) (lv : Value) (w : World) (hfx : JAt (cf w) f fx) (hl : SAt 3 RX (cf w) lv l) (hT : Tabs w) :
    Calls Tryd.prog 3 #[fx, lv] w fun e w' => e = .returned (.bool true) ∧ Below w.heap.size w w' := by
  have HFX := Hold.mk hfx
  have HLV := Hold.mk hl
  obtain ⟨k, n, t, nm, it, na, ncap, ia, icap, hfe, rfl, _⟩ := id hfx.open
  clear hfe
  obtain ⟨la, lcap, rfl, hle, hcap, hel⟩ := hl
  have HB := Hold.mk (Boxed.refl w (.cells #[.int .i64 k, .int .i64 n, .string t, .slice na nm.length ncap, .slice ia it.length icap] 25))
  have HE := Hold.mk hel
  have HT := Hold.mk hT
  clear hfx hel hT
  go_enter Tryd.func3, Tryd.ntmps3
  go_wp2_with fail
  refine (awake18_any _ (HT.out.below HB.out.below)).mono ?_
  rintro e w1 ⟨rfl, hb1⟩
  replace HB := Hold.mk (HB.out.next hb1)
  clear hb1
  have HFW := Hold.mk (few18_any f _ l _ w1 (HFX.out.mono (cle_below HB.out.below)) (HLV.out.mono RX_mono (cle_below HB.out.below)))
  obtain ⟨y0, y1, y2, y3, y4⟩ := cells_five HB.out.blk
  go_wp2_with fail
  refine HFW.out.mono ?_
  rintro e w2 ⟨rfl, hb2⟩
  replace HB := Hold.mk (HB.out.next hb2)
  clear hb2 y0 y1 y2 y3 y4 HFW
  cases hfew : few18 f l with
  | false =>
    clear hfew
    go_wp2_with fail
    refine (awake18_any _ (HT.out.below HB.out.below)).mono ?_
    rintro e w3 ⟨rfl, hb3⟩
    replace HB := Hold.mk (HB.out.next hb3)
    clear hb3
    go_wp2_with fail
    go_ret
    exact ⟨rfl, HB.out.below⟩
  | true =>
  obtain ⟨hl10, hsm, _⟩ := few18_small hfew
  have HL10 := Hold.mk hl10
  have HSM : Hold (∀ x ∈ l, ∀ p ∈ x.fields, p.1.size ≤ 1000000) := ⟨fun x hx => (hsm x hx).2⟩
  clear hfew hl10 hsm
  have HMK := Hold.mk (Make_any f _ l _ w2 (HFX.out.mono (cle_below HB.out.below)) (HLV.out.mono RX_mono (cle_below HB.out.below)) HSM.out (HT.out.below HB.out.below))
  obtain ⟨y0, y1, y2, y3, y4⟩ := cells_five HB.out.blk
  go_wp2_with fail
  refine HMK.out.mono ?_
  rintro e w3 ⟨fv, tv, rfl, hf, ht, hb3⟩
  obtain ⟨fl, hfl⟩ : ∃ fl, fl = (if makeE f l = 0 then stF (makeB f l) else []) := ⟨_, rfl⟩
  obtain ⟨tl, htl⟩ : ∃ tl, tl = (if makeE f l = 0 then stT (makeB f l) else []) := ⟨_, rfl⟩
  obtain ⟨ix, hix⟩ : ∃ ix, ix = (if makeE f l = 0 then stI (makeB f l) else 0) := ⟨_, rfl⟩
  rw [← hfl] at hf
  rw [← htl] at ht
  rw [← hix]
  obtain ⟨fa, fcap, rfl, _⟩ := hf.shape
  obtain ⟨ta, tcap, rfl, _⟩ := ht.shape
  obtain ⟨W4, hW4⟩ : ∃ W4, W4 = w3.alloc (.cells #[.int .i64 ix, .slice fa fl.length fcap, .slice ta tl.length tcap] 31) := ⟨_, rfl⟩
  have hb4 : Below w3.heap.size w3 W4 := by rw [hW4]; exact (Below.refl _ w3).alloc (Nat.le_refl _) _
  have HP4 : Hold (W4.heap[w3.heap.size]? = some (.cells #[.int .i64 ix, .slice fa fl.length fcap, .slice ta tl.length tcap] 31 (0, 0))) := ⟨by rw [hW4]; exact heap_alloc_new w3 _⟩
  replace HB := Hold.mk ((HB.out.next hb3).next hb4)
  have HFL := Hold.mk hfl
  have HIX0 := Hold.mk hix
  clear hf ht hb3 hb4 y0 y1 y2 y3 y4 HMK hfl htl hix
  go_upto_region 4 with (fail)
  rw [← hW4]
  clear hW4
  by_cases hme : makeE f l = 0
  case neg =>
    have hmb : (makeE f l != 0) = true := by simpa using hme
    have hfl0 : fl = [] := by rw [HFL.out, if_neg hme]
    have hix0 : ix = 0 := by rw [HIX0.out, if_neg hme]
    subst hfl0
    subst hix0
    clear hme HFL HIX0
    obtain ⟨c0, c1, c2⟩ := cells_three HP4.out
    go_wp2_with fail
    go_ret
    exact ⟨rfl, HB.out.below⟩
  have hme0 : makeE f l = 0 := hme
  obtain ⟨hc, hall⟩ := make_ok hme
  have HBA := Hold.mk (best_law hc hall)
  have hix := HIX0.out
  rw [if_pos hme] at hix
  obtain ⟨st, hst⟩ : ∃ st, st = makeB f l := ⟨_, rfl⟩
  rw [← hst] at HBA hix
  have HIX := Hold.mk hix
  clear hix hst hc hall hme HFL HIX0
  rw [hme0]
  clear hme0
  generalize w3.heap.size = pb at *
  obtain ⟨c0, c1, c2⟩ := cells_three HP4.out
  obtain ⟨y0, y1, y2, y3, y4⟩ := cells_five HB.out.blk
  have HRK := Hold.mk (fun (W : World) (hb : Below w.heap.size w W) (x : IX) (v : Value) (hm : x ∈ l) (hi : IAt (cf w) x v) => Rank_any f _ x v W (HFX.out.mono (cle_below hb)) (hi.mono (cle_below hb)) (HSM.out x hm) (HT.out.below hb))
  go_upto_if 38 with (fail)
  go_cut [7] (fun s7 wx => s7 = .int .i64 (st.2 : Int) ∧ Below W4.heap.size W4 wx)
  case first =>
    cases hs1 : st.1 with
    | none =>
      have HM0 : Hold (st.2 = 0) := ⟨HBA.out.none_ (by rw [hs1]; rfl)⟩
      have hixm : ix = -1 := by rw [HIX.out]; unfold stI; rw [hs1]
      subst hixm
      clear hs1
      go_wp2_with fail
      go_meet
      case rel => exact ⟨by rw [HM0.out]; rfl, Below.refl _ _⟩
    | some q =>
      obtain ⟨hk, hrk, _, _⟩ := HBA.out.some_ q.1 (by rw [hs1]; rfl)
      have hixm : ix = (q.1 : Int) := by rw [HIX.out]; unfold stI; rw [hs1]
      clear hs1
      obtain ⟨qn, hqn⟩ : ∃ qn, qn = q.1 := ⟨_, rfl⟩
      rw [← hqn] at hk hrk hixm
      clear hqn
      subst hixm
      have hne1 : ((qn : Int) != -1) = true := by
        rw [bne_iff_ne]; omega
      obtain ⟨x, hx⟩ : ∃ x, l[qn]? = some x := ⟨l[qn], List.getElem?_eq_getElem hk⟩
      have HRV : Hold (rankR f x = st.2) := ⟨by rw [rank_at hx] at hrk; exact Option.some.inj hrk⟩
      obtain ⟨b, off, d, rfl, hd, hcc, hxi⟩ := HE.out qn x hx
      obtain ⟨xa, xcap, rfl⟩ := hxi.open
      have hcl := cle_below HB.out.below
      have z0 := hcl _ _ _ (hcc 0 _ rfl)
      have z1 := hcl _ _ _ (hcc 1 _ rfl)
      have z2 := hcl _ _ _ (hcc 2 _ rfl)
      unfold cf at z0 z1 z2
      rw [Nat.add_zero] at z0
      have g0 := Grow.cell z0
      have g1 := Grow.cell z1
      have g2 := Grow.cell z2
      have h0 := Grow.cell y0
      have h1 := Grow.cell y1
      have h2 := Grow.cell y2
      have h3 := Grow.cell y3
      have h4 := Grow.cell y4
      have h5 := Grow.cell c0
      have HXM := Hold.mk (List.mem_of_getElem? hx)
      have HCR := Hold.mk (Calls.grow (fun e : Grow W4 => HRK.out e.val (HB.out.below.trans (e.property.mono HB.out.below.size)) x _ HXM.out hxi))
      rw [HRV.out] at HCR
      clear hrk hx hd hcc hxi hcl
      go_upto_region 8 with (fail)
      clear z0 z1 z2 y0 y1 y2 y3 y4 c0 c1 c2
      refine wp_region_grow (by kernel_rfl) (by kernel_rfl) ?_
      repeat (go_big_quiet_step (exact HCR.out _))
      refine wpQuiet_nil ?_
      rintro ⟨w6, hb6⟩
      have HB6 := Hold.mk hb6
      simp only
      clear hb6 g0 g1 g2 h0 h1 h2 h3 h4 h5 HCR
      go_wp2_with fail
      go_meet
      case rel => exact ⟨rfl, HB6.out⟩
  case rest =>
    obtain ⟨rfl, hbw⟩ := hcut
    generalize wc = W5 at *
    replace HB := Hold.mk (HB.out.next hbw)
    have HP5 := Hold.mk (kept HP4.out hbw)
    have HIXS : Hold ((st.1 = none ∧ ix = -1) ∨ ∃ q, st.1 = some q ∧ ix = (q.1 : Int)) := ⟨by
      cases hs1 : st.1 with
      | none => exact .inl ⟨rfl, by rw [HIX.out]; unfold stI; rw [hs1]⟩
      | some q => exact .inr ⟨q, rfl, by rw [HIX.out]; unfold stI; rw [hs1]⟩⟩
    clear hbw HP4 c0 c1 c2 y0 y1 y2 y3 y4
    go_wp2_with fail
    go_loopw [8] (fun i wr => ∃ j : Nat, i = .int .i64 j ∧ j ≤ l.length ∧ Below W5.heap.size W5 wr) (fun i _ => l.length - (intOf i).toNat)
    case atStart => exact ⟨0, rfl, Nat.zero_le _, Below.refl _ _⟩
    case round =>
      obtain ⟨j, rfl, hj, hbl⟩ := hrel
      have HBL := Hold.mk hbl
      clear hbl
      have HBR := Hold.mk (HB.out.next HBL.out)
      have HPR := Hold.mk (kept HP5.out HBL.out)
      by_cases hlt : j < l.length
      · obtain ⟨x, hx⟩ : ∃ x, l[j]? = some x := ⟨l[j], List.getElem?_eq_getElem hlt⟩
        obtain ⟨b, off, d, rfl, hd, hcc, hxi⟩ := HE.out j x hx
        obtain ⟨xa, xcap, rfl⟩ := hxi.open
        have hcl := cle_below HBR.out.below
        have z0 := hcl _ _ _ (hcc 0 _ rfl)
        have z1 := hcl _ _ _ (hcc 1 _ rfl)
        have z2 := hcl _ _ _ (hcc 2 _ rfl)
        unfold cf at z0 z1 z2
        rw [Nat.add_zero] at z0
        obtain ⟨y0, y1, y2, y3, y4⟩ := cells_five HBR.out.blk
        have g0 := Grow.cell z0
        have g1 := Grow.cell z1
        have g2 := Grow.cell z2
        have h0 := Grow.cell y0
        have h1 := Grow.cell y1
        have h2 := Grow.cell y2
        have h3 := Grow.cell y3
        have h4 := Grow.cell y4
        have HXM := Hold.mk (List.mem_of_getElem? hx)
        have HCR := Hold.mk (Calls.grow (fun e : Grow wr => HRK.out e.val (HBR.out.below.trans (e.property.mono HBR.out.below.size)) x _ HXM.out hxi))
        have HLE := Hold.mk (HBA.out.le j _ hlt (rank_at hx))
        have HLS : Hold (∀ q, st.1 = some q → j < q.1 → rankR f x < st.2) := ⟨fun q hq hjq => (HBA.out.some_ q.1 (by rw [hq]; rfl)).2.2.2 j _ hjq (rank_at hx)⟩
        obtain ⟨r, hr⟩ : ∃ r, r = rankR f x := ⟨_, rfl⟩
        rw [← hr] at HCR HLE HLS
        clear hx hd hcc hxi hcl hr
        go_upto_region 12 with (fail)
        clear z0 z1 z2 y0 y1 y2 y3 y4
        refine wp_region_grow (by kernel_rfl) (by kernel_rfl) ?_
        repeat (go_big_quiet_step (exact HCR.out _))
        refine wpQuiet_nil ?_
        rintro ⟨w6, hb6⟩
        have HB6 := Hold.mk (HBL.out.trans (hb6.mono HBL.out.size))
        have HP6 := Hold.mk (kept HPR.out hb6)
        simp only
        clear hb6 g0 g1 g2 h0 h1 h2 h3 h4 HCR
        obtain ⟨c0, c1, c2⟩ := cells_three HP6.out
        have hgt : ¬ (st.2 : Int) < (r : Int) := by have := HLE.out; omega
        rcases HIXS.out with ⟨hs1, rfl⟩ | ⟨q, hs1, rfl⟩
        · clear hs1
          go_wp2_with fail
          exact ⟨⟨j + 1, by go_num, hlt, HB6.out⟩, by simp [intOf]; omega⟩
        · have hne1 : ((q.1 : Int) != -1) = true := by
            rw [bne_iff_ne]; omega
          by_cases hjq : j < q.1
          · have hji : (j : Int) < (q.1 : Int) := by omega
            have hrm : ((r : Int) == (st.2 : Int)) = false := by
              rw [beq_eq_false_iff_ne]
              have := HLS.out q hs1 hjq
              omega
            clear hs1
            go_wp2_with fail
            exact ⟨⟨j + 1, by go_num, hlt, HB6.out⟩, by simp [intOf]; omega⟩
          · have hji : ¬ (j : Int) < (q.1 : Int) := by omega
            clear hs1
            go_wp2_with fail
            exact ⟨⟨j + 1, by go_num, hlt, HB6.out⟩, by simp [intOf]; omega⟩
      · obtain ⟨c0, c1, c2⟩ := cells_three HPR.out
        rcases HIXS.out with ⟨hs1, rfl⟩ | ⟨q, hs1, rfl⟩
        · have hm0 : st.2 = 0 := HBA.out.none_ (by rw [hs1]; rfl)
          rw [hm0]
          clear hs1 hm0
          go_wp2_with fail
          go_ret
          exact ⟨rfl, HBR.out.below⟩
        · have hm0 := (HBA.out.some_ q.1 (by rw [hs1]; rfl)).2.2.1
          have hb0 : ((st.2 : Int) == 0) = false := by rw [beq_eq_false_iff_ne]; omega
          have hne1 : ((q.1 : Int) == -1) = false := by rw [beq_eq_false_iff_ne]; omega
          clear hs1 hm0
          go_wp2_with fail
          go_ret
          exact ⟨rfl, HBR.out.below⟩

end Go.Proofs.YtcmfanfkcbjeoaaDoor
