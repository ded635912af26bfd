/- Filters: paths of the reference, walked. -/
import Derived.Test.YtfllnlmanopfaaaDoorLB
import Derived.Test.YtfllnlmanopfaaaDoorLC
namespace Go.Proofs.YtfllnlmanopfaaaDoor
open Go.RowKit

/-- texts put in, one by one -/
def foldP (xs ys : List ByteArray) : List ByteArray := ys.foldl (fun l s => putL s l) xs
theorem foldP_app (xs ys zs : List ByteArray) : foldP xs (ys ++ zs) = foldP (foldP xs ys) zs := by unfold foldP; rw [List.foldl_append]
theorem putL_len (s : ByteArray) : ∀ l, (putL s l).length ≤ l.length + 1
  | [] => by simp [putL]
  | a :: l => by
    rw [putL]
    have := putL_len s l
    repeat' split
    all_goals simp only [List.length_cons]; omega
theorem foldP_len (xs : List ByteArray) : ∀ ys : List ByteArray, (foldP xs ys).length ≤ xs.length + ys.length := by
  intro ys
  induction ys generalizing xs with
  | nil => simp [foldP]
  | cons s ys ih =>
    have h1 := ih (putL s xs)
    have h2 := putL_len s xs
    unfold foldP at *
    rw [List.foldl_cons, List.length_cons]; omega
theorem SAt.slice {α : Type} {n : Nat} {R : Rep α} {c : CF} {v : Value} {xs : List α} (h : SAt n R c v xs) : ∃ a cap, v = .slice a xs.length cap := by obtain ⟨a, cap, e, _⟩ := h; exact ⟨a, cap, e⟩
def RPost (xs ys : List ByteArray) (w : World) (e : Ending) (w' : World) : Prop := ∃ sv, e = .returned sv ∧ SAt 1 RS (cf w') sv (foldP xs ys) ∧ Below w.heap.size w w'
/-- what paths of the reference is known to do, going down d -/
def RPathsAt (d : Nat) : Prop := ∀ (v : JV) (x : Value) (lv : Value) (xs : List ByteArray) (w : World), formedF d v = true → JAt (cf w) v x → SAt 1 RS (cf w) lv xs → xs.length + 2 * 24 ^ d ≤ 400000000 →
  Calls Tryd.prog 71 #[lv, x] w (RPost xs (pathsF d v) w)
theorem rclause_fits {p d j q : Nat} (hp : p + 2 * 24 ^ (d + 1) ≤ 400000000) (hj : j < 24) (hq : q ≤ j * 24 ^ d) : p + q + 2 * 24 ^ d ≤ 400000000 ∧ p + q ≤ 400000000 := by
  rw [Nat.pow_succ] at hp
  have : j * 24 ^ d ≤ 23 * 24 ^ d := Nat.mul_le_mul_right _ (by omega)
  generalize 24 ^ d = z at *
  omega
theorem rinner_fits {p d j q r : Nat} (hp : p + 2 * 24 ^ (d + 1) ≤ 400000000) (hj : j < 24) (hq : q ≤ j * 24 ^ d) (hr : r ≤ 24 ^ d) : p + (q + r) + 2 * 24 ^ d ≤ 400000000 := by
  rw [Nat.pow_succ] at hp
  have : j * 24 ^ d ≤ 23 * 24 ^ d := Nat.mul_le_mul_right _ (by omega)
  generalize 24 ^ d = z at *
  omega

set_option maxRecDepth 100000 in
set_option maxHeartbeats 16000000 in
theorem rpaths_step (d : Nat) (IH : RPathsAt d) (k n : Int) (t : ByteArray) (nm : List ByteArray) (it : List JV) (na : Option Addr) (ncap : Nat) (ia : Option Addr) (icap : Nat) (lv : Value) (xs : List ByteArray) (w : World)
    (hf : formedF (d + 1) (.mk k n t nm it) = true) (hst : StrsAt (cf w) (.slice na nm.length ncap) nm) (hit : ItemsAt (cf w) (.slice ia it.length icap) it) (ho : SAt 1 RS (cf w) lv xs) (hp : xs.length + 2 * 24 ^ (d + 1) ≤ 400000000) :
    Calls Tryd.prog 71 #[lv, .agg #[.int .i64 k, .int .i64 n, .string t, .slice na nm.length ncap, .slice ia it.length icap]] w (RPost xs (pathsF (d + 1) (.mk k n t nm it)) w) := by
  obtain ⟨sa, scap, rfl⟩ := ho.slice
  have HB := Hold.mk (Boxed.refl w (.cells #[.int .i64 k, .int .i64 n, .string t, .slice na nm.length ncap, .slice ia it.length icap] 25))
  have HO := Hold.mk ho
  obtain ⟨zs, hzs⟩ : ∃ zs, zs = nm.zip it := ⟨_, rfl⟩
  have HZF : Hold (∀ q ∈ zs, formedF d q.2 = true) := ⟨fun q hq => by rw [hzs] at hq; exact (items_24 hf).2 q.2 (List.of_mem_zip hq).2⟩
  have HZ : Hold (∀ (j : Nat) s v, nm[j]? = some s → it[j]? = some v → zs[j]? = some (s, v)) := ⟨fun j s v h1 h2 => by rw [hzs, List.getElem?_zip_eq_some]; exact ⟨h1, h2⟩⟩
  have hpf : pathsF (d + 1) (.mk k n t nm it) = zs.flatMap fun q => pathC (pathsF d) q.1 q.2 := by rw [hzs]; rfl
  have HPF := Hold.mk hpf
  have hnl : nm.length ≤ it.length ∧ it.length ≤ 24 := by
    refine ⟨?_, (items_24 hf).1⟩
    by_cases hk : k < 5
    · rw [formedF, if_pos hk, Bool.and_eq_true] at hf
      have := (of_decide_eq_true hf.2).2
      omega
    · have := (formed_body hf hk).2.1
      split at this <;> omega
  have HZL : Hold (zs.length = nm.length) := ⟨by rw [hzs, List.length_zip]; omega⟩
  have HBD := Hold.mk hp
  obtain ⟨ia', icap', e, hlen, hel⟩ := hit
  cases e
  obtain ⟨na', ncap', e, hnlen, hnel⟩ := hst
  cases e
  have HS := Hold.mk hnel
  have HE := Hold.mk hel
  have HIH := Hold.mk IH
  clear ho hp hnel hel IH hf hzs hpf
  go_enter Tryd.func71, Tryd.ntmps71
  go_wp2_with fail
  go_loopw [0, 5] (fun sv i wr => ∃ j : Nat, i = .int .i64 j ∧ j ≤ nm.length ∧ Boxed w wr (.cells #[.int .i64 k, .int .i64 n, .string t, .slice na nm.length ncap, .slice ia it.length icap] 25) ∧ SAt 1 RS (cf wr) sv (foldP xs ((zs.take j).flatMap fun q => pathC (pathsF d) q.1 q.2))) (fun _ i _ => nm.length - (intOf i).toNat)
  case atStart => exact ⟨0, rfl, Nat.zero_le _, HB.out, by simpa [foldP] using HO.out.mono RS_mono (cle_alloc _ _)⟩
  case round =>
    obtain ⟨j, rfl, hj, hbx, hown⟩ := hrel
    clear HB HO
    obtain ⟨qs, hqs⟩ : ∃ qs, qs = (zs.take j).flatMap fun q => pathC (pathsF d) q.1 q.2 := ⟨_, rfl⟩
    rw [← hqs] at hown
    obtain ⟨ps, hps⟩ : ∃ ps, ps = foldP xs qs := ⟨_, rfl⟩
    rw [← hps] at hown
    obtain ⟨ja, jcap, rfl⟩ := hown.slice
    have HQL : Hold (qs.length ≤ j * 24 ^ d) := ⟨by rw [hqs]; exact take_len (f := .mk k n t nm it) HZF.out rfl⟩
    have HPL : Hold (ps.length ≤ xs.length + qs.length) := ⟨by rw [hps]; exact foldP_len _ _⟩
    have HB := Hold.mk hbx
    have HOW := Hold.mk hown
    have HQS := Hold.mk hqs
    have HPS := Hold.mk hps
    obtain ⟨y0, y1, y2, y3, y4⟩ := cells_five hbx.blk
    have hcl := cle_below hbx.below
    clear hbx hown hqs hps
    by_cases hlt : j < nm.length
    · obtain ⟨s, hs⟩ : ∃ s, nm[j]? = some s := ⟨nm[j], List.getElem?_eq_getElem hlt⟩
      have hlt2 : j < it.length := by omega
      obtain ⟨x, hx⟩ : ∃ x, it[j]? = some x := ⟨it[j], List.getElem?_eq_getElem hlt2⟩
      obtain ⟨hsz, sb, so, rfl, hsc⟩ := HS.out j s hs
      obtain ⟨bb, off, k2, n2, t2, nm2, it2, na2, ncap2, ia2, icap2, rfl, hxe, x0, x1, x2, x3, x4, hxj⟩ := HE.out j x hx
      have z0 := hcl _ _ _ x0
      have z1 := hcl _ _ _ x1
      have z2 := hcl _ _ _ x2
      have z3 := hcl _ _ _ x3
      have z4 := hcl _ _ _ x4
      have z5 := hcl _ _ _ hsc
      unfold cf at z0 z1 z2 z3 z4 z5
      have HXC := Hold.mk x4
      have HXJ := Hold.mk hxj
      have HSZ := Hold.mk hsz
      have HST := Hold.mk (flat_take (f := fun q : ByteArray × JV => pathC (pathsF d) q.1 q.2) (HZ.out j s x hs hx))
      have HVF := Hold.mk (HZF.out (s, x) (List.mem_of_getElem? (HZ.out j s x hs hx)))
      have HFIT := Hold.mk (rclause_fits HBD.out (show j < 24 by omega) HQL.out)
      have HXI : Hold (x.items = it2) := ⟨by rw [hxe]; rfl⟩
      have HXE := Hold.mk hxe
      clear hs hx hsz hsc hxe x0 x1 x2 x3 x4 hxj hcl
      simp only at HST HVF
      by_cases h1 : s.toList = sAnd ∨ s.toList = sOr
      · rw [pc_and h1] at HST
        have HI2 : Hold (ItemsAt (cf w) (.slice ia2 it2.length icap2) it2) := ⟨by
          obtain ⟨_, _, _, _, _, _, _, _, _, hxe2, e2, _, _, _, _, hit2⟩ := HXJ.out.open
          rw [HXE.out] at hxe2
          cases hxe2
          cases e2
          exact hit2⟩
        obtain ⟨ic', icc', e2, hlen2, hel2⟩ := HI2.out
        cases e2
        have HE2 := Hold.mk hel2
        have HVI : Hold (∀ y ∈ it2, formedF d y = true) := ⟨fun y hy => item_mono HVF.out (by rw [HXI.out]; exact hy)⟩
        have b1 : s.toList = [36, 97, 110, 100] ∨ ((s.toList == [36, 97, 110, 100]) = false ∧ s.toList = [36, 111, 114]) := by
          rcases h1 with h1 | h1
          · exact .inl h1
          · exact .inr ⟨by rw [h1]; decide, h1⟩
        rw [HXI.out] at HST
        clear h1 hel2
        rcases b1 with b1 | ⟨b0, b1⟩
        all_goals
          go_wp2_with fail
          clear y0 y1 y2 y3 y4 z0 z1 z2 z3 z4 z5
          go_loopw [0, 6] (fun sv i wq => ∃ q : Nat, i = .int .i64 q ∧ q ≤ it2.length ∧ Boxed w wq (.cells #[.int .i64 k, .int .i64 n, .string t, .slice (some ⟨sb, so, none⟩) nm.length ncap, .slice (some ⟨bb, off, none⟩) it.length icap] 25) ∧ SAt 1 RS (cf wq) sv (foldP ps ((it2.take q).flatMap (pathsF d)))) (fun _ i _ => it2.length - (intOf i).toNat)
          case atStart => exact ⟨0, rfl, Nat.zero_le _, HB.out, by simpa [foldP] using HOW.out⟩
          case round =>
            obtain ⟨q, rfl, hq, hbx, hown⟩ := hrel
            obtain ⟨rs, hrs⟩ : ∃ rs, rs = (it2.take q).flatMap (pathsF d) := ⟨_, rfl⟩
            rw [← hrs] at hown
            obtain ⟨us, hus⟩ : ∃ us, us = foldP ps rs := ⟨_, rfl⟩
            rw [← hus] at hown
            obtain ⟨ra, rcap, rfl⟩ := hown.slice
            have HBJ := Hold.mk hbx
            have HOJ := Hold.mk hown
            have HRS := Hold.mk hrs
            have HUS := Hold.mk hus
            have HUL : Hold (us.length ≤ ps.length + rs.length) := ⟨by rw [hus]; exact foldP_len _ _⟩
            obtain ⟨y0, y1, y2, y3, y4⟩ := cells_five hbx.blk
            have hcl := cle_below hbx.below
            have z4 := hcl _ _ _ HXC.out
            unfold cf at z4
            clear hbx hown hrs hus
            by_cases hltq : q < it2.length
            · obtain ⟨y, hy⟩ : ∃ y, it2[q]? = some y := ⟨it2[q], List.getElem?_eq_getElem hltq⟩
              obtain ⟨cb, coff, k3, n3, t3, nm3, it3, na3, ncap3, ia3, icap3, rfl, _, x0, x1, x2, x3, x4, hyj⟩ := HE2.out q y hy
              have u0 := hcl _ _ _ x0
              have u1 := hcl _ _ _ x1
              have u2 := hcl _ _ _ x2
              have u3 := hcl _ _ _ x3
              have u4 := hcl _ _ _ x4
              unfold cf at u0 u1 u2 u3 u4
              have HYJ := Hold.mk (hyj.mono hcl)
              have HYF := Hold.mk (HVI.out y (List.mem_of_getElem? hy))
              have HYT := Hold.mk (flat_take (f := pathsF d) hy)
              have HRL : Hold (rs.length ≤ 24 ^ d) := ⟨by
                have h := inner_len (q := q) HVF.out
                rw [HXI.out] at h
                rw [HRS.out]; exact h⟩
              have HFQ : Hold (us.length + 2 * 24 ^ d ≤ 400000000) := ⟨by
                have h1 := rinner_fits HBD.out (show j < 24 by omega) HQL.out HRL.out
                have h2 := HUL.out; have h3 := HPL.out
                omega⟩
              clear hy x0 x1 x2 x3 x4 hyj hcl
              go_wp2_with fail
              clear u0 u1 u2 u3 u4 y0 y1 y2 y3 y4 z4
              refine (HIH.out y _ _ us _ HYF.out HYJ.out HOJ.out HFQ.out).mono ?_
              rintro e w3 ⟨s3, rfl, ho3, hb3⟩
              have HN : Hold (SAt 1 RS (cf w3) s3 (foldP ps ((it2.take (q + 1)).flatMap (pathsF d)))) := ⟨by rw [HYT.out, ← HRS.out, foldP_app, ← HUS.out]; exact ho3⟩
              have HN2 := Hold.mk (HBJ.out.next hb3)
              clear ho3 hb3
              go_wp2_with fail
              exact ⟨⟨q + 1, by go_num, hltq, HN2.out, HN.out⟩, by simp [intOf]; omega⟩
            · have HN : Hold (SAt 1 RS (cf wr) (.slice ra us.length rcap) (foldP xs ((zs.take (j + 1)).flatMap fun q => pathC (pathsF d) q.1 q.2))) := ⟨by
                have e : rs = it2.flatMap (pathsF d) := by rw [HRS.out, List.take_of_length_le (by omega)]
                rw [HST.out, ← HQS.out, ← e, foldP_app, ← HPS.out, ← HUS.out]; exact HOJ.out⟩
              clear hcl
              go_wp2_with fail
              exact ⟨⟨j + 1, by go_num, hlt, HBJ.out, HN.out⟩, by simp [intOf]; omega⟩
      · by_cases h3 : s.toList = sNot
        · rw [pc_not h3] at HST
          have b1 : (s.toList == [36, 97, 110, 100]) = false := by rw [h3]; decide
          have b2 : (s.toList == [36, 111, 114]) = false := by rw [h3]; decide
          have b3 : s.toList = [36, 110, 111, 116] := h3
          have HFQ : Hold (ps.length + 2 * 24 ^ d ≤ 400000000) := ⟨by have h2 := HFIT.out.1; have h3 := HPL.out; omega⟩
          clear h1 h3
          go_wp2_with fail
          clear y0 y1 y2 y3 y4 z0 z1 z2 z3 z4 z5
          refine (HIH.out x _ _ ps _ HVF.out (HXJ.out.mono (cle_below HB.out.below)) HOW.out HFQ.out).mono ?_
          rintro e w3 ⟨s3, rfl, ho3, hb3⟩
          have HN : Hold (SAt 1 RS (cf w3) s3 (foldP xs ((zs.take (j + 1)).flatMap fun q => pathC (pathsF d) q.1 q.2))) := ⟨by
            rw [HST.out, ← HQS.out, foldP_app, ← HPS.out]; exact ho3⟩
          have HN2 := Hold.mk (HB.out.next hb3)
          clear ho3 hb3
          go_wp2_with fail
          exact ⟨⟨j + 1, by go_num, hlt, HN2.out, HN.out⟩, by simp [intOf]; omega⟩
        · have b1 : (s.toList == [36, 97, 110, 100]) = false := by simpa using fun e => h1 (.inl e)
          have b2 : (s.toList == [36, 111, 114]) = false := by simpa using fun e => h1 (.inr e)
          have b3 : (s.toList == [36, 110, 111, 116]) = false := by simpa using h3
          rw [pc_name (fun e => h1 (.inl e)) (fun e => h1 (.inr e)) h3] at HST
          clear h1 h3
          have hps9 : ps.length ≤ 400000000 := by have h2 := HFIT.out.2; have h3 := HPL.out; omega
          go_wp2_with fail
          clear y0 y1 y2 y3 y4 z0 z1 z2 z3 z4 z5 b1 b2 b3
          refine (putS_any ps _ s _ HOW.out HSZ.out hps9).mono ?_
          rintro e w3 ⟨s3, rfl, ho3, hb3⟩
          have HN : Hold (SAt 1 RS (cf w3) s3 (foldP xs ((zs.take (j + 1)).flatMap fun q => pathC (pathsF d) q.1 q.2))) := ⟨by
            rw [HST.out, ← HQS.out, foldP_app, ← HPS.out]; exact ho3.mono RS_mono (cfA_le _ _)⟩
          have HN2 := Hold.mk (HB.out.next hb3)
          clear ho3 hb3
          go_wp2_with fail
          exact ⟨⟨j + 1, by go_num, hlt, HN2.out, HN.out⟩, by simp [intOf]; omega⟩
    · have HFIN : Hold (qs = pathsF (d + 1) (.mk k n t nm it)) := ⟨by rw [HQS.out, HPF.out, List.take_of_length_le (by rw [HZL.out]; omega)]⟩
      have HPO : Hold (RPost xs (pathsF (d + 1) (.mk k n t nm it)) w (.returned (.slice ja ps.length jcap)) wr) := ⟨_, rfl, by rw [← HFIN.out, ← HPS.out]; exact HOW.out, HB.out.below⟩
      clear hcl
      go_wp2_with fail
      go_ret
      exact HPO.out

theorem rpaths_any : ∀ d, RPathsAt d
  | 0 => fun v x lv xs w hf => by simp [formedF] at hf
  | d + 1 => fun v x lv xs w hf hv ho hp => by
    obtain ⟨k, n, t, nm, it, na, ncap, ia, icap, rfl, rfl, _, hn, _, hst, hit⟩ := hv.open
    exact rpaths_step d (rpaths_any d) k n t nm it na ncap ia icap lv xs w hf hst hit ho hp

end Go.Proofs.YtfllnlmanopfaaaDoor
