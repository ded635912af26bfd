/- Filters: paths of the program, walked. -/
import Derived.Test.YtfllnlmanopfaaaDoorLA
namespace Go.Proofs.YtfllnlmanopfaaaDoor
open Go.RowKit

theorem pow_pos24 (d : Nat) : 0 < 24 ^ d := Nat.pow_pos (by decide)
theorem clause_fits {p d j q : Nat} (hp : p + 2 * 24 ^ (d + 1) ≤ 1000000000) (hj : j < 24) (hq : q ≤ j * 24 ^ d) : p + q + 2 * 24 ^ d ≤ 1000000000 ∧ p + q ≤ 1000000000 := by
  rw [Nat.pow_succ] at hp
  have : j * 24 ^ d ≤ 23 * 24 ^ d := Nat.mul_le_mul_right _ (by omega)
  generalize 24 ^ d = z at *
  omega
theorem inner_fits {p d j q r : Nat} (hp : p + 2 * 24 ^ (d + 1) ≤ 1000000000) (hj : j < 24) (hq : q ≤ j * 24 ^ d) (hr : r ≤ 24 ^ d) : p + (q + r) + 2 * 24 ^ d ≤ 1000000000 := by
  rw [Nat.pow_succ] at hp
  have : j * 24 ^ d ≤ 23 * 24 ^ d := Nat.mul_le_mul_right _ (by omega)
  generalize 24 ^ d = z at *
  omega
theorem take_len {d : Nat} {f : JV} {j : Nat} {l : List (ByteArray × JV)} (hl : ∀ p ∈ l, formedF d p.2 = true) (_ : f = f) : ((l.take j).flatMap fun p => pathC (pathsF d) p.1 p.2).length ≤ j * 24 ^ d := by
  refine Nat.le_trans (flat_le (L := 24 ^ d) fun p hp => ?_) (Nat.mul_le_mul_right _ (by rw [List.length_take]; exact Nat.min_le_left _ _))
  have hv := hl p (List.mem_of_mem_take hp)
  unfold pathC
  split
  · cases d with
    | zero => simp [formedF] at hv
    | succ e =>
      obtain ⟨i24, hii⟩ := items_24 hv
      refine Nat.le_trans (flat_le (L := 24 ^ e) fun x hx => pathsF_len (e + 1) e x (hii x hx)) ?_
      rw [Nat.pow_succ, Nat.mul_comm]
      exact Nat.mul_le_mul_left _ i24
  · split
    · exact pathsF_len d d p.2 hv
    · exact pow_pos24 d
theorem item_mono {d : Nat} {x y : JV} (h : formedF d x = true) (hy : y ∈ x.items) : formedF d y = true := by
  cases d with
  | zero => simp [formedF] at h
  | succ d => exact formed_mono d y ((items_24 h).2 y hy)
theorem inner_len {d : Nat} {v : JV} {q : Nat} (hv : formedF d v = true) : ((v.items.take q).flatMap (pathsF d)).length ≤ 24 ^ d := by
  cases d with
  | zero => simp [formedF] at hv
  | succ e =>
    obtain ⟨i24, hii⟩ := items_24 hv
    refine Nat.le_trans (flat_le (L := 24 ^ e) fun x hx => pathsF_len (e + 1) e x (hii x (List.mem_of_mem_take hx))) ?_
    rw [Nat.pow_succ, Nat.mul_comm]
    exact Nat.mul_le_mul_left _ (Nat.le_trans (by rw [List.length_take]; exact Nat.min_le_right _ _) i24)

set_option maxRecDepth 100000 in
set_option maxHeartbeats 16000000 in
theorem paths_step (d : Nat) (IH : PathsAt d) (k n : Int) (t : ByteArray) (nm : List ByteArray) (it : List JV) (na : Option Addr) (ncap : Nat) (ia : Option Addr) (icap : Nat) (B : Nat) (sl : Value) (p : Nat) (xs : List ByteArray) (cs : List Value) (c : CF) (w : World)
    (hf : formedF (d + 1) (.mk k n t nm it) = true) (hst : StrsAt c (.slice na nm.length ncap) nm) (hit : ItemsAt c (.slice ia it.length icap) it) (hc : CLe c (cfU B w)) (ho : OwnS 1 RS 9 B w sl p xs cs) (hp : p + 2 * 24 ^ (d + 1) ≤ 1000000000) :
    Calls Tryd.prog 68 #[sl, .agg #[.int .i64 k, .int .i64 n, .string t, .slice na nm.length ncap, .slice ia it.length icap]] w (PathsPost B sl p xs (pathsF (d + 1) (.mk k n t nm it)) w) := by
  obtain ⟨sa, scap, rfl⟩ := ho.shape
  have HLOW := Hold.mk ho.low
  have HLE := Hold.mk ho.le
  have HP := Hold.mk (PIn.start (sv := .slice sa p scap) #[.int .i64 k, .int .i64 n, .string t, .slice na nm.length ncap, .slice ia it.length icap] (fun g hg => (ho.low g hg).2))
  have HO := Hold.mk (ho.alloc RS_mono (.cells #[.int .i64 k, .int .i64 n, .string t, .slice na nm.length ncap, .slice ia it.length icap] 25))
  obtain ⟨zs, hzs⟩ : ∃ zs, zs = nm.zip it := ⟨_, rfl⟩
  have HZF : Hold (∀ q ∈ zs, formedF d q.2 = true) := ⟨fun q hq => by rw [hzs] at hq; exact (items_24 hf).2 q.2 (List.of_mem_zip hq).2⟩
  have HZ : Hold (∀ (j : Nat) s v, nm[j]? = some s → it[j]? = some v → zs[j]? = some (s, v)) := ⟨fun j s v h1 h2 => by rw [hzs, List.getElem?_zip_eq_some]; exact ⟨h1, h2⟩⟩
  have hpf : pathsF (d + 1) (.mk k n t nm it) = zs.flatMap fun q => pathC (pathsF d) q.1 q.2 := by rw [hzs]; rfl
  have HPF := Hold.mk hpf
  have hnl : nm.length ≤ it.length ∧ it.length ≤ 24 := by
    refine ⟨?_, (items_24 hf).1⟩
    by_cases hk : k < 5
    · rw [formedF, if_pos hk, Bool.and_eq_true] at hf
      have := (of_decide_eq_true hf.2).2
      omega
    · have := (formed_body hf hk).2.1
      split at this <;> omega
  have HZL : Hold (zs.length = nm.length) := ⟨by rw [hzs, List.length_zip]; omega⟩
  have HBD := Hold.mk hp
  obtain ⟨ia', icap', e, hlen, hel⟩ := hit
  cases e
  obtain ⟨na', ncap', e, hnlen, hnel⟩ := hst
  cases e
  have HS := Hold.mk hnel
  have HE := Hold.mk hel
  have HIH := Hold.mk IH
  have HC := Hold.mk hc
  clear ho hp hnel hel IH hc hf hzs hpf
  go_enter Tryd.func68, Tryd.ntmps68
  obtain ⟨y0, y1, y2, y3, y4⟩ := cells_five HP.out.box
  go_wp2_with fail
  clear y0 y1 y2 y3 y4
  go_loopw [0, 12] (fun sv i wr => ∃ (j : Nat) (cs2 : List Value), i = .int .i64 j ∧ j ≤ nm.length ∧ PIn w wr (.slice sa p scap) sv #[.int .i64 k, .int .i64 n, .string t, .slice na nm.length ncap, .slice ia it.length icap] ∧ OwnS 1 RS 9 B wr sv (p + ((zs.take j).flatMap fun q => pathC (pathsF d) q.1 q.2).length) (xs ++ (zs.take j).flatMap fun q => pathC (pathsF d) q.1 q.2) cs2) (fun _ i _ => nm.length - (intOf i).toNat)
  case atStart => exact ⟨0, cs, rfl, Nat.zero_le _, HP.out, by simpa using HO.out⟩
  case round =>
    obtain ⟨j, cs2, rfl, hj, hpi, hown⟩ := hrel
    clear HP HO
    obtain ⟨qs, hqs⟩ : ∃ qs, qs = (zs.take j).flatMap fun q => pathC (pathsF d) q.1 q.2 := ⟨_, rfl⟩
    rw [← hqs] at hown
    obtain ⟨pq, hpq⟩ : ∃ pq, pq = p + qs.length := ⟨_, rfl⟩
    rw [← hpq] at hown
    obtain ⟨ja, jcap, rfl⟩ := hown.shape
    have HQL : Hold (qs.length ≤ j * 24 ^ d) := ⟨by rw [hqs]; exact take_len (f := .mk k n t nm it) HZF.out rfl⟩
    have HPI := Hold.mk hpi
    have HOW := Hold.mk hown
    have HQS := Hold.mk hqs
    have HPQ := Hold.mk hpq
    obtain ⟨y0, y1, y2, y3, y4⟩ := cells_five hpi.box
    have hwl := heap_lt hpi.box
    have hcl := (HC.out.trans (cfU_below (hpi.lowB HLE.out (fun g hg => (HLOW.out g hg).1)))).trans (cfU_cf B wr)
    have HCU := Hold.mk (HC.out.trans (cfU_below (hpi.lowB HLE.out (fun g hg => (HLOW.out g hg).1))))
    clear hpi hown hqs hpq
    by_cases hlt : j < nm.length
    · obtain ⟨s, hs⟩ : ∃ s, nm[j]? = some s := ⟨nm[j], List.getElem?_eq_getElem hlt⟩
      have hlt2 : j < it.length := by omega
      obtain ⟨x, hx⟩ : ∃ x, it[j]? = some x := ⟨it[j], List.getElem?_eq_getElem hlt2⟩
      obtain ⟨hsz, sb, so, rfl, hsc⟩ := HS.out j s hs
      obtain ⟨bb, off, k2, n2, t2, nm2, it2, na2, ncap2, ia2, icap2, rfl, hxe, x0, x1, x2, x3, x4, hxj⟩ := HE.out j x hx
      have z0 := hcl _ _ _ x0
      have z1 := hcl _ _ _ x1
      have z2 := hcl _ _ _ x2
      have z3 := hcl _ _ _ x3
      have z4 := hcl _ _ _ x4
      have z5 := hcl _ _ _ hsc
      unfold cf at z0 z1 z2 z3 z4 z5
      have HXJ := Hold.mk hxj
      have HSZ := Hold.mk hsz
      have HST := Hold.mk (flat_take (f := fun q : ByteArray × JV => pathC (pathsF d) q.1 q.2) (HZ.out j s x hs hx))
      have HVF := Hold.mk (HZF.out (s, x) (List.mem_of_getElem? (HZ.out j s x hs hx)))
      have HFIT := Hold.mk (clause_fits HBD.out (show j < 24 by omega) HQL.out)
      have HXI : Hold (x.items = it2) := ⟨by rw [hxe]; rfl⟩
      have HXE := Hold.mk hxe
      clear hs hx hsz hsc hxe x0 x1 x2 x3 x4 hxj hcl
      simp only at HST HVF
      by_cases h1 : s.toList = sAnd ∨ s.toList = sOr
      · rw [pc_and h1] at HST
        have HI2 : Hold (ItemsAt c (.slice ia2 it2.length icap2) it2) := ⟨by
          obtain ⟨_, _, _, _, _, _, _, _, _, hxe2, e2, _, _, _, _, hit2⟩ := HXJ.out.open
          rw [HXE.out] at hxe2
          cases hxe2
          cases e2
          exact hit2⟩
        obtain ⟨ic', icc', e2, hlen2, hel2⟩ := HI2.out
        cases e2
        have HE2 := Hold.mk hel2
        have HVI : Hold (∀ y ∈ it2, formedF d y = true) := ⟨fun y hy => item_mono HVF.out (by rw [HXI.out]; exact hy)⟩
        have b1 : s.toList = [36, 97, 110, 100] ∨ ((s.toList == [36, 97, 110, 100]) = false ∧ s.toList = [36, 111, 114]) := by
          rcases h1 with h1 | h1
          · exact .inl h1
          · exact .inr ⟨by rw [h1]; decide, h1⟩
        rw [HXI.out] at HST
        clear h1 hel2
        rcases b1 with b1 | ⟨b0, b1⟩
        all_goals
          go_wp2_with fail
          clear y0 y1 y2 y3 y4 z0 z1 z2 z3 z4 z5
          go_loopw [0, 32] (fun sv i wq => ∃ (q : Nat) (cs3 : List Value), i = .int .i64 q ∧ q ≤ it2.length ∧ PIn w wq (.slice sa p scap) sv #[.int .i64 k, .int .i64 n, .string t, .slice (some ⟨sb, so, none⟩) nm.length ncap, .slice (some ⟨bb, off, none⟩) it.length icap] ∧ OwnS 1 RS 9 B wq sv (p + (qs ++ (it2.take q).flatMap (pathsF d)).length) (xs ++ (qs ++ (it2.take q).flatMap (pathsF d))) cs3) (fun _ i _ => it2.length - (intOf i).toNat)
          case atStart => exact ⟨0, cs2, rfl, Nat.zero_le _, HPI.out, by rw [List.take_zero, List.flatMap_nil, List.append_nil, ← HPQ.out]; exact HOW.out⟩
          case round =>
            obtain ⟨q, cs3, rfl, hq, hpi, hown⟩ := hrel
            obtain ⟨rs, hrs⟩ : ∃ rs, rs = (it2.take q).flatMap (pathsF d) := ⟨_, rfl⟩
            rw [← hrs] at hown
            obtain ⟨pr, hpr⟩ : ∃ pr, pr = p + (qs ++ rs).length := ⟨_, rfl⟩
            rw [← hpr] at hown
            obtain ⟨ra, rcap, rfl⟩ := hown.shape
            have HPJ := Hold.mk hpi
            have HOJ := Hold.mk hown
            have HRS := Hold.mk hrs
            have HPR := Hold.mk hpr
            have hcl := (HC.out.trans (cfU_below (hpi.lowB HLE.out (fun g hg => (HLOW.out g hg).1)))).trans (cfU_cf B wr)
            have HCV := Hold.mk (HC.out.trans (cfU_below (hpi.lowB HLE.out (fun g hg => (HLOW.out g hg).1))))
            clear hpi hown hrs hpr
            by_cases hltq : q < it2.length
            · obtain ⟨y, hy⟩ : ∃ y, it2[q]? = some y := ⟨it2[q], List.getElem?_eq_getElem hltq⟩
              obtain ⟨cb, coff, k3, n3, t3, nm3, it3, na3, ncap3, ia3, icap3, rfl, _, x0, x1, x2, x3, x4, hyj⟩ := HE2.out q y hy
              have u0 := hcl _ _ _ x0
              have u1 := hcl _ _ _ x1
              have u2 := hcl _ _ _ x2
              have u3 := hcl _ _ _ x3
              have u4 := hcl _ _ _ x4
              unfold cf at u0 u1 u2 u3 u4
              have HYJ := Hold.mk hyj
              have HYF := Hold.mk (HVI.out y (List.mem_of_getElem? hy))
              have HYT := Hold.mk (flat_take (f := pathsF d) hy)
              have HRL : Hold (rs.length ≤ 24 ^ d) := ⟨by
                have h := inner_len (q := q) HVF.out
                rw [HXI.out] at h
                rw [HRS.out]; exact h⟩
              have HFQ : Hold (pr + 2 * 24 ^ d ≤ 1000000000) := ⟨by rw [HPR.out, List.length_append]; exact inner_fits HBD.out (show j < 24 by omega) HQL.out HRL.out⟩
              have HOA := Hold.mk (HOJ.out.alloc RS_mono (.cells #[.int .i64 k3, .int .i64 n3, .string t3, .slice na3 nm3.length ncap3, .slice ia3 it3.length icap3] 25))
              have HPA := Hold.mk (HPJ.out.alloc (.cells #[.int .i64 k3, .int .i64 n3, .string t3, .slice na3 nm3.length ncap3, .slice ia3 it3.length icap3] 25))
              have HCA := Hold.mk (HCV.out.trans (cfU_below ((Below.refl B wr).alloc HOJ.out.le (.cells #[.int .i64 k3, .int .i64 n3, .string t3, .slice na3 nm3.length ncap3, .slice ia3 it3.length icap3] 25))))
              clear hy x0 x1 x2 x3 x4 hyj hcl
              go_wp2_with fail
              clear u0 u1 u2 u3 u4
              refine (HIH.out y _ B _ pr _ _ c _ HYF.out HYJ.out HCA.out HOA.out HFQ.out).mono ?_
              rintro e w3 ⟨s3, cs4, rfl, ho3, hg3⟩
              have HN : Hold (OwnS 1 RS 9 B w3 s3 (p + (qs ++ (it2.take (q + 1)).flatMap (pathsF d)).length) (xs ++ (qs ++ (it2.take (q + 1)).flatMap (pathsF d))) cs4) := ⟨by
                rw [HYT.out, ← HRS.out]
                have e : p + (qs ++ (rs ++ pathsF d y)).length = pr + (pathsF d y).length := by rw [HPR.out]; simp; omega
                rw [e]
                simpa only [List.append_assoc] using ho3⟩
              have HN2 := Hold.mk (HPA.out.next hg3)
              clear ho3 hg3
              go_wp2_with fail
              exact ⟨⟨q + 1, cs4, by go_num, hltq, HN2.out, HN.out⟩, by simp [intOf]; omega⟩
            · have HN : Hold (OwnS 1 RS 9 B wr (.slice ra pr rcap) (p + ((zs.take (j + 1)).flatMap fun q => pathC (pathsF d) q.1 q.2).length) (xs ++ (zs.take (j + 1)).flatMap fun q => pathC (pathsF d) q.1 q.2) cs3) := ⟨by
                have e : rs = it2.flatMap (pathsF d) := by rw [HRS.out, List.take_of_length_le (by omega)]
                rw [HST.out, ← HQS.out, ← e, ← HPR.out]; exact HOJ.out⟩
              go_wp2_with fail
              exact ⟨⟨j + 1, cs3, by go_num, hlt, HPJ.out, HN.out⟩, by simp [intOf]; omega⟩
      · by_cases h3 : s.toList = sNot
        · rw [pc_not h3] at HST
          have b1 : (s.toList == [36, 97, 110, 100]) = false := by rw [h3]; decide
          have b2 : (s.toList == [36, 111, 114]) = false := by rw [h3]; decide
          have b3 : s.toList = [36, 110, 111, 116] := h3
          have HFQ : Hold (pq + 2 * 24 ^ d ≤ 1000000000) := ⟨by rw [HPQ.out]; exact HFIT.out.1⟩
          clear h1 h3
          go_wp2_with fail
          clear y0 y1 y2 y3 y4 z0 z1 z2 z3 z4 z5
          refine (HIH.out x _ B _ pq _ _ c _ HVF.out HXJ.out HCU.out HOW.out HFQ.out).mono ?_
          rintro e w3 ⟨s3, cs4, rfl, ho3, hg3⟩
          have HN : Hold (OwnS 1 RS 9 B w3 s3 (p + ((zs.take (j + 1)).flatMap fun q => pathC (pathsF d) q.1 q.2).length) (xs ++ (zs.take (j + 1)).flatMap fun q => pathC (pathsF d) q.1 q.2) cs4) := ⟨by
            rw [HST.out, ← HQS.out, List.length_append]
            have e : p + (qs.length + (pathsF d x).length) = pq + (pathsF d x).length := by rw [HPQ.out]; omega
            rw [e]
            simpa only [List.append_assoc] using ho3⟩
          have HN2 := Hold.mk (HPI.out.next hg3)
          clear ho3 hg3
          go_wp2_with fail
          exact ⟨⟨j + 1, cs4, by go_num, hlt, HN2.out, HN.out⟩, by simp [intOf]; omega⟩
        · have b1 : (s.toList == [36, 97, 110, 100]) = false := by simpa using fun e => h1 (.inl e)
          have b2 : (s.toList == [36, 111, 114]) = false := by simpa using fun e => h1 (.inr e)
          have b3 : (s.toList == [36, 110, 111, 116]) = false := by simpa using h3
          rw [pc_name (fun e => h1 (.inl e)) (fun e => h1 (.inr e)) h3] at HST
          clear h1 h3
          have hpq9 : pq ≤ 1000000000 := by have := HFIT.out.2; have := HPQ.out; omega
          have HSR : Hold (RS (cfN (.slice ja pq jcap) wr) s [.string s]) := ⟨rfl, HSZ.out⟩
          go_wp2_with (at_builtin; refine push_new RS_mono rfl _ _ rfl infoStr Tryd.underlying22 rfl (by decide) _ _ _ pq _ _ HOW.out rfl _ [_] rfl rfl (by simp [Value.oneCell']) s HSR.out _ rfl rfl hpq9 (by decide) ?_)
          intro sv2 w2 ho2 hg2
          have HN : Hold (OwnS 1 RS 9 B w2 sv2 (p + ((zs.take (j + 1)).flatMap fun q => pathC (pathsF d) q.1 q.2).length) (xs ++ (zs.take (j + 1)).flatMap fun q => pathC (pathsF d) q.1 q.2) _) := ⟨by
            rw [HST.out, ← HQS.out, List.length_append]
            have e : p + (qs.length + [s].length) = pq + 1 := by rw [HPQ.out]; simp; omega
            rw [e]; exact ho2⟩
          have HN2 := Hold.mk (HPI.out.next hg2)
          clear ho2 hg2 y0 y1 y2 y3 y4 z0 z1 z2 z3 z4 z5 b1 b2 b3
          go_wp2_with fail
          exact ⟨⟨j + 1, _, by go_num, hlt, HN2.out, HN.out⟩, by simp [intOf]; omega⟩
    · have HFIN : Hold (qs = pathsF (d + 1) (.mk k n t nm it)) := ⟨by rw [HQS.out, HPF.out, List.take_of_length_le (by rw [HZL.out]; omega)]⟩
      have HPO : Hold (PathsPost B (.slice sa p scap) p xs (pathsF (d + 1) (.mk k n t nm it)) w (.returned (.slice ja pq jcap)) wr) := ⟨_, cs2, rfl, by rw [← HFIN.out, ← HPQ.out]; exact HOW.out, HPI.out.all⟩
      go_wp2_with fail
      go_ret
      exact HPO.out

theorem paths_any : ∀ d, PathsAt d
  | 0 => fun v x B sl p xs cs c w hf => by simp [formedF] at hf
  | d + 1 => fun v x B sl p xs cs c w hf hv hc ho hp => by
    obtain ⟨k, n, t, nm, it, na, ncap, ia, icap, rfl, rfl, _, hn, _, hst, hit⟩ := hv.open
    exact paths_step d (paths_any d) k n t nm it na ncap ia icap B sl p xs cs c w hf hst hit hc ho hp

end Go.Proofs.YtfllnlmanopfaaaDoor
