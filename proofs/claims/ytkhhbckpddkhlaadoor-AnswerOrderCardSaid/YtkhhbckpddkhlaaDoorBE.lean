/- Answers: AnswerOrder walked. (printed by genXBE.py) -/
import Derived.Test.YtkhhbckpddkhlaaDoorAY
import Derived.Test.YtkhhbckpddkhlaaDoorAG
import Derived.Deep.DeepCutAuto
namespace Go.Proofs.YtkhhbckpddkhlaaDoor
open Go.Shelf Go.RowKit

theorem runO_len (q : QR) (l : List DR) : (runO q l).length ≤ l.length := by
  unfold runO
  split
  · unfold outA pageA
    have h : (sortA q l).length ≤ l.length := by rw [(sortA_perm q l).length_eq]; exact List.length_filter_le _ _
    rw [List.length_map]
    split
    · rw [List.length_drop]; omega
    · rw [List.length_take, List.length_drop]; omega
  · exact Nat.zero_le _
theorem wrap64_eq {z : Int} (h1 : -9223372036854775808 ≤ z) (h2 : z ≤ 9223372036854775807) : IntKind.i64.wrap z = z := by
  simp [IntKind.wrap, IntKind.bits, IntKind.signed]
  omega
instance : Inhabited DR := ⟨⟨⟨#[]⟩, objE⟩⟩
theorem turnA_next {l : List DR} {b j : Nat} {x : DR} (hj : j < l.length) (hx : l[(j * 7 + b) % l.length]? = some x) : (turnA l b).take (j + 1) = (turnA l b).take j ++ [x] := by
  refine take_nextW ?_
  unfold turnA
  rw [List.getElem?_map, List.getElem?_range hj]
  show some (l.getD _ default) = some x
  rw [List.getD_eq_getElem?_getD, hx]; rfl
theorem turnA_len (l : List DR) (b : Nat) : (turnA l b).length = l.length := by unfold turnA; simp
theorem rev_next {l : List DR} {m : Nat} {x : DR} (hm : m < l.length) (hx : l[l.length - 1 - m]? = some x) : l.reverse.take (m + 1) = l.reverse.take m ++ [x] := by
  refine take_nextW ?_
  rw [List.getElem?_reverse hm]; exact hx
/-- as they are handed in the second time -/
def otherA (l : List DR) (b : Nat) : List DR := if l.length % 7 = 0 then l.reverse else turnA l b
theorem otherA_perm (l : List DR) (b : Nat) (h0 : 0 < l.length) (hn : l.length ≤ 40) : l.Perm (otherA l b) := by
  unfold otherA
  split
  · exact (List.reverse_perm l).symm
  · exact (turnA_perm l b h0 (by omega) (by assumption)).symm

set_option maxRecDepth 100000 in
set_option maxHeartbeats 32000000 in
theorem answerOrder_walk (q : QR) (l : List DR) (d : List Value) (lv : Value) (by_ : Int) (w : World) (hq : QAt (cf w) q d) (hl : SAt 6 RD (cf w) lv l) (hby : (Lit.int .u8 by_).wf = true) (hT : Tabs w) :
    Calls Tryd.prog 3 #[.agg d.toArray, lv, .int .u8 by_] w fun e w' => e = .returned (.bool true) ∧ Below w.heap.size w w' := by
  obtain ⟨by0, hby0⟩ : ∃ b : Nat, by_ = (b : Int) ∧ b < 256 := by
    have : 0 ≤ by_ ∧ by_ < 256 := by
      simp [Lit.wf, IntKind.min, IntKind.max, IntKind.signed, IntKind.bits] at hby
      omega
    exact ⟨by_.toNat, by omega, by omega⟩
  obtain ⟨rfl, hb256⟩ := hby0
  clear hby
  have HQA := Hold.mk hq
  have HLA := Hold.mk hl
  obtain ⟨k, n, t, na, nl, nc, ia, il, ic, sv, fv, rfl, hj, hs, hf⟩ := hq
  obtain ⟨sa, scap, rfl⟩ := hs.form
  obtain ⟨fa, fcap, rfl⟩ := hf.form
  obtain ⟨la, lcap, rfl, hle, hcap, hel⟩ := hl
  have HE := Hold.mk hel
  have hll3 : l.length ≤ 9223372036854775807 := by omega
  have HT := Hold.mk hT
  obtain ⟨W, hW⟩ : ∃ W, W = w.alloc (.cells #[.int .i64 k, .int .i64 n, .string t, .slice na nl nc, .slice ia il ic, .slice sa q.sort.length scap, .slice fa q.fields.length fcap, .int .i64 q.skip, .int .i64 q.lim] 28) := ⟨_, rfl⟩
  have hb : Below w.heap.size w W := by rw [hW]; exact (Below.refl _ w).alloc (Nat.le_refl _) _
  have HX : Hold (W.heap[w.heap.size]? = some (.cells #[.int .i64 k, .int .i64 n, .string t, .slice na nl nc, .slice ia il ic, .slice sa q.sort.length scap, .slice fa q.fields.length fcap, .int .i64 q.skip, .int .i64 q.lim] 28 (0, 0))) := ⟨by rw [hW]; exact heap_alloc_new w _⟩
  have HB := Hold.mk hb
  have HA := Hold.mk (awake16_any W (hT.below hb))
  clear hb hj hs hf hT hel
  go_enter Tryd.func3, Tryd.ntmps3
  go_upto_region 1 with (fail)
  rw [← hW]
  clear hW
  go_wp2_with fail
  refine HA.out.mono ?_
  rintro e w1 ⟨rfl, hb1⟩
  replace HX := Hold.mk (kept HX.out hb1)
  replace HB := Hold.mk (HB.out.trans (hb1.mono HB.out.size))
  clear hb1 HA
  have HF := Hold.mk (lfew_any q l _ _ w1 (HQA.out.mono (cle_below HB.out)) (HLA.out.mono RD_mono (cle_below HB.out)))
  obtain ⟨y0, y1, y2, y3, y4, y5, y6, y7, y8⟩ := cells9A HX.out
  go_wp2_with fail
  refine HF.out.mono ?_
  rintro e w2 ⟨fb, rfl, hfb, hb2⟩
  replace HX := Hold.mk (kept HX.out hb2)
  replace HB := Hold.mk (HB.out.trans (hb2.mono HB.out.size))
  have HFB := Hold.mk hfb
  clear hb2 hfb HF y0 y1 y2 y3 y4 y5 y6 y7 y8
  cases fb with
  | false =>
    have HA := Hold.mk (awake16_any w2 (HT.out.below HB.out))
    go_wp2_with fail
    refine HA.out.mono ?_
    rintro e w3 ⟨rfl, hb3⟩
    have HBF := HB.out.trans (hb3.mono HB.out.size)
    clear hb3 HA
    go_wp2_with fail
    go_ret
    exact ⟨rfl, HBF⟩
  | true =>
    by_cases hz : l.length = 0
    · have hz1 : (l.length : Int) = 0 := by omega
      have HA := Hold.mk (awake16_any w2 (HT.out.below HB.out))
      clear hz
      go_wp2_with fail
      refine HA.out.mono ?_
      rintro e w3 ⟨rfl, hb3⟩
      have HBF := HB.out.trans (hb3.mono HB.out.size)
      clear hb3 HA
      go_wp2_with fail
      go_ret
      exact ⟨rfl, HBF⟩
    have hz1 : ¬ (l.length : Int) = 0 := by omega
    have hz2 : ((l.length : Int) == 0) = false := by simpa using hz1
    have HSM := Hold.mk (HFB.out rfl)
    have hsz : ∀ o ∈ q.sort, o.path.size ≤ 1000000 := fun o ho => by have := HSM.out.paths o ho; omega
    have hfz : ∀ p ∈ q.fields, p.size ≤ 1000000 := fun p hp => by have := HSM.out.parts p hp; omega
    have hid : ∀ x ∈ l, x.id.size ≤ 1000000 := fun x hx => by have := HSM.out.ids x hx; omega
    have h40 : l.length ≤ 40 := HSM.out.docs
    have HSZ := Hold.mk hsz
    have HFZ := Hold.mk hfz
    have HID := Hold.mk hid
    have H40 := Hold.mk h40
    have HZ := Hold.mk hz
    clear hsz hfz hid hz
    have HO : Hold (OwnS 6 RD 33 w2.heap.size w2 (.slice none 0 0) 0 ([] : List DR) []) := ⟨OwnS.start _ _ _ (Nat.le_refl _)⟩
    go_wp2_with fail
    go_loopw [7, 8] (fun sl i wr => ∃ (j : Nat) (cs : List Value), i = .int .i64 j ∧ j ≤ l.length ∧ OwnS 6 RD 33 w2.heap.size wr sl j ((turnA l by0).take j) cs ∧ Below w2.heap.size w2 wr) (fun _ i _ => l.length - (intOf i).toNat)
    case atStart => exact ⟨0, [], rfl, Nat.zero_le _, HO.out, Below.refl _ _⟩
    case round =>
      obtain ⟨j, cs, rfl, hj, hown, hbx⟩ := hrel
      clear HO
      obtain ⟨oa, ocap, rfl⟩ := hown.shape
      obtain ⟨ks, hks⟩ : ∃ ks, ks = (turnA l by0).take j := ⟨_, rfl⟩
      rw [← hks] at hown
      have HO := Hold.mk hown
      have HBX := Hold.mk hbx
      have HKS := Hold.mk hks
      clear hown hbx hks
      by_cases hlt : j < l.length
      · have hr : (j * 7 + by0) % l.length < l.length := Nat.mod_lt _ (by omega)
        obtain ⟨r, hrr⟩ : ∃ r, r = (j * 7 + by0) % l.length := ⟨_, rfl⟩
        have hrI : ((j : Int) * 7 + (by0 : Int)) % (l.length : Int) = (r : Int) := by rw [hrr]; simp
        have hrT : ((j : Int) * 7 + (by0 : Int)).tmod (l.length : Int) = (r : Int) := by rw [Int.tmod_eq_emod_of_nonneg (by omega)]; exact hrI
        rw [← hrr] at hr
        obtain ⟨x, hx⟩ : ∃ x, l[r]? = some x := ⟨l[r], List.getElem?_eq_getElem hr⟩
        obtain ⟨b, off, d, rfl, hd, hc, hxi⟩ := HE.out r x hx
        have HRI : Hold (RD (cfN (.slice oa j ocap) wr) x d) := ⟨RD_mono _ _ _ _ (cle_cfN_old (HB.out.trans (HBX.out.mono HB.out.size)) (fun g hg => by have := (HO.out.low g hg).1; have := HB.out.size; omega)) hxi⟩
        obtain ⟨dk, dn, dt, dna, dnl, dnc, dia, dil, dic, rfl, _⟩ := hxi
        have HTK : Hold ((turnA l by0).take (j + 1) = ks ++ [x]) := ⟨by rw [turnA_next hlt (by rw [← hrr]; exact hx), ← HKS.out]⟩
        have hcl := cle_below (HB.out.trans (HBX.out.mono HB.out.size))
        have z0 := hcl _ _ _ (hc 0 _ rfl)
        have z1 := hcl _ _ _ (hc 1 _ rfl)
        have z2 := hcl _ _ _ (hc 2 _ rfl)
        have z3 := hcl _ _ _ (hc 3 _ rfl)
        have z4 := hcl _ _ _ (hc 4 _ rfl)
        have z5 := hcl _ _ _ (hc 5 _ rfl)
        unfold cf at z0 z1 z2 z3 z4 z5
        rw [Nat.add_zero] at z0
        have hrLI : (r : Int) < (l.length : Int) := by omega
        clear hx hd hc hcl hrr
        go_upto_region 7 with (fail)
        go_wp2_with (at_builtin; refine push_new RD_mono rfl _ _ rfl infoDp Tryd.underlying29 rfl (by decide) _ _ _ j _ _ HO.out rfl _ [_, _, _, _, _, _] rfl rfl (by simp [Value.oneCell']) x HRI.out _ rfl rfl (by omega) (by decide) ?_)
        intro sl2 w6 ho6 hg6
        have HN : Hold (OwnS 6 RD 33 w2.heap.size w6 sl2 (j + 1) ((turnA l by0).take (j + 1)) _) := ⟨by rw [HTK.out]; exact ho6⟩
        have HW : Hold (Below w2.heap.size w2 w6) := ⟨HBX.out.trans (HO.out.below hg6)⟩
        clear ho6 hg6 z0 z1 z2 z3 z4 z5 hrI hrT hrLI
        go_wp2_with fail
        exact ⟨⟨j + 1, _, by go_num, hlt, HN.out, HW.out⟩, by simp [intOf]; omega⟩
      · obtain rfl : j = l.length := by omega
        rename World => wr
        have HKE : Hold (ks = turnA l by0) := ⟨by rw [HKS.out, List.take_of_length_le (by rw [turnA_len]; exact Nat.le_refl _)]⟩
        go_upto_region 8 with (fail)
        obtain ⟨b7, hb7⟩ : ∃ b7 : Bool, b7 = decide (l.length % 7 = 0) := ⟨_, rfl⟩
        have HB7 := Hold.mk hb7
        clear hb7
        go_cut [51] (fun s wx => s = .bool b7 ∧ wx = wr)
        case first =>
          by_cases h7 : l.length % 7 = 0
          · have h7I : (l.length : Int).tmod 7 = 0 := by rw [Int.tmod_eq_emod_of_nonneg (by omega)]; omega
            obtain rfl : b7 = true := by rw [HB7.out]; exact decide_eq_true h7
            clear h7
            go_wp2_with fail
            go_meet
            case rel => exact ⟨rfl, rfl⟩
          · have h7I : ¬ (l.length : Int).tmod 7 = 0 := by rw [Int.tmod_eq_emod_of_nonneg (by omega)]; omega
            have h7b : ((l.length : Int).tmod 7 == 0) = false := by simpa using h7I
            obtain rfl : b7 = false := by rw [HB7.out]; exact decide_eq_false h7
            have h7E : ((l.length : Int) % 7 == 0) = false := by simp; omega
            clear h7
            go_wp2_with fail
            go_meet
            case rel => exact ⟨by first | rfl | exact congrArg Value.bool h7E, rfl⟩
        case rest =>
        obtain ⟨rfl, hwc⟩ := hcut
        generalize wc = wd at *
        subst hwc
        rename World => wr
        go_upto_if 51 with (fail)
        go_cut [7, 9] (fun sl _ wx => ∃ cs, OwnS 6 RD 33 w2.heap.size wx sl l.length (otherA l by0) cs ∧ Below w2.heap.size w2 wx)
        case first =>
          cases b7 with
          | true =>
            have h7 : l.length % 7 = 0 := by have := HB7.out; simpa using this.symm
            have HOT : Hold (otherA l by0 = l.reverse) := ⟨by unfold otherA; rw [if_pos h7]⟩
            clear h7
            have HO2 : Hold (OwnS 6 RD 33 w2.heap.size wr (.slice none 0 0) 0 ([] : List DR) []) := ⟨OwnS.start _ _ _ HBX.out.size⟩
            have hl1 : IntKind.i64.wrap ((l.length : Int) - 1) = (l.length : Int) - 1 := wrap64_eq (by omega) (by omega)
            go_wp2_with fail
            go_loopw [7, 9] (fun sl i wx => ∃ (m : Nat) (cs : List Value), i = .int .i64 ((l.length : Int) - 1 - (m : Int)) ∧ m ≤ l.length ∧ OwnS 6 RD 33 w2.heap.size wx sl m (l.reverse.take m) cs ∧ Below w2.heap.size w2 wx) (fun _ i _ => ((intOf i) + 1).toNat)
            case atStart => exact ⟨0, [], by simp, Nat.zero_le _, HO2.out, HBX.out⟩
            case round =>
              rename World => wx
              obtain ⟨m, cs2, rfl, hm, hown, hbx⟩ := hrel
              clear HO2 HO HBX
              obtain ⟨oa, ocap, rfl⟩ := hown.shape
              obtain ⟨ks2, hks⟩ : ∃ ks2, ks2 = l.reverse.take m := ⟨_, rfl⟩
              rw [← hks] at hown
              have HO := Hold.mk hown
              have HBX := Hold.mk hbx
              have HKS2 := Hold.mk hks
              clear hown hbx hks
              obtain ⟨z, hz⟩ : ∃ z : Int, z = (l.length : Int) - 1 - (m : Int) := ⟨_, rfl⟩
              rw [← hz]
              by_cases hlt : m < l.length
              · have hz0 : (0 : Int) ≤ z := by omega
                obtain ⟨r, hr⟩ : ∃ r : Nat, r = l.length - 1 - m := ⟨_, rfl⟩
                have hzr : z = (r : Int) := by omega
                obtain ⟨x, hx⟩ : ∃ x, l[r]? = some x := ⟨l[r]'(by omega), List.getElem?_eq_getElem _⟩
                obtain ⟨b, off, d, rfl, hd, hc, hxi⟩ := HE.out r x hx
                have HRI : Hold (RD (cfN (.slice oa m ocap) wx) x d) := ⟨RD_mono _ _ _ _ (cle_cfN_old (HB.out.trans (HBX.out.mono HB.out.size)) (fun g hg => by have := (HO.out.low g hg).1; have := HB.out.size; omega)) hxi⟩
                obtain ⟨dk, dn, dt, dna, dnl, dnc, dia, dil, dic, rfl, _⟩ := hxi
                have HTK : Hold (l.reverse.take (m + 1) = ks2 ++ [x]) := ⟨by rw [rev_next hlt (by rw [← hr]; exact hx), ← HKS2.out]⟩
                have hcl := cle_below (HB.out.trans (HBX.out.mono HB.out.size))
                have z0 := hcl _ _ _ (hc 0 _ rfl)
                have z1 := hcl _ _ _ (hc 1 _ rfl)
                have z2 := hcl _ _ _ (hc 2 _ rfl)
                have z3 := hcl _ _ _ (hc 3 _ rfl)
                have z4 := hcl _ _ _ (hc 4 _ rfl)
                have z5 := hcl _ _ _ (hc 5 _ rfl)
                unfold cf at z0 z1 z2 z3 z4 z5
                rw [Nat.add_zero] at z0
                have hrl : r < l.length := by omega
                have HZE : Hold (((r : Nat) : Int) - 1 = (l.length : Int) - 1 - ((m + 1 : Nat) : Int)) := ⟨by omega⟩
                subst hzr
                clear hx hd hc hcl hz hr
                go_wp2_with (at_builtin; refine push_new RD_mono rfl _ _ rfl infoDp Tryd.underlying29 rfl (by decide) _ _ _ m _ _ HO.out rfl _ [_, _, _, _, _, _] rfl rfl (by simp [Value.oneCell']) x HRI.out _ rfl rfl (by omega) (by decide) ?_)
                intro sl2 w6 ho6 hg6
                have HN : Hold (OwnS 6 RD 33 w2.heap.size w6 sl2 (m + 1) (l.reverse.take (m + 1)) _) := ⟨by rw [HTK.out]; exact ho6⟩
                have HW : Hold (Below w2.heap.size w2 w6) := ⟨HBX.out.trans (HO.out.below hg6)⟩
                clear ho6 hg6 z0 z1 z2 z3 z4 z5
                have hwr : IntKind.i64.wrap ((r : Int) - 1) = (r : Int) - 1 := wrap64_eq (by omega) (by omega)
                go_wp2_with fail
                exact ⟨⟨m + 1, _, by first | rw [HZE.out] | (rw [← HZE.out] <;> go_num), hlt, HN.out, HW.out⟩, by simp [intOf] <;> omega⟩
              · obtain rfl : m = l.length := by omega
                have hz0 : ¬ (0 : Int) ≤ z := by omega
                have HRE : Hold (OwnS 6 RD 33 w2.heap.size wx (.slice oa l.length ocap) l.length (otherA l by0) cs2) := ⟨by rw [HOT.out, ← List.take_of_length_le (l := l.reverse) (i := l.length) (by simp), ← HKS2.out]; exact HO.out⟩
                have HBF := HBX.out
                clear hz
                go_wp2_with fail
                go_meet
                case rel => exact ⟨_, HRE.out, HBF⟩
          | false =>
            have h7 : ¬ l.length % 7 = 0 := by have := HB7.out; simpa using this.symm
            have HRE : Hold (OwnS 6 RD 33 w2.heap.size wr (.slice oa l.length ocap) l.length (otherA l by0) cs) := ⟨by unfold otherA; rw [if_neg h7, ← HKE.out]; exact HO.out⟩
            have HBF := HBX.out
            clear h7
            go_wp2_with fail
            go_meet
            case rel => exact ⟨_, HRE.out, HBF⟩
        case rest =>
        obtain ⟨cs3, ho3, hb3⟩ := hcut
        generalize wc = w3 at *
        obtain ⟨ta, tcap, rfl⟩ := ho3.shape
        have HTA := Hold.mk (ho3.at_ RD_mono)
        have HPM := Hold.mk (otherA_perm l by0 (by have := HZ.out; omega) H40.out)
        replace HX := Hold.mk (kept HX.out hb3)
        replace HB := Hold.mk (HB.out.trans (hb3.mono HB.out.size))
        have HTL : Hold ((otherA l by0).length ≤ 1000000) := ⟨by rw [← HPM.out.length_eq]; omega⟩
        have HTI : Hold (∀ x ∈ otherA l by0, x.id.size ≤ 1000000) := ⟨fun x hx => HID.out x (HPM.out.symm.subset hx)⟩
        have hLL : (otherA l by0).length = l.length := HPM.out.symm.length_eq
        have HRP := Hold.mk (run_perm (q := q) HPM.out)
        obtain ⟨L2, hL2⟩ : ∃ L2, L2 = otherA l by0 := ⟨_, rfl⟩
        rw [← hL2] at HTA HTL HTI HRP
        clear ho3 hb3 HO HBX HKE HKS hL2 hLL
        obtain ⟨y0, y1, y2, y3, y4, y5, y6, y7, y8⟩ := cells9A HX.out
        have HR := Hold.mk (qRun_any q l _ _ w3 (HQA.out.mono (cle_below HB.out)) (HLA.out.mono RD_mono (cle_below HB.out)) (by omega) HID.out HSZ.out HFZ.out (HT.out.below HB.out))
        go_upto_region 14 with (fail)
        go_wp2_with fail
        refine HR.out.mono ?_
        rintro e w4 ⟨ra, rfl, hra, hb4⟩
        obtain ⟨raa, rac, rfl⟩ := hra.form
        have HRA := Hold.mk hra
        replace HX := Hold.mk (kept HX.out hb4)
        replace HB := Hold.mk (HB.out.trans (hb4.mono HB.out.size))
        replace HTA := Hold.mk (HTA.out.mono RD_mono (cle_below hb4))
        clear hb4 hra HR y0 y1 y2 y3 y4 y5 y6 y7 y8
        obtain ⟨y0, y1, y2, y3, y4, y5, y6, y7, y8⟩ := cells9A HX.out
        have HR := Hold.mk (qRun_any q L2 _ _ w4 (HQA.out.mono (cle_below HB.out)) HTA.out HTL.out HTI.out HSZ.out HFZ.out (HT.out.below HB.out))
        rw [show RunPost q L2 w4 = RunPost q l w4 from by unfold RunPost; rw [HRP.out.1, HRP.out.2]] at HR
        go_wp2_with fail
        refine HR.out.mono ?_
        rintro e w5 ⟨rb, rfl, hrb, hb5⟩
        obtain ⟨rba, rbc, rfl⟩ := hrb.form
        have HRB := Hold.mk hrb
        replace HB := Hold.mk (HB.out.trans (hb5.mono HB.out.size))
        replace HRA := Hold.mk (HRA.out.mono RD_mono (cle_below hb5))
        clear hb5 hrb HR y0 y1 y2 y3 y4 y5 y6 y7 y8
        obtain ⟨R, hR⟩ : ∃ R, R = runO q l := ⟨_, rfl⟩
        have HRL : Hold (R.length ≤ 1000000) := ⟨by rw [hR]; have := runO_len q l; omega⟩
        rw [← hR] at HRA HRB ⊢
        clear hR
        obtain ⟨er, her⟩ : ∃ er, er = runE q l := ⟨_, rfl⟩
        rw [← her]
        clear her
        have HD := Hold.mk (adocs_any R _ w5 HRA.out HRL.out)
        go_wp2_with fail
        refine HD.out.mono ?_
        rintro e w6 ⟨dv, rfl, hdv, hb6⟩
        have HDV := Hold.mk hdv
        have HD := Hold.mk (adocs_any R _ w6 (HRB.out.mono RD_mono (cle_below hb6)) HRL.out)
        replace HB := Hold.mk (HB.out.trans (hb6.mono HB.out.size))
        clear hdv hb6
        go_wp2_with fail
        refine HD.out.mono ?_
        rintro e w7 ⟨ev, rfl, hev, hb7⟩
        have HSAM := Hold.mk (dSame_eq R dv ev w7 (HDV.out.mono RD_mono (cle_below hb7)) hev)
        replace HB := Hold.mk (HB.out.trans (hb7.mono HB.out.size))
        clear hev hb7
        go_wp2_with fail
        refine HSAM.out.mono ?_
        rintro e w8 ⟨rfl, hb8⟩
        have HBF := HB.out.trans (hb8.mono HB.out.size)
        clear hb8
        go_wp2_with fail
        go_ret
        exact ⟨by simp, HBF⟩

end Go.Proofs.YtkhhbckpddkhlaaDoor
