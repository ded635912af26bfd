/- The reader of the reference: quoted. -/
import Derived.Test.YtdhilnnohokoeaaDoorQJ
import Derived.Test.YtdhilnnohokoeaaDoorRM
namespace Go.Proofs.YtdhilnnohokoeaaDoor
open Go.Shelf Go.RowKit

theorem one_cutQ {s : ByteArray} {j : Nat} (h : j < s.size) : s.extract j (j + 1) = ⟨#[s[j]]⟩ := by
  apply ByteArray.ext
  apply Array.ext
  · rw [ByteArray.data_extract]; simp; have : s.data.size = s.size := rfl; omega
  · intro i h1 h2
    obtain rfl : i = 0 := by simp at h2; omega
    simp [ByteArray.data_extract]
    rfl
/-- a string's text, as the reference reads it -/
def RQuoPost (b : Nat) (s : ByteArray) (i : Nat) (w : World) (e : Ending) (w' : World) : Prop :=
  But b w w' ∧ ∃ (t : ByteArray) (j : Nat) (no' : Bool), e = .returned (.string t) ∧ t.size ≤ 4 * s.size + 8 ∧ RC b s j no' w' ∧ (no' = false → strL (dl s i) = some (t, dl s j)) ∧ (no' = true → strL (dl s i) = none)
/-- the loop: what is still to be read tells the whole -/
def RQI (s : ByteArray) (R : Option (List UInt8 × List UInt8)) (bd : Bool) (j : Nat) (acc : List UInt8) : Prop :=
  acc.length ≤ 4 * s.size + 8 ∧ (bd = false → (∃ n, (dl s j).length < n ∧ quoL n (dl s j) acc = R) ∧ acc.length + 4 * (s.size - j) ≤ 4 * s.size) ∧ (bd = true → R = none)
theorem RQI.start {s : ByteArray} {j : Nat} (hj : j ≤ s.size + 1) : RQI s (quoL ((dl s j).length + 1) (dl s j) []) false j [] :=
  ⟨by simp, fun _ => ⟨⟨_, Nat.lt_succ_self _, rfl⟩, by simp; omega⟩, fun h => by cases h⟩
theorem RQI.over {s : ByteArray} {R : Option (List UInt8 × List UInt8)} {j : Nat} {acc : List UInt8} (h : RQI s R false j acc) (hj : s.size ≤ j) : R = none := by
  obtain ⟨⟨n, hn, hq⟩, _⟩ := h.2.1 rfl
  have e : dl s j = [] := List.length_eq_zero_iff.1 (by rw [dl_len]; omega)
  rw [e] at hn hq
  obtain ⟨m, rfl⟩ : ∃ m, n = m + 1 := ⟨n - 1, by simp at hn; omega⟩
  rw [← hq]; rfl
theorem RQI.low {s : ByteArray} {R : Option (List UInt8 × List UInt8)} {j : Nat} {acc : List UInt8} (h : RQI s R false j acc) (hj : j < s.size) (hc : s[j].toNat < 32) : R = none := by
  obtain ⟨⟨n, hn, hq⟩, _⟩ := h.2.1 rfl
  rw [dl_cons hj] at hn hq
  obtain ⟨m, rfl⟩ : ∃ m, n = m + 1 := ⟨n - 1, by simp at hn; omega⟩
  rw [← hq]; exact quoL_low hc
theorem RQI.fin {s : ByteArray} {R : Option (List UInt8 × List UInt8)} {j : Nat} {acc : List UInt8} (h : RQI s R false j acc) (hj : j < s.size) (hc : s[j] = 34) : R = some (acc, dl s (j + 1)) := by
  obtain ⟨⟨n, hn, hq⟩, _⟩ := h.2.1 rfl
  rw [dl_cons hj] at hn hq
  rw [hc] at hq
  obtain ⟨m, rfl⟩ : ∃ m, n = m + 1 := ⟨n - 1, by simp at hn; omega⟩
  rw [← hq]; exact quoL_end
theorem RQI.next {s : ByteArray} {R : Option (List UInt8 × List UInt8)} {j : Nat} {acc : List UInt8} {c : UInt8} (h : RQI s R false j acc) (hj : j < s.size) (hc : s[j] = c) (h32 : ¬ c.toNat < 32) (h34 : c ≠ 34) (h92 : c ≠ 92) : RQI s R false (j + 1) (acc ++ [c]) := by
  obtain ⟨h0, h1, _⟩ := h
  obtain ⟨⟨n, hn, hq⟩, h2⟩ := h1 rfl
  rw [dl_cons hj] at hn hq
  rw [hc] at hq
  obtain ⟨m, rfl⟩ : ∃ m, n = m + 1 := ⟨n - 1, by simp at hn; omega⟩
  rw [quoL_step h32 h34 h92] at hq
  refine ⟨by simp; omega, fun _ => ⟨⟨m, by simp at hn; omega, hq⟩, by simp; omega⟩, fun h => by cases h⟩
theorem RQI.escT {s : ByteArray} {R : Option (List UInt8 × List UInt8)} {j k : Nat} {acc : List UInt8} {t : ByteArray} {no : Bool} (h : RQI s R false j acc) (hj : j < s.size) (hc : s[j] = 92) (ht : t.size ≤ 4) (hk : no = false → escL (dl s (j + 1)) = some (t.data.toList, dl s k)) (hb : no = true → escL (dl s (j + 1)) = none) : RQI s R no k (acc ++ t.data.toList) ∧ (no = false → j + 1 < k ∨ s.size ≤ k) := by
  obtain ⟨h0, h1, _⟩ := h
  obtain ⟨⟨n, hn, hq⟩, h2⟩ := h1 rfl
  rw [dl_cons hj] at hn hq
  rw [hc] at hq
  have hts := size_list t
  obtain ⟨m, rfl⟩ : ∃ m, n = m + 1 := ⟨n - 1, by simp at hn; omega⟩
  cases no with
  | true =>
    rw [quoL_bad (hb rfl)] at hq
    exact ⟨⟨by simp; omega, (fun h => by cases h), fun _ => hq.symm⟩, fun h => by cases h⟩
  | false =>
    have he := hk rfl
    rw [quoL_esc he] at hq
    have hl := escL_len he
    rw [dl_len, dl_len] at hl
    have hsk : s.size - k < s.size - (j + 1) ∨ s.size - (j + 1) = 0 := by omega
    rw [List.length_cons, dl_len] at hn
    refine ⟨⟨by simp; omega, fun _ => ⟨⟨m, by rw [dl_len]; omega, hq⟩, by simp; omega⟩, fun h => by cases h⟩, fun _ => by omega⟩

set_option maxHeartbeats 16000000 in
set_option maxRecDepth 100000 in
theorem rReadQuoted_any (b : Nat) (s : ByteArray) (i : Nat) (w : World) (h : RC b s i false w) (hs : s.size ≤ 1000000) :
    Calls Tryd.prog 32 #[.pointer (some ⟨b, 0, none⟩)] w (RQuoPost b s i w) := by
  have HI := Hold.mk h
  clear h
  go_enter Tryd.func32, Tryd.ntmps32
  go_wp2_with fail
  refine (rWant_any b s ⟨#[34]⟩ i false w HI.out hs (by decide)).mono ?_
  rintro e w1 ⟨rfl, hb1, j1, no1, hr1, hf1, ht1⟩
  have HB1 := Hold.mk hb1
  have HR1 := Hold.mk hr1
  obtain ⟨R, HR0⟩ : ∃ R, Hold ((strL (dl s i) = R.map fun p : List UInt8 × List UInt8 => (ba p.1, p.2)) ∧ RQI s R no1 j1 []) := by
    cases hno : no1 with
    | true =>
      refine ⟨none, ⟨?_, by simp, (fun h => by cases h), fun _ => rfl⟩⟩
      have h2 := (ht1 hno).elim (fun h => by cases h) id
      cases e : dl s i with
      | nil => rfl
      | cons c r =>
        rw [e] at h2
        rw [strL, if_neg]
        · rfl
        · rintro rfl
          have h3 : wordL (⟨#[34]⟩ : ByteArray).data.toList (34 :: r) = some r := rfl
          rw [h3] at h2; cases h2
    | false =>
      have h2 := wordL_some (hf1 hno).2
      have h3 : dl s i = 34 :: dl s j1 := h2
      refine ⟨_, ⟨?_, RQI.start hr1.le⟩⟩
      rw [h3, strL, if_pos rfl]
  clear hb1 hr1 hf1 ht1
  go_wp2_with fail
  go_loopg [3] (s.size + 1) (fun g s3 wr => ∃ (bd : Bool) (j : Nat) (acc : List UInt8), s3 = .string (ba acc) ∧ (bd = false → s.size - j + 1 ≤ g) ∧ RQI s R bd j acc ∧ RC b s j bd wr ∧ But b w wr)
  case atStart => exact ⟨no1, j1, [], rfl, fun _ => by omega, HR0.out.2, HR1.out, HB1.out⟩
  case round =>
    obtain ⟨bd, j, acc, rfl, hg, hq, hr, hb⟩ := hrel
    have HR := Hold.mk hr
    have HB := Hold.mk hb
    have HQ := Hold.mk hq
    have HST := Hold.mk HR0.out.1
    have x2 := hr.c2
    have hal := hq.1
    clear hr hb hq HR0 HR1 HB1 HI
    cases bd with
    | true =>
      have HP : Hold (RQuoPost b s i w (.returned (.string ⟨#[]⟩)) wr) := ⟨HB.out, ⟨#[]⟩, j, true, rfl, Nat.zero_le _, HR.out, (fun h => by cases h), fun _ => by rw [HST.out, HQ.out.2.2 rfl]; rfl⟩
      clear hg
      go_wp2_with fail
      go_ret
      exact HP.out
    | false =>
      have hg0 : s.size - j + 1 ≤ gk := hg rfl
      clear hg
      go_wp2_with fail
      refine (rHere_any b s j false wr HR.out).mono ?_
      rintro e w2 ⟨rfl, hb2⟩
      clear x2
      have HR2 := Hold.mk (HR.out.below hb2)
      have HB2 := Hold.mk (HB.out.trans (But.of_below hb2))
      clear hb2 HR HB
      have x0 := HR2.out.c0
      have x1 := HR2.out.c1
      by_cases hj : j < s.size
      · have k1 : decide ((s.size : Int) ≤ (j : Int)) = false := by simp; omega
        obtain ⟨c, hc⟩ : ∃ c, c = s[j] := ⟨_, rfl⟩
        have HC : Hold (s[j] = c) := ⟨hc.symm⟩
        rw [hereB_at hj, HC.out]
        clear hc
        by_cases h32 : c.toNat < 32
        · have hc1 : (c.toNat : Int) < 32 := by omega
          have HN : Hold (R = none) := ⟨HQ.out.low hj (by rw [HC.out]; exact h32)⟩
          have HP : Hold (∀ n, RQuoPost b s i w (.returned (.string ⟨#[]⟩)) ((w2.drewN n).setCell ⟨b, 2, none⟩ (.bool true))) := ⟨fun n => ⟨(But.drewN HB2.out n).trans (But.set _ _ _), ⟨#[]⟩, j, true, rfl, Nat.zero_le _, (HR2.out.below (drewN_below w2 n)).not, (fun h => by cases h), fun _ => by rw [HST.out, HN.out]; rfl⟩⟩
          have x2 := HR2.out.c2
          have f2 := HR2.out.fz 2
          go_wp2_with fail
          go_quiet (fail)
          go_wp2_with fail
          go_ret
          exact HP.out _
        · have hc1 : ¬ (c.toNat : Int) < 32 := by omega
          have f1 := HR2.out.fz 1
          have HRS : Hold (∀ n, RC b s (j + 1) false ((w2.drewN n).setCell ⟨b, 1, none⟩ (.int .i64 ((j : Int) + 1)))) := ⟨fun n => (HR2.out.below (drewN_below w2 n)).to1 hj⟩
          have HBS : Hold (∀ n, But b w ((w2.drewN n).setCell ⟨b, 1, none⟩ (.int .i64 ((j : Int) + 1)))) := ⟨fun n => (But.drewN HB2.out n).trans (But.set _ _ _)⟩
          have hgk1 : gk - 1 < gk := by omega
          by_cases h34 : c = 34
          · subst h34
            have HN : Hold (R = some (acc, dl s (j + 1))) := ⟨HQ.out.fin hj HC.out⟩
            have HP : Hold (∀ n, RQuoPost b s i w (.returned (.string (ba acc))) ((w2.drewN n).setCell ⟨b, 1, none⟩ (.int .i64 ((j : Int) + 1)))) := ⟨fun n => ⟨HBS.out n, ba acc, j + 1, false, rfl, by rw [ba_size]; exact hal, HRS.out n, fun _ => by rw [HST.out, HN.out]; rfl, (fun h => by cases h)⟩⟩
            go_wp2_with fail
            go_quiet (fail)
            go_wp2_with fail
            go_ret
            exact HP.out _
          have b34 : ((c.toNat : Int) == 34) = false := byte_ne (k := 34) h34
          by_cases h92 : c = 92
          · subst h92
            go_wp2_with fail
            go_quiet (fail)
            go_upto_region 9 with (fail)
            clear x0 x1 f1
            generalize hw3 : World.setCell _ _ _ = w3
            have HR3 : Hold (RC b s (j + 1) false w3) := ⟨by rw [← hw3]; exact HRS.out _⟩
            have HB3 : Hold (But b w w3) := ⟨by rw [← hw3]; exact HBS.out _⟩
            clear hw3
            go_wp2_with fail
            refine (rEscape_any b s (j + 1) w3 HR3.out (by omega) hs).mono ?_
            rintro e w4 ⟨hb4, t, k, no', rfl, hts, hr4, hf4, ht4⟩
            obtain ⟨hq2, hk2⟩ := HQ.out.escT hj HC.out hts hf4 ht4
            have HQ2 := Hold.mk hq2
            have hk3 : no' = false → s.size - k + 1 ≤ gk - 1 := fun h => by have := hk2 h; omega
            have HR4 := Hold.mk hr4
            have HB4 := Hold.mk (HB3.out.trans hb4)
            have hbs : (ba acc).size ≤ 4 * s.size + 8 := by rw [ba_size]; exact hal
            clear hb4 hr4 hf4 ht4 hq2 hk2
            go_wp2_with fail
            go_roundg (gk - 1)
            case measure => exact hgk1
            case rel => exact ⟨no', k, acc ++ t.data.toList, by rw [← ba_add]; rfl, hk3, HQ2.out, HR4.out, HB4.out⟩
          · have b92 : ((c.toNat : Int) == 92) = false := byte_ne (k := 92) h92
            have HQ2 := Hold.mk (HQ.out.next hj HC.out h32 h34 h92)
            have e1 := one_cutQ hj
            rw [HC.out] at e1
            have hbs : (ba acc).size ≤ 4 * s.size + 8 := by rw [ba_size]; exact hal
            clear h34 h92 h32
            go_wp2_with fail
            go_quiet (fail)
            go_upto_region 11 with (fail)
            clear x0 x1 f1
            generalize hw3 : World.setCell _ _ _ = w3
            have HR3 : Hold (RC b s (j + 1) false w3) := ⟨by rw [← hw3]; exact HRS.out _⟩
            have HB3 : Hold (But b w w3) := ⟨by rw [← hw3]; exact HBS.out _⟩
            clear hw3
            have x0 := HR3.out.c0
            have x1 := HR3.out.c1
            have HRD : Hold (∀ n, RC b s (j + 1) false (w3.drewN n)) := ⟨fun n => HR3.out.below (drewN_below w3 n)⟩
            have HBD : Hold (∀ n, But b w (w3.drewN n)) := ⟨fun n => But.drewN HB3.out n⟩
            go_wp2_with fail
            go_quiet (fail)
            go_wp2_with fail
            clear x0 x1
            go_roundg (gk - 1)
            case measure => exact hgk1
            case rel => exact ⟨false, j + 1, acc ++ [c], by rw [← ba_add]; rfl, fun _ => by omega, HQ2.out, HRD.out _, HBD.out _⟩
      · have k1 : decide ((s.size : Int) ≤ (j : Int)) = true := by simp; omega
        have k2 : s.size ≤ j := by omega
        have HN : Hold (R = none) := ⟨HQ.out.over k2⟩
        have HP : Hold (∀ n, RQuoPost b s i w (.returned (.string ⟨#[]⟩)) ((w2.drewN n).setCell ⟨b, 2, none⟩ (.bool true))) := ⟨fun n => ⟨(But.drewN HB2.out n).trans (But.set _ _ _), ⟨#[]⟩, j, true, rfl, Nat.zero_le _, (HR2.out.below (drewN_below w2 n)).not, (fun h => by cases h), fun _ => by rw [HST.out, HN.out]; rfl⟩⟩
        have x2 := HR2.out.c2
        have f2 := HR2.out.fz 2
        go_wp2_with fail
        go_quiet (fail)
        go_wp2_with fail
        go_ret
        exact HP.out _

end Go.Proofs.YtdhilnnohokoeaaDoor
