/- The reader of the reference: digit, hex, four. -/
import Derived.Test.YtdhilnnohokoeaaDoorQE
import Derived.Test.YtdhilnnohokoeaaDoorRH
namespace Go.Proofs.YtdhilnnohokoeaaDoor
open Go.Shelf Go.RowKit

set_option maxRecDepth 100000 in
theorem rDigit_any (c : UInt8) (w : World) : Calls Tryd.prog 33 #[.int .u8 (c.toNat : Int)] w fun e w' => e = .returned (.bool (isD c)) ∧ w' = w := by
  have hb : isD c = decide (48 ≤ c.toNat ∧ c.toNat ≤ 57) := rfl
  rw [hb]
  by_cases h1 : 48 ≤ c.toNat
  · have k1 : (48 : Int) ≤ (c.toNat : Int) := by omega
    by_cases h2 : c.toNat ≤ 57
    · have k2 : (c.toNat : Int) ≤ 57 := by omega
      have HD : Hold (decide (48 ≤ c.toNat ∧ c.toNat ≤ 57) = true) := ⟨decide_eq_true ⟨h1, h2⟩⟩
      rw [HD.out]
      go_enter Tryd.func33, Tryd.ntmps33
      go_wp2_with fail
      go_ret
      exact ⟨rfl, rfl⟩
    · have k2 : ¬ (c.toNat : Int) ≤ 57 := by omega
      have HD : Hold (decide (48 ≤ c.toNat ∧ c.toNat ≤ 57) = false) := ⟨decide_eq_false (fun h => h2 h.2)⟩
      rw [HD.out]
      go_enter Tryd.func33, Tryd.ntmps33
      go_wp2_with fail
      go_ret
      exact ⟨rfl, rfl⟩
  · have k1 : ¬ (48 : Int) ≤ (c.toNat : Int) := by omega
    have HD : Hold (decide (48 ≤ c.toNat ∧ c.toNat ≤ 57) = false) := ⟨decide_eq_false (fun h => h1 h.1)⟩
    rw [HD.out]
    go_enter Tryd.func33, Tryd.ntmps33
    go_wp2_with fail
    go_ret
    exact ⟨rfl, rfl⟩
def hexN (c : UInt8) : Int := match hexV c with
  | some n => n
  | none => -1
set_option maxHeartbeats 4000000 in
set_option maxRecDepth 100000 in
theorem rHex_any (c : UInt8) (w : World) : Calls Tryd.prog 88 #[.int .u8 (c.toNat : Int)] w fun e w' => e = .returned (.int .i32 (hexN c)) ∧ w' = w := by
  have hD := rDigit_any c w
  have hc := c.toNat_lt
  by_cases hd : isD c = true
  · rw [hd] at hD
    have h1 := of_decide_eq_true hd
    have HD := Hold.mk hD
    have HN : Hold (hexN c = (c.toNat : Int) - 48) := ⟨by unfold hexN hexV; rw [if_pos h1]; simp; omega⟩
    have hw : IntKind.u8.wrap ((c.toNat : Int) - 48) = (c.toNat : Int) - 48 := by simp [IntKind.wrap, IntKind.bits, IntKind.signed]; omega
    have hw2 : IntKind.i32.wrap ((c.toNat : Int) - 48) = (c.toNat : Int) - 48 := by simp [IntKind.wrap, IntKind.bits, IntKind.signed]; omega
    clear hD hd
    go_enter Tryd.func88, Tryd.ntmps88
    go_wp2_with fail
    refine HD.out.mono ?_
    rintro e w1 ⟨rfl, rfl⟩
    go_wp2_with fail
    go_ret
    exact ⟨by rw [HN.out]; first | rfl | (simp; omega), rfl⟩
  · have hd2 : isD c = false := by simpa using hd
    rw [hd2] at hD
    have HD := Hold.mk hD
    have h1 : ¬ (48 ≤ c.toNat ∧ c.toNat ≤ 57) := fun h => hd (decide_eq_true h)
    clear hD hd
    by_cases ha : 97 ≤ c.toNat ∧ c.toNat ≤ 102
    · have k1 : (97 : Int) ≤ (c.toNat : Int) := by omega
      have k2 : (c.toNat : Int) ≤ 102 := by omega
      have HN : Hold (hexN c = (c.toNat : Int) - 97 + 10) := ⟨by unfold hexN hexV; rw [if_neg h1, if_pos ha]; simp; omega⟩
      have hw : IntKind.u8.wrap ((c.toNat : Int) - 97) = (c.toNat : Int) - 97 := by simp [IntKind.wrap, IntKind.bits, IntKind.signed]; omega
      have hw2 : IntKind.i32.wrap ((c.toNat : Int) - 97) = (c.toNat : Int) - 97 := by simp [IntKind.wrap, IntKind.bits, IntKind.signed]; omega
      have hw3 : IntKind.i32.wrap ((c.toNat : Int) - 97 + 10) = (c.toNat : Int) - 97 + 10 := by simp [IntKind.wrap, IntKind.bits, IntKind.signed]; omega
      go_enter Tryd.func88, Tryd.ntmps88
      go_wp2_with fail
      refine HD.out.mono ?_
      rintro e w1 ⟨rfl, rfl⟩
      go_wp2_with fail
      go_ret
      exact ⟨by rw [HN.out]; first | rfl | (simp; omega), rfl⟩
    · by_cases hA : 65 ≤ c.toNat ∧ c.toNat ≤ 70
      · have k0 : ¬ (97 : Int) ≤ (c.toNat : Int) := by omega
        have k1 : (65 : Int) ≤ (c.toNat : Int) := by omega
        have k2 : (c.toNat : Int) ≤ 70 := by omega
        have HN : Hold (hexN c = (c.toNat : Int) - 65 + 10) := ⟨by unfold hexN hexV; rw [if_neg h1, if_neg ha, if_pos hA]; simp; omega⟩
        have hw : IntKind.u8.wrap ((c.toNat : Int) - 65) = (c.toNat : Int) - 65 := by simp [IntKind.wrap, IntKind.bits, IntKind.signed]; omega
        have hw2 : IntKind.i32.wrap ((c.toNat : Int) - 65) = (c.toNat : Int) - 65 := by simp [IntKind.wrap, IntKind.bits, IntKind.signed]; omega
        have hw3 : IntKind.i32.wrap ((c.toNat : Int) - 65 + 10) = (c.toNat : Int) - 65 + 10 := by simp [IntKind.wrap, IntKind.bits, IntKind.signed]; omega
        go_enter Tryd.func88, Tryd.ntmps88
        go_wp2_with fail
        refine HD.out.mono ?_
        rintro e w1 ⟨rfl, rfl⟩
        go_wp2_with fail
        go_ret
        exact ⟨by rw [HN.out]; first | rfl | (simp; omega), rfl⟩
      · have HN : Hold (hexN c = -1) := ⟨by unfold hexN hexV; rw [if_neg h1, if_neg ha, if_neg hA]⟩
        rcases Nat.lt_or_ge c.toNat 65 with hx | hx
        · have k0 : ¬ (97 : Int) ≤ (c.toNat : Int) := by omega
          have k1 : ¬ (65 : Int) ≤ (c.toNat : Int) := by omega
          go_enter Tryd.func88, Tryd.ntmps88
          go_wp2_with fail
          refine HD.out.mono ?_
          rintro e w1 ⟨rfl, rfl⟩
          go_wp2_with fail
          go_ret
          exact ⟨by rw [HN.out]; rfl, rfl⟩
        · rcases Nat.lt_or_ge c.toNat 97 with hy | hy
          · have k0 : ¬ (97 : Int) ≤ (c.toNat : Int) := by omega
            have k1 : (65 : Int) ≤ (c.toNat : Int) := by omega
            have k2 : ¬ (c.toNat : Int) ≤ 70 := by omega
            go_enter Tryd.func88, Tryd.ntmps88
            go_wp2_with fail
            refine HD.out.mono ?_
            rintro e w1 ⟨rfl, rfl⟩
            go_wp2_with fail
            go_ret
            exact ⟨by rw [HN.out]; rfl, rfl⟩
          · have k0 : (97 : Int) ≤ (c.toNat : Int) := by omega
            have k1 : ¬ (c.toNat : Int) ≤ 102 := by omega
            have k2 : ¬ (c.toNat : Int) ≤ 70 := by omega
            have k3 : (65 : Int) ≤ (c.toNat : Int) := by omega
            go_enter Tryd.func88, Tryd.ntmps88
            go_wp2_with fail
            refine HD.out.mono ?_
            rintro e w1 ⟨rfl, rfl⟩
            go_wp2_with fail
            go_ret
            exact ⟨by rw [HN.out]; rfl, rfl⟩

theorem hexS_snoc {c : UInt8} : ∀ (ds : List UInt8) (a : Nat), hexS a (ds ++ [c]) = (hexS a ds).bind fun n => (hexV c).map fun d => n * 16 + d
  | [], a => by
    rw [List.nil_append]
    cases h : hexV c with
    | none => rw [hexS_none h]; rfl
    | some d => rw [hexS_some h]; rfl
  | x :: ds, a => by
    rw [List.cons_append]
    cases h : hexV x with
    | none => rw [hexS_none h, hexS_none h]; rfl
    | some d => rw [hexS_some h, hexS_some h, hexS_snoc ds]
theorem hexS_stop {c : UInt8} (h : hexV c = none) : ∀ (ds r : List UInt8) (a : Nat), hexS a (ds ++ c :: r) = none
  | [], r, a => hexS_none h
  | x :: ds, r, a => by
    rw [List.cons_append]
    cases hx : hexV x with
    | none => exact hexS_none hx
    | some d => rw [hexS_some hx]; exact hexS_stop h ds r _
/-- four digits, as the reference reads them -/
def FourPost (b : Nat) (s : ByteArray) (i : Nat) (no : Bool) (w : World) (e : Ending) (w' : World) : Prop :=
  But b w w' ∧ ∃ (n j : Nat) (no' : Bool), n < 65536 ∧ e = .returned (.int .i32 n) ∧ RC b s j no' w' ∧ (no' = false → no = false ∧ hex4L (dl s i) = some (n, dl s j)) ∧ (no' = true → no = true ∨ hex4L (dl s i) = none)
theorem four_done {s : ByteArray} {i j n : Nat} {ds : List UInt8} (h : dl s i = ds ++ dl s j) (hl : ds.length = 4) (hn : hexS 0 ds = some n) : hex4L (dl s i) = some (n, dl s j) := by
  unfold hex4L
  rw [h, if_neg (by rw [List.length_append]; omega), List.take_append_of_le_length (by omega), List.take_of_length_le (by omega), hn, List.drop_append_of_le_length (by omega), List.drop_of_length_le (by omega)]
  rfl
theorem four_stop {s : ByteArray} {i j : Nat} {ds : List UInt8} (h : dl s i = ds ++ dl s j) (hl : ds.length < 4) (hc : hexV (hereB (dl s j)) = none) : hex4L (dl s i) = none := by
  unfold hex4L
  split
  · rfl
  · rename_i h4
    cases e : dl s j with
    | nil =>
      rw [h, e, List.append_nil] at h4
      omega
    | cons c r =>
      rw [e] at hc
      rw [h, e, List.take_append, List.take_of_length_le (by omega)]
      obtain ⟨k, hk⟩ : ∃ k, 4 - ds.length = k + 1 := ⟨3 - ds.length, by omega⟩
      have hc2 : hexV c = none := hc
      rw [hk, List.take_succ_cons, hexS_stop hc2]
      rfl
theorem four_next {s : ByteArray} {i j n d : Nat} {ds : List UInt8} (h : dl s i = ds ++ dl s j) (hn : hexS 0 ds = some n) (hc : hexV (hereB (dl s j)) = some d) : ∃ hj : j < s.size, dl s i = (ds ++ [s[j]]) ++ dl s (j + 1) ∧ hexS 0 (ds ++ [s[j]]) = some (n * 16 + d) := by
  rcases Nat.lt_or_ge j s.size with hj | hj
  · rw [hereB_at hj] at hc
    exact ⟨hj, by rw [h, dl_cons hj, List.append_assoc]; rfl, by rw [hexS_snoc, hn, hc]; rfl⟩
  · have e : dl s j = [] := List.length_eq_zero_iff.1 (by rw [dl_len]; omega)
    rw [e] at hc
    have h0 : hexV (hereB []) = none := by decide
    rw [h0] at hc
    cases hc
theorem pow_step {m n d : Nat} (h : n < 16 ^ m) (hd : d < 16) : n * 16 + d < 16 ^ (m + 1) := by
  rw [Nat.pow_succ]; omega

set_option maxHeartbeats 4000000 in
set_option maxRecDepth 100000 in
theorem rFour_any (b : Nat) (s : ByteArray) (i : Nat) (no : Bool) (w : World) (h : RC b s i no w) (hs : s.size ≤ 1000000) :
    Calls Tryd.prog 73 #[.pointer (some ⟨b, 0, none⟩)] w (FourPost b s i no w) := by
  have HI := Hold.mk h
  clear h
  go_enter Tryd.func73, Tryd.ntmps73
  go_wp2_with fail
  go_loopg [3, 4] 4 (fun g s3 s4 wr => ∃ (m n j : Nat) (ds : List UInt8) (z : Int), s4 = .int .i64 m ∧ s3 = .int .i32 z ∧ z = n ∧ 4 - m ≤ g ∧ m ≤ 4 ∧ ds.length = m ∧ n < 16 ^ m ∧ hexS 0 ds = some n ∧ dl s i = ds ++ dl s j ∧ RC b s j no wr ∧ But b w wr)
  case atStart => exact ⟨0, 0, i, [], 0, rfl, rfl, rfl, by omega, by omega, rfl, by decide, rfl, rfl, HI.out, But.refl _ _⟩
  case round =>
    obtain ⟨m, n, j, ds, z, rfl, rfl, hz, hg, hm, hdl, hn, hsx, hd, hr, hb⟩ := hrel
    clear HI
    have HR := Hold.mk hr
    have HB := Hold.mk hb
    have HZ := Hold.mk hz
    have HF := Hold.mk (And.intro hd (And.intro hsx hdl))
    have HNB := Hold.mk hn
    clear hr hb hz hd hsx hdl hn
    by_cases hm4 : m < 4
    · have k0 : (m : Int) < 4 := by omega
      obtain ⟨c, hc⟩ : ∃ c, c = hereB (dl s j) := ⟨_, rfl⟩
      have HH : Hold (hereB (dl s j) = c) := ⟨hc.symm⟩
      clear hc
      have hgk1 : gk - 1 < gk := by omega
      have hm1 : m + 1 ≤ 4 := by omega
      have hg1 : 4 - (m + 1) ≤ gk - 1 := by omega
      go_wp2_with fail
      refine (rHere_any b s j no wr HR.out).mono ?_
      rintro e w1 ⟨rfl, hb1⟩
      rw [HH.out]
      have HR1 := Hold.mk (HR.out.below hb1)
      have HB1 := Hold.mk (HB.out.trans (But.of_below hb1))
      clear hb1
      have hX := rHex_any c w1
      cases hv : hexV c with
      | none =>
        have hN : hexN c = -1 := by unfold hexN; rw [hv]
        rw [hN] at hX
        have HX := Hold.mk hX
        have HP : Hold (FourPost b s i no w (.returned (.int .i32 0)) (w1.setCell ⟨b, 2, none⟩ (.bool true))) := ⟨HB1.out.trans (But.set _ _ _), 0, j, true, by omega, rfl, HR1.out.not, (fun h => by cases h), fun _ => .inr (four_stop HF.out.1 (by rw [HF.out.2.2]; exact hm4) (by rw [HH.out]; exact hv))⟩
        have x2 := HR1.out.c2
        have f2 := HR1.out.fz 2
        clear hX hN hv
        go_wp2_with fail
        refine HX.out.mono ?_
        rintro e w2 ⟨rfl, rfl⟩
        go_wp2_with fail
        go_ret
        exact HP.out
      | some d =>
        have hN : hexN c = (d : Int) := by unfold hexN; rw [hv]
        obtain ⟨zd, hzd⟩ : ∃ zd : Int, zd = (d : Int) := ⟨_, rfl⟩
        rw [hN, ← hzd] at hX
        have HX := Hold.mk hX
        have hd16 := hexV_lt hv
        obtain ⟨hjs, hd1, hs1⟩ := four_next HF.out.1 HF.out.2.1 (by rw [HH.out]; exact hv)
        have HNX : Hold (∃ ds', dl s i = ds' ++ dl s (j + 1) ∧ hexS 0 ds' = some (n * 16 + d) ∧ ds'.length = m + 1) := ⟨_, hd1, hs1, by rw [List.length_append, HF.out.2.2]; rfl⟩
        have hn4 : n < 4096 := by
          have h1 := HNB.out
          have h2 : 16 ^ m ≤ 16 ^ 3 := Nat.pow_le_pow_right (by decide) (by omega)
          have h3 : (16 : Nat) ^ 3 = 4096 := by decide
          omega
        have hzn := HZ.out
        have hz0 : ¬ zd < 0 := by omega
        have hw1 : IntKind.i32.wrap (z * 16) = z * 16 := by simp [IntKind.wrap, IntKind.bits, IntKind.signed]; omega
        have hw2 : IntKind.i32.wrap (z * 16 + zd) = z * 16 + zd := by simp [IntKind.wrap, IntKind.bits, IntKind.signed]; omega
        have HZN : Hold (z * 16 + zd = ((n * 16 + d : Nat) : Int)) := ⟨by omega⟩
        have HNB2 : Hold (n * 16 + d < 16 ^ (m + 1)) := ⟨pow_step HNB.out hd16⟩
        have x1 := HR1.out.c1
        have f1 := HR1.out.fz 1
        have HRN := Hold.mk (HR1.out.to1 hjs)
        have HBN : Hold (But b w (w1.setCell ⟨b, 1, none⟩ (.int .i64 ((j : Int) + 1)))) := ⟨HB1.out.trans (But.set _ _ _)⟩
        clear hX hN hv hzd hd16 hd1 hs1 hn4 hzn
        go_wp2_with fail
        refine HX.out.mono ?_
        rintro e w2 ⟨rfl, rfl⟩
        go_wp2_with fail
        clear x1 f1
        go_roundg (gk - 1)
        case measure => exact hgk1
        case rel =>
          obtain ⟨ds', e1, e2, e3⟩ := HNX.out
          exact ⟨m + 1, n * 16 + d, j + 1, ds', z * 16 + zd, by first | rfl | simp, rfl, HZN.out, hg1, hm1, e3, HNB2.out, e2, e1, HRN.out, HBN.out⟩
    · have k0 : ¬ (m : Int) < 4 := by omega
      obtain rfl : m = 4 := by omega
      have HP : Hold (FourPost b s i no w (.returned (.int .i32 z)) wr) := ⟨HB.out, n, j, no, HNB.out, by rw [HZ.out], HR.out, fun h => ⟨h, four_done HF.out.1 HF.out.2.2 HF.out.2.1⟩, fun h => .inl h⟩
      go_wp2_with fail
      go_ret
      exact HP.out

end Go.Proofs.YtdhilnnohokoeaaDoor
