/- The reader of the reference: escape at 'u'. -/
import Derived.Test.YtdhilnnohokoeaaDoorQI
namespace Go.Proofs.YtdhilnnohokoeaaDoor
open Go.Shelf Go.RowKit

theorem word_2u (l : List UInt8) : wordL (⟨#[92, 117]⟩ : ByteArray).data.toList l = if [92, 117].isPrefixOf l then some (l.drop 2) else none := rfl
theorem word_some {l r : List UInt8} (h : wordL (⟨#[92, 117]⟩ : ByteArray).data.toList l = some r) : [92, 117].isPrefixOf l = true ∧ r = l.drop 2 := by
  rw [word_2u] at h
  split at h
  · exact ⟨by assumption, (Option.some.inj h).symm⟩
  · cases h
theorem word_none {l : List UInt8} (h : wordL (⟨#[92, 117]⟩ : ByteArray).data.toList l = none) : [92, 117].isPrefixOf l = false := by
  rw [word_2u] at h
  split at h
  · cases h
  · rename_i h2; exact Bool.eq_false_iff.2 h2

set_option maxHeartbeats 16000000 in
set_option maxRecDepth 100000 in
theorem rEsc_uni (b : Nat) (s : ByteArray) (i : Nat) (w : World) (h : RC b s i false w) (hi : i ≤ s.size) (hs : s.size ≤ 1000000) (h117 : hereB (dl s i) = 117) :
    Calls Tryd.prog 55 #[.pointer (some ⟨b, 0, none⟩)] w (REscPost b s i w) := by
  have HI := Hold.mk h
  have HH := Hold.mk h117
  have HU : Hold (escL (dl s i) = uniL (dl s (i + 1))) := ⟨esc_uni h117⟩
  clear h h117
  go_enter Tryd.func55, Tryd.ntmps55
  go_wp2_with fail
  refine (rHere_any b s i false w HI.out).mono ?_
  rintro e w1 ⟨rfl, hb1⟩
  rw [HH.out]
  have HR1 := Hold.mk (HI.out.below hb1)
  have HB1 := Hold.mk (But.of_below (b := b) hb1)
  have x1 := HR1.out.c1
  have f1 := HR1.out.fz 1
  clear hb1
  go_upto_region 3 with (fail)
  obtain ⟨w2, hw2⟩ : ∃ w2, w2 = w1.setCell ⟨b, 1, none⟩ (.int .i64 ((i : Int) + 1)) := ⟨_, rfl⟩
  have HR2 : Hold (RC b s (i + 1) false w2) := ⟨by rw [hw2]; exact HR1.out.up hi⟩
  have HB2 : Hold (But b w w2) := ⟨by rw [hw2]; exact HB1.out.trans (But.set _ _ _)⟩
  rw [← hw2]
  clear hw2 x1 f1 HR1 HB1
  go_wp2_with fail
  refine (rFour_any b s (i + 1) false w2 HR2.out hs).mono ?_
  rintro e w3 ⟨hb3, n, j, no1, hn, rfl, hr3, hf3, ht3⟩
  have HR3 := Hold.mk hr3
  have HB3 := Hold.mk (HB2.out.trans hb3)
  have HF3 : Hold (no1 = false → hex4L (dl s (i + 1)) = some (n, dl s j)) := ⟨fun h => (hf3 h).2⟩
  have HT3 : Hold (no1 = true → hex4L (dl s (i + 1)) = none) := ⟨fun h => (ht3 h).elim (fun h => by cases h) id⟩
  clear hr3 hb3 hf3 ht3 HR2 HB2
  obtain ⟨z, hz⟩ : ∃ z : Int, z = (n : Int) := ⟨_, rfl⟩
  rw [← hz]
  have HZ := Hold.mk hz
  have x2 := HR3.out.c2
  have hzn : 0 ≤ z ∧ z < 65536 := by omega
  -- what is answered of a rune, no more being read
  have HEND : Hold (∀ (V : Int) (no' : Bool) (w5 : World) (j5 : Nat), But b w w5 → RC b s j5 no' w5 → (no' = false → uniL (dl s (i + 1)) = some ((Utf8.encode V).data.toList, dl s j5)) → (no' = true → uniL (dl s (i + 1)) = none) → REscPost b s i w (.returned (.string (Utf8.encode V))) (w5.alloc (.cells #[.int .i32 V] 21))) :=
    ⟨fun V no' w5 j5 hb hr h1 h2 => ⟨hb.alloc _, _, j5, no', rfl, encode_size_le V, hr.below ((Below.refl _ w5).alloc (Nat.le_refl _) _), fun h => by rw [HU.out]; exact h1 h, fun h => by rw [HU.out]; exact h2 h⟩⟩
  by_cases hsur : 55296 ≤ n ∧ n < 56320
  · have k0 : (55296 : Int) ≤ z := by omega
    have k1 : z ≤ 56319 := by omega
    have k2 : ¬ (56320 : Int) ≤ z := by omega
    clear hz
    cases no1 with
    | true =>
      have HN : Hold (uniL (dl s (i + 1)) = none) := ⟨uniL_no (HT3.out (by simp))⟩
      have hr := run_rune1 z w3
      go_wp2_with fail
      go_ret
      exact HEND.out z true w3 j HB3.out HR3.out (fun h => by cases h) (fun _ => HN.out)
    | false =>
      go_wp2_with fail
      refine (rWant_any b s ⟨#[92, 117]⟩ j false w3 HR3.out hs (by decide)).mono ?_
      rintro e w4 ⟨rfl, hb4, j4, no4, hr4, hf4, ht4⟩
      have HR4 := Hold.mk hr4
      have HB4 := Hold.mk (HB3.out.trans hb4)
      have HF4 : Hold (no4 = false → [92, 117].isPrefixOf (dl s j) = true ∧ dl s j4 = (dl s j).drop 2) := ⟨fun h => word_some (hf4 h).2⟩
      have HT4 : Hold (no4 = true → uniL (dl s (i + 1)) = none) := ⟨fun h => uniL_sur (HF3.out (by simp)) hsur (word_none ((ht4 h).elim (fun h => by cases h) id))⟩
      clear hr4 hb4 hf4 ht4 x2
      go_wp2_with fail
      refine (rFour_any b s j4 no4 w4 HR4.out hs).mono ?_
      rintro e w5 ⟨hb5, m, j5, no5, hm, rfl, hr5, hf5, ht5⟩
      obtain ⟨y, hy⟩ : ∃ y : Int, y = (m : Int) := ⟨_, rfl⟩
      rw [← hy]
      have HY := Hold.mk hy
      have HR5 := Hold.mk hr5
      have HB5 := Hold.mk (HB4.out.trans hb5)
      have HT5 : Hold (no5 = true → uniL (dl s (i + 1)) = none) := ⟨fun h => by
        cases hq : no4 with
        | true => exact HT4.out hq
        | false =>
          have h2 := (ht5 h).elim (fun h => by rw [hq] at h; cases h) id
          rw [(HF4.out hq).2] at h2
          exact uniL_sur2 (HF3.out (by simp)) hsur h2⟩
      have HF5 : Hold (no5 = false → no4 = false ∧ hex4L ((dl s j).drop 2) = some (m, dl s j5)) := ⟨fun h => by
        obtain ⟨h1, h2⟩ := hf5 h
        rw [(HF4.out h1).2] at h2
        exact ⟨h1, h2⟩⟩
      have hw1 : IntKind.i32.wrap (z - 55296) = z - 55296 := by simp [IntKind.wrap, IntKind.bits, IntKind.signed]; omega
      have hw2 : IntKind.i32.wrap ((z - 55296) * 1024) = (z - 55296) * 1024 := by simp [IntKind.wrap, IntKind.bits, IntKind.signed]; omega
      have hw3 : IntKind.i32.wrap (65536 + (z - 55296) * 1024) = 65536 + (z - 55296) * 1024 := by simp [IntKind.wrap, IntKind.bits, IntKind.signed]; omega
      have hw4 : IntKind.i32.wrap (y - 56320) = y - 56320 := by simp [IntKind.wrap, IntKind.bits, IntKind.signed]; omega
      have hw5 : IntKind.i32.wrap (65536 + (z - 55296) * 1024 + (y - 56320)) = 65536 + (z - 55296) * 1024 + (y - 56320) := by simp [IntKind.wrap, IntKind.bits, IntKind.signed]; omega
      clear hr5 hb5 hf5 ht5
      by_cases hlow : 56320 ≤ m ∧ m ≤ 57343
      · have q0 : ¬ y < 56320 := by omega
        have q1 : ¬ 57343 < y := by omega
        have hr := run_rune1 (65536 + (z - 55296) * 1024 + (y - 56320)) w5
        have HVN : Hold ((65536 + (z - 55296) * 1024 + (y - 56320)) = ((65536 + (n - 55296) * 1024 + (m - 56320) : Nat) : Int)) := ⟨by have := HZ.out; omega⟩
        clear hy
        go_wp2_with fail
        go_ret
        exact HEND.out (65536 + (z - 55296) * 1024 + (y - 56320)) no5 w5 j5 HB5.out HR5.out (fun h => by
          obtain ⟨h1, h2⟩ := HF5.out h
          rw [uniL_sur4 (HF3.out (by simp)) hsur (HF4.out h1).1 h2 hlow, encL_eq, HVN.out]) (fun h => HT5.out h)
      · obtain ⟨w6, hw6⟩ : ∃ w6, w6 = w5.setCell ⟨b, 2, none⟩ (.bool true) := ⟨_, rfl⟩
        have HR6 : Hold (RC b s j5 true w6) := ⟨by rw [hw6]; exact HR5.out.not⟩
        have HB6 : Hold (But b w w6) := ⟨by rw [hw6]; exact HB5.out.trans (But.set _ _ _)⟩
        have HN : Hold (uniL (dl s (i + 1)) = none) := ⟨by
          cases hq : no5 with
          | true => exact HT5.out hq
          | false => exact uniL_sur3 (HF3.out (by simp)) hsur (HF5.out hq).2 hlow⟩
        have x2 := HR5.out.c2
        have f2 := HR5.out.fz 2
        have hr := run_rune1 (65536 + (z - 55296) * 1024 + (y - 56320)) w6
        have hways : y < 56320 ∨ ¬ y < 56320 ∧ 57343 < y := by omega
        clear hy hlow
        rcases hways with q0 | ⟨q0, q1⟩
        all_goals
          go_upto_region 25 with (fail)
          rw [← hw6]
          clear hw6 x2 f2
          go_wp2_with fail
          go_ret
          exact HEND.out (65536 + (z - 55296) * 1024 + (y - 56320)) true w6 j5 HB6.out HR6.out (fun h => by cases h) (fun _ => HN.out)
  · by_cases hlow : 56320 ≤ n ∧ n ≤ 57343
    · have k0 : (55296 : Int) ≤ z := by omega
      have k1 : ¬ z ≤ 56319 := by omega
      have k2 : (56320 : Int) ≤ z := by omega
      have k3 : z ≤ 57343 := by omega
      have HN : Hold (uniL (dl s (i + 1)) = none) := ⟨by
        cases hq : no1 with
        | true => exact uniL_no (HT3.out hq)
        | false => exact uniL_low (HF3.out hq) hsur hlow⟩
      obtain ⟨w6, hw6⟩ : ∃ w6, w6 = w3.setCell ⟨b, 2, none⟩ (.bool true) := ⟨_, rfl⟩
      have HR6 : Hold (RC b s j true w6) := ⟨by rw [hw6]; exact HR3.out.not⟩
      have HB6 : Hold (But b w w6) := ⟨by rw [hw6]; exact HB3.out.trans (But.set _ _ _)⟩
      have f2 := HR3.out.fz 2
      have hr := run_rune1 z w6
      clear hz
      go_upto_region 28 with (fail)
      rw [← hw6]
      clear hw6 x2 f2
      go_wp2_with fail
      go_ret
      exact HEND.out z true w6 j HB6.out HR6.out (fun h => by cases h) (fun _ => HN.out)
    · have HF : Hold (no1 = false → uniL (dl s (i + 1)) = some ((Utf8.encode z).data.toList, dl s j)) := ⟨fun h => by rw [uniL_plain (HF3.out h) hsur hlow, encL_eq, HZ.out]⟩
      have HT : Hold (no1 = true → uniL (dl s (i + 1)) = none) := ⟨fun h => uniL_no (HT3.out h)⟩
      have hr := run_rune1 z w3
      have hways : (¬ (55296 : Int) ≤ z ∧ ¬ (56320 : Int) ≤ z) ∨ ((55296 : Int) ≤ z ∧ ¬ z ≤ 56319 ∧ (56320 : Int) ≤ z ∧ ¬ z ≤ 57343) := by omega
      clear hz hsur hlow
      rcases hways with ⟨k0, k1⟩ | ⟨k0, k1, k2, k3⟩
      all_goals
        go_wp2_with fail
        go_ret
        exact HEND.out z no1 w3 j HB3.out HR3.out HF.out HT.out

theorem rEscape_any (b : Nat) (s : ByteArray) (i : Nat) (w : World) (h : RC b s i false w) (hi : i ≤ s.size) (hs : s.size ≤ 1000000) :
    Calls Tryd.prog 55 #[.pointer (some ⟨b, 0, none⟩)] w (REscPost b s i w) := by
  by_cases h117 : hereB (dl s i) = 117
  · exact rEsc_uni b s i w h hi hs h117
  · exact rEsc_short b s i w h hi hs h117

end Go.Proofs.YtdhilnnohokoeaaDoor
