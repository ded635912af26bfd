/- The reader of the reference: escape. The reader of the reference: escape at 'u'. The reader of the reference: quoted. -/
import Derived.Test.YtkhhbckpddkhlaaGreatDoorQD
import Derived.Test.YtkhhbckpddkhlaaGreatDoorRD
import Derived.Test.YtkhhbckpddkhlaaGreatDoorRG
namespace Go.Proofs.YtkhhbckpddkhlaaGreatDoor
open Go.Shelf Go.RowKit

theorem RC.up {b : Nat} {s : ByteArray} {i : Nat} {no : Bool} {w : World} (h : RC b s i no w) (hj : i ≤ s.size) : RC b s (i + 1) no (w.setCell ⟨b, 1, none⟩ (.int .i64 ((i : Int) + 1))) :=
  ⟨by rw [set_at h.box]; rfl, by omega⟩
theorem run_byte1 (k : Nat) (hk : k < 256) (w : World) : (convert 148 9 (.slice (some ⟨w.heap.size, 0, none⟩) 1 1)).run Tryz.prog (w.alloc (.cells #[.int .u8 (k : Int)] 5)) = .ok (.string (ba [k.toUInt8])) (w.alloc (.cells #[.int .u8 (k : Int)] 5)) := by
  refine run_convert_bytes_back _ 148 9 5 ⟨w.heap.size, 0, none⟩ 1 [k.toUInt8] Tryz.underlying148 Tryz.underlying5 Tryz.underlying9 ?_
  intro j hj
  obtain rfl : j = 0 := by simp at hj; omega
  simp [Addr.add, Nat.toUInt8, Nat.mod_eq_of_lt hk]
theorem run_rune1 (z : Int) (w : World) : (convert 163 9 (.slice (some ⟨w.heap.size, 0, none⟩) 1 1)).run Tryz.prog (w.alloc (.cells #[.int .i32 z] 21)) = .ok (.string (Utf8.encode z)) (w.alloc (.cells #[.int .i32 z] 21)) := by
  have h := run_convert_runes (P := Tryz.prog) (w.alloc (.cells #[.int .i32 z] 21)) 163 9 21 ⟨w.heap.size, 0, none⟩ 1 1 [z] (Nat.le_refl _) Tryz.underlying163 Tryz.underlying21 Tryz.underlying9 (fun j hj => by
    obtain rfl : j = 0 := by simp at hj; omega
    simp [Addr.add])
  rw [h]; rfl
/-- what stands behind a backslash, as the reference reads it -/
def REscPost (b : Nat) (s : ByteArray) (i : Nat) (w : World) (e : Ending) (w' : World) : Prop :=
  But b w w' ∧ ∃ (t : ByteArray) (j : Nat) (no' : Bool), e = .returned (.string t) ∧ t.size ≤ 4 ∧ RC b s j no' w' ∧ (no' = false → escL (dl s i) = some (t.data.toList, dl s j)) ∧ (no' = true → escL (dl s i) = none)
theorem esc_char {s : ByteArray} {i : Nat} {c : UInt8} (hc : hereB (dl s i) = c) (h0 : c ≠ 0) : i < s.size ∧ dl s i = c :: dl s (i + 1) := by
  rcases Nat.lt_or_ge i s.size with hj | hj
  · exact ⟨hj, by rw [dl_cons hj, ← hereB_at hj, hc]⟩
  · have e : dl s i = [] := List.length_eq_zero_iff.1 (by rw [dl_len]; omega)
    rw [e] at hc
    exact absurd hc.symm h0
theorem esc_short {s : ByteArray} {i : Nat} {c d : UInt8} (hc : hereB (dl s i) = c) (h0 : c ≠ 0) (hd : shortL c = some d) : escL (dl s i) = some ([d], dl s (i + 1)) := by
  obtain ⟨_, h⟩ := esc_char hc h0
  rw [h, escL, hd]
theorem esc_uni {s : ByteArray} {i : Nat} (hc : hereB (dl s i) = 117) : escL (dl s i) = uniL (dl s (i + 1)) := by
  obtain ⟨_, h⟩ := esc_char hc (by decide)
  rw [h, escL]; rfl
theorem esc_none {s : ByteArray} {i : Nat} {c : UInt8} (hc : hereB (dl s i) = c) (h1 : shortL c = none) (h2 : c ≠ 117) : escL (dl s i) = none := by
  rcases Nat.lt_or_ge i s.size with hj | hj
  · rw [dl_cons hj, ← hereB_at hj, hc, escL, h1]; exact if_neg h2
  · have e : dl s i = [] := List.length_eq_zero_iff.1 (by rw [dl_len]; omega)
    rw [e]; rfl
theorem one_byte (c : UInt8) : ba [c] = ⟨#[c]⟩ := rfl

set_option maxHeartbeats 16000000 in
set_option maxRecDepth 100000 in
theorem rEsc_short (b : Nat) (s : ByteArray) (i : Nat) (w : World) (h : RC b s i false w) (hi : i ≤ s.size) (hs : s.size ≤ 1000000) (h117 : hereB (dl s i) ≠ 117) :
    Calls Tryz.prog 182 #[.pointer (some ⟨b, 0, none⟩)] w (REscPost b s i w) := by
  have HI := Hold.mk h
  have HN := Hold.mk h117
  obtain ⟨c, hc⟩ : ∃ c, c = hereB (dl s i) := ⟨_, rfl⟩
  have HH : Hold (hereB (dl s i) = c) := ⟨hc.symm⟩
  clear h hc h117
  go_enter Tryz.func182, Tryz.ntmps182
  go_wp2_with fail
  refine (rHere_any b s i false w HI.out).mono ?_
  rintro e w1 ⟨rfl, hb1⟩
  rw [HH.out]
  have HR1 := Hold.mk (HI.out.below hb1)
  have HB1 := Hold.mk (But.of_below (b := b) hb1)
  have x1 := HR1.out.c1
  have f1 := HR1.out.fz 1
  clear hb1
  go_upto_region 3 with (fail)
  obtain ⟨w2, hw2⟩ : ∃ w2, w2 = w1.setCell ⟨b, 1, none⟩ (.int .i64 ((i : Int) + 1)) := ⟨_, rfl⟩
  have HR2 : Hold (RC b s (i + 1) false w2) := ⟨by rw [hw2]; exact HR1.out.up hi⟩
  have HB2 : Hold (But b w w2) := ⟨by rw [hw2]; exact HB1.out.trans (But.set _ _ _)⟩
  rw [← hw2]
  clear hw2 x1 f1 HR1 HB1
  have HSH : Hold (∀ d, c ≠ 0 → shortL c = some d → escL (dl s i) = some ((ba [d]).data.toList, dl s (i + 1))) := ⟨fun d h0 hd => by rw [ba_list]; exact esc_short HH.out h0 hd⟩
  by_cases h34 : c = 34
  · subst h34
    have hr : (convert 148 9 (.slice (some ⟨w2.heap.size, 0, none⟩) 1 1)).run Tryz.prog (w2.alloc (.cells #[.int .u8 34] 5)) = .ok (.string (ba [34])) (w2.alloc (.cells #[.int .u8 34] 5)) := run_byte1 34 (by omega) w2
    go_wp2_with fail
    go_ret
    exact ⟨HB2.out.alloc _, ba [34], i + 1, false, ret_str rfl, by decide, HR2.out.below ((Below.refl _ w2).alloc (Nat.le_refl _) _), fun _ => HSH.out 34 (by decide) rfl, fun h => by cases h⟩
  have b34 : ((c.toNat : Int) == 34) = false := byte_ne (k := 34) h34
  by_cases h92 : c = 92
  · subst h92
    have hr : (convert 148 9 (.slice (some ⟨w2.heap.size, 0, none⟩) 1 1)).run Tryz.prog (w2.alloc (.cells #[.int .u8 92] 5)) = .ok (.string (ba [92])) (w2.alloc (.cells #[.int .u8 92] 5)) := run_byte1 92 (by omega) w2
    go_wp2_with fail
    go_ret
    exact ⟨HB2.out.alloc _, ba [92], i + 1, false, ret_str rfl, by decide, HR2.out.below ((Below.refl _ w2).alloc (Nat.le_refl _) _), fun _ => HSH.out 92 (by decide) rfl, fun h => by cases h⟩
  have b92 : ((c.toNat : Int) == 92) = false := byte_ne (k := 92) h92
  by_cases h47 : c = 47
  · subst h47
    have hr : (convert 148 9 (.slice (some ⟨w2.heap.size, 0, none⟩) 1 1)).run Tryz.prog (w2.alloc (.cells #[.int .u8 47] 5)) = .ok (.string (ba [47])) (w2.alloc (.cells #[.int .u8 47] 5)) := run_byte1 47 (by omega) w2
    go_wp2_with fail
    go_ret
    exact ⟨HB2.out.alloc _, ba [47], i + 1, false, ret_str rfl, by decide, HR2.out.below ((Below.refl _ w2).alloc (Nat.le_refl _) _), fun _ => HSH.out 47 (by decide) rfl, fun h => by cases h⟩
  have b47 : ((c.toNat : Int) == 47) = false := byte_ne (k := 47) h47
  by_cases h98 : c = 98
  · subst h98
    go_wp2_with fail
    go_ret
    exact ⟨HB2.out, ba [8], i + 1, false, ret_str rfl, by decide, HR2.out, fun _ => HSH.out 8 (by decide) rfl, fun h => by cases h⟩
  have b98 : ((c.toNat : Int) == 98) = false := byte_ne (k := 98) h98
  by_cases h102 : c = 102
  · subst h102
    go_wp2_with fail
    go_ret
    exact ⟨HB2.out, ba [12], i + 1, false, ret_str rfl, by decide, HR2.out, fun _ => HSH.out 12 (by decide) rfl, fun h => by cases h⟩
  have b102 : ((c.toNat : Int) == 102) = false := byte_ne (k := 102) h102
  by_cases h110 : c = 110
  · subst h110
    go_wp2_with fail
    go_ret
    exact ⟨HB2.out, ba [10], i + 1, false, ret_str rfl, by decide, HR2.out, fun _ => HSH.out 10 (by decide) rfl, fun h => by cases h⟩
  have b110 : ((c.toNat : Int) == 110) = false := byte_ne (k := 110) h110
  by_cases h114 : c = 114
  · subst h114
    go_wp2_with fail
    go_ret
    exact ⟨HB2.out, ba [13], i + 1, false, ret_str rfl, by decide, HR2.out, fun _ => HSH.out 13 (by decide) rfl, fun h => by cases h⟩
  have b114 : ((c.toNat : Int) == 114) = false := byte_ne (k := 114) h114
  by_cases h116 : c = 116
  · subst h116
    go_wp2_with fail
    go_ret
    exact ⟨HB2.out, ba [9], i + 1, false, ret_str rfl, by decide, HR2.out, fun _ => HSH.out 9 (by decide) rfl, fun h => by cases h⟩
  have b116 : ((c.toNat : Int) == 116) = false := byte_ne (k := 116) h116
  have h117 : c ≠ 117 := fun e => HN.out (HH.out.trans e)
  have b117 : ((c.toNat : Int) == 117) = false := byte_ne (k := 117) h117
  have HNO : Hold (escL (dl s i) = none) := ⟨esc_none HH.out (by unfold shortL; rw [if_neg h34, if_neg h92, if_neg h47, if_neg h98, if_neg h102, if_neg h110, if_neg h114, if_neg h116]) h117⟩
  have x2 := HR2.out.c2
  have f2 := HR2.out.fz 2
  go_wp2_with fail
  go_ret
  exact ⟨HB2.out.trans (But.set _ _ _), ⟨#[]⟩, i + 1, true, rfl, by decide, HR2.out.not, (fun h => by cases h), fun _ => HNO.out⟩

end Go.Proofs.YtkhhbckpddkhlaaGreatDoor

namespace Go.Proofs.YtkhhbckpddkhlaaGreatDoor
open Go.Shelf Go.RowKit

theorem word_2u (l : List UInt8) : wordL (⟨#[92, 117]⟩ : ByteArray).data.toList l = if [92, 117].isPrefixOf l then some (l.drop 2) else none := rfl
theorem word_some {l r : List UInt8} (h : wordL (⟨#[92, 117]⟩ : ByteArray).data.toList l = some r) : [92, 117].isPrefixOf l = true ∧ r = l.drop 2 := by
  rw [word_2u] at h
  split at h
  · exact ⟨by assumption, (Option.some.inj h).symm⟩
  · cases h
theorem word_none {l : List UInt8} (h : wordL (⟨#[92, 117]⟩ : ByteArray).data.toList l = none) : [92, 117].isPrefixOf l = false := by
  rw [word_2u] at h
  split at h
  · cases h
  · rename_i h2; exact Bool.eq_false_iff.2 h2

set_option maxHeartbeats 16000000 in
set_option maxRecDepth 100000 in
theorem rEsc_uni (b : Nat) (s : ByteArray) (i : Nat) (w : World) (h : RC b s i false w) (hi : i ≤ s.size) (hs : s.size ≤ 1000000) (h117 : hereB (dl s i) = 117) :
    Calls Tryz.prog 182 #[.pointer (some ⟨b, 0, none⟩)] w (REscPost b s i w) := by
  have HI := Hold.mk h
  have HH := Hold.mk h117
  have HU : Hold (escL (dl s i) = uniL (dl s (i + 1))) := ⟨esc_uni h117⟩
  clear h h117
  go_enter Tryz.func182, Tryz.ntmps182
  go_wp2_with fail
  refine (rHere_any b s i false w HI.out).mono ?_
  rintro e w1 ⟨rfl, hb1⟩
  rw [HH.out]
  have HR1 := Hold.mk (HI.out.below hb1)
  have HB1 := Hold.mk (But.of_below (b := b) hb1)
  have x1 := HR1.out.c1
  have f1 := HR1.out.fz 1
  clear hb1
  go_upto_region 3 with (fail)
  obtain ⟨w2, hw2⟩ : ∃ w2, w2 = w1.setCell ⟨b, 1, none⟩ (.int .i64 ((i : Int) + 1)) := ⟨_, rfl⟩
  have HR2 : Hold (RC b s (i + 1) false w2) := ⟨by rw [hw2]; exact HR1.out.up hi⟩
  have HB2 : Hold (But b w w2) := ⟨by rw [hw2]; exact HB1.out.trans (But.set _ _ _)⟩
  rw [← hw2]
  clear hw2 x1 f1 HR1 HB1
  go_wp2_with fail
  refine (rFour_any b s (i + 1) false w2 HR2.out hs).mono ?_
  rintro e w3 ⟨hb3, n, j, no1, hn, rfl, hr3, hf3, ht3⟩
  have HR3 := Hold.mk hr3
  have HB3 := Hold.mk (HB2.out.trans hb3)
  have HF3 : Hold (no1 = false → hex4L (dl s (i + 1)) = some (n, dl s j)) := ⟨fun h => (hf3 h).2⟩
  have HT3 : Hold (no1 = true → hex4L (dl s (i + 1)) = none) := ⟨fun h => (ht3 h).elim (fun h => by cases h) id⟩
  clear hr3 hb3 hf3 ht3 HR2 HB2
  obtain ⟨z, hz⟩ : ∃ z : Int, z = (n : Int) := ⟨_, rfl⟩
  rw [← hz]
  have HZ := Hold.mk hz
  have x2 := HR3.out.c2
  have hzn : 0 ≤ z ∧ z < 65536 := by omega
  -- what is answered of a rune, no more being read
  have HEND : Hold (∀ (V : Int) (no' : Bool) (w5 : World) (j5 : Nat), But b w w5 → RC b s j5 no' w5 → (no' = false → uniL (dl s (i + 1)) = some ((Utf8.encode V).data.toList, dl s j5)) → (no' = true → uniL (dl s (i + 1)) = none) → REscPost b s i w (.returned (.string (Utf8.encode V))) (w5.alloc (.cells #[.int .i32 V] 21))) :=
    ⟨fun V no' w5 j5 hb hr h1 h2 => ⟨hb.alloc _, _, j5, no', rfl, encode_size_le V, hr.below ((Below.refl _ w5).alloc (Nat.le_refl _) _), fun h => by rw [HU.out]; exact h1 h, fun h => by rw [HU.out]; exact h2 h⟩⟩
  by_cases hsur : 55296 ≤ n ∧ n < 56320
  · have k0 : (55296 : Int) ≤ z := by omega
    have k1 : z ≤ 56319 := by omega
    have k2 : ¬ (56320 : Int) ≤ z := by omega
    clear hz
    cases no1 with
    | true =>
      have HN : Hold (uniL (dl s (i + 1)) = none) := ⟨uniL_no (HT3.out (by simp))⟩
      have hr := run_rune1 z w3
      go_wp2_with fail
      go_ret
      exact HEND.out z true w3 j HB3.out HR3.out (fun h => by cases h) (fun _ => HN.out)
    | false =>
      go_wp2_with fail
      refine (rWant_any b s ⟨#[92, 117]⟩ j false w3 HR3.out hs (by decide)).mono ?_
      rintro e w4 ⟨rfl, hb4, j4, no4, hr4, hf4, ht4⟩
      have HR4 := Hold.mk hr4
      have HB4 := Hold.mk (HB3.out.trans hb4)
      have HF4 : Hold (no4 = false → [92, 117].isPrefixOf (dl s j) = true ∧ dl s j4 = (dl s j).drop 2) := ⟨fun h => word_some (hf4 h).2⟩
      have HT4 : Hold (no4 = true → uniL (dl s (i + 1)) = none) := ⟨fun h => uniL_sur (HF3.out (by simp)) hsur (word_none ((ht4 h).elim (fun h => by cases h) id))⟩
      clear hr4 hb4 hf4 ht4 x2
      go_wp2_with fail
      refine (rFour_any b s j4 no4 w4 HR4.out hs).mono ?_
      rintro e w5 ⟨hb5, m, j5, no5, hm, rfl, hr5, hf5, ht5⟩
      obtain ⟨y, hy⟩ : ∃ y : Int, y = (m : Int) := ⟨_, rfl⟩
      rw [← hy]
      have HY := Hold.mk hy
      have HR5 := Hold.mk hr5
      have HB5 := Hold.mk (HB4.out.trans hb5)
      have HT5 : Hold (no5 = true → uniL (dl s (i + 1)) = none) := ⟨fun h => by
        cases hq : no4 with
        | true => exact HT4.out hq
        | false =>
          have h2 := (ht5 h).elim (fun h => by rw [hq] at h; cases h) id
          rw [(HF4.out hq).2] at h2
          exact uniL_sur2 (HF3.out (by simp)) hsur h2⟩
      have HF5 : Hold (no5 = false → no4 = false ∧ hex4L ((dl s j).drop 2) = some (m, dl s j5)) := ⟨fun h => by
        obtain ⟨h1, h2⟩ := hf5 h
        rw [(HF4.out h1).2] at h2
        exact ⟨h1, h2⟩⟩
      have hw1 : IntKind.i32.wrap (z - 55296) = z - 55296 := by simp [IntKind.wrap, IntKind.bits, IntKind.signed]; omega
      have hw2 : IntKind.i32.wrap ((z - 55296) * 1024) = (z - 55296) * 1024 := by simp [IntKind.wrap, IntKind.bits, IntKind.signed]; omega
      have hw3 : IntKind.i32.wrap (65536 + (z - 55296) * 1024) = 65536 + (z - 55296) * 1024 := by simp [IntKind.wrap, IntKind.bits, IntKind.signed]; omega
      have hw4 : IntKind.i32.wrap (y - 56320) = y - 56320 := by simp [IntKind.wrap, IntKind.bits, IntKind.signed]; omega
      have hw5 : IntKind.i32.wrap (65536 + (z - 55296) * 1024 + (y - 56320)) = 65536 + (z - 55296) * 1024 + (y - 56320) := by simp [IntKind.wrap, IntKind.bits, IntKind.signed]; omega
      clear hr5 hb5 hf5 ht5
      by_cases hlow : 56320 ≤ m ∧ m ≤ 57343
      · have q0 : ¬ y < 56320 := by omega
        have q1 : ¬ 57343 < y := by omega
        have hr := run_rune1 (65536 + (z - 55296) * 1024 + (y - 56320)) w5
        have HVN : Hold ((65536 + (z - 55296) * 1024 + (y - 56320)) = ((65536 + (n - 55296) * 1024 + (m - 56320) : Nat) : Int)) := ⟨by have := HZ.out; omega⟩
        clear hy
        go_wp2_with fail
        go_ret
        exact HEND.out (65536 + (z - 55296) * 1024 + (y - 56320)) no5 w5 j5 HB5.out HR5.out (fun h => by
          obtain ⟨h1, h2⟩ := HF5.out h
          rw [uniL_sur4 (HF3.out (by simp)) hsur (HF4.out h1).1 h2 hlow, encL_eq, HVN.out]) (fun h => HT5.out h)
      · obtain ⟨w6, hw6⟩ : ∃ w6, w6 = w5.setCell ⟨b, 2, none⟩ (.bool true) := ⟨_, rfl⟩
        have HR6 : Hold (RC b s j5 true w6) := ⟨by rw [hw6]; exact HR5.out.not⟩
        have HB6 : Hold (But b w w6) := ⟨by rw [hw6]; exact HB5.out.trans (But.set _ _ _)⟩
        have HN : Hold (uniL (dl s (i + 1)) = none) := ⟨by
          cases hq : no5 with
          | true => exact HT5.out hq
          | false => exact uniL_sur3 (HF3.out (by simp)) hsur (HF5.out hq).2 hlow⟩
        have x2 := HR5.out.c2
        have f2 := HR5.out.fz 2
        have hr := run_rune1 (65536 + (z - 55296) * 1024 + (y - 56320)) w6
        have hways : y < 56320 ∨ ¬ y < 56320 ∧ 57343 < y := by omega
        clear hy hlow
        rcases hways with q0 | ⟨q0, q1⟩
        all_goals
          go_upto_region 25 with (fail)
          rw [← hw6]
          clear hw6 x2 f2
          go_wp2_with fail
          go_ret
          exact HEND.out (65536 + (z - 55296) * 1024 + (y - 56320)) true w6 j5 HB6.out HR6.out (fun h => by cases h) (fun _ => HN.out)
  · by_cases hlow : 56320 ≤ n ∧ n ≤ 57343
    · have k0 : (55296 : Int) ≤ z := by omega
      have k1 : ¬ z ≤ 56319 := by omega
      have k2 : (56320 : Int) ≤ z := by omega
      have k3 : z ≤ 57343 := by omega
      have HN : Hold (uniL (dl s (i + 1)) = none) := ⟨by
        cases hq : no1 with
        | true => exact uniL_no (HT3.out hq)
        | false => exact uniL_low (HF3.out hq) hsur hlow⟩
      obtain ⟨w6, hw6⟩ : ∃ w6, w6 = w3.setCell ⟨b, 2, none⟩ (.bool true) := ⟨_, rfl⟩
      have HR6 : Hold (RC b s j true w6) := ⟨by rw [hw6]; exact HR3.out.not⟩
      have HB6 : Hold (But b w w6) := ⟨by rw [hw6]; exact HB3.out.trans (But.set _ _ _)⟩
      have f2 := HR3.out.fz 2
      have hr := run_rune1 z w6
      clear hz
      go_upto_region 28 with (fail)
      rw [← hw6]
      clear hw6 x2 f2
      go_wp2_with fail
      go_ret
      exact HEND.out z true w6 j HB6.out HR6.out (fun h => by cases h) (fun _ => HN.out)
    · have HF : Hold (no1 = false → uniL (dl s (i + 1)) = some ((Utf8.encode z).data.toList, dl s j)) := ⟨fun h => by rw [uniL_plain (HF3.out h) hsur hlow, encL_eq, HZ.out]⟩
      have HT : Hold (no1 = true → uniL (dl s (i + 1)) = none) := ⟨fun h => uniL_no (HT3.out h)⟩
      have hr := run_rune1 z w3
      have hways : (¬ (55296 : Int) ≤ z ∧ ¬ (56320 : Int) ≤ z) ∨ ((55296 : Int) ≤ z ∧ ¬ z ≤ 56319 ∧ (56320 : Int) ≤ z ∧ ¬ z ≤ 57343) := by omega
      clear hz hsur hlow
      rcases hways with ⟨k0, k1⟩ | ⟨k0, k1, k2, k3⟩
      all_goals
        go_wp2_with fail
        go_ret
        exact HEND.out z no1 w3 j HB3.out HR3.out HF.out HT.out

theorem rEscape_any (b : Nat) (s : ByteArray) (i : Nat) (w : World) (h : RC b s i false w) (hi : i ≤ s.size) (hs : s.size ≤ 1000000) :
    Calls Tryz.prog 182 #[.pointer (some ⟨b, 0, none⟩)] w (REscPost b s i w) := by
  by_cases h117 : hereB (dl s i) = 117
  · exact rEsc_uni b s i w h hi hs h117
  · exact rEsc_short b s i w h hi hs h117

end Go.Proofs.YtkhhbckpddkhlaaGreatDoor

namespace Go.Proofs.YtkhhbckpddkhlaaGreatDoor
open Go.Shelf Go.RowKit

theorem one_cutQ {s : ByteArray} {j : Nat} (h : j < s.size) : s.extract j (j + 1) = ⟨#[s[j]]⟩ := by
  apply ByteArray.ext
  apply Array.ext
  · rw [ByteArray.data_extract]; simp; have : s.data.size = s.size := rfl; omega
  · intro i h1 h2
    obtain rfl : i = 0 := by simp at h2; omega
    simp [ByteArray.data_extract]
    rfl
/-- a string's text, as the reference reads it -/
def RQuoPost (b : Nat) (s : ByteArray) (i : Nat) (w : World) (e : Ending) (w' : World) : Prop :=
  But b w w' ∧ ∃ (t : ByteArray) (j : Nat) (no' : Bool), e = .returned (.string t) ∧ t.size ≤ 4 * s.size + 8 ∧ RC b s j no' w' ∧ (no' = false → strL (dl s i) = some (t, dl s j)) ∧ (no' = true → strL (dl s i) = none)
/-- the loop: what is still to be read tells the whole -/
def RQI (s : ByteArray) (R : Option (List UInt8 × List UInt8)) (bd : Bool) (j : Nat) (acc : List UInt8) : Prop :=
  acc.length ≤ 4 * s.size + 8 ∧ (bd = false → (∃ n, (dl s j).length < n ∧ quoL n (dl s j) acc = R) ∧ acc.length + 4 * (s.size - j) ≤ 4 * s.size) ∧ (bd = true → R = none)
theorem RQI.start {s : ByteArray} {j : Nat} (hj : j ≤ s.size + 1) : RQI s (quoL ((dl s j).length + 1) (dl s j) []) false j [] :=
  ⟨by simp, fun _ => ⟨⟨_, Nat.lt_succ_self _, rfl⟩, by simp; omega⟩, fun h => by cases h⟩
theorem RQI.over {s : ByteArray} {R : Option (List UInt8 × List UInt8)} {j : Nat} {acc : List UInt8} (h : RQI s R false j acc) (hj : s.size ≤ j) : R = none := by
  obtain ⟨⟨n, hn, hq⟩, _⟩ := h.2.1 rfl
  have e : dl s j = [] := List.length_eq_zero_iff.1 (by rw [dl_len]; omega)
  rw [e] at hn hq
  obtain ⟨m, rfl⟩ : ∃ m, n = m + 1 := ⟨n - 1, by simp at hn; omega⟩
  rw [← hq]; rfl
theorem RQI.low {s : ByteArray} {R : Option (List UInt8 × List UInt8)} {j : Nat} {acc : List UInt8} (h : RQI s R false j acc) (hj : j < s.size) (hc : s[j].toNat < 32) : R = none := by
  obtain ⟨⟨n, hn, hq⟩, _⟩ := h.2.1 rfl
  rw [dl_cons hj] at hn hq
  obtain ⟨m, rfl⟩ : ∃ m, n = m + 1 := ⟨n - 1, by simp at hn; omega⟩
  rw [← hq]; exact quoL_low hc
theorem RQI.fin {s : ByteArray} {R : Option (List UInt8 × List UInt8)} {j : Nat} {acc : List UInt8} (h : RQI s R false j acc) (hj : j < s.size) (hc : s[j] = 34) : R = some (acc, dl s (j + 1)) := by
  obtain ⟨⟨n, hn, hq⟩, _⟩ := h.2.1 rfl
  rw [dl_cons hj] at hn hq
  rw [hc] at hq
  obtain ⟨m, rfl⟩ : ∃ m, n = m + 1 := ⟨n - 1, by simp at hn; omega⟩
  rw [← hq]; exact quoL_end
theorem RQI.next {s : ByteArray} {R : Option (List UInt8 × List UInt8)} {j : Nat} {acc : List UInt8} {c : UInt8} (h : RQI s R false j acc) (hj : j < s.size) (hc : s[j] = c) (h32 : ¬ c.toNat < 32) (h34 : c ≠ 34) (h92 : c ≠ 92) : RQI s R false (j + 1) (acc ++ [c]) := by
  obtain ⟨h0, h1, _⟩ := h
  obtain ⟨⟨n, hn, hq⟩, h2⟩ := h1 rfl
  rw [dl_cons hj] at hn hq
  rw [hc] at hq
  obtain ⟨m, rfl⟩ : ∃ m, n = m + 1 := ⟨n - 1, by simp at hn; omega⟩
  rw [quoL_step h32 h34 h92] at hq
  refine ⟨by simp; omega, fun _ => ⟨⟨m, by simp at hn; omega, hq⟩, by simp; omega⟩, fun h => by cases h⟩
theorem RQI.escT {s : ByteArray} {R : Option (List UInt8 × List UInt8)} {j k : Nat} {acc : List UInt8} {t : ByteArray} {no : Bool} (h : RQI s R false j acc) (hj : j < s.size) (hc : s[j] = 92) (ht : t.size ≤ 4) (hk : no = false → escL (dl s (j + 1)) = some (t.data.toList, dl s k)) (hb : no = true → escL (dl s (j + 1)) = none) : RQI s R no k (acc ++ t.data.toList) ∧ (no = false → j + 1 < k ∨ s.size ≤ k) := by
  obtain ⟨h0, h1, _⟩ := h
  obtain ⟨⟨n, hn, hq⟩, h2⟩ := h1 rfl
  rw [dl_cons hj] at hn hq
  rw [hc] at hq
  have hts := size_list t
  obtain ⟨m, rfl⟩ : ∃ m, n = m + 1 := ⟨n - 1, by simp at hn; omega⟩
  cases no with
  | true =>
    rw [quoL_bad (hb rfl)] at hq
    exact ⟨⟨by simp; omega, (fun h => by cases h), fun _ => hq.symm⟩, fun h => by cases h⟩
  | false =>
    have he := hk rfl
    rw [quoL_esc he] at hq
    have hl := escL_len he
    rw [dl_len, dl_len] at hl
    have hsk : s.size - k < s.size - (j + 1) ∨ s.size - (j + 1) = 0 := by omega
    rw [List.length_cons, dl_len] at hn
    refine ⟨⟨by simp; omega, fun _ => ⟨⟨m, by rw [dl_len]; omega, hq⟩, by simp; omega⟩, fun h => by cases h⟩, fun _ => by omega⟩

set_option maxHeartbeats 16000000 in
set_option maxRecDepth 100000 in
theorem rReadQuoted_any (b : Nat) (s : ByteArray) (i : Nat) (w : World) (h : RC b s i false w) (hs : s.size ≤ 1000000) :
    Calls Tryz.prog 130 #[.pointer (some ⟨b, 0, none⟩)] w (RQuoPost b s i w) := by
  have HI := Hold.mk h
  clear h
  go_enter Tryz.func130, Tryz.ntmps130
  go_wp2_with fail
  refine (rWant_any b s ⟨#[34]⟩ i false w HI.out hs (by decide)).mono ?_
  rintro e w1 ⟨rfl, hb1, j1, no1, hr1, hf1, ht1⟩
  have HB1 := Hold.mk hb1
  have HR1 := Hold.mk hr1
  obtain ⟨R, HR0⟩ : ∃ R, Hold ((strL (dl s i) = R.map fun p : List UInt8 × List UInt8 => (ba p.1, p.2)) ∧ RQI s R no1 j1 []) := by
    cases hno : no1 with
    | true =>
      refine ⟨none, ⟨?_, by simp, (fun h => by cases h), fun _ => rfl⟩⟩
      have h2 := (ht1 hno).elim (fun h => by cases h) id
      cases e : dl s i with
      | nil => rfl
      | cons c r =>
        rw [e] at h2
        rw [strL, if_neg]
        · rfl
        · rintro rfl
          have h3 : wordL (⟨#[34]⟩ : ByteArray).data.toList (34 :: r) = some r := rfl
          rw [h3] at h2; cases h2
    | false =>
      have h2 := wordL_some (hf1 hno).2
      have h3 : dl s i = 34 :: dl s j1 := h2
      refine ⟨_, ⟨?_, RQI.start hr1.le⟩⟩
      rw [h3, strL, if_pos rfl]
  clear hb1 hr1 hf1 ht1
  go_wp2_with fail
  go_loopg [3] (s.size + 1) (fun g s3 wr => ∃ (bd : Bool) (j : Nat) (acc : List UInt8), s3 = .string (ba acc) ∧ (bd = false → s.size - j + 1 ≤ g) ∧ RQI s R bd j acc ∧ RC b s j bd wr ∧ But b w wr)
  case atStart => exact ⟨no1, j1, [], rfl, fun _ => by omega, HR0.out.2, HR1.out, HB1.out⟩
  case round =>
    obtain ⟨bd, j, acc, rfl, hg, hq, hr, hb⟩ := hrel
    have HR := Hold.mk hr
    have HB := Hold.mk hb
    have HQ := Hold.mk hq
    have HST := Hold.mk HR0.out.1
    have x2 := hr.c2
    have hal := hq.1
    clear hr hb hq HR0 HR1 HB1 HI
    cases bd with
    | true =>
      have HP : Hold (RQuoPost b s i w (.returned (.string ⟨#[]⟩)) wr) := ⟨HB.out, ⟨#[]⟩, j, true, rfl, Nat.zero_le _, HR.out, (fun h => by cases h), fun _ => by rw [HST.out, HQ.out.2.2 rfl]; rfl⟩
      clear hg
      go_wp2_with fail
      go_ret
      exact HP.out
    | false =>
      have hg0 : s.size - j + 1 ≤ gk := hg rfl
      clear hg
      go_wp2_with fail
      refine (rHere_any b s j false wr HR.out).mono ?_
      rintro e w2 ⟨rfl, hb2⟩
      clear x2
      have HR2 := Hold.mk (HR.out.below hb2)
      have HB2 := Hold.mk (HB.out.trans (But.of_below hb2))
      clear hb2 HR HB
      have x0 := HR2.out.c0
      have x1 := HR2.out.c1
      by_cases hj : j < s.size
      · have k1 : decide ((s.size : Int) ≤ (j : Int)) = false := by simp; omega
        obtain ⟨c, hc⟩ : ∃ c, c = s[j] := ⟨_, rfl⟩
        have HC : Hold (s[j] = c) := ⟨hc.symm⟩
        rw [hereB_at hj, HC.out]
        clear hc
        by_cases h32 : c.toNat < 32
        · have hc1 : (c.toNat : Int) < 32 := by omega
          have HN : Hold (R = none) := ⟨HQ.out.low hj (by rw [HC.out]; exact h32)⟩
          have HP : Hold (∀ n, RQuoPost b s i w (.returned (.string ⟨#[]⟩)) ((w2.drewN n).setCell ⟨b, 2, none⟩ (.bool true))) := ⟨fun n => ⟨(But.drewN HB2.out n).trans (But.set _ _ _), ⟨#[]⟩, j, true, rfl, Nat.zero_le _, (HR2.out.below (drewN_below w2 n)).not, (fun h => by cases h), fun _ => by rw [HST.out, HN.out]; rfl⟩⟩
          have x2 := HR2.out.c2
          have f2 := HR2.out.fz 2
          go_wp2_with fail
          go_quiet (fail)
          go_wp2_with fail
          go_ret
          exact HP.out _
        · have hc1 : ¬ (c.toNat : Int) < 32 := by omega
          have f1 := HR2.out.fz 1
          have HRS : Hold (∀ n, RC b s (j + 1) false ((w2.drewN n).setCell ⟨b, 1, none⟩ (.int .i64 ((j : Int) + 1)))) := ⟨fun n => (HR2.out.below (drewN_below w2 n)).to1 hj⟩
          have HBS : Hold (∀ n, But b w ((w2.drewN n).setCell ⟨b, 1, none⟩ (.int .i64 ((j : Int) + 1)))) := ⟨fun n => (But.drewN HB2.out n).trans (But.set _ _ _)⟩
          have hgk1 : gk - 1 < gk := by omega
          by_cases h34 : c = 34
          · subst h34
            have HN : Hold (R = some (acc, dl s (j + 1))) := ⟨HQ.out.fin hj HC.out⟩
            have HP : Hold (∀ n, RQuoPost b s i w (.returned (.string (ba acc))) ((w2.drewN n).setCell ⟨b, 1, none⟩ (.int .i64 ((j : Int) + 1)))) := ⟨fun n => ⟨HBS.out n, ba acc, j + 1, false, rfl, by rw [ba_size]; exact hal, HRS.out n, fun _ => by rw [HST.out, HN.out]; rfl, (fun h => by cases h)⟩⟩
            go_wp2_with fail
            go_quiet (fail)
            go_wp2_with fail
            go_ret
            exact HP.out _
          have b34 : ((c.toNat : Int) == 34) = false := byte_ne (k := 34) h34
          by_cases h92 : c = 92
          · subst h92
            go_wp2_with fail
            go_quiet (fail)
            go_upto_region 9 with (fail)
            clear x0 x1 f1
            generalize hw3 : World.setCell _ _ _ = w3
            have HR3 : Hold (RC b s (j + 1) false w3) := ⟨by rw [← hw3]; exact HRS.out _⟩
            have HB3 : Hold (But b w w3) := ⟨by rw [← hw3]; exact HBS.out _⟩
            clear hw3
            go_wp2_with fail
            refine (rEscape_any b s (j + 1) w3 HR3.out (by omega) hs).mono ?_
            rintro e w4 ⟨hb4, t, k, no', rfl, hts, hr4, hf4, ht4⟩
            obtain ⟨hq2, hk2⟩ := HQ.out.escT hj HC.out hts hf4 ht4
            have HQ2 := Hold.mk hq2
            have hk3 : no' = false → s.size - k + 1 ≤ gk - 1 := fun h => by have := hk2 h; omega
            have HR4 := Hold.mk hr4
            have HB4 := Hold.mk (HB3.out.trans hb4)
            have hbs : (ba acc).size ≤ 4 * s.size + 8 := by rw [ba_size]; exact hal
            clear hb4 hr4 hf4 ht4 hq2 hk2
            go_wp2_with fail
            go_roundg (gk - 1)
            case measure => exact hgk1
            case rel => exact ⟨no', k, acc ++ t.data.toList, by rw [← ba_add]; rfl, hk3, HQ2.out, HR4.out, HB4.out⟩
          · have b92 : ((c.toNat : Int) == 92) = false := byte_ne (k := 92) h92
            have HQ2 := Hold.mk (HQ.out.next hj HC.out h32 h34 h92)
            have e1 := one_cutQ hj
            rw [HC.out] at e1
            have hbs : (ba acc).size ≤ 4 * s.size + 8 := by rw [ba_size]; exact hal
            clear h34 h92 h32
            go_wp2_with fail
            go_quiet (fail)
            go_upto_region 11 with (fail)
            clear x0 x1 f1
            generalize hw3 : World.setCell _ _ _ = w3
            have HR3 : Hold (RC b s (j + 1) false w3) := ⟨by rw [← hw3]; exact HRS.out _⟩
            have HB3 : Hold (But b w w3) := ⟨by rw [← hw3]; exact HBS.out _⟩
            clear hw3
            have x0 := HR3.out.c0
            have x1 := HR3.out.c1
            have HRD : Hold (∀ n, RC b s (j + 1) false (w3.drewN n)) := ⟨fun n => HR3.out.below (drewN_below w3 n)⟩
            have HBD : Hold (∀ n, But b w (w3.drewN n)) := ⟨fun n => But.drewN HB3.out n⟩
            go_wp2_with fail
            go_quiet (fail)
            go_wp2_with fail
            clear x0 x1
            go_roundg (gk - 1)
            case measure => exact hgk1
            case rel => exact ⟨false, j + 1, acc ++ [c], by rw [← ba_add]; rfl, fun _ => by omega, HQ2.out, HRD.out _, HBD.out _⟩
      · have k1 : decide ((s.size : Int) ≤ (j : Int)) = true := by simp; omega
        have k2 : s.size ≤ j := by omega
        have HN : Hold (R = none) := ⟨HQ.out.over k2⟩
        have HP : Hold (∀ n, RQuoPost b s i w (.returned (.string ⟨#[]⟩)) ((w2.drewN n).setCell ⟨b, 2, none⟩ (.bool true))) := ⟨fun n => ⟨(But.drewN HB2.out n).trans (But.set _ _ _), ⟨#[]⟩, j, true, rfl, Nat.zero_le _, (HR2.out.below (drewN_below w2 n)).not, (fun h => by cases h), fun _ => by rw [HST.out, HN.out]; rfl⟩⟩
        have x2 := HR2.out.c2
        have f2 := HR2.out.fz 2
        go_wp2_with fail
        go_quiet (fail)
        go_wp2_with fail
        go_ret
        exact HP.out _

end Go.Proofs.YtkhhbckpddkhlaaGreatDoor
