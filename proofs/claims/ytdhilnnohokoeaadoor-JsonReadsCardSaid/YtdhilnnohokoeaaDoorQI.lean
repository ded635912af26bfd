/- The reader of the reference: escape. -/
import Derived.Test.YtdhilnnohokoeaaDoorQH
import Derived.Test.YtdhilnnohokoeaaDoorRK
namespace Go.Proofs.YtdhilnnohokoeaaDoor
open Go.Shelf Go.RowKit

theorem RC.up {b : Nat} {s : ByteArray} {i : Nat} {no : Bool} {w : World} (h : RC b s i no w) (hj : i ≤ s.size) : RC b s (i + 1) no (w.setCell ⟨b, 1, none⟩ (.int .i64 ((i : Int) + 1))) :=
  ⟨by rw [set_at h.box]; rfl, by omega⟩
theorem run_byte1 (k : Nat) (hk : k < 256) (w : World) : (convert 49 9 (.slice (some ⟨w.heap.size, 0, none⟩) 1 1)).run Tryd.prog (w.alloc (.cells #[.int .u8 (k : Int)] 5)) = .ok (.string (ba [k.toUInt8])) (w.alloc (.cells #[.int .u8 (k : Int)] 5)) := by
  refine run_convert_bytes_back _ 49 9 5 ⟨w.heap.size, 0, none⟩ 1 [k.toUInt8] Tryd.underlying49 Tryd.underlying5 Tryd.underlying9 ?_
  intro j hj
  obtain rfl : j = 0 := by simp at hj; omega
  simp [Addr.add, Nat.toUInt8, Nat.mod_eq_of_lt hk]
theorem run_rune1 (z : Int) (w : World) : (convert 69 9 (.slice (some ⟨w.heap.size, 0, none⟩) 1 1)).run Tryd.prog (w.alloc (.cells #[.int .i32 z] 21)) = .ok (.string (Utf8.encode z)) (w.alloc (.cells #[.int .i32 z] 21)) := by
  have h := run_convert_runes (P := Tryd.prog) (w.alloc (.cells #[.int .i32 z] 21)) 69 9 21 ⟨w.heap.size, 0, none⟩ 1 1 [z] (Nat.le_refl _) Tryd.underlying69 Tryd.underlying21 Tryd.underlying9 (fun j hj => by
    obtain rfl : j = 0 := by simp at hj; omega
    simp [Addr.add])
  rw [h]; rfl
/-- what stands behind a backslash, as the reference reads it -/
def REscPost (b : Nat) (s : ByteArray) (i : Nat) (w : World) (e : Ending) (w' : World) : Prop :=
  But b w w' ∧ ∃ (t : ByteArray) (j : Nat) (no' : Bool), e = .returned (.string t) ∧ t.size ≤ 4 ∧ RC b s j no' w' ∧ (no' = false → escL (dl s i) = some (t.data.toList, dl s j)) ∧ (no' = true → escL (dl s i) = none)
theorem esc_char {s : ByteArray} {i : Nat} {c : UInt8} (hc : hereB (dl s i) = c) (h0 : c ≠ 0) : i < s.size ∧ dl s i = c :: dl s (i + 1) := by
  rcases Nat.lt_or_ge i s.size with hj | hj
  · exact ⟨hj, by rw [dl_cons hj, ← hereB_at hj, hc]⟩
  · have e : dl s i = [] := List.length_eq_zero_iff.1 (by rw [dl_len]; omega)
    rw [e] at hc
    exact absurd hc.symm h0
theorem esc_short {s : ByteArray} {i : Nat} {c d : UInt8} (hc : hereB (dl s i) = c) (h0 : c ≠ 0) (hd : shortL c = some d) : escL (dl s i) = some ([d], dl s (i + 1)) := by
  obtain ⟨_, h⟩ := esc_char hc h0
  rw [h, escL, hd]
theorem esc_uni {s : ByteArray} {i : Nat} (hc : hereB (dl s i) = 117) : escL (dl s i) = uniL (dl s (i + 1)) := by
  obtain ⟨_, h⟩ := esc_char hc (by decide)
  rw [h, escL]; rfl
theorem esc_none {s : ByteArray} {i : Nat} {c : UInt8} (hc : hereB (dl s i) = c) (h1 : shortL c = none) (h2 : c ≠ 117) : escL (dl s i) = none := by
  rcases Nat.lt_or_ge i s.size with hj | hj
  · rw [dl_cons hj, ← hereB_at hj, hc, escL, h1]; exact if_neg h2
  · have e : dl s i = [] := List.length_eq_zero_iff.1 (by rw [dl_len]; omega)
    rw [e]; rfl
theorem one_byte (c : UInt8) : ba [c] = ⟨#[c]⟩ := rfl

set_option maxHeartbeats 16000000 in
set_option maxRecDepth 100000 in
theorem rEsc_short (b : Nat) (s : ByteArray) (i : Nat) (w : World) (h : RC b s i false w) (hi : i ≤ s.size) (hs : s.size ≤ 1000000) (h117 : hereB (dl s i) ≠ 117) :
    Calls Tryd.prog 55 #[.pointer (some ⟨b, 0, none⟩)] w (REscPost b s i w) := by
  have HI := Hold.mk h
  have HN := Hold.mk h117
  obtain ⟨c, hc⟩ : ∃ c, c = hereB (dl s i) := ⟨_, rfl⟩
  have HH : Hold (hereB (dl s i) = c) := ⟨hc.symm⟩
  clear h hc h117
  go_enter Tryd.func55, Tryd.ntmps55
  go_wp2_with fail
  refine (rHere_any b s i false w HI.out).mono ?_
  rintro e w1 ⟨rfl, hb1⟩
  rw [HH.out]
  have HR1 := Hold.mk (HI.out.below hb1)
  have HB1 := Hold.mk (But.of_below (b := b) hb1)
  have x1 := HR1.out.c1
  have f1 := HR1.out.fz 1
  clear hb1
  go_upto_region 3 with (fail)
  obtain ⟨w2, hw2⟩ : ∃ w2, w2 = w1.setCell ⟨b, 1, none⟩ (.int .i64 ((i : Int) + 1)) := ⟨_, rfl⟩
  have HR2 : Hold (RC b s (i + 1) false w2) := ⟨by rw [hw2]; exact HR1.out.up hi⟩
  have HB2 : Hold (But b w w2) := ⟨by rw [hw2]; exact HB1.out.trans (But.set _ _ _)⟩
  rw [← hw2]
  clear hw2 x1 f1 HR1 HB1
  have HSH : Hold (∀ d, c ≠ 0 → shortL c = some d → escL (dl s i) = some ((ba [d]).data.toList, dl s (i + 1))) := ⟨fun d h0 hd => by rw [ba_list]; exact esc_short HH.out h0 hd⟩
  by_cases h34 : c = 34
  · subst h34
    have hr : (convert 49 9 (.slice (some ⟨w2.heap.size, 0, none⟩) 1 1)).run Tryd.prog (w2.alloc (.cells #[.int .u8 34] 5)) = .ok (.string (ba [34])) (w2.alloc (.cells #[.int .u8 34] 5)) := run_byte1 34 (by omega) w2
    go_wp2_with fail
    go_ret
    exact ⟨HB2.out.alloc _, ba [34], i + 1, false, ret_str rfl, by decide, HR2.out.below ((Below.refl _ w2).alloc (Nat.le_refl _) _), fun _ => HSH.out 34 (by decide) rfl, fun h => by cases h⟩
  have b34 : ((c.toNat : Int) == 34) = false := byte_ne (k := 34) h34
  by_cases h92 : c = 92
  · subst h92
    have hr : (convert 49 9 (.slice (some ⟨w2.heap.size, 0, none⟩) 1 1)).run Tryd.prog (w2.alloc (.cells #[.int .u8 92] 5)) = .ok (.string (ba [92])) (w2.alloc (.cells #[.int .u8 92] 5)) := run_byte1 92 (by omega) w2
    go_wp2_with fail
    go_ret
    exact ⟨HB2.out.alloc _, ba [92], i + 1, false, ret_str rfl, by decide, HR2.out.below ((Below.refl _ w2).alloc (Nat.le_refl _) _), fun _ => HSH.out 92 (by decide) rfl, fun h => by cases h⟩
  have b92 : ((c.toNat : Int) == 92) = false := byte_ne (k := 92) h92
  by_cases h47 : c = 47
  · subst h47
    have hr : (convert 49 9 (.slice (some ⟨w2.heap.size, 0, none⟩) 1 1)).run Tryd.prog (w2.alloc (.cells #[.int .u8 47] 5)) = .ok (.string (ba [47])) (w2.alloc (.cells #[.int .u8 47] 5)) := run_byte1 47 (by omega) w2
    go_wp2_with fail
    go_ret
    exact ⟨HB2.out.alloc _, ba [47], i + 1, false, ret_str rfl, by decide, HR2.out.below ((Below.refl _ w2).alloc (Nat.le_refl _) _), fun _ => HSH.out 47 (by decide) rfl, fun h => by cases h⟩
  have b47 : ((c.toNat : Int) == 47) = false := byte_ne (k := 47) h47
  by_cases h98 : c = 98
  · subst h98
    go_wp2_with fail
    go_ret
    exact ⟨HB2.out, ba [8], i + 1, false, ret_str rfl, by decide, HR2.out, fun _ => HSH.out 8 (by decide) rfl, fun h => by cases h⟩
  have b98 : ((c.toNat : Int) == 98) = false := byte_ne (k := 98) h98
  by_cases h102 : c = 102
  · subst h102
    go_wp2_with fail
    go_ret
    exact ⟨HB2.out, ba [12], i + 1, false, ret_str rfl, by decide, HR2.out, fun _ => HSH.out 12 (by decide) rfl, fun h => by cases h⟩
  have b102 : ((c.toNat : Int) == 102) = false := byte_ne (k := 102) h102
  by_cases h110 : c = 110
  · subst h110
    go_wp2_with fail
    go_ret
    exact ⟨HB2.out, ba [10], i + 1, false, ret_str rfl, by decide, HR2.out, fun _ => HSH.out 10 (by decide) rfl, fun h => by cases h⟩
  have b110 : ((c.toNat : Int) == 110) = false := byte_ne (k := 110) h110
  by_cases h114 : c = 114
  · subst h114
    go_wp2_with fail
    go_ret
    exact ⟨HB2.out, ba [13], i + 1, false, ret_str rfl, by decide, HR2.out, fun _ => HSH.out 13 (by decide) rfl, fun h => by cases h⟩
  have b114 : ((c.toNat : Int) == 114) = false := byte_ne (k := 114) h114
  by_cases h116 : c = 116
  · subst h116
    go_wp2_with fail
    go_ret
    exact ⟨HB2.out, ba [9], i + 1, false, ret_str rfl, by decide, HR2.out, fun _ => HSH.out 9 (by decide) rfl, fun h => by cases h⟩
  have b116 : ((c.toNat : Int) == 116) = false := byte_ne (k := 116) h116
  have h117 : c ≠ 117 := fun e => HN.out (HH.out.trans e)
  have b117 : ((c.toNat : Int) == 117) = false := byte_ne (k := 117) h117
  have HNO : Hold (escL (dl s i) = none) := ⟨esc_none HH.out (by unfold shortL; rw [if_neg h34, if_neg h92, if_neg h47, if_neg h98, if_neg h102, if_neg h110, if_neg h114, if_neg h116]) h117⟩
  have x2 := HR2.out.c2
  have f2 := HR2.out.fz 2
  go_wp2_with fail
  go_ret
  exact ⟨HB2.out.trans (But.set _ _ _), ⟨#[]⟩, i + 1, true, rfl, by decide, HR2.out.not, (fun h => by cases h), fun _ => HNO.out⟩

end Go.Proofs.YtdhilnnohokoeaaDoor
