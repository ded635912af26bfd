/- The reader of the reference: here, blanks. -/
import Derived.Test.YtdhilnnohokoeaaDoorRE
import Derived.Deep.LoopGhost
namespace Go.Proofs.YtdhilnnohokoeaaDoor
open Go.Shelf Go.RowKit

/-- the reference's box: what it reads, how far, whether it says no -/
structure RC (b : Nat) (s : ByteArray) (i : Nat) (no : Bool) (w : World) : Prop where
  box : w.heap[b]? = some (.cells #[.string s, .int .i64 (i : Int), .bool no] 46 (0, 0))
  le : i ≤ s.size + 1
theorem RC.c0 {b : Nat} {s : ByteArray} {i : Nat} {no : Bool} {w : World} (h : RC b s i no w) : w.cell? ⟨b, 0, none⟩ = some (.string s) := by simp [World.cell?, h.box]
theorem RC.c1 {b : Nat} {s : ByteArray} {i : Nat} {no : Bool} {w : World} (h : RC b s i no w) : w.cell? ⟨b, 1, none⟩ = some (.int .i64 (i : Int)) := by simp [World.cell?, h.box]
theorem RC.c2 {b : Nat} {s : ByteArray} {i : Nat} {no : Bool} {w : World} (h : RC b s i no w) : w.cell? ⟨b, 2, none⟩ = some (.bool no) := by simp [World.cell?, h.box]
theorem RC.fz {b : Nat} {s : ByteArray} {i : Nat} {no : Bool} {w : World} (h : RC b s i no w) (o : Nat) : w.frozen? ⟨b, o, none⟩ = false := by simp [World.frozen?, h.box]
theorem RC.lt {b : Nat} {s : ByteArray} {i : Nat} {no : Bool} {w : World} (h : RC b s i no w) : b < w.heap.size := (Array.getElem?_eq_some_iff.1 h.box).1
theorem RC.below {b : Nat} {s : ByteArray} {i : Nat} {no : Bool} {w w' : World} (h : RC b s i no w) (k : Below w.heap.size w w') : RC b s i no w' := ⟨by rw [k.block b h.lt]; exact h.box, h.le⟩
theorem RC.to1 {b : Nat} {s : ByteArray} {i : Nat} {no : Bool} {w : World} (h : RC b s i no w) (hj : i < s.size) : RC b s (i + 1) no (w.setCell ⟨b, 1, none⟩ (.int .i64 ((i : Int) + 1))) :=
  ⟨by rw [set_at h.box]; rfl, by omega⟩
theorem RC.not {b : Nat} {s : ByteArray} {i : Nat} {no : Bool} {w : World} (h : RC b s i no w) : RC b s i true (w.setCell ⟨b, 2, none⟩ (.bool true)) :=
  ⟨by rw [set_at h.box]; rfl, h.le⟩
theorem drewN_below (w : World) (n : Nat) : Below w.heap.size w (w.drewN n) := ⟨rfl, rfl, rfl, Nat.le_refl _, fun _ _ => rfl⟩

set_option maxHeartbeats 2000000 in
set_option maxRecDepth 100000 in
theorem rHere_any (b : Nat) (s : ByteArray) (i : Nat) (no : Bool) (w : World) (h : RC b s i no w) :
    Calls Tryd.prog 30 #[.pointer (some ⟨b, 0, none⟩)] w fun e w' => e = .returned (.int .u8 ((hereB (dl s i)).toNat : Int)) ∧ Below w.heap.size w w' := by
  have x0 := h.c0
  have x1 := h.c1
  by_cases hlt : i < s.size
  · obtain ⟨c, hc⟩ : ∃ c, s[i] = c := ⟨_, rfl⟩
    have HC := Hold.mk hc
    have HH : Hold (hereB (dl s i) = c) := ⟨by rw [hereB_at hlt]; exact hc⟩
    have k0 : decide ((s.size : Int) ≤ (i : Int)) = false := by simp; omega
    clear h
    have HBQ : Hold (∀ n m, Below w.heap.size w ((w.drewN n).drewN m)) := ⟨fun n m => ⟨rfl, rfl, rfl, Nat.le_refl _, fun _ _ => rfl⟩⟩
    go_enter Tryd.func30, Tryd.ntmps30
    go_wp2_with fail
    go_quiet (fail)
    go_wp2_with fail
    go_quiet (fail)
    go_wp2_with fail
    go_ret
    exact ⟨by rw [HH.out]; simp, HBQ.out _ _⟩
  · have HH : Hold (hereB (dl s i) = 0) := ⟨by
      have e : dl s i = [] := List.length_eq_zero_iff.1 (by rw [dl_len]; omega)
      rw [e]; rfl⟩
    have k0 : decide ((s.size : Int) ≤ (i : Int)) = true := by simp; omega
    have k1 : s.size ≤ i := by omega
    clear h
    go_enter Tryd.func30, Tryd.ntmps30
    go_wp2_with fail
    go_quiet (fail)
    go_wp2_with fail
    go_ret
    exact ⟨by rw [HH.out]; rfl, drewN_below _ _⟩

/-- blanks are passed over -/
def BlPost (b : Nat) (s : ByteArray) (i : Nat) (no : Bool) (w : World) (e : Ending) (w' : World) : Prop :=
  e = .returned (.tuple #[]) ∧ ∃ j, dl s j = skipL (dl s i) ∧ i ≤ j ∧ RC b s j no w' ∧ But b w w'
theorem isB_four (c : UInt8) : isB c = true ↔ c = 9 ∨ c = 10 ∨ c = 13 ∨ c = 32 := by
  unfold isB
  simp only [Bool.or_eq_true, beq_iff_eq]
  constructor
  · rintro (((h | h) | h) | h)
    · exact .inr (.inr (.inr h))
    · exact .inl h
    · exact .inr (.inl h)
    · exact .inr (.inr (.inl h))
  · rintro (h | h | h | h)
    · exact .inl (.inl (.inr h))
    · exact .inl (.inr h)
    · exact .inr h
    · exact .inl (.inl (.inl h))

set_option maxHeartbeats 4000000 in
set_option maxRecDepth 100000 in
theorem rBlanks_any (b : Nat) (s : ByteArray) (i : Nat) (no : Bool) (w : World) (h : RC b s i no w) (hs : s.size ≤ 1000000) :
    Calls Tryd.prog 29 #[.pointer (some ⟨b, 0, none⟩)] w (BlPost b s i no w) := by
  have HI := Hold.mk h
  clear h
  go_enter Tryd.func29, Tryd.ntmps29
  go_wp2_with fail
  go_loopg [] s.size (fun g wr => ∃ j, s.size - j ≤ g ∧ i ≤ j ∧ skipL (dl s j) = skipL (dl s i) ∧ RC b s j no wr ∧ But b w wr)
  case atStart => exact ⟨i, by omega, Nat.le_refl _, rfl, HI.out, But.refl _ _⟩
  case round =>
    obtain ⟨j, hg, hij, hsk, hr, hb⟩ := hrel
    clear HI
    have HR := Hold.mk hr
    have HB := Hold.mk hb
    have HS := Hold.mk hsk
    clear hr hb hsk
    obtain ⟨c, hc⟩ : ∃ c, c = hereB (dl s j) := ⟨_, rfl⟩
    have HH : Hold (hereB (dl s j) = c) := ⟨hc.symm⟩
    have HN : Hold (isB c = true → j < s.size ∧ skipL (dl s (j + 1)) = skipL (dl s i)) := ⟨fun hb => by
      rcases Nat.lt_or_ge j s.size with hlt | hge
      · refine ⟨hlt, ?_⟩
        rw [← HS.out, dl_cons hlt, skipL_yes]
        rw [← hereB_at hlt, ← hc]; exact hb
      · have e : dl s j = [] := List.length_eq_zero_iff.1 (by rw [dl_len]; omega)
        rw [hc, e] at hb
        exact absurd hb (by decide)⟩
    have HE : Hold (c ≠ 9 → c ≠ 10 → c ≠ 13 → c ≠ 32 → dl s j = skipL (dl s i)) := ⟨fun h1 h2 h3 h4 => by
      rw [← HS.out]
      rcases Nat.lt_or_ge j s.size with hlt | hge
      · rw [dl_cons hlt, skipL_no]
        cases hb : isB s[j] with
        | false => rfl
        | true =>
          rw [← hereB_at hlt, ← hc] at hb
          rcases (isB_four c).1 hb with h | h | h | h
          · exact absurd h h1
          · exact absurd h h2
          · exact absurd h h3
          · exact absurd h h4
      · have e : dl s j = [] := List.length_eq_zero_iff.1 (by rw [dl_len]; omega)
        rw [e]; rfl⟩
    clear hc
    · skip
      by_cases h9 : c = 9
      · subst h9
        obtain ⟨hlt, hsk⟩ := HN.out (by decide)
        have HSN := Hold.mk hsk
        clear hsk
        go_wp2_with fail
        refine (rHere_any b s j no wr HR.out).mono ?_
        rintro e w1 ⟨rfl, hb1⟩
        rw [HH.out]
        have HR1 := Hold.mk (HR.out.below hb1)
        have HB1 := Hold.mk (HB.out.trans (But.of_below hb1))
        clear hb1
        have x1 := HR1.out.c1
        have f1 := HR1.out.fz 1
        have HRN := Hold.mk (HR1.out.to1 hlt)
        have HBN : Hold (But b w (w1.setCell ⟨b, 1, none⟩ (.int .i64 ((j : Int) + 1)))) := ⟨HB1.out.trans (But.set _ _ _)⟩
        have hgk1 : gk - 1 < gk := by omega
        go_wp2_with fail
        clear x1 f1
        go_roundg (gk - 1)
        case measure => exact hgk1
        case rel => exact ⟨j + 1, by omega, by omega, HSN.out, HRN.out, HBN.out⟩
      have b9 : ((c.toNat : Int) == 9) = false := byte_ne (k := 9) h9
      by_cases h10 : c = 10
      · subst h10
        obtain ⟨hlt, hsk⟩ := HN.out (by decide)
        have HSN := Hold.mk hsk
        clear hsk
        go_wp2_with fail
        refine (rHere_any b s j no wr HR.out).mono ?_
        rintro e w1 ⟨rfl, hb1⟩
        rw [HH.out]
        have HR1 := Hold.mk (HR.out.below hb1)
        have HB1 := Hold.mk (HB.out.trans (But.of_below hb1))
        clear hb1
        go_wp2_with fail
        refine (rHere_any b s j no w1 HR1.out).mono ?_
        rintro e w2 ⟨rfl, hb2⟩
        rw [HH.out]
        have HR2 := Hold.mk (HR1.out.below hb2)
        have HB2 := Hold.mk (HB1.out.trans (But.of_below hb2))
        clear hb2
        have x1 := HR2.out.c1
        have f1 := HR2.out.fz 1
        have HRN := Hold.mk (HR2.out.to1 hlt)
        have HBN : Hold (But b w (w2.setCell ⟨b, 1, none⟩ (.int .i64 ((j : Int) + 1)))) := ⟨HB2.out.trans (But.set _ _ _)⟩
        have hgk1 : gk - 1 < gk := by omega
        go_wp2_with fail
        clear x1 f1
        go_roundg (gk - 1)
        case measure => exact hgk1
        case rel => exact ⟨j + 1, by omega, by omega, HSN.out, HRN.out, HBN.out⟩
      have b10 : ((c.toNat : Int) == 10) = false := byte_ne (k := 10) h10
      by_cases h13 : c = 13
      · subst h13
        obtain ⟨hlt, hsk⟩ := HN.out (by decide)
        have HSN := Hold.mk hsk
        clear hsk
        go_wp2_with fail
        refine (rHere_any b s j no wr HR.out).mono ?_
        rintro e w1 ⟨rfl, hb1⟩
        rw [HH.out]
        have HR1 := Hold.mk (HR.out.below hb1)
        have HB1 := Hold.mk (HB.out.trans (But.of_below hb1))
        clear hb1
        go_wp2_with fail
        refine (rHere_any b s j no w1 HR1.out).mono ?_
        rintro e w2 ⟨rfl, hb2⟩
        rw [HH.out]
        have HR2 := Hold.mk (HR1.out.below hb2)
        have HB2 := Hold.mk (HB1.out.trans (But.of_below hb2))
        clear hb2
        go_wp2_with fail
        refine (rHere_any b s j no w2 HR2.out).mono ?_
        rintro e w3 ⟨rfl, hb3⟩
        rw [HH.out]
        have HR3 := Hold.mk (HR2.out.below hb3)
        have HB3 := Hold.mk (HB2.out.trans (But.of_below hb3))
        clear hb3
        have x1 := HR3.out.c1
        have f1 := HR3.out.fz 1
        have HRN := Hold.mk (HR3.out.to1 hlt)
        have HBN : Hold (But b w (w3.setCell ⟨b, 1, none⟩ (.int .i64 ((j : Int) + 1)))) := ⟨HB3.out.trans (But.set _ _ _)⟩
        have hgk1 : gk - 1 < gk := by omega
        go_wp2_with fail
        clear x1 f1
        go_roundg (gk - 1)
        case measure => exact hgk1
        case rel => exact ⟨j + 1, by omega, by omega, HSN.out, HRN.out, HBN.out⟩
      have b13 : ((c.toNat : Int) == 13) = false := byte_ne (k := 13) h13
      by_cases h32 : c = 32
      · subst h32
        obtain ⟨hlt, hsk⟩ := HN.out (by decide)
        have HSN := Hold.mk hsk
        clear hsk
        go_wp2_with fail
        refine (rHere_any b s j no wr HR.out).mono ?_
        rintro e w1 ⟨rfl, hb1⟩
        rw [HH.out]
        have HR1 := Hold.mk (HR.out.below hb1)
        have HB1 := Hold.mk (HB.out.trans (But.of_below hb1))
        clear hb1
        go_wp2_with fail
        refine (rHere_any b s j no w1 HR1.out).mono ?_
        rintro e w2 ⟨rfl, hb2⟩
        rw [HH.out]
        have HR2 := Hold.mk (HR1.out.below hb2)
        have HB2 := Hold.mk (HB1.out.trans (But.of_below hb2))
        clear hb2
        go_wp2_with fail
        refine (rHere_any b s j no w2 HR2.out).mono ?_
        rintro e w3 ⟨rfl, hb3⟩
        rw [HH.out]
        have HR3 := Hold.mk (HR2.out.below hb3)
        have HB3 := Hold.mk (HB2.out.trans (But.of_below hb3))
        clear hb3
        go_wp2_with fail
        refine (rHere_any b s j no w3 HR3.out).mono ?_
        rintro e w4 ⟨rfl, hb4⟩
        rw [HH.out]
        have HR4 := Hold.mk (HR3.out.below hb4)
        have HB4 := Hold.mk (HB3.out.trans (But.of_below hb4))
        clear hb4
        have x1 := HR4.out.c1
        have f1 := HR4.out.fz 1
        have HRN := Hold.mk (HR4.out.to1 hlt)
        have HBN : Hold (But b w (w4.setCell ⟨b, 1, none⟩ (.int .i64 ((j : Int) + 1)))) := ⟨HB4.out.trans (But.set _ _ _)⟩
        have hgk1 : gk - 1 < gk := by omega
        go_wp2_with fail
        clear x1 f1
        go_roundg (gk - 1)
        case measure => exact hgk1
        case rel => exact ⟨j + 1, by omega, by omega, HSN.out, HRN.out, HBN.out⟩
      have b32 : ((c.toNat : Int) == 32) = false := byte_ne (k := 32) h32
      go_wp2_with fail
      refine (rHere_any b s j no wr HR.out).mono ?_
      rintro e w1 ⟨rfl, hb1⟩
      rw [HH.out]
      have HR1 := Hold.mk (HR.out.below hb1)
      have HB1 := Hold.mk (HB.out.trans (But.of_below hb1))
      clear hb1
      go_wp2_with fail
      refine (rHere_any b s j no w1 HR1.out).mono ?_
      rintro e w2 ⟨rfl, hb2⟩
      rw [HH.out]
      have HR2 := Hold.mk (HR1.out.below hb2)
      have HB2 := Hold.mk (HB1.out.trans (But.of_below hb2))
      clear hb2
      go_wp2_with fail
      refine (rHere_any b s j no w2 HR2.out).mono ?_
      rintro e w3 ⟨rfl, hb3⟩
      rw [HH.out]
      have HR3 := Hold.mk (HR2.out.below hb3)
      have HB3 := Hold.mk (HB2.out.trans (But.of_below hb3))
      clear hb3
      go_wp2_with fail
      refine (rHere_any b s j no w3 HR3.out).mono ?_
      rintro e w4 ⟨rfl, hb4⟩
      rw [HH.out]
      have HR4 := Hold.mk (HR3.out.below hb4)
      have HB4 := Hold.mk (HB3.out.trans (But.of_below hb4))
      clear hb4
      go_wp2_with fail
      have HPP : Hold (BlPost b s i no w (.returned (.tuple #[])) w4) := ⟨rfl, j, HE.out h9 h10 h13 h32, hij, HR4.out, HB4.out⟩
      go_end0
      exact HPP.out

end Go.Proofs.YtdhilnnohokoeaaDoor
