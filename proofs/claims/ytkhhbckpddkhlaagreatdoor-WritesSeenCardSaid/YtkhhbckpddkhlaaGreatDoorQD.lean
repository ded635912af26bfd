/- The reader of the reference: here, blanks. The reader of the reference: want. The reader of the reference: digit, hex, four. The reader of the reference: number. The reader of the reference: number, with a sign. -/
import Derived.Test.YtkhhbckpddkhlaaGreatDoorRD
import Derived.Deep.LoopGhost
namespace Go.Proofs.YtkhhbckpddkhlaaGreatDoor
open Go.Shelf Go.RowKit

/-- the reference's box: what it reads, how far, whether it says no -/
structure RC (b : Nat) (s : ByteArray) (i : Nat) (no : Bool) (w : World) : Prop where
  box : w.heap[b]? = some (.cells #[.string s, .int .i64 (i : Int), .bool no] 122 (0, 0))
  le : i ≤ s.size + 1
theorem RC.c0 {b : Nat} {s : ByteArray} {i : Nat} {no : Bool} {w : World} (h : RC b s i no w) : w.cell? ⟨b, 0, none⟩ = some (.string s) := by simp [World.cell?, h.box]
theorem RC.c1 {b : Nat} {s : ByteArray} {i : Nat} {no : Bool} {w : World} (h : RC b s i no w) : w.cell? ⟨b, 1, none⟩ = some (.int .i64 (i : Int)) := by simp [World.cell?, h.box]
theorem RC.c2 {b : Nat} {s : ByteArray} {i : Nat} {no : Bool} {w : World} (h : RC b s i no w) : w.cell? ⟨b, 2, none⟩ = some (.bool no) := by simp [World.cell?, h.box]
theorem RC.fz {b : Nat} {s : ByteArray} {i : Nat} {no : Bool} {w : World} (h : RC b s i no w) (o : Nat) : w.frozen? ⟨b, o, none⟩ = false := by simp [World.frozen?, h.box]
theorem RC.lt {b : Nat} {s : ByteArray} {i : Nat} {no : Bool} {w : World} (h : RC b s i no w) : b < w.heap.size := (Array.getElem?_eq_some_iff.1 h.box).1
theorem RC.below {b : Nat} {s : ByteArray} {i : Nat} {no : Bool} {w w' : World} (h : RC b s i no w) (k : Below w.heap.size w w') : RC b s i no w' := ⟨by rw [k.block b h.lt]; exact h.box, h.le⟩
theorem RC.to1 {b : Nat} {s : ByteArray} {i : Nat} {no : Bool} {w : World} (h : RC b s i no w) (hj : i < s.size) : RC b s (i + 1) no (w.setCell ⟨b, 1, none⟩ (.int .i64 ((i : Int) + 1))) :=
  ⟨by rw [set_at h.box]; rfl, by omega⟩
theorem RC.not {b : Nat} {s : ByteArray} {i : Nat} {no : Bool} {w : World} (h : RC b s i no w) : RC b s i true (w.setCell ⟨b, 2, none⟩ (.bool true)) :=
  ⟨by rw [set_at h.box]; rfl, h.le⟩
theorem drewN_below (w : World) (n : Nat) : Below w.heap.size w (w.drewN n) := ⟨rfl, rfl, rfl, Nat.le_refl _, fun _ _ => rfl⟩

set_option maxHeartbeats 2000000 in
set_option maxRecDepth 100000 in
theorem rHere_any (b : Nat) (s : ByteArray) (i : Nat) (no : Bool) (w : World) (h : RC b s i no w) :
    Calls Tryz.prog 128 #[.pointer (some ⟨b, 0, none⟩)] w fun e w' => e = .returned (.int .u8 ((hereB (dl s i)).toNat : Int)) ∧ Below w.heap.size w w' := by
  have x0 := h.c0
  have x1 := h.c1
  by_cases hlt : i < s.size
  · obtain ⟨c, hc⟩ : ∃ c, s[i] = c := ⟨_, rfl⟩
    have HC := Hold.mk hc
    have HH : Hold (hereB (dl s i) = c) := ⟨by rw [hereB_at hlt]; exact hc⟩
    have k0 : decide ((s.size : Int) ≤ (i : Int)) = false := by simp; omega
    clear h
    have HBQ : Hold (∀ n m, Below w.heap.size w ((w.drewN n).drewN m)) := ⟨fun n m => ⟨rfl, rfl, rfl, Nat.le_refl _, fun _ _ => rfl⟩⟩
    go_enter Tryz.func128, Tryz.ntmps128
    go_wp2_with fail
    go_quiet (fail)
    go_wp2_with fail
    go_quiet (fail)
    go_wp2_with fail
    go_ret
    exact ⟨by rw [HH.out]; simp, HBQ.out _ _⟩
  · have HH : Hold (hereB (dl s i) = 0) := ⟨by
      have e : dl s i = [] := List.length_eq_zero_iff.1 (by rw [dl_len]; omega)
      rw [e]; rfl⟩
    have k0 : decide ((s.size : Int) ≤ (i : Int)) = true := by simp; omega
    have k1 : s.size ≤ i := by omega
    clear h
    go_enter Tryz.func128, Tryz.ntmps128
    go_wp2_with fail
    go_quiet (fail)
    go_wp2_with fail
    go_ret
    exact ⟨by rw [HH.out]; rfl, drewN_below _ _⟩

/-- blanks are passed over -/
def BlPost (b : Nat) (s : ByteArray) (i : Nat) (no : Bool) (w : World) (e : Ending) (w' : World) : Prop :=
  e = .returned (.tuple #[]) ∧ ∃ j, dl s j = skipL (dl s i) ∧ i ≤ j ∧ RC b s j no w' ∧ But b w w'
theorem isB_four (c : UInt8) : isB c = true ↔ c = 9 ∨ c = 10 ∨ c = 13 ∨ c = 32 := by
  unfold isB
  simp only [Bool.or_eq_true, beq_iff_eq]
  constructor
  · rintro (((h | h) | h) | h)
    · exact .inr (.inr (.inr h))
    · exact .inl h
    · exact .inr (.inl h)
    · exact .inr (.inr (.inl h))
  · rintro (h | h | h | h)
    · exact .inl (.inl (.inr h))
    · exact .inl (.inr h)
    · exact .inr h
    · exact .inl (.inl (.inl h))

set_option maxHeartbeats 4000000 in
set_option maxRecDepth 100000 in
theorem rBlanks_any (b : Nat) (s : ByteArray) (i : Nat) (no : Bool) (w : World) (h : RC b s i no w) (hs : s.size ≤ 1000000) :
    Calls Tryz.prog 127 #[.pointer (some ⟨b, 0, none⟩)] w (BlPost b s i no w) := by
  have HI := Hold.mk h
  clear h
  go_enter Tryz.func127, Tryz.ntmps127
  go_wp2_with fail
  go_loopg [] s.size (fun g wr => ∃ j, s.size - j ≤ g ∧ i ≤ j ∧ skipL (dl s j) = skipL (dl s i) ∧ RC b s j no wr ∧ But b w wr)
  case atStart => exact ⟨i, by omega, Nat.le_refl _, rfl, HI.out, But.refl _ _⟩
  case round =>
    obtain ⟨j, hg, hij, hsk, hr, hb⟩ := hrel
    clear HI
    have HR := Hold.mk hr
    have HB := Hold.mk hb
    have HS := Hold.mk hsk
    clear hr hb hsk
    obtain ⟨c, hc⟩ : ∃ c, c = hereB (dl s j) := ⟨_, rfl⟩
    have HH : Hold (hereB (dl s j) = c) := ⟨hc.symm⟩
    have HN : Hold (isB c = true → j < s.size ∧ skipL (dl s (j + 1)) = skipL (dl s i)) := ⟨fun hb => by
      rcases Nat.lt_or_ge j s.size with hlt | hge
      · refine ⟨hlt, ?_⟩
        rw [← HS.out, dl_cons hlt, skipL_yes]
        rw [← hereB_at hlt, ← hc]; exact hb
      · have e : dl s j = [] := List.length_eq_zero_iff.1 (by rw [dl_len]; omega)
        rw [hc, e] at hb
        exact absurd hb (by decide)⟩
    have HE : Hold (c ≠ 9 → c ≠ 10 → c ≠ 13 → c ≠ 32 → dl s j = skipL (dl s i)) := ⟨fun h1 h2 h3 h4 => by
      rw [← HS.out]
      rcases Nat.lt_or_ge j s.size with hlt | hge
      · rw [dl_cons hlt, skipL_no]
        cases hb : isB s[j] with
        | false => rfl
        | true =>
          rw [← hereB_at hlt, ← hc] at hb
          rcases (isB_four c).1 hb with h | h | h | h
          · exact absurd h h1
          · exact absurd h h2
          · exact absurd h h3
          · exact absurd h h4
      · have e : dl s j = [] := List.length_eq_zero_iff.1 (by rw [dl_len]; omega)
        rw [e]; rfl⟩
    clear hc
    · skip
      by_cases h9 : c = 9
      · subst h9
        obtain ⟨hlt, hsk⟩ := HN.out (by decide)
        have HSN := Hold.mk hsk
        clear hsk
        go_wp2_with fail
        refine (rHere_any b s j no wr HR.out).mono ?_
        rintro e w1 ⟨rfl, hb1⟩
        rw [HH.out]
        have HR1 := Hold.mk (HR.out.below hb1)
        have HB1 := Hold.mk (HB.out.trans (But.of_below hb1))
        clear hb1
        have x1 := HR1.out.c1
        have f1 := HR1.out.fz 1
        have HRN := Hold.mk (HR1.out.to1 hlt)
        have HBN : Hold (But b w (w1.setCell ⟨b, 1, none⟩ (.int .i64 ((j : Int) + 1)))) := ⟨HB1.out.trans (But.set _ _ _)⟩
        have hgk1 : gk - 1 < gk := by omega
        go_wp2_with fail
        clear x1 f1
        go_roundg (gk - 1)
        case measure => exact hgk1
        case rel => exact ⟨j + 1, by omega, by omega, HSN.out, HRN.out, HBN.out⟩
      have b9 : ((c.toNat : Int) == 9) = false := byte_ne (k := 9) h9
      by_cases h10 : c = 10
      · subst h10
        obtain ⟨hlt, hsk⟩ := HN.out (by decide)
        have HSN := Hold.mk hsk
        clear hsk
        go_wp2_with fail
        refine (rHere_any b s j no wr HR.out).mono ?_
        rintro e w1 ⟨rfl, hb1⟩
        rw [HH.out]
        have HR1 := Hold.mk (HR.out.below hb1)
        have HB1 := Hold.mk (HB.out.trans (But.of_below hb1))
        clear hb1
        go_wp2_with fail
        refine (rHere_any b s j no w1 HR1.out).mono ?_
        rintro e w2 ⟨rfl, hb2⟩
        rw [HH.out]
        have HR2 := Hold.mk (HR1.out.below hb2)
        have HB2 := Hold.mk (HB1.out.trans (But.of_below hb2))
        clear hb2
        have x1 := HR2.out.c1
        have f1 := HR2.out.fz 1
        have HRN := Hold.mk (HR2.out.to1 hlt)
        have HBN : Hold (But b w (w2.setCell ⟨b, 1, none⟩ (.int .i64 ((j : Int) + 1)))) := ⟨HB2.out.trans (But.set _ _ _)⟩
        have hgk1 : gk - 1 < gk := by omega
        go_wp2_with fail
        clear x1 f1
        go_roundg (gk - 1)
        case measure => exact hgk1
        case rel => exact ⟨j + 1, by omega, by omega, HSN.out, HRN.out, HBN.out⟩
      have b10 : ((c.toNat : Int) == 10) = false := byte_ne (k := 10) h10
      by_cases h13 : c = 13
      · subst h13
        obtain ⟨hlt, hsk⟩ := HN.out (by decide)
        have HSN := Hold.mk hsk
        clear hsk
        go_wp2_with fail
        refine (rHere_any b s j no wr HR.out).mono ?_
        rintro e w1 ⟨rfl, hb1⟩
        rw [HH.out]
        have HR1 := Hold.mk (HR.out.below hb1)
        have HB1 := Hold.mk (HB.out.trans (But.of_below hb1))
        clear hb1
        go_wp2_with fail
        refine (rHere_any b s j no w1 HR1.out).mono ?_
        rintro e w2 ⟨rfl, hb2⟩
        rw [HH.out]
        have HR2 := Hold.mk (HR1.out.below hb2)
        have HB2 := Hold.mk (HB1.out.trans (But.of_below hb2))
        clear hb2
        go_wp2_with fail
        refine (rHere_any b s j no w2 HR2.out).mono ?_
        rintro e w3 ⟨rfl, hb3⟩
        rw [HH.out]
        have HR3 := Hold.mk (HR2.out.below hb3)
        have HB3 := Hold.mk (HB2.out.trans (But.of_below hb3))
        clear hb3
        have x1 := HR3.out.c1
        have f1 := HR3.out.fz 1
        have HRN := Hold.mk (HR3.out.to1 hlt)
        have HBN : Hold (But b w (w3.setCell ⟨b, 1, none⟩ (.int .i64 ((j : Int) + 1)))) := ⟨HB3.out.trans (But.set _ _ _)⟩
        have hgk1 : gk - 1 < gk := by omega
        go_wp2_with fail
        clear x1 f1
        go_roundg (gk - 1)
        case measure => exact hgk1
        case rel => exact ⟨j + 1, by omega, by omega, HSN.out, HRN.out, HBN.out⟩
      have b13 : ((c.toNat : Int) == 13) = false := byte_ne (k := 13) h13
      by_cases h32 : c = 32
      · subst h32
        obtain ⟨hlt, hsk⟩ := HN.out (by decide)
        have HSN := Hold.mk hsk
        clear hsk
        go_wp2_with fail
        refine (rHere_any b s j no wr HR.out).mono ?_
        rintro e w1 ⟨rfl, hb1⟩
        rw [HH.out]
        have HR1 := Hold.mk (HR.out.below hb1)
        have HB1 := Hold.mk (HB.out.trans (But.of_below hb1))
        clear hb1
        go_wp2_with fail
        refine (rHere_any b s j no w1 HR1.out).mono ?_
        rintro e w2 ⟨rfl, hb2⟩
        rw [HH.out]
        have HR2 := Hold.mk (HR1.out.below hb2)
        have HB2 := Hold.mk (HB1.out.trans (But.of_below hb2))
        clear hb2
        go_wp2_with fail
        refine (rHere_any b s j no w2 HR2.out).mono ?_
        rintro e w3 ⟨rfl, hb3⟩
        rw [HH.out]
        have HR3 := Hold.mk (HR2.out.below hb3)
        have HB3 := Hold.mk (HB2.out.trans (But.of_below hb3))
        clear hb3
        go_wp2_with fail
        refine (rHere_any b s j no w3 HR3.out).mono ?_
        rintro e w4 ⟨rfl, hb4⟩
        rw [HH.out]
        have HR4 := Hold.mk (HR3.out.below hb4)
        have HB4 := Hold.mk (HB3.out.trans (But.of_below hb4))
        clear hb4
        have x1 := HR4.out.c1
        have f1 := HR4.out.fz 1
        have HRN := Hold.mk (HR4.out.to1 hlt)
        have HBN : Hold (But b w (w4.setCell ⟨b, 1, none⟩ (.int .i64 ((j : Int) + 1)))) := ⟨HB4.out.trans (But.set _ _ _)⟩
        have hgk1 : gk - 1 < gk := by omega
        go_wp2_with fail
        clear x1 f1
        go_roundg (gk - 1)
        case measure => exact hgk1
        case rel => exact ⟨j + 1, by omega, by omega, HSN.out, HRN.out, HBN.out⟩
      have b32 : ((c.toNat : Int) == 32) = false := byte_ne (k := 32) h32
      go_wp2_with fail
      refine (rHere_any b s j no wr HR.out).mono ?_
      rintro e w1 ⟨rfl, hb1⟩
      rw [HH.out]
      have HR1 := Hold.mk (HR.out.below hb1)
      have HB1 := Hold.mk (HB.out.trans (But.of_below hb1))
      clear hb1
      go_wp2_with fail
      refine (rHere_any b s j no w1 HR1.out).mono ?_
      rintro e w2 ⟨rfl, hb2⟩
      rw [HH.out]
      have HR2 := Hold.mk (HR1.out.below hb2)
      have HB2 := Hold.mk (HB1.out.trans (But.of_below hb2))
      clear hb2
      go_wp2_with fail
      refine (rHere_any b s j no w2 HR2.out).mono ?_
      rintro e w3 ⟨rfl, hb3⟩
      rw [HH.out]
      have HR3 := Hold.mk (HR2.out.below hb3)
      have HB3 := Hold.mk (HB2.out.trans (But.of_below hb3))
      clear hb3
      go_wp2_with fail
      refine (rHere_any b s j no w3 HR3.out).mono ?_
      rintro e w4 ⟨rfl, hb4⟩
      rw [HH.out]
      have HR4 := Hold.mk (HR3.out.below hb4)
      have HB4 := Hold.mk (HB3.out.trans (But.of_below hb4))
      clear hb4
      go_wp2_with fail
      have HPP : Hold (BlPost b s i no w (.returned (.tuple #[])) w4) := ⟨rfl, j, HE.out h9 h10 h13 h32, hij, HR4.out, HB4.out⟩
      go_end0
      exact HPP.out

end Go.Proofs.YtkhhbckpddkhlaaGreatDoor

namespace Go.Proofs.YtkhhbckpddkhlaaGreatDoor
open Go.Shelf Go.RowKit

/-- a text that is wanted -/
def WantPost (b : Nat) (s t : ByteArray) (i : Nat) (no : Bool) (w : World) (e : Ending) (w' : World) : Prop :=
  e = .returned (.tuple #[]) ∧ But b w w' ∧ ∃ (j : Nat) (no' : Bool), RC b s j no' w' ∧ (no' = false → no = false ∧ wordL t.data.toList (dl s i) = some (dl s j)) ∧ (no' = true → no = true ∨ wordL t.data.toList (dl s i) = none)
theorem word_all {t l : List UInt8} {r : List UInt8} (h : l = t ++ r) : wordL t l = some r := by
  subst h; unfold wordL
  rw [if_pos (List.isPrefixOf_iff_prefix.2 (List.prefix_append t r)), List.drop_left]
theorem word_stop {t l : List UInt8} {m : Nat} {r : List UInt8} (h : l = t.take m ++ r) (hm : m < t.length) (hr : ∀ r', r ≠ t[m] :: r') : wordL t l = none := by
  unfold wordL
  rw [if_neg]
  intro hp
  obtain ⟨q, hq⟩ := List.isPrefixOf_iff_prefix.1 hp
  rw [h] at hq
  have h2 : t = t.take m ++ t.drop m := (List.take_append_drop m t).symm
  have h3 : t.take m ++ (t.drop m ++ q) = t.take m ++ r := by rw [← List.append_assoc, ← h2]; exact hq
  have h4 := List.append_cancel_left h3
  rw [List.drop_eq_getElem_cons hm, List.cons_append] at h4
  exact hr _ h4.symm

set_option maxHeartbeats 4000000 in
set_option maxRecDepth 100000 in
theorem rWant_any (b : Nat) (s t : ByteArray) (i : Nat) (no : Bool) (w : World) (h : RC b s i no w) (hs : s.size ≤ 1000000) (ht : t.size ≤ 1000) :
    Calls Tryz.prog 129 #[.pointer (some ⟨b, 0, none⟩), .string t] w (WantPost b s t i no w) := by
  have HI := Hold.mk h
  clear h
  go_enter Tryz.func129, Tryz.ntmps129
  go_wp2_with fail
  go_loopg [4] t.size (fun g s4 wr => ∃ m j : Nat, s4 = .int .i64 m ∧ t.size - m ≤ g ∧ m ≤ t.size ∧ RC b s j no wr ∧ But b w wr ∧ dl s i = t.data.toList.take m ++ dl s j)
  case atStart => exact ⟨0, i, rfl, by omega, Nat.zero_le _, HI.out, But.refl _ _, rfl⟩
  case round =>
    obtain ⟨m, j, rfl, hg, hm, hr, hb, hd⟩ := hrel
    clear HI
    have HR := Hold.mk hr
    have HB := Hold.mk hb
    have HD := Hold.mk hd
    have HTL : Hold (t.data.toList.length = t.size) := ⟨rfl⟩
    clear hr hb hd
    by_cases hmt : m < t.size
    · have k0 : (m : Int) < (t.size : Int) := by omega
      have x0 := HR.out.c0
      have x1 := HR.out.c1
      by_cases hlt : j < s.size
      · obtain ⟨c, hc⟩ : ∃ c, s[j] = c := ⟨_, rfl⟩
        obtain ⟨d, hdt⟩ : ∃ d, t[m] = d := ⟨_, rfl⟩
        have HC := Hold.mk hc
        have HT := Hold.mk hdt
        have k1 : decide ((s.size : Int) ≤ (j : Int)) = false := by simp; omega
        have HDL : Hold (dl s j = c :: dl s (j + 1)) := ⟨by rw [dl_cons hlt, HC.out]⟩
        have HTD : Hold (∀ h, t.data.toList[m]'h = d) := ⟨fun _ => HT.out⟩
        by_cases hcd : c = d
        · have hz : ((c.toNat : Int) != (d.toNat : Int)) = false := by rw [hcd]; simp
          have HNX : Hold (dl s i = t.data.toList.take (m + 1) ++ dl s (j + 1)) := ⟨by
            have hml : m < t.data.toList.length := by rw [HTL.out]; exact hmt
            rw [List.take_succ_eq_append_getElem hml, List.append_assoc, HD.out, HDL.out, HTD.out, hcd]; rfl⟩
          have HRQ : Hold (∀ n, RC b s (j + 1) no ((wr.drewN n).setCell ⟨b, 1, none⟩ (.int .i64 ((j : Int) + 1)))) := ⟨fun n => (HR.out.below (drewN_below wr n)).to1 hlt⟩
          have HBQ : Hold (∀ n, But b w ((wr.drewN n).setCell ⟨b, 1, none⟩ (.int .i64 ((j : Int) + 1)))) := ⟨fun n => (HB.out.drewN n).trans (But.set _ _ _)⟩
          have f1 := HR.out.fz 1
          have hgk1 : gk - 1 < gk := by omega
          have hm1 : m + 1 ≤ t.size := by omega
          have hg1 : t.size - (m + 1) ≤ gk - 1 := by omega
          clear hcd
          go_wp2_with fail
          go_quiet (fail)
          go_wp2_with fail
          clear x0 x1 f1
          go_roundg (gk - 1)
          case measure => exact hgk1
          case rel => exact ⟨m + 1, j + 1, by first | rfl | simp, hg1, hm1, HRQ.out _, HBQ.out _, HNX.out⟩
        · have hz : ((c.toNat : Int) != (d.toNat : Int)) = true := by rw [bne_iff_ne]; exact fun e => hcd (UInt8.toNat_inj.1 (by omega))
          have HP : Hold (∀ n, WantPost b s t i no w (.returned (.tuple #[])) ((wr.drewN n).setCell ⟨b, 2, none⟩ (.bool true))) := ⟨fun n => ⟨rfl, (HB.out.drewN n).trans (But.set _ _ _), j, true, (HR.out.below (drewN_below wr n)).not, (fun h => by cases h), fun _ => .inr (word_stop HD.out (by rw [HTL.out]; exact hmt) (fun r' e => by
            rw [HDL.out, HTD.out] at e
            exact hcd (List.cons.inj e).1))⟩⟩
          have x2 := HR.out.c2
          have f2 := HR.out.fz 2
          clear hcd
          go_wp2_with fail
          go_quiet (fail)
          go_wp2_with fail
          go_end0
          exact HP.out _
      · have k1 : decide ((s.size : Int) ≤ (j : Int)) = true := by simp; omega
        have k2 : s.size ≤ j := by omega
        have HDL : Hold (dl s j = []) := ⟨List.length_eq_zero_iff.1 (by rw [dl_len]; omega)⟩
        have HP : Hold (∀ n, WantPost b s t i no w (.returned (.tuple #[])) ((wr.drewN n).setCell ⟨b, 2, none⟩ (.bool true))) := ⟨fun n => ⟨rfl, (HB.out.drewN n).trans (But.set _ _ _), j, true, (HR.out.below (drewN_below wr n)).not, (fun h => by cases h), fun _ => .inr (word_stop HD.out (by rw [HTL.out]; exact hmt) (fun r' e => by
          rw [HDL.out] at e
          cases e))⟩⟩
        have x2 := HR.out.c2
        have f2 := HR.out.fz 2
        go_wp2_with fail
        go_quiet (fail)
        go_wp2_with fail
        go_end0
        exact HP.out _
    · have k0 : ¬ (m : Int) < (t.size : Int) := by omega
      have HP : Hold (WantPost b s t i no w (.returned (.tuple #[])) wr) := ⟨rfl, HB.out, j, no, HR.out, fun h => ⟨h, word_all (by
        have := HD.out
        rw [List.take_of_length_le (by rw [HTL.out]; omega)] at this
        exact this)⟩, fun h => .inl h⟩
      go_wp2_with fail
      go_end0
      exact HP.out

end Go.Proofs.YtkhhbckpddkhlaaGreatDoor

namespace Go.Proofs.YtkhhbckpddkhlaaGreatDoor
open Go.Shelf Go.RowKit

set_option maxRecDepth 100000 in
theorem rDigit_any (c : UInt8) (w : World) : Calls Tryz.prog 131 #[.int .u8 (c.toNat : Int)] w fun e w' => e = .returned (.bool (isD c)) ∧ w' = w := by
  have hb : isD c = decide (48 ≤ c.toNat ∧ c.toNat ≤ 57) := rfl
  rw [hb]
  by_cases h1 : 48 ≤ c.toNat
  · have k1 : (48 : Int) ≤ (c.toNat : Int) := by omega
    by_cases h2 : c.toNat ≤ 57
    · have k2 : (c.toNat : Int) ≤ 57 := by omega
      have HD : Hold (decide (48 ≤ c.toNat ∧ c.toNat ≤ 57) = true) := ⟨decide_eq_true ⟨h1, h2⟩⟩
      rw [HD.out]
      go_enter Tryz.func131, Tryz.ntmps131
      go_wp2_with fail
      go_ret
      exact ⟨rfl, rfl⟩
    · have k2 : ¬ (c.toNat : Int) ≤ 57 := by omega
      have HD : Hold (decide (48 ≤ c.toNat ∧ c.toNat ≤ 57) = false) := ⟨decide_eq_false (fun h => h2 h.2)⟩
      rw [HD.out]
      go_enter Tryz.func131, Tryz.ntmps131
      go_wp2_with fail
      go_ret
      exact ⟨rfl, rfl⟩
  · have k1 : ¬ (48 : Int) ≤ (c.toNat : Int) := by omega
    have HD : Hold (decide (48 ≤ c.toNat ∧ c.toNat ≤ 57) = false) := ⟨decide_eq_false (fun h => h1 h.1)⟩
    rw [HD.out]
    go_enter Tryz.func131, Tryz.ntmps131
    go_wp2_with fail
    go_ret
    exact ⟨rfl, rfl⟩
def hexN (c : UInt8) : Int := match hexV c with
  | some n => n
  | none => -1
set_option maxHeartbeats 4000000 in
set_option maxRecDepth 100000 in
theorem rHex_any (c : UInt8) (w : World) : Calls Tryz.prog 231 #[.int .u8 (c.toNat : Int)] w fun e w' => e = .returned (.int .i32 (hexN c)) ∧ w' = w := by
  have hD := rDigit_any c w
  have hc := c.toNat_lt
  by_cases hd : isD c = true
  · rw [hd] at hD
    have h1 := of_decide_eq_true hd
    have HD := Hold.mk hD
    have HN : Hold (hexN c = (c.toNat : Int) - 48) := ⟨by unfold hexN hexV; rw [if_pos h1]; simp; omega⟩
    have hw : IntKind.u8.wrap ((c.toNat : Int) - 48) = (c.toNat : Int) - 48 := by simp [IntKind.wrap, IntKind.bits, IntKind.signed]; omega
    have hw2 : IntKind.i32.wrap ((c.toNat : Int) - 48) = (c.toNat : Int) - 48 := by simp [IntKind.wrap, IntKind.bits, IntKind.signed]; omega
    clear hD hd
    go_enter Tryz.func231, Tryz.ntmps231
    go_wp2_with fail
    refine HD.out.mono ?_
    rintro e w1 ⟨rfl, rfl⟩
    go_wp2_with fail
    go_ret
    exact ⟨by rw [HN.out]; first | rfl | (simp; omega), rfl⟩
  · have hd2 : isD c = false := by simpa using hd
    rw [hd2] at hD
    have HD := Hold.mk hD
    have h1 : ¬ (48 ≤ c.toNat ∧ c.toNat ≤ 57) := fun h => hd (decide_eq_true h)
    clear hD hd
    by_cases ha : 97 ≤ c.toNat ∧ c.toNat ≤ 102
    · have k1 : (97 : Int) ≤ (c.toNat : Int) := by omega
      have k2 : (c.toNat : Int) ≤ 102 := by omega
      have HN : Hold (hexN c = (c.toNat : Int) - 97 + 10) := ⟨by unfold hexN hexV; rw [if_neg h1, if_pos ha]; simp; omega⟩
      have hw : IntKind.u8.wrap ((c.toNat : Int) - 97) = (c.toNat : Int) - 97 := by simp [IntKind.wrap, IntKind.bits, IntKind.signed]; omega
      have hw2 : IntKind.i32.wrap ((c.toNat : Int) - 97) = (c.toNat : Int) - 97 := by simp [IntKind.wrap, IntKind.bits, IntKind.signed]; omega
      have hw3 : IntKind.i32.wrap ((c.toNat : Int) - 97 + 10) = (c.toNat : Int) - 97 + 10 := by simp [IntKind.wrap, IntKind.bits, IntKind.signed]; omega
      go_enter Tryz.func231, Tryz.ntmps231
      go_wp2_with fail
      refine HD.out.mono ?_
      rintro e w1 ⟨rfl, rfl⟩
      go_wp2_with fail
      go_ret
      exact ⟨by rw [HN.out]; first | rfl | (simp; omega), rfl⟩
    · by_cases hA : 65 ≤ c.toNat ∧ c.toNat ≤ 70
      · have k0 : ¬ (97 : Int) ≤ (c.toNat : Int) := by omega
        have k1 : (65 : Int) ≤ (c.toNat : Int) := by omega
        have k2 : (c.toNat : Int) ≤ 70 := by omega
        have HN : Hold (hexN c = (c.toNat : Int) - 65 + 10) := ⟨by unfold hexN hexV; rw [if_neg h1, if_neg ha, if_pos hA]; simp; omega⟩
        have hw : IntKind.u8.wrap ((c.toNat : Int) - 65) = (c.toNat : Int) - 65 := by simp [IntKind.wrap, IntKind.bits, IntKind.signed]; omega
        have hw2 : IntKind.i32.wrap ((c.toNat : Int) - 65) = (c.toNat : Int) - 65 := by simp [IntKind.wrap, IntKind.bits, IntKind.signed]; omega
        have hw3 : IntKind.i32.wrap ((c.toNat : Int) - 65 + 10) = (c.toNat : Int) - 65 + 10 := by simp [IntKind.wrap, IntKind.bits, IntKind.signed]; omega
        go_enter Tryz.func231, Tryz.ntmps231
        go_wp2_with fail
        refine HD.out.mono ?_
        rintro e w1 ⟨rfl, rfl⟩
        go_wp2_with fail
        go_ret
        exact ⟨by rw [HN.out]; first | rfl | (simp; omega), rfl⟩
      · have HN : Hold (hexN c = -1) := ⟨by unfold hexN hexV; rw [if_neg h1, if_neg ha, if_neg hA]⟩
        rcases Nat.lt_or_ge c.toNat 65 with hx | hx
        · have k0 : ¬ (97 : Int) ≤ (c.toNat : Int) := by omega
          have k1 : ¬ (65 : Int) ≤ (c.toNat : Int) := by omega
          go_enter Tryz.func231, Tryz.ntmps231
          go_wp2_with fail
          refine HD.out.mono ?_
          rintro e w1 ⟨rfl, rfl⟩
          go_wp2_with fail
          go_ret
          exact ⟨by rw [HN.out]; rfl, rfl⟩
        · rcases Nat.lt_or_ge c.toNat 97 with hy | hy
          · have k0 : ¬ (97 : Int) ≤ (c.toNat : Int) := by omega
            have k1 : (65 : Int) ≤ (c.toNat : Int) := by omega
            have k2 : ¬ (c.toNat : Int) ≤ 70 := by omega
            go_enter Tryz.func231, Tryz.ntmps231
            go_wp2_with fail
            refine HD.out.mono ?_
            rintro e w1 ⟨rfl, rfl⟩
            go_wp2_with fail
            go_ret
            exact ⟨by rw [HN.out]; rfl, rfl⟩
          · have k0 : (97 : Int) ≤ (c.toNat : Int) := by omega
            have k1 : ¬ (c.toNat : Int) ≤ 102 := by omega
            have k2 : ¬ (c.toNat : Int) ≤ 70 := by omega
            have k3 : (65 : Int) ≤ (c.toNat : Int) := by omega
            go_enter Tryz.func231, Tryz.ntmps231
            go_wp2_with fail
            refine HD.out.mono ?_
            rintro e w1 ⟨rfl, rfl⟩
            go_wp2_with fail
            go_ret
            exact ⟨by rw [HN.out]; rfl, rfl⟩

theorem hexS_snoc {c : UInt8} : ∀ (ds : List UInt8) (a : Nat), hexS a (ds ++ [c]) = (hexS a ds).bind fun n => (hexV c).map fun d => n * 16 + d
  | [], a => by
    rw [List.nil_append]
    cases h : hexV c with
    | none => rw [hexS_none h]; rfl
    | some d => rw [hexS_some h]; rfl
  | x :: ds, a => by
    rw [List.cons_append]
    cases h : hexV x with
    | none => rw [hexS_none h, hexS_none h]; rfl
    | some d => rw [hexS_some h, hexS_some h, hexS_snoc ds]
theorem hexS_stop {c : UInt8} (h : hexV c = none) : ∀ (ds r : List UInt8) (a : Nat), hexS a (ds ++ c :: r) = none
  | [], r, a => hexS_none h
  | x :: ds, r, a => by
    rw [List.cons_append]
    cases hx : hexV x with
    | none => exact hexS_none hx
    | some d => rw [hexS_some hx]; exact hexS_stop h ds r _
/-- four digits, as the reference reads them -/
def FourPost (b : Nat) (s : ByteArray) (i : Nat) (no : Bool) (w : World) (e : Ending) (w' : World) : Prop :=
  But b w w' ∧ ∃ (n j : Nat) (no' : Bool), n < 65536 ∧ e = .returned (.int .i32 n) ∧ RC b s j no' w' ∧ (no' = false → no = false ∧ hex4L (dl s i) = some (n, dl s j)) ∧ (no' = true → no = true ∨ hex4L (dl s i) = none)
theorem four_done {s : ByteArray} {i j n : Nat} {ds : List UInt8} (h : dl s i = ds ++ dl s j) (hl : ds.length = 4) (hn : hexS 0 ds = some n) : hex4L (dl s i) = some (n, dl s j) := by
  unfold hex4L
  rw [h, if_neg (by rw [List.length_append]; omega), List.take_append_of_le_length (by omega), List.take_of_length_le (by omega), hn, List.drop_append_of_le_length (by omega), List.drop_of_length_le (by omega)]
  rfl
theorem four_stop {s : ByteArray} {i j : Nat} {ds : List UInt8} (h : dl s i = ds ++ dl s j) (hl : ds.length < 4) (hc : hexV (hereB (dl s j)) = none) : hex4L (dl s i) = none := by
  unfold hex4L
  split
  · rfl
  · rename_i h4
    cases e : dl s j with
    | nil =>
      rw [h, e, List.append_nil] at h4
      omega
    | cons c r =>
      rw [e] at hc
      rw [h, e, List.take_append, List.take_of_length_le (by omega)]
      obtain ⟨k, hk⟩ : ∃ k, 4 - ds.length = k + 1 := ⟨3 - ds.length, by omega⟩
      have hc2 : hexV c = none := hc
      rw [hk, List.take_succ_cons, hexS_stop hc2]
      rfl
theorem four_next {s : ByteArray} {i j n d : Nat} {ds : List UInt8} (h : dl s i = ds ++ dl s j) (hn : hexS 0 ds = some n) (hc : hexV (hereB (dl s j)) = some d) : ∃ hj : j < s.size, dl s i = (ds ++ [s[j]]) ++ dl s (j + 1) ∧ hexS 0 (ds ++ [s[j]]) = some (n * 16 + d) := by
  rcases Nat.lt_or_ge j s.size with hj | hj
  · rw [hereB_at hj] at hc
    exact ⟨hj, by rw [h, dl_cons hj, List.append_assoc]; rfl, by rw [hexS_snoc, hn, hc]; rfl⟩
  · have e : dl s j = [] := List.length_eq_zero_iff.1 (by rw [dl_len]; omega)
    rw [e] at hc
    have h0 : hexV (hereB []) = none := by decide
    rw [h0] at hc
    cases hc
theorem pow_step {m n d : Nat} (h : n < 16 ^ m) (hd : d < 16) : n * 16 + d < 16 ^ (m + 1) := by
  rw [Nat.pow_succ]; omega

set_option maxHeartbeats 4000000 in
set_option maxRecDepth 100000 in
theorem rFour_any (b : Nat) (s : ByteArray) (i : Nat) (no : Bool) (w : World) (h : RC b s i no w) (hs : s.size ≤ 1000000) :
    Calls Tryz.prog 212 #[.pointer (some ⟨b, 0, none⟩)] w (FourPost b s i no w) := by
  have HI := Hold.mk h
  clear h
  go_enter Tryz.func212, Tryz.ntmps212
  go_wp2_with fail
  go_loopg [3, 4] 4 (fun g s3 s4 wr => ∃ (m n j : Nat) (ds : List UInt8) (z : Int), s4 = .int .i64 m ∧ s3 = .int .i32 z ∧ z = n ∧ 4 - m ≤ g ∧ m ≤ 4 ∧ ds.length = m ∧ n < 16 ^ m ∧ hexS 0 ds = some n ∧ dl s i = ds ++ dl s j ∧ RC b s j no wr ∧ But b w wr)
  case atStart => exact ⟨0, 0, i, [], 0, rfl, rfl, rfl, by omega, by omega, rfl, by decide, rfl, rfl, HI.out, But.refl _ _⟩
  case round =>
    obtain ⟨m, n, j, ds, z, rfl, rfl, hz, hg, hm, hdl, hn, hsx, hd, hr, hb⟩ := hrel
    clear HI
    have HR := Hold.mk hr
    have HB := Hold.mk hb
    have HZ := Hold.mk hz
    have HF := Hold.mk (And.intro hd (And.intro hsx hdl))
    have HNB := Hold.mk hn
    clear hr hb hz hd hsx hdl hn
    by_cases hm4 : m < 4
    · have k0 : (m : Int) < 4 := by omega
      obtain ⟨c, hc⟩ : ∃ c, c = hereB (dl s j) := ⟨_, rfl⟩
      have HH : Hold (hereB (dl s j) = c) := ⟨hc.symm⟩
      clear hc
      have hgk1 : gk - 1 < gk := by omega
      have hm1 : m + 1 ≤ 4 := by omega
      have hg1 : 4 - (m + 1) ≤ gk - 1 := by omega
      go_wp2_with fail
      refine (rHere_any b s j no wr HR.out).mono ?_
      rintro e w1 ⟨rfl, hb1⟩
      rw [HH.out]
      have HR1 := Hold.mk (HR.out.below hb1)
      have HB1 := Hold.mk (HB.out.trans (But.of_below hb1))
      clear hb1
      have hX := rHex_any c w1
      cases hv : hexV c with
      | none =>
        have hN : hexN c = -1 := by unfold hexN; rw [hv]
        rw [hN] at hX
        have HX := Hold.mk hX
        have HP : Hold (FourPost b s i no w (.returned (.int .i32 0)) (w1.setCell ⟨b, 2, none⟩ (.bool true))) := ⟨HB1.out.trans (But.set _ _ _), 0, j, true, by omega, rfl, HR1.out.not, (fun h => by cases h), fun _ => .inr (four_stop HF.out.1 (by rw [HF.out.2.2]; exact hm4) (by rw [HH.out]; exact hv))⟩
        have x2 := HR1.out.c2
        have f2 := HR1.out.fz 2
        clear hX hN hv
        go_wp2_with fail
        refine HX.out.mono ?_
        rintro e w2 ⟨rfl, rfl⟩
        go_wp2_with fail
        go_ret
        exact HP.out
      | some d =>
        have hN : hexN c = (d : Int) := by unfold hexN; rw [hv]
        obtain ⟨zd, hzd⟩ : ∃ zd : Int, zd = (d : Int) := ⟨_, rfl⟩
        rw [hN, ← hzd] at hX
        have HX := Hold.mk hX
        have hd16 := hexV_lt hv
        obtain ⟨hjs, hd1, hs1⟩ := four_next HF.out.1 HF.out.2.1 (by rw [HH.out]; exact hv)
        have HNX : Hold (∃ ds', dl s i = ds' ++ dl s (j + 1) ∧ hexS 0 ds' = some (n * 16 + d) ∧ ds'.length = m + 1) := ⟨_, hd1, hs1, by rw [List.length_append, HF.out.2.2]; rfl⟩
        have hn4 : n < 4096 := by
          have h1 := HNB.out
          have h2 : 16 ^ m ≤ 16 ^ 3 := Nat.pow_le_pow_right (by decide) (by omega)
          have h3 : (16 : Nat) ^ 3 = 4096 := by decide
          omega
        have hzn := HZ.out
        have hz0 : ¬ zd < 0 := by omega
        have hw1 : IntKind.i32.wrap (z * 16) = z * 16 := by simp [IntKind.wrap, IntKind.bits, IntKind.signed]; omega
        have hw2 : IntKind.i32.wrap (z * 16 + zd) = z * 16 + zd := by simp [IntKind.wrap, IntKind.bits, IntKind.signed]; omega
        have HZN : Hold (z * 16 + zd = ((n * 16 + d : Nat) : Int)) := ⟨by omega⟩
        have HNB2 : Hold (n * 16 + d < 16 ^ (m + 1)) := ⟨pow_step HNB.out hd16⟩
        have x1 := HR1.out.c1
        have f1 := HR1.out.fz 1
        have HRN := Hold.mk (HR1.out.to1 hjs)
        have HBN : Hold (But b w (w1.setCell ⟨b, 1, none⟩ (.int .i64 ((j : Int) + 1)))) := ⟨HB1.out.trans (But.set _ _ _)⟩
        clear hX hN hv hzd hd16 hd1 hs1 hn4 hzn
        go_wp2_with fail
        refine HX.out.mono ?_
        rintro e w2 ⟨rfl, rfl⟩
        go_wp2_with fail
        clear x1 f1
        go_roundg (gk - 1)
        case measure => exact hgk1
        case rel =>
          obtain ⟨ds', e1, e2, e3⟩ := HNX.out
          exact ⟨m + 1, n * 16 + d, j + 1, ds', z * 16 + zd, by first | rfl | simp, rfl, HZN.out, hg1, hm1, e3, HNB2.out, e2, e1, HRN.out, HBN.out⟩
    · have k0 : ¬ (m : Int) < 4 := by omega
      obtain rfl : m = 4 := by omega
      have HP : Hold (FourPost b s i no w (.returned (.int .i32 z)) wr) := ⟨HB.out, n, j, no, HNB.out, by rw [HZ.out], HR.out, fun h => ⟨h, four_done HF.out.1 HF.out.2.2 HF.out.2.1⟩, fun h => .inl h⟩
      go_wp2_with fail
      go_ret
      exact HP.out

end Go.Proofs.YtkhhbckpddkhlaaGreatDoor

namespace Go.Proofs.YtkhhbckpddkhlaaGreatDoor
open Go.Shelf Go.RowKit

theorem here_headQ {l : List UInt8} {c : UInt8} (hc : c ≠ 0) : hereB l = c ↔ l.head? = some c := by
  cases l with
  | nil => unfold hereB; simp; exact fun h => hc h.symm
  | cons a l => unfold hereB; simp
theorem valD_snoc (ds : List UInt8) (c : UInt8) : valD (ds ++ [c]) = valD ds * 10 + (c.toNat - 48) := by
  unfold valD
  rw [List.foldl_append]; rfl
theorem take_stop {l r : List UInt8} (hl : ∀ c ∈ l, isD c = true) (hr : isD (hereB r) = false) : (l ++ r).takeWhile isD = l ∧ (l ++ r).dropWhile isD = r := by
  induction l with
  | nil =>
    cases r with
    | nil => exact ⟨rfl, rfl⟩
    | cons c r =>
      have hc : isD c = false := hr
      rw [List.nil_append, List.takeWhile_cons, List.dropWhile_cons, hc]
      exact ⟨rfl, rfl⟩
  | cons c l ih =>
    have hc := hl c (List.mem_cons_self ..)
    obtain ⟨h1, h2⟩ := ih (fun x hx => hl x (List.mem_cons_of_mem _ hx))
    rw [List.cons_append, List.takeWhile_cons, List.dropWhile_cons, hc, if_pos rfl, if_pos rfl, h1, h2]
    exact ⟨rfl, rfl⟩
/-- the digits so far -/
def NumInv (b : Nat) (s : ByteArray) (i : Nat) (no : Bool) (w : World) (g : Nat) (z : Int) (wr : World) : Prop :=
  ∃ (ds : List UInt8) (j : Nat) (no1 : Bool), 0 ≤ z ∧ z ≤ 18446744073709551615 ∧ s.size - j ≤ g ∧ i ≤ j ∧ (∀ c ∈ ds, isD c = true) ∧ dl s i = ds ++ dl s j ∧ ds.length = j - i ∧ RC b s j no1 wr ∧ But b w wr ∧
    (no1 = false → no = false ∧ z = (valD ds : Nat) ∧ valD ds ≤ 9223372036854775808) ∧ (no1 = true → no = true ∨ 9223372036854775808 < valD ds)

def NumS (s : ByteArray) (i : Nat) (no : Bool) (z : Int) (ds : List UInt8) (j : Nat) (no1 : Bool) : Prop :=
  (∀ c ∈ ds, isD c = true) ∧ dl s i = ds ++ dl s j ∧ ds.length = j - i ∧ (no1 = false → no = false ∧ z = (valD ds : Nat) ∧ valD ds ≤ 9223372036854775808) ∧ (no1 = true → no = true ∨ 9223372036854775808 < valD ds)
theorem num_step {s : ByteArray} {i j : Nat} {no no1 : Bool} {z : Int} {ds : List UInt8} {c : UInt8} (h : NumS s i no z ds j no1) (hij : i ≤ j) (hc : hereB (dl s j) = c) (hd : isD c = true) : ∃ _hj : j < s.size,
    (¬ (9223372036854775808 - ((c.toNat : Int) - 48)) / 10 < z → NumS s i no (z * 10 + ((c.toNat : Int) - 48)) (ds ++ [c]) (j + 1) no1) ∧ ((9223372036854775808 - ((c.toNat : Int) - 48)) / 10 < z → ∀ z', NumS s i no z' (ds ++ [c]) (j + 1) true) := by
  obtain ⟨h1, h2, h3, h4, h5⟩ := h
  have hdg := of_decide_eq_true hd
  have hj : j < s.size := by
    rcases Nat.lt_or_ge j s.size with hj | hj
    · exact hj
    · have e : dl s j = [] := List.length_eq_zero_iff.1 (by rw [dl_len]; omega)
      have hc0 : hereB (dl s j) = 0 := by rw [e]; rfl
      rw [hc0] at hc
      subst hc
      exact absurd hd (by decide)
  have hcj : s[j] = c := by rw [← hereB_at hj]; exact hc
  have a1 : ∀ x ∈ ds ++ [c], isD x = true := fun x hx => by
    rcases List.mem_append.1 hx with h | h
    · exact h1 x h
    · obtain rfl := List.mem_singleton.1 h
      exact hd
  have a2 : dl s i = (ds ++ [c]) ++ dl s (j + 1) := by rw [h2, dl_cons hj, List.append_assoc, hcj]; rfl
  have a3 : (ds ++ [c]).length = j + 1 - i := by rw [List.length_append, h3]; simp; omega
  refine ⟨hj, fun hz => ⟨a1, a2, a3, fun e => ?_, fun e => ?_⟩, fun hz z' => ⟨a1, a2, a3, (fun e => by cases e), fun _ => ?_⟩⟩
  · obtain ⟨e1, e2, e3⟩ := h4 e
    rw [valD_snoc]
    exact ⟨e1, by rw [e2]; omega, by omega⟩
  · exact (h5 e).imp id (fun h => by rw [valD_snoc]; omega)
  · cases no1 with
    | true => exact (h5 rfl).imp id (fun h => by rw [valD_snoc]; omega)
    | false =>
      obtain ⟨_, e2, _⟩ := h4 rfl
      right; rw [valD_snoc]; omega
theorem wrap_room (x : Int) : 0 ≤ IntKind.u64.wrap x ∧ IntKind.u64.wrap x ≤ 18446744073709551615 := by
  simp [IntKind.wrap, IntKind.bits, IntKind.signed]; omega

/-- a number, as the reference reads it -/
def RNumPost (b : Nat) (s : ByteArray) (i : Nat) (no : Bool) (w : World) (e : Ending) (w' : World) : Prop :=
  But b w w' ∧ ∃ (v : Int) (j : Nat) (no' : Bool), e = .returned (.int .i64 v) ∧ (Lit.int .i64 v).wf = true ∧ RC b s j no' w' ∧ (no' = false → no = false ∧ numL (dl s i) = some (v, dl s j)) ∧ (no' = true → no = true ∨ numL (dl s i) = none)
theorem num_plain {s : ByteArray} {i j : Nat} {ds : List UInt8} (h1 : ∀ c ∈ ds, isD c = true) (h2 : dl s i = ds ++ dl s j) (hc : isD (hereB (dl s j)) = false) (hn : hereB (dl s i) ≠ 45) : numL (dl s i) = digL false ds (dl s j) := by
  obtain ⟨e1, e2⟩ := take_stop h1 hc
  unfold numL
  rw [if_neg (fun h => hn ((here_headQ (by decide)).2 h)), h2, e1, e2]
theorem num_bad {s : ByteArray} {i j : Nat} {no no1 : Bool} {z : Int} {ds : List UInt8} (h : NumS s i no z ds j no1) (hc : isD (hereB (dl s j)) = false) (hn : hereB (dl s i) ≠ 45) (hb : ds = [] ∨ (1 < ds.length ∧ ds.head? = some 48) ∨ z = 9223372036854775808) : no = true ∨ numL (dl s i) = none := by
  obtain ⟨h1, h2, _, h4, h5⟩ := h
  rw [num_plain h1 h2 hc hn]
  unfold digL
  by_cases h0 : ds = [] ∨ 1 < ds.length ∧ ds.head? = some 48
  · exact .inr (if_pos h0)
  · have hz : z = 9223372036854775808 := by
      rcases hb with h | h | h
      · exact absurd (.inl h) h0
      · exact absurd (.inr h) h0
      · exact h
    rw [if_neg h0, if_neg (by decide)]
    cases no1 with
    | false =>
      obtain ⟨_, e2, _⟩ := h4 rfl
      right; rw [if_neg (by omega)]
    | true => exact (h5 rfl).imp id (fun h => by rw [if_neg (by omega)])
theorem num_ok {s : ByteArray} {i j : Nat} {no no1 : Bool} {z : Int} {ds : List UInt8} (h : NumS s i no z ds j no1) (hc : isD (hereB (dl s j)) = false) (hn : hereB (dl s i) ≠ 45) (hb : ¬ (ds = [] ∨ 1 < ds.length ∧ ds.head? = some 48)) (hz : z ≠ 9223372036854775808) : (no1 = false → no = false ∧ numL (dl s i) = some (z, dl s j) ∧ 0 ≤ z ∧ z < 9223372036854775808) ∧ (no1 = true → no = true ∨ numL (dl s i) = none) := by
  obtain ⟨h1, h2, _, h4, h5⟩ := h
  rw [num_plain h1 h2 hc hn]
  unfold digL
  rw [if_neg hb, if_neg (by decide)]
  constructor
  · intro e
    obtain ⟨e1, e2, e3⟩ := h4 e
    refine ⟨e1, ?_, by omega, by omega⟩
    rw [if_pos (by omega), e2]
  · intro e
    exact (h5 e).imp id (fun h => by rw [if_neg (by omega)])
theorem wf_wrap64 (x : Int) : (Lit.int .i64 (wrap64 x)).wf = true := by
  unfold wrap64
  simp [Lit.wf, IntKind.min, IntKind.max, IntKind.bits, IntKind.signed]; omega
theorem wf_wrap (x : Int) : (Lit.int .i64 (IntKind.i64.wrap x)).wf = true := by
  rw [IntKind.wrap_i64]
  simp [Lit.wf, IntKind.min, IntKind.max, IntKind.bits, IntKind.signed]; omega

set_option maxHeartbeats 4000000 in
set_option maxRecDepth 100000 in
theorem rNumber_up (b : Nat) (s : ByteArray) (i : Nat) (no : Bool) (w : World) (h : RC b s i no w) (hs : s.size ≤ 1000000) (hn : hereB (dl s i) ≠ 45) :
    Calls Tryz.prog 132 #[.pointer (some ⟨b, 0, none⟩)] w (RNumPost b s i no w) := by
  have HI := Hold.mk h
  have HH : Hold (hereB (dl s i) ≠ 45) := ⟨hn⟩
  have b45 : (((hereB (dl s i)).toNat : Int) == 45) = false := byte_ne (k := 45) hn
  clear hn h
  go_enter Tryz.func132, Tryz.ntmps132
  go_wp2_with fail
  refine (rHere_any b s i no w HI.out).mono ?_
  rintro e w1 ⟨rfl, hb1⟩
  have HR1 := Hold.mk (HI.out.below hb1)
  have HB1 := Hold.mk (But.of_below (b := b) hb1)
  have x1 := HR1.out.c1
  clear hb1
  go_wp2_with fail
  clear x1
  go_loopg [5, 6] s.size (fun g s5 _s6 wr => ∃ z : Int, s5 = .int .u64 z ∧ NumInv b s i no w g z wr)
  case atStart => exact ⟨0, rfl, [], i, no, by omega, by omega, by omega, Nat.le_refl _, (fun c hc => by cases hc), rfl, by simp, HR1.out, HB1.out, fun h => ⟨h, rfl, by decide⟩, fun h => .inl h⟩
  case round =>
    obtain ⟨z, rfl, ds, j, no1, hz0, hz1, hg, hij, hda, hde, hdl, hr, hb, h1, h2⟩ := hrel
    have HR := Hold.mk hr
    have HB := Hold.mk hb
    have HS : Hold (NumS s i no z ds j no1) := ⟨hda, hde, hdl, h1, h2⟩
    obtain ⟨c, hc⟩ : ∃ c, c = hereB (dl s j) := ⟨_, rfl⟩
    have HC : Hold (hereB (dl s j) = c) := ⟨hc.symm⟩
    clear hr hb hda hde hdl h1 h2 hc b45 HR1 HB1
    go_wp2_with fail
    refine (rHere_any b s j no1 wr HR.out).mono ?_
    rintro e w2 ⟨rfl, hb2⟩
    rw [HC.out]
    have HR2 := Hold.mk (HR.out.below hb2)
    have HB2 := Hold.mk (HB.out.trans (But.of_below hb2))
    clear hb2
    cases hd : isD c with
    | true =>
      have hdg := of_decide_eq_true hd
      have hD := rDigit_any c w2
      rw [hd] at hD
      have HD := Hold.mk hD
      clear hD
      go_wp2_with fail
      refine HD.out.mono ?_
      rintro e w3 ⟨rfl, rfl⟩
      clear HD
      go_wp2_with fail
      refine (rHere_any b s j no1 w3 HR2.out).mono ?_
      rintro e w4 ⟨rfl, hb4⟩
      rw [HC.out]
      have HR4 := Hold.mk (HR2.out.below hb4)
      have HB4 := Hold.mk (HB2.out.trans (But.of_below hb4))
      clear hb4
      have hw : IntKind.u8.wrap ((c.toNat : Int) - 48) = (c.toNat : Int) - 48 := by simp [IntKind.wrap, IntKind.bits, IntKind.signed]; omega
      obtain ⟨hj, hgo, hov⟩ := num_step HS.out hij HC.out hd
      have x1 := HR4.out.c1
      have f1 := HR4.out.fz 1
      have x2 := HR4.out.c2
      have f2 := HR4.out.fz 2
      have hgk1 : gk - 1 < gk := by omega
      have hg1 : s.size - (j + 1) ≤ gk - 1 := by omega
      clear hd
      by_cases hz : (9223372036854775808 - ((c.toNat : Int) - 48)) / 10 < z
      · have HS2 := Hold.mk (hov hz)
        have HR5 := Hold.mk (HR4.out.not)
        have HB5 : Hold (But b w (w4.setCell ⟨b, 2, none⟩ (.bool true))) := ⟨HB4.out.trans (But.set _ _ _)⟩
        clear hgo hov
        have hwr := wrap_room (IntKind.u64.wrap (z * 10) + ((c.toNat : Int) - 48))
        go_upto_region 11 with (fail)
        clear x1 f1 x2 f2
        generalize IntKind.u64.wrap (IntKind.u64.wrap (z * 10) + ((c.toNat : Int) - 48)) = z2 at hwr ⊢
        obtain ⟨w5, hw5⟩ : ∃ w5, w5 = w4.setCell ⟨b, 2, none⟩ (.bool true) := ⟨_, rfl⟩
        rw [← hw5] at HR5 HB5 ⊢
        clear hw5
        have x1 := HR5.out.c1
        have f1 := HR5.out.fz 1
        have HR6 := Hold.mk (HR5.out.to1 hj)
        have HB6 : Hold (But b w (w5.setCell ⟨b, 1, none⟩ (.int .i64 ((j : Int) + 1)))) := ⟨HB5.out.trans (But.set _ _ _)⟩
        have HS3 := Hold.mk (HS2.out z2)
        go_wp2_with fail
        clear x1 f1
        go_roundg (gk - 1)
        case measure => exact hgk1
        case rel => exact ⟨_, rfl, ds ++ [c], j + 1, true, hwr.1, hwr.2, hg1, by omega, HS3.out.1, HS3.out.2.1, HS3.out.2.2.1, HR6.out, HB6.out, HS3.out.2.2.2.1, HS3.out.2.2.2.2⟩
      · have HS2 := Hold.mk (hgo hz)
        have HR5 := Hold.mk (HR4.out.to1 hj)
        have HB5 : Hold (But b w (w4.setCell ⟨b, 1, none⟩ (.int .i64 ((j : Int) + 1)))) := ⟨HB4.out.trans (But.set _ _ _)⟩
        clear hgo hov x2 f2
        go_wp2_with fail
        clear x1 f1
        go_roundg (gk - 1)
        case measure => exact hgk1
        case rel => exact ⟨_, rfl, ds ++ [c], j + 1, no1, by omega, by omega, hg1, by omega, HS2.out.1, HS2.out.2.1, HS2.out.2.2.1, HR5.out, HB5.out, HS2.out.2.2.2.1, HS2.out.2.2.2.2⟩
    | false =>
      have hD := rDigit_any c w2
      rw [hd] at hD
      have HD := Hold.mk hD
      have HDC := Hold.mk hd
      clear hD hd
      have x0 := HR2.out.c0
      have x1 := HR2.out.c1
      go_wp2_with fail
      refine HD.out.mono ?_
      rintro e w3 ⟨rfl, rfl⟩
      clear HD
      have HBAD : Hold ((ds = [] ∨ (1 < ds.length ∧ ds.head? = some 48) ∨ z = 9223372036854775808) → ∀ V : Int, (Lit.int .i64 V).wf = true → RNumPost b s i no w (.returned (.int .i64 V)) (w3.setCell ⟨b, 2, none⟩ (.bool true))) := ⟨fun hb V hV => ⟨HB2.out.trans (But.set _ _ _), V, j, true, rfl, hV, HR2.out.not, (fun e => by cases e), fun _ => num_bad HS.out (by rw [HC.out]; exact HDC.out) HH.out hb⟩⟩
      have hjs : j ≤ s.size + 1 := HR2.out.le
      have HLN : Hold (ds.length = j - i) := ⟨HS.out.2.2.1⟩
      by_cases hji : j = i
      · subst hji
        have HPB := Hold.mk (HBAD.out (.inl (List.length_eq_zero_iff.1 (by rw [HLN.out]; omega))))
        have x2 := HR2.out.c2
        have f2 := HR2.out.fz 2
        go_wp2_with fail
        go_ret
        exact HPB.out _ (by first | exact wf_wrap64 _ | exact wf_wrap _ | (simp [Lit.wf, IntKind.min, IntKind.max, IntKind.bits, IntKind.signed]; omega))
      · have bji : ((j : Int) == (i : Int)) = false := by simp; omega
        have HNE : Hold (ds ≠ []) := ⟨fun e => by have := HLN.out; rw [e] at this; simp at this; omega⟩
        by_cases hlong : i + 1 < j
        · have kl : (i : Int) + 1 < (j : Int) := by omega
          obtain ⟨c0, r0, hds⟩ : ∃ a r, ds = a :: r := by
            cases e : ds with
            | nil => exact absurd e HNE.out
            | cons a r => exact ⟨a, r, rfl⟩
          obtain ⟨hi, hsi, _⟩ := dl_split (s := s) (i := i) (c := c0) (r := r0 ++ dl s j) (by rw [HS.out.2.1, hds]; rfl)
          have HHD : Hold (ds.head? = some c0) := ⟨by rw [hds]; rfl⟩
          clear hds
          by_cases h48 : c0 = 48
          · subst h48
            have HPB := Hold.mk (HBAD.out (.inr (.inl ⟨by rw [HLN.out]; omega, HHD.out⟩)))
            have x2 := HR2.out.c2
            have f2 := HR2.out.fz 2
            go_wp2_with fail
            go_ret
            exact HPB.out _ (by first | exact wf_wrap64 _ | exact wf_wrap _ | (simp [Lit.wf, IntKind.min, IntKind.max, IntKind.bits, IntKind.signed]; omega))
          · have b48 : ((c0.toNat : Int) == 48) = false := byte_ne (k := 48) h48
            have HNB : Hold (¬ (ds = [] ∨ 1 < ds.length ∧ ds.head? = some 48)) := ⟨fun h => by
              rcases h with h | ⟨_, h⟩
              · exact HNE.out h
              · rw [HHD.out] at h
                exact h48 (Option.some.inj h)⟩
            by_cases hz63 : z = 9223372036854775808
            · subst hz63
              have HPB := Hold.mk (HBAD.out (.inr (.inr rfl)))
              have x2 := HR2.out.c2
              have f2 := HR2.out.fz 2
              go_wp2_with fail
              go_ret
              exact HPB.out _ (by first | exact wf_wrap64 _ | exact wf_wrap _ | (simp [Lit.wf, IntKind.min, IntKind.max, IntKind.bits, IntKind.signed]; omega))
            · have bz : (z == 9223372036854775808) = false := by simpa using hz63
              have HPO : Hold (∀ V : Int, (Lit.int .i64 V).wf = true → (z < 9223372036854775808 → V = z) → RNumPost b s i no w (.returned (.int .i64 V)) w3) := ⟨fun V hV hz => by
                obtain ⟨q1, q2⟩ := num_ok HS.out (by rw [HC.out]; exact HDC.out) HH.out HNB.out hz63
                exact ⟨HB2.out, V, j, no1, rfl, hV, HR2.out, fun e => by
                  obtain ⟨e1, e2, e3, e4⟩ := q1 e
                  rw [hz e4]; exact ⟨e1, e2⟩, q2⟩⟩
              go_wp2_with fail
              go_ret
              exact HPO.out _ (by first | exact wf_wrap64 _ | exact wf_wrap _ | (simp [Lit.wf, IntKind.min, IntKind.max, IntKind.bits, IntKind.signed]; omega)) (fun h => by first | rfl | (unfold wrap64; omega) | (rw [IntKind.wrap_i64]; omega))
        · have kl : ¬ (i : Int) + 1 < (j : Int) := by omega
          have HNB : Hold (¬ (ds = [] ∨ 1 < ds.length ∧ ds.head? = some 48)) := ⟨fun h => by
            rcases h with h | ⟨h, _⟩
            · exact HNE.out h
            · rw [HLN.out] at h; omega⟩
          by_cases hz63 : z = 9223372036854775808
          · subst hz63
            have HPB := Hold.mk (HBAD.out (.inr (.inr rfl)))
            have x2 := HR2.out.c2
            have f2 := HR2.out.fz 2
            go_wp2_with fail
            go_ret
            exact HPB.out _ (by first | exact wf_wrap64 _ | exact wf_wrap _ | (simp [Lit.wf, IntKind.min, IntKind.max, IntKind.bits, IntKind.signed]; omega))
          · have bz : (z == 9223372036854775808) = false := by simpa using hz63
            have HPO : Hold (∀ V : Int, (Lit.int .i64 V).wf = true → (z < 9223372036854775808 → V = z) → RNumPost b s i no w (.returned (.int .i64 V)) w3) := ⟨fun V hV hz => by
              obtain ⟨q1, q2⟩ := num_ok HS.out (by rw [HC.out]; exact HDC.out) HH.out HNB.out hz63
              exact ⟨HB2.out, V, j, no1, rfl, hV, HR2.out, fun e => by
                obtain ⟨e1, e2, e3, e4⟩ := q1 e
                rw [hz e4]; exact ⟨e1, e2⟩, q2⟩⟩
            go_wp2_with fail
            go_ret
            exact HPO.out _ (by first | exact wf_wrap64 _ | exact wf_wrap _ | (simp [Lit.wf, IntKind.min, IntKind.max, IntKind.bits, IntKind.signed]; omega)) (fun h => by first | rfl | (unfold wrap64; omega) | (rw [IntKind.wrap_i64]; omega))

end Go.Proofs.YtkhhbckpddkhlaaGreatDoor

namespace Go.Proofs.YtkhhbckpddkhlaaGreatDoor
open Go.Shelf Go.RowKit

theorem neg_plain {s : ByteArray} {i q j : Nat} {ds : List UInt8} (h1 : ∀ c ∈ ds, isD c = true) (h2 : dl s q = ds ++ dl s j) (hc : isD (hereB (dl s j)) = false) (hn : dl s i = 45 :: dl s q) : numL (dl s i) = digL true ds (dl s j) := by
  obtain ⟨e1, e2⟩ := take_stop h1 hc
  unfold numL
  rw [hn, if_pos (show (45 :: dl s q).head? = some 45 from rfl), List.tail_cons, h2, e1, e2]
theorem neg_bad {s : ByteArray} {i q j : Nat} {no no1 : Bool} {z : Int} {ds : List UInt8} (h : NumS s q no z ds j no1) (hn : dl s i = 45 :: dl s q) (hc : isD (hereB (dl s j)) = false) (hb : ds = [] ∨ (1 < ds.length ∧ ds.head? = some 48)) : numL (dl s i) = none := by
  rw [neg_plain h.1 h.2.1 hc hn]
  unfold digL
  exact if_pos hb
theorem neg_ok {s : ByteArray} {i q j : Nat} {no no1 : Bool} {z : Int} {ds : List UInt8} (h : NumS s q no z ds j no1) (hn : dl s i = 45 :: dl s q) (hc : isD (hereB (dl s j)) = false) (hb : ¬ (ds = [] ∨ 1 < ds.length ∧ ds.head? = some 48)) : (no1 = false → no = false ∧ numL (dl s i) = some (-z, dl s j) ∧ 0 ≤ z ∧ z ≤ 9223372036854775808) ∧ (no1 = true → no = true ∨ numL (dl s i) = none) := by
  obtain ⟨h1, h2, _, h4, h5⟩ := h
  rw [neg_plain h1 h2 hc hn]
  unfold digL
  rw [if_neg hb, if_pos rfl]
  constructor
  · intro e
    obtain ⟨e1, e2, e3⟩ := h4 e
    refine ⟨e1, ?_, by omega, by omega⟩
    rw [if_pos (by omega), e2]
  · intro e
    exact (h5 e).imp id (fun h => by rw [if_neg (by omega)])

set_option maxHeartbeats 4000000 in
set_option maxRecDepth 100000 in
theorem rNumber_down (b : Nat) (s : ByteArray) (i : Nat) (no : Bool) (w : World) (h : RC b s i no w) (hs : s.size ≤ 1000000) (hn : hereB (dl s i) = 45) :
    Calls Tryz.prog 132 #[.pointer (some ⟨b, 0, none⟩)] w (RNumPost b s i no w) := by
  have HI := Hold.mk h
  have HH : Hold (hereB (dl s i) = 45) := ⟨hn⟩
  have hi : i < s.size := by
    rcases Nat.lt_or_ge i s.size with hj | hj
    · exact hj
    · have e : dl s i = [] := List.length_eq_zero_iff.1 (by rw [dl_len]; omega)
      rw [e] at hn
      exact absurd hn (by decide)
  clear hn h
  obtain ⟨q, hq⟩ : ∃ q, q = i + 1 := ⟨_, rfl⟩
  have HSG : Hold (dl s i = 45 :: dl s q) := ⟨by rw [dl_cons hi, hq, ← hereB_at hi, HH.out]⟩
  have hqs : q ≤ s.size := by omega
  go_enter Tryz.func132, Tryz.ntmps132
  go_wp2_with fail
  refine (rHere_any b s i no w HI.out).mono ?_
  rintro e w1 ⟨rfl, hb1⟩
  rw [HH.out]
  have HR1 := Hold.mk (HI.out.below hb1)
  have HB1 := Hold.mk (But.of_below (b := b) hb1)
  have x1 := HR1.out.c1
  have f1 := HR1.out.fz 1
  clear hb1
  obtain ⟨W, hW⟩ : ∃ W, W = w1.setCell ⟨b, 1, none⟩ (.int .i64 ((i : Int) + 1)) := ⟨_, rfl⟩
  have HRQ : Hold (RC b s q no W) := ⟨by rw [hW, hq]; exact HR1.out.to1 hi⟩
  have HBQ : Hold (But b w W) := ⟨by rw [hW]; exact HB1.out.trans (But.set _ _ _)⟩
  have HQ := Hold.mk hq
  clear hq
  go_upto_region 4 with (fail)
  rw [← hW]
  clear hW x1 f1 HR1 HB1 hi
  have x1 := HRQ.out.c1
  go_wp2_with fail
  clear x1
  go_loopg [5, 6] s.size (fun g s5 _s6 wr => ∃ z : Int, s5 = .int .u64 z ∧ NumInv b s q no w g z wr)
  case atStart => exact ⟨0, rfl, [], q, no, by omega, by omega, by omega, Nat.le_refl _, (fun c hc => by cases hc), rfl, by simp, HRQ.out, HBQ.out, fun h => ⟨h, rfl, by decide⟩, fun h => .inl h⟩
  case round =>
    obtain ⟨z, rfl, ds, j, no1, hz0, hz1, hg, hij, hda, hde, hdl, hr, hb, h1, h2⟩ := hrel
    have HR := Hold.mk hr
    have HB := Hold.mk hb
    have HS : Hold (NumS s q no z ds j no1) := ⟨hda, hde, hdl, h1, h2⟩
    obtain ⟨c, hc⟩ : ∃ c, c = hereB (dl s j) := ⟨_, rfl⟩
    have HC : Hold (hereB (dl s j) = c) := ⟨hc.symm⟩
    clear hr hb hda hde hdl h1 h2 hc HRQ HBQ
    go_wp2_with fail
    refine (rHere_any b s j no1 wr HR.out).mono ?_
    rintro e w2 ⟨rfl, hb2⟩
    rw [HC.out]
    have HR2 := Hold.mk (HR.out.below hb2)
    have HB2 := Hold.mk (HB.out.trans (But.of_below hb2))
    clear hb2
    cases hd : isD c with
    | true =>
      have hdg := of_decide_eq_true hd
      have hD := rDigit_any c w2
      rw [hd] at hD
      have HD := Hold.mk hD
      clear hD
      go_wp2_with fail
      refine HD.out.mono ?_
      rintro e w3 ⟨rfl, rfl⟩
      clear HD
      go_wp2_with fail
      refine (rHere_any b s j no1 w3 HR2.out).mono ?_
      rintro e w4 ⟨rfl, hb4⟩
      rw [HC.out]
      have HR4 := Hold.mk (HR2.out.below hb4)
      have HB4 := Hold.mk (HB2.out.trans (But.of_below hb4))
      clear hb4
      have hw : IntKind.u8.wrap ((c.toNat : Int) - 48) = (c.toNat : Int) - 48 := by simp [IntKind.wrap, IntKind.bits, IntKind.signed]; omega
      obtain ⟨hj, hgo, hov⟩ := num_step HS.out hij HC.out hd
      have x1 := HR4.out.c1
      have f1 := HR4.out.fz 1
      have x2 := HR4.out.c2
      have f2 := HR4.out.fz 2
      have hgk1 : gk - 1 < gk := by omega
      have hg1 : s.size - (j + 1) ≤ gk - 1 := by omega
      clear hd
      by_cases hz : (9223372036854775808 - ((c.toNat : Int) - 48)) / 10 < z
      · have HS2 := Hold.mk (hov hz)
        have HR5 := Hold.mk (HR4.out.not)
        have HB5 : Hold (But b w (w4.setCell ⟨b, 2, none⟩ (.bool true))) := ⟨HB4.out.trans (But.set _ _ _)⟩
        clear hgo hov
        have hwr := wrap_room (IntKind.u64.wrap (z * 10) + ((c.toNat : Int) - 48))
        go_upto_region 11 with (fail)
        clear x1 f1 x2 f2
        generalize IntKind.u64.wrap (IntKind.u64.wrap (z * 10) + ((c.toNat : Int) - 48)) = z2 at hwr ⊢
        obtain ⟨w5, hw5⟩ : ∃ w5, w5 = w4.setCell ⟨b, 2, none⟩ (.bool true) := ⟨_, rfl⟩
        rw [← hw5] at HR5 HB5 ⊢
        clear hw5
        have x1 := HR5.out.c1
        have f1 := HR5.out.fz 1
        have HR6 := Hold.mk (HR5.out.to1 hj)
        have HB6 : Hold (But b w (w5.setCell ⟨b, 1, none⟩ (.int .i64 ((j : Int) + 1)))) := ⟨HB5.out.trans (But.set _ _ _)⟩
        have HS3 := Hold.mk (HS2.out z2)
        go_wp2_with fail
        clear x1 f1
        go_roundg (gk - 1)
        case measure => exact hgk1
        case rel => exact ⟨_, rfl, ds ++ [c], j + 1, true, hwr.1, hwr.2, hg1, by omega, HS3.out.1, HS3.out.2.1, HS3.out.2.2.1, HR6.out, HB6.out, HS3.out.2.2.2.1, HS3.out.2.2.2.2⟩
      · have HS2 := Hold.mk (hgo hz)
        have HR5 := Hold.mk (HR4.out.to1 hj)
        have HB5 : Hold (But b w (w4.setCell ⟨b, 1, none⟩ (.int .i64 ((j : Int) + 1)))) := ⟨HB4.out.trans (But.set _ _ _)⟩
        clear hgo hov x2 f2
        go_wp2_with fail
        clear x1 f1
        go_roundg (gk - 1)
        case measure => exact hgk1
        case rel => exact ⟨_, rfl, ds ++ [c], j + 1, no1, by omega, by omega, hg1, by omega, HS2.out.1, HS2.out.2.1, HS2.out.2.2.1, HR5.out, HB5.out, HS2.out.2.2.2.1, HS2.out.2.2.2.2⟩
    | false =>
      have hD := rDigit_any c w2
      rw [hd] at hD
      have HD := Hold.mk hD
      have HDC := Hold.mk hd
      clear hD hd
      have x0 := HR2.out.c0
      have x1 := HR2.out.c1
      go_wp2_with fail
      refine HD.out.mono ?_
      rintro e w3 ⟨rfl, rfl⟩
      clear HD
      have HBAD : Hold ((ds = [] ∨ (1 < ds.length ∧ ds.head? = some 48)) → ∀ V : Int, (Lit.int .i64 V).wf = true → RNumPost b s i no w (.returned (.int .i64 V)) (w3.setCell ⟨b, 2, none⟩ (.bool true))) := ⟨fun hb V hV => ⟨HB2.out.trans (But.set _ _ _), V, j, true, rfl, hV, HR2.out.not, (fun e => by cases e), fun _ => .inr (neg_bad HS.out HSG.out (by rw [HC.out]; exact HDC.out) hb)⟩⟩
      have hjs : j ≤ s.size + 1 := HR2.out.le
      have HLN : Hold (ds.length = j - q) := ⟨HS.out.2.2.1⟩
      by_cases hji : j = q
      · subst hji
        have HPB := Hold.mk (HBAD.out (.inl (List.length_eq_zero_iff.1 (by rw [HLN.out]; omega))))
        have x2 := HR2.out.c2
        have f2 := HR2.out.fz 2
        go_wp2_with fail
        go_ret
        exact HPB.out _ (by first | exact wf_wrap64 _ | exact wf_wrap _ | (simp [Lit.wf, IntKind.min, IntKind.max, IntKind.bits, IntKind.signed]; omega))
      · have bji : ((j : Int) == (q : Int)) = false := by simp; omega
        have HNE : Hold (ds ≠ []) := ⟨fun e => by have := HLN.out; rw [e] at this; simp at this; omega⟩
        by_cases hlong : q + 1 < j
        · have kl : (q : Int) + 1 < (j : Int) := by omega
          obtain ⟨c0, r0, hds⟩ : ∃ a r, ds = a :: r := by
            cases e : ds with
            | nil => exact absurd e HNE.out
            | cons a r => exact ⟨a, r, rfl⟩
          obtain ⟨hi, hsi, _⟩ := dl_split (s := s) (i := q) (c := c0) (r := r0 ++ dl s j) (by rw [HS.out.2.1, hds]; rfl)
          have HHD : Hold (ds.head? = some c0) := ⟨by rw [hds]; rfl⟩
          clear hds
          by_cases h48 : c0 = 48
          · subst h48
            have HPB := Hold.mk (HBAD.out (.inr ⟨by rw [HLN.out]; omega, HHD.out⟩))
            have x2 := HR2.out.c2
            have f2 := HR2.out.fz 2
            go_wp2_with fail
            go_ret
            exact HPB.out _ (by first | exact wf_wrap64 _ | exact wf_wrap _ | (simp [Lit.wf, IntKind.min, IntKind.max, IntKind.bits, IntKind.signed]; omega))
          · have b48 : ((c0.toNat : Int) == 48) = false := byte_ne (k := 48) h48
            have HNB : Hold (¬ (ds = [] ∨ 1 < ds.length ∧ ds.head? = some 48)) := ⟨fun h => by
              rcases h with h | ⟨_, h⟩
              · exact HNE.out h
              · rw [HHD.out] at h
                exact h48 (Option.some.inj h)⟩
            have HPO : Hold (∀ V : Int, (Lit.int .i64 V).wf = true → (z ≤ 9223372036854775808 → V = -z) → RNumPost b s i no w (.returned (.int .i64 V)) w3) := ⟨fun V hV hz => by
              obtain ⟨q1, q2⟩ := neg_ok HS.out HSG.out (by rw [HC.out]; exact HDC.out) HNB.out
              exact ⟨HB2.out, V, j, no1, rfl, hV, HR2.out, fun e => by
                obtain ⟨e1, e2, e3, e4⟩ := q1 e
                rw [hz e4]; exact ⟨e1, e2⟩, q2⟩⟩
            by_cases hz63 : z = 9223372036854775808
            · subst hz63
              go_wp2_with fail
              go_ret
              exact HPO.out _ (by first | exact wf_wrap64 _ | exact wf_wrap _ | decide | (simp [Lit.wf, IntKind.min, IntKind.max, IntKind.bits, IntKind.signed]; omega)) (fun h => by first | rfl | decide | (unfold wrap64; omega) | omega | (rw [IntKind.wrap_i64]; unfold wrap64; omega))
            · have bz : (z == 9223372036854775808) = false := by simpa using hz63
              go_wp2_with fail
              go_ret
              exact HPO.out _ (by first | exact wf_wrap64 _ | exact wf_wrap _ | decide | (simp [Lit.wf, IntKind.min, IntKind.max, IntKind.bits, IntKind.signed]; omega)) (fun h => by first | rfl | decide | (unfold wrap64; omega) | omega | (rw [IntKind.wrap_i64]; unfold wrap64; omega))
        · have kl : ¬ (q : Int) + 1 < (j : Int) := by omega
          have HNB : Hold (¬ (ds = [] ∨ 1 < ds.length ∧ ds.head? = some 48)) := ⟨fun h => by
            rcases h with h | ⟨h, _⟩
            · exact HNE.out h
            · rw [HLN.out] at h; omega⟩
          have HPO : Hold (∀ V : Int, (Lit.int .i64 V).wf = true → (z ≤ 9223372036854775808 → V = -z) → RNumPost b s i no w (.returned (.int .i64 V)) w3) := ⟨fun V hV hz => by
            obtain ⟨q1, q2⟩ := neg_ok HS.out HSG.out (by rw [HC.out]; exact HDC.out) HNB.out
            exact ⟨HB2.out, V, j, no1, rfl, hV, HR2.out, fun e => by
              obtain ⟨e1, e2, e3, e4⟩ := q1 e
              rw [hz e4]; exact ⟨e1, e2⟩, q2⟩⟩
          by_cases hz63 : z = 9223372036854775808
          · subst hz63
            go_wp2_with fail
            go_ret
            exact HPO.out _ (by first | exact wf_wrap64 _ | exact wf_wrap _ | decide | (simp [Lit.wf, IntKind.min, IntKind.max, IntKind.bits, IntKind.signed]; omega)) (fun h => by first | rfl | decide | (unfold wrap64; omega) | omega | (rw [IntKind.wrap_i64]; unfold wrap64; omega))
          · have bz : (z == 9223372036854775808) = false := by simpa using hz63
            go_wp2_with fail
            go_ret
            exact HPO.out _ (by first | exact wf_wrap64 _ | exact wf_wrap _ | decide | (simp [Lit.wf, IntKind.min, IntKind.max, IntKind.bits, IntKind.signed]; omega)) (fun h => by first | rfl | decide | (unfold wrap64; omega) | omega | (rw [IntKind.wrap_i64]; unfold wrap64; omega))

theorem rNumber_any (b : Nat) (s : ByteArray) (i : Nat) (no : Bool) (w : World) (h : RC b s i no w) (hs : s.size ≤ 1000000) :
    Calls Tryz.prog 132 #[.pointer (some ⟨b, 0, none⟩)] w (RNumPost b s i no w) := by
  by_cases hn : hereB (dl s i) = 45
  · exact rNumber_down b s i no w h hs hn
  · exact rNumber_up b s i no w h hs hn

end Go.Proofs.YtkhhbckpddkhlaaGreatDoor
