/- The reader of the reference: want. -/
import Derived.Test.YtdhilnnohokoeaaDoorQD
namespace Go.Proofs.YtdhilnnohokoeaaDoor
open Go.Shelf Go.RowKit

/-- a text that is wanted -/
def WantPost (b : Nat) (s t : ByteArray) (i : Nat) (no : Bool) (w : World) (e : Ending) (w' : World) : Prop :=
  e = .returned (.tuple #[]) ∧ But b w w' ∧ ∃ (j : Nat) (no' : Bool), RC b s j no' w' ∧ (no' = false → no = false ∧ wordL t.data.toList (dl s i) = some (dl s j)) ∧ (no' = true → no = true ∨ wordL t.data.toList (dl s i) = none)
theorem word_all {t l : List UInt8} {r : List UInt8} (h : l = t ++ r) : wordL t l = some r := by
  subst h; unfold wordL
  rw [if_pos (List.isPrefixOf_iff_prefix.2 (List.prefix_append t r)), List.drop_left]
theorem word_stop {t l : List UInt8} {m : Nat} {r : List UInt8} (h : l = t.take m ++ r) (hm : m < t.length) (hr : ∀ r', r ≠ t[m] :: r') : wordL t l = none := by
  unfold wordL
  rw [if_neg]
  intro hp
  obtain ⟨q, hq⟩ := List.isPrefixOf_iff_prefix.1 hp
  rw [h] at hq
  have h2 : t = t.take m ++ t.drop m := (List.take_append_drop m t).symm
  have h3 : t.take m ++ (t.drop m ++ q) = t.take m ++ r := by rw [← List.append_assoc, ← h2]; exact hq
  have h4 := List.append_cancel_left h3
  rw [List.drop_eq_getElem_cons hm, List.cons_append] at h4
  exact hr _ h4.symm

set_option maxHeartbeats 4000000 in
set_option maxRecDepth 100000 in
theorem rWant_any (b : Nat) (s t : ByteArray) (i : Nat) (no : Bool) (w : World) (h : RC b s i no w) (hs : s.size ≤ 1000000) (ht : t.size ≤ 1000) :
    Calls Tryd.prog 31 #[.pointer (some ⟨b, 0, none⟩), .string t] w (WantPost b s t i no w) := by
  have HI := Hold.mk h
  clear h
  go_enter Tryd.func31, Tryd.ntmps31
  go_wp2_with fail
  go_loopg [4] t.size (fun g s4 wr => ∃ m j : Nat, s4 = .int .i64 m ∧ t.size - m ≤ g ∧ m ≤ t.size ∧ RC b s j no wr ∧ But b w wr ∧ dl s i = t.data.toList.take m ++ dl s j)
  case atStart => exact ⟨0, i, rfl, by omega, Nat.zero_le _, HI.out, But.refl _ _, rfl⟩
  case round =>
    obtain ⟨m, j, rfl, hg, hm, hr, hb, hd⟩ := hrel
    clear HI
    have HR := Hold.mk hr
    have HB := Hold.mk hb
    have HD := Hold.mk hd
    have HTL : Hold (t.data.toList.length = t.size) := ⟨rfl⟩
    clear hr hb hd
    by_cases hmt : m < t.size
    · have k0 : (m : Int) < (t.size : Int) := by omega
      have x0 := HR.out.c0
      have x1 := HR.out.c1
      by_cases hlt : j < s.size
      · obtain ⟨c, hc⟩ : ∃ c, s[j] = c := ⟨_, rfl⟩
        obtain ⟨d, hdt⟩ : ∃ d, t[m] = d := ⟨_, rfl⟩
        have HC := Hold.mk hc
        have HT := Hold.mk hdt
        have k1 : decide ((s.size : Int) ≤ (j : Int)) = false := by simp; omega
        have HDL : Hold (dl s j = c :: dl s (j + 1)) := ⟨by rw [dl_cons hlt, HC.out]⟩
        have HTD : Hold (∀ h, t.data.toList[m]'h = d) := ⟨fun _ => HT.out⟩
        by_cases hcd : c = d
        · have hz : ((c.toNat : Int) != (d.toNat : Int)) = false := by rw [hcd]; simp
          have HNX : Hold (dl s i = t.data.toList.take (m + 1) ++ dl s (j + 1)) := ⟨by
            have hml : m < t.data.toList.length := by rw [HTL.out]; exact hmt
            rw [List.take_succ_eq_append_getElem hml, List.append_assoc, HD.out, HDL.out, HTD.out, hcd]; rfl⟩
          have HRQ : Hold (∀ n, RC b s (j + 1) no ((wr.drewN n).setCell ⟨b, 1, none⟩ (.int .i64 ((j : Int) + 1)))) := ⟨fun n => (HR.out.below (drewN_below wr n)).to1 hlt⟩
          have HBQ : Hold (∀ n, But b w ((wr.drewN n).setCell ⟨b, 1, none⟩ (.int .i64 ((j : Int) + 1)))) := ⟨fun n => (HB.out.drewN n).trans (But.set _ _ _)⟩
          have f1 := HR.out.fz 1
          have hgk1 : gk - 1 < gk := by omega
          have hm1 : m + 1 ≤ t.size := by omega
          have hg1 : t.size - (m + 1) ≤ gk - 1 := by omega
          clear hcd
          go_wp2_with fail
          go_quiet (fail)
          go_wp2_with fail
          clear x0 x1 f1
          go_roundg (gk - 1)
          case measure => exact hgk1
          case rel => exact ⟨m + 1, j + 1, by first | rfl | simp, hg1, hm1, HRQ.out _, HBQ.out _, HNX.out⟩
        · have hz : ((c.toNat : Int) != (d.toNat : Int)) = true := by rw [bne_iff_ne]; exact fun e => hcd (UInt8.toNat_inj.1 (by omega))
          have HP : Hold (∀ n, WantPost b s t i no w (.returned (.tuple #[])) ((wr.drewN n).setCell ⟨b, 2, none⟩ (.bool true))) := ⟨fun n => ⟨rfl, (HB.out.drewN n).trans (But.set _ _ _), j, true, (HR.out.below (drewN_below wr n)).not, (fun h => by cases h), fun _ => .inr (word_stop HD.out (by rw [HTL.out]; exact hmt) (fun r' e => by
            rw [HDL.out, HTD.out] at e
            exact hcd (List.cons.inj e).1))⟩⟩
          have x2 := HR.out.c2
          have f2 := HR.out.fz 2
          clear hcd
          go_wp2_with fail
          go_quiet (fail)
          go_wp2_with fail
          go_end0
          exact HP.out _
      · have k1 : decide ((s.size : Int) ≤ (j : Int)) = true := by simp; omega
        have k2 : s.size ≤ j := by omega
        have HDL : Hold (dl s j = []) := ⟨List.length_eq_zero_iff.1 (by rw [dl_len]; omega)⟩
        have HP : Hold (∀ n, WantPost b s t i no w (.returned (.tuple #[])) ((wr.drewN n).setCell ⟨b, 2, none⟩ (.bool true))) := ⟨fun n => ⟨rfl, (HB.out.drewN n).trans (But.set _ _ _), j, true, (HR.out.below (drewN_below wr n)).not, (fun h => by cases h), fun _ => .inr (word_stop HD.out (by rw [HTL.out]; exact hmt) (fun r' e => by
          rw [HDL.out] at e
          cases e))⟩⟩
        have x2 := HR.out.c2
        have f2 := HR.out.fz 2
        go_wp2_with fail
        go_quiet (fail)
        go_wp2_with fail
        go_end0
        exact HP.out _
    · have k0 : ¬ (m : Int) < (t.size : Int) := by omega
      have HP : Hold (WantPost b s t i no w (.returned (.tuple #[])) wr) := ⟨rfl, HB.out, j, no, HR.out, fun h => ⟨h, word_all (by
        have := HD.out
        rw [List.take_of_length_le (by rw [HTL.out]; omega)] at this
        exact this)⟩, fun h => .inl h⟩
      go_wp2_with fail
      go_end0
      exact HP.out

end Go.Proofs.YtdhilnnohokoeaaDoor
