/- cmp: Compare and Or, walked. -/
import Derived.Test.YtkhhbckpddkhlaaGreatDoorFO
import Derived.Test.YtkhhbckpddkhlaaGreatDoorSA
import Derived.StillTailTactics
import Derived.Deep.RegionWith
namespace Go.Proofs.YtkhhbckpddkhlaaGreatDoor
open Go.RowKit

theorem isNaN_int (a : Int) (w : World) : Calls Tryz.prog 178 #[.int .i64 a] w fun e w' => e = .returned (.bool false) ∧ w' = w := by
  go_enter Tryz.func178, Tryz.ntmps178
  go_wp2_with fail
  go_ret
  exact ⟨by simp, rfl⟩

set_option maxHeartbeats 2000000 in
theorem compare_int (a b : Int) (w : World) : Calls Tryz.prog 119 #[.int .i64 a, .int .i64 b] w fun e w' => e = .returned (.int .i64 (cmpI a b)) ∧ w' = w := by
  have hc : (a < b ∧ cmpI a b = -1) ∨ (¬ a < b ∧ b < a ∧ cmpI a b = 1) ∨ (¬ a < b ∧ ¬ b < a ∧ cmpI a b = 0) := by
    unfold cmpI
    by_cases h1 : a < b
    · exact .inl ⟨h1, by rw [if_pos h1]⟩
    · by_cases h2 : b < a
      · exact .inr (.inl ⟨h1, h2, by rw [if_neg h1, if_pos h2]⟩)
      · exact .inr (.inr ⟨h1, h2, by rw [if_neg h1, if_neg h2]⟩)
  rcases hc with ⟨h1, h2⟩ | ⟨h0, h1, h2⟩ | ⟨h0, h1, h2⟩
  all_goals
    have HC := Hold.mk h2
    clear h2
    go_enter Tryz.func119, Tryz.ntmps119
    go_wp2_with fail
    refine (isNaN_int a w).mono ?_
    rintro e w1 ⟨rfl, hw1⟩
    subst hw1
    go_wp2_with fail
    refine (isNaN_int b _).mono ?_
    rintro e w2 ⟨rfl, hw2⟩
    subst hw2
    go_wp2_with fail
    go_ret
    exact ⟨by rw [HC.out]; rfl, rfl⟩

theorem isNaN_i64 (a : Int) (w : World) : Calls Tryz.prog 232 #[.int .i64 a] w fun e w' => e = .returned (.bool false) ∧ w' = w := by
  go_enter Tryz.func232, Tryz.ntmps232
  go_wp2_with fail
  go_ret
  exact ⟨by simp, rfl⟩

set_option maxHeartbeats 2000000 in
theorem compare_i64 (a b : Int) (w : World) : Calls Tryz.prog 218 #[.int .i64 a, .int .i64 b] w fun e w' => e = .returned (.int .i64 (cmpI a b)) ∧ w' = w := by
  have hc : (a < b ∧ cmpI a b = -1) ∨ (¬ a < b ∧ b < a ∧ cmpI a b = 1) ∨ (¬ a < b ∧ ¬ b < a ∧ cmpI a b = 0) := by
    unfold cmpI
    by_cases h1 : a < b
    · exact .inl ⟨h1, by rw [if_pos h1]⟩
    · by_cases h2 : b < a
      · exact .inr (.inl ⟨h1, h2, by rw [if_neg h1, if_pos h2]⟩)
      · exact .inr (.inr ⟨h1, h2, by rw [if_neg h1, if_neg h2]⟩)
  rcases hc with ⟨h1, h2⟩ | ⟨h0, h1, h2⟩ | ⟨h0, h1, h2⟩
  all_goals
    have HC := Hold.mk h2
    clear h2
    go_enter Tryz.func218, Tryz.ntmps218
    go_wp2_with fail
    refine (isNaN_i64 a w).mono ?_
    rintro e w1 ⟨rfl, hw1⟩
    subst hw1
    go_wp2_with fail
    refine (isNaN_i64 b _).mono ?_
    rintro e w2 ⟨rfl, hw2⟩
    subst hw2
    go_wp2_with fail
    go_ret
    exact ⟨by rw [HC.out]; rfl, rfl⟩

theorem isNaN_str (a : ByteArray) (w : World) : Calls Tryz.prog 124 #[.string a] w fun e w' => e = .returned (.bool false) ∧ w' = w := by
  go_enter Tryz.func124, Tryz.ntmps124
  go_wp2_with fail
  go_ret
  exact ⟨by simp, rfl⟩

set_option maxHeartbeats 2000000 in
theorem compare_str (a b : ByteArray) (w : World) : Calls Tryz.prog 84 #[.string a, .string b] w fun e w' => e = .returned (.int .i64 (cmpS a b)) ∧ w' = w := by
  have hc : (Op.bytesLess a.toList b.toList = true ∧ cmpS a b = -1) ∨ (Op.bytesLess a.toList b.toList = false ∧ (a.toList == b.toList) = false ∧ cmpS a b = 1) ∨ (Op.bytesLess a.toList b.toList = false ∧ (a.toList == b.toList) = true ∧ cmpS a b = 0) := by
    unfold cmpS strLt
    cases h1 : Op.bytesLess a.toList b.toList with
    | true => exact .inl ⟨rfl, by simp⟩
    | false =>
      by_cases h2 : a = b
      · exact .inr (.inr ⟨rfl, by rw [h2]; simp, by simp [h2]⟩)
      · exact .inr (.inl ⟨rfl, str_ne h2, by simp [h2]⟩)
  rcases hc with ⟨h1, h2⟩ | ⟨h0, h1, h2⟩ | ⟨h0, h1, h2⟩
  all_goals
    have HC := Hold.mk h2
    clear h2
    go_enter Tryz.func84, Tryz.ntmps84
    go_wp2_with fail
    refine (isNaN_str a w).mono ?_
    rintro e w1 ⟨rfl, hw1⟩
    subst hw1
    go_wp2_with fail
    refine (isNaN_str b _).mono ?_
    rintro e w2 ⟨rfl, hw2⟩
    subst hw2
    go_wp2_with fail
    go_ret
    exact ⟨by rw [HC.out]; rfl, rfl⟩

/-- the first that isn't 0, of many -/
def orL : List Int → Int
  | [] => 0
  | x :: l => orI x (orL l)
theorem orL_three (a b c : Int) : orL [a, b, c] = orI a (orI b c) := by
  have : orI c 0 = c := by unfold orI; split <;> simp_all
  simp [orL, this]

set_option maxHeartbeats 4000000 in
theorem or_any (l : List Int) (g : Nat) (w : World) (hl : l.length ≤ 1000) (h : ∀ (i : Nat) x, l[i]? = some x → w.cell? ⟨g, i, none⟩ = some (.int .i64 x)) :
    Calls Tryz.prog 118 #[.slice (some ⟨g, 0, none⟩) l.length l.length] w fun e w' => e = .returned (.int .i64 (orL l)) ∧ w = w' := by
  have HC := Hold.mk h
  clear h
  go_enter Tryz.func118, Tryz.ntmps118
  go_wp2_with fail
  go_loop [8] (fun i => ∃ j : Nat, i = .int .i64 j ∧ j ≤ l.length ∧ orL l = orL (l.drop j)) (fun i => l.length - (intOf i).toNat)
  case atStart => exact ⟨0, rfl, Nat.zero_le _, rfl⟩
  case round =>
    obtain ⟨j, rfl, hj, hst⟩ := hrel
    have HST := Hold.mk hst
    clear hst
    by_cases hlt : j < l.length
    · obtain ⟨x, hx⟩ : ∃ x, l[j]? = some x := ⟨l[j], List.getElem?_eq_getElem hlt⟩
      have hcell := HC.out j x hx
      have HD : Hold (orL (l.drop j) = orI x (orL (l.drop (j + 1)))) := ⟨by
        obtain ⟨h1, e1⟩ := List.getElem?_eq_some_iff.1 hx
        rw [List.drop_eq_getElem_cons h1, orL, e1]⟩
      clear hx
      by_cases h0 : x = 0
      · subst h0
        have HR : Hold (orL l = orL (l.drop (j + 1))) := ⟨by rw [HST.out, HD.out]; simp [orI]⟩
        go_wp2_with fail
        exact ⟨⟨j + 1, by go_num, hlt, HR.out⟩, by simp [intOf]; omega⟩
      · have hb : (x != 0) = true := by simpa using h0
        have HR : Hold (orL l = x) := ⟨by rw [HST.out, HD.out]; simp [orI, h0]⟩
        clear h0
        go_wp2_with fail
        go_ret
        exact ⟨by rw [HR.out]; rfl, rfl⟩
    · have HR : Hold (orL l = 0) := ⟨by rw [HST.out, List.drop_eq_nil_of_le (by omega), orL]⟩
      go_wp2_with fail
      go_ret
      exact ⟨by rw [HR.out]; rfl, rfl⟩

end Go.Proofs.YtkhhbckpddkhlaaGreatDoor
