/- Indexes: Name and simple of the reference. -/
import Derived.Test.YtfpphpjobkhalaaGreatDoorZ13
namespace Go.Proofs.YtfpphpjobkhalaaGreatDoor
open Go.RowKit

/-- all bytes before j are so -/
theorem all_drop {s : ByteArray} {p : UInt8 → Bool} {j : Nat} (h : j < s.size) : (s.data.toList.drop j).all p = (p s[j] && (s.data.toList.drop (j + 1)).all p) := by
  rw [drop_at h, List.all_cons]
set_option maxRecDepth 100000 in
set_option maxHeartbeats 8000000 in
theorem rName_any (s : ByteArray) (w : World) (hs : s.size ≤ 9223372036854775807) : Calls Tryz.prog 50 #[.string s] w fun e w' => e = .returned (.bool (nameF s)) ∧ w = w' := by
  have HN : Hold (nameF s = (decide (1 ≤ s.size ∧ s.size ≤ 12) && (s.data.toList.drop 0).all fun b => lowN b.toNat)) := ⟨rfl⟩
  go_enter Tryz.func50, Tryz.ntmps50
  go_wp2_with fail
  go_loop [3] (fun i => ∃ j : Nat, i = .int .i64 j ∧ j ≤ s.size ∧ nameF s = (decide (1 ≤ s.size ∧ s.size ≤ 12) && (s.data.toList.drop j).all fun b => lowN b.toNat)) (fun i => s.size - (intOf i).toNat)
  case atStart => exact ⟨0, rfl, Nat.zero_le _, HN.out⟩
  case round =>
    obtain ⟨j, rfl, hj, hst⟩ := hrel
    have HST := Hold.mk hst
    clear hst HN
    by_cases hlt : j < s.size
    · replace HST := Hold.mk (HST.out.trans (congrArg (fun b => decide (1 ≤ s.size ∧ s.size ≤ 12) && b) (all_drop hlt)))
      obtain ⟨c, hc⟩ : ∃ c, s[j]'hlt = c := ⟨_, rfl⟩
      rw [hc] at HST
      have hcl := c.toNat_lt
      have hcs : c.toNat < 48 ∨ (48 ≤ c.toNat ∧ c.toNat ≤ 57) ∨ (58 ≤ c.toNat ∧ c.toNat < 97) ∨ (97 ≤ c.toNat ∧ c.toNat ≤ 122) ∨ 122 < c.toNat := by omega
      rcases hcs with h | h | h | h | h
      · have HR : Hold (nameF s = false) := ⟨by rw [HST.out, show lowN c.toNat = false from decide_eq_false (by omega)]; simp⟩
        go_wp2_with fail
        go_ret
        exact ⟨by rw [HR.out]; first | rfl | (simp; omega), rfl⟩
      · have HR : Hold (nameF s = (decide (1 ≤ s.size ∧ s.size ≤ 12) && (s.data.toList.drop (j + 1)).all fun b => lowN b.toNat)) := ⟨by rw [HST.out, show lowN c.toNat = true from decide_eq_true (by omega), Bool.true_and]⟩
        have e1 : (48 : Int) ≤ (c.toNat : Int) := by omega
        go_wp2_with fail
        exact ⟨⟨j + 1, by go_num, hlt, HR.out⟩, by simp [intOf]; omega⟩
      · have HR : Hold (nameF s = false) := ⟨by rw [HST.out, show lowN c.toNat = false from decide_eq_false (by omega)]; simp⟩
        go_wp2_with fail
        go_ret
        exact ⟨by rw [HR.out]; first | rfl | (simp; omega), rfl⟩
      · have HR : Hold (nameF s = (decide (1 ≤ s.size ∧ s.size ≤ 12) && (s.data.toList.drop (j + 1)).all fun b => lowN b.toNat)) := ⟨by rw [HST.out, show lowN c.toNat = true from decide_eq_true (by omega), Bool.true_and]⟩
        have e1 : (48 : Int) ≤ (c.toNat : Int) := by omega
        go_wp2_with fail
        exact ⟨⟨j + 1, by go_num, hlt, HR.out⟩, by simp [intOf]; omega⟩
      · have HR : Hold (nameF s = false) := ⟨by rw [HST.out, show lowN c.toNat = false from decide_eq_false (by omega)]; simp⟩
        go_wp2_with fail
        go_ret
        exact ⟨by rw [HR.out]; first | rfl | (simp; omega), rfl⟩
    · have HR : Hold (nameF s = decide (1 ≤ s.size ∧ s.size ≤ 12)) := ⟨by rw [HST.out, List.drop_eq_nil_of_le (by rw [size_list]; omega)]; simp⟩
      by_cases h1 : 1 ≤ s.size
      · by_cases h2 : s.size ≤ 12
        · replace HR := Hold.mk (HR.out.trans (decide_eq_true ⟨h1, h2⟩))
          go_wp2_with fail
          go_ret
          exact ⟨by rw [HR.out]; first | rfl | (simp; omega), rfl⟩
        · replace HR := Hold.mk (HR.out.trans (decide_eq_false (fun h => h2 h.2)))
          go_wp2_with fail
          go_ret
          exact ⟨by rw [HR.out]; first | rfl | (simp; omega), rfl⟩
      · replace HR := Hold.mk (HR.out.trans (decide_eq_false (fun h => h1 h.1)))
        go_wp2_with fail
        go_ret
        exact ⟨by rw [HR.out]; first | rfl | (simp; omega), rfl⟩
set_option maxRecDepth 100000 in
set_option maxHeartbeats 8000000 in
theorem rsimple_any (s : ByteArray) (w : World) (hs : s.size ≤ 9223372036854775807) : Calls Tryz.prog 86 #[.string s] w fun e w' => e = .returned (.bool (simpleF s)) ∧ w = w' := by
  have HN : Hold (simpleF s = (((s.data.toList.drop 0).all fun b => okN b.toNat) && decide (s.size ≤ 24))) := ⟨rfl⟩
  go_enter Tryz.func86, Tryz.ntmps86
  go_wp2_with fail
  go_loop [3] (fun i => ∃ j : Nat, i = .int .i64 j ∧ j ≤ s.size ∧ simpleF s = (((s.data.toList.drop j).all fun b => okN b.toNat) && decide (s.size ≤ 24))) (fun i => s.size - (intOf i).toNat)
  case atStart => exact ⟨0, rfl, Nat.zero_le _, HN.out⟩
  case round =>
    obtain ⟨j, rfl, hj, hst⟩ := hrel
    have HST := Hold.mk hst
    clear hst HN
    by_cases hlt : j < s.size
    · replace HST := Hold.mk (HST.out.trans (congrArg (fun b => b && decide (s.size ≤ 24)) (all_drop hlt)))
      obtain ⟨c, hc⟩ : ∃ c, s[j]'hlt = c := ⟨_, rfl⟩
      rw [hc] at HST
      have hcl := c.toNat_lt
      have hcs : (c.toNat < 46) ∨ c.toNat = 46 ∨ c.toNat = 47 ∨ (48 ≤ c.toNat ∧ c.toNat ≤ 57) ∨ (58 ≤ c.toNat ∧ c.toNat ≤ 64) ∨ (65 ≤ c.toNat ∧ c.toNat ≤ 90) ∨ (91 ≤ c.toNat ∧ c.toNat ≤ 94) ∨ c.toNat = 95 ∨ c.toNat = 96 ∨ (97 ≤ c.toNat ∧ c.toNat ≤ 122) ∨ 122 < c.toNat := by omega
      rcases hcs with h | h | h | h | h | h | h | h | h | h | h
      · have HR : Hold (simpleF s = false) := ⟨by rw [HST.out, show okN c.toNat = false from decide_eq_false (by omega)]; simp⟩
        have e1 : ((c.toNat : Int) != 95) = true := by simp; omega
        have e2 : ((c.toNat : Int) != 46) = true := by simp; omega
        have f0 : (c.toNat : Int) < 65 := by omega
        have f1 : ¬ 90 < (c.toNat : Int) := by omega
        have f2 : (c.toNat : Int) < 97 := by omega
        have f3 : ¬ 122 < (c.toNat : Int) := by omega
        have f4 : (c.toNat : Int) < 48 := by omega
        have f5 : ¬ 57 < (c.toNat : Int) := by omega
        clear h
        go_wp2_with fail
        go_ret
        exact ⟨by rw [HR.out]; first | rfl | (simp; omega), rfl⟩
      · have HR : Hold (simpleF s = (((s.data.toList.drop (j + 1)).all fun b => okN b.toNat) && decide (s.size ≤ 24))) := ⟨by rw [HST.out, show okN c.toNat = true from decide_eq_true (by omega), Bool.true_and]⟩
        have e1 : ((c.toNat : Int) != 95) = true := by simp; omega
        have e2 : ((c.toNat : Int) != 46) = false := by simp; omega
        have f0 : (c.toNat : Int) < 65 := by omega
        have f1 : ¬ 90 < (c.toNat : Int) := by omega
        have f2 : (c.toNat : Int) < 97 := by omega
        have f3 : ¬ 122 < (c.toNat : Int) := by omega
        have f4 : (c.toNat : Int) < 48 := by omega
        have f5 : ¬ 57 < (c.toNat : Int) := by omega
        clear h
        go_wp2_with fail
        exact ⟨⟨j + 1, by go_num, hlt, HR.out⟩, by simp [intOf]; omega⟩
      · have HR : Hold (simpleF s = false) := ⟨by rw [HST.out, show okN c.toNat = false from decide_eq_false (by omega)]; simp⟩
        have e1 : ((c.toNat : Int) != 95) = true := by simp; omega
        have e2 : ((c.toNat : Int) != 46) = true := by simp; omega
        have f0 : (c.toNat : Int) < 65 := by omega
        have f1 : ¬ 90 < (c.toNat : Int) := by omega
        have f2 : (c.toNat : Int) < 97 := by omega
        have f3 : ¬ 122 < (c.toNat : Int) := by omega
        have f4 : (c.toNat : Int) < 48 := by omega
        have f5 : ¬ 57 < (c.toNat : Int) := by omega
        clear h
        go_wp2_with fail
        go_ret
        exact ⟨by rw [HR.out]; first | rfl | (simp; omega), rfl⟩
      · have HR : Hold (simpleF s = (((s.data.toList.drop (j + 1)).all fun b => okN b.toNat) && decide (s.size ≤ 24))) := ⟨by rw [HST.out, show okN c.toNat = true from decide_eq_true (by omega), Bool.true_and]⟩
        have e1 : ((c.toNat : Int) != 95) = true := by simp; omega
        have e2 : ((c.toNat : Int) != 46) = true := by simp; omega
        have f0 : (c.toNat : Int) < 65 := by omega
        have f1 : ¬ 90 < (c.toNat : Int) := by omega
        have f2 : (c.toNat : Int) < 97 := by omega
        have f3 : ¬ 122 < (c.toNat : Int) := by omega
        have f4 : ¬ (c.toNat : Int) < 48 := by omega
        have f5 : ¬ 57 < (c.toNat : Int) := by omega
        clear h
        go_wp2_with fail
        exact ⟨⟨j + 1, by go_num, hlt, HR.out⟩, by simp [intOf]; omega⟩
      · have HR : Hold (simpleF s = false) := ⟨by rw [HST.out, show okN c.toNat = false from decide_eq_false (by omega)]; simp⟩
        have e1 : ((c.toNat : Int) != 95) = true := by simp; omega
        have e2 : ((c.toNat : Int) != 46) = true := by simp; omega
        have f0 : (c.toNat : Int) < 65 := by omega
        have f1 : ¬ 90 < (c.toNat : Int) := by omega
        have f2 : (c.toNat : Int) < 97 := by omega
        have f3 : ¬ 122 < (c.toNat : Int) := by omega
        have f4 : ¬ (c.toNat : Int) < 48 := by omega
        have f5 : 57 < (c.toNat : Int) := by omega
        clear h
        go_wp2_with fail
        go_ret
        exact ⟨by rw [HR.out]; first | rfl | (simp; omega), rfl⟩
      · have HR : Hold (simpleF s = (((s.data.toList.drop (j + 1)).all fun b => okN b.toNat) && decide (s.size ≤ 24))) := ⟨by rw [HST.out, show okN c.toNat = true from decide_eq_true (by omega), Bool.true_and]⟩
        have e1 : ((c.toNat : Int) != 95) = true := by simp; omega
        have e2 : ((c.toNat : Int) != 46) = true := by simp; omega
        have f0 : ¬ (c.toNat : Int) < 65 := by omega
        have f1 : ¬ 90 < (c.toNat : Int) := by omega
        have f2 : (c.toNat : Int) < 97 := by omega
        have f3 : ¬ 122 < (c.toNat : Int) := by omega
        have f4 : ¬ (c.toNat : Int) < 48 := by omega
        have f5 : 57 < (c.toNat : Int) := by omega
        clear h
        go_wp2_with fail
        exact ⟨⟨j + 1, by go_num, hlt, HR.out⟩, by simp [intOf]; omega⟩
      · have HR : Hold (simpleF s = false) := ⟨by rw [HST.out, show okN c.toNat = false from decide_eq_false (by omega)]; simp⟩
        have e1 : ((c.toNat : Int) != 95) = true := by simp; omega
        have e2 : ((c.toNat : Int) != 46) = true := by simp; omega
        have f0 : ¬ (c.toNat : Int) < 65 := by omega
        have f1 : 90 < (c.toNat : Int) := by omega
        have f2 : (c.toNat : Int) < 97 := by omega
        have f3 : ¬ 122 < (c.toNat : Int) := by omega
        have f4 : ¬ (c.toNat : Int) < 48 := by omega
        have f5 : 57 < (c.toNat : Int) := by omega
        clear h
        go_wp2_with fail
        go_ret
        exact ⟨by rw [HR.out]; first | rfl | (simp; omega), rfl⟩
      · have HR : Hold (simpleF s = (((s.data.toList.drop (j + 1)).all fun b => okN b.toNat) && decide (s.size ≤ 24))) := ⟨by rw [HST.out, show okN c.toNat = true from decide_eq_true (by omega), Bool.true_and]⟩
        have e1 : ((c.toNat : Int) != 95) = false := by simp; omega
        have e2 : ((c.toNat : Int) != 46) = true := by simp; omega
        have f0 : ¬ (c.toNat : Int) < 65 := by omega
        have f1 : 90 < (c.toNat : Int) := by omega
        have f2 : (c.toNat : Int) < 97 := by omega
        have f3 : ¬ 122 < (c.toNat : Int) := by omega
        have f4 : ¬ (c.toNat : Int) < 48 := by omega
        have f5 : 57 < (c.toNat : Int) := by omega
        clear h
        go_wp2_with fail
        exact ⟨⟨j + 1, by go_num, hlt, HR.out⟩, by simp [intOf]; omega⟩
      · have HR : Hold (simpleF s = false) := ⟨by rw [HST.out, show okN c.toNat = false from decide_eq_false (by omega)]; simp⟩
        have e1 : ((c.toNat : Int) != 95) = true := by simp; omega
        have e2 : ((c.toNat : Int) != 46) = true := by simp; omega
        have f0 : ¬ (c.toNat : Int) < 65 := by omega
        have f1 : 90 < (c.toNat : Int) := by omega
        have f2 : (c.toNat : Int) < 97 := by omega
        have f3 : ¬ 122 < (c.toNat : Int) := by omega
        have f4 : ¬ (c.toNat : Int) < 48 := by omega
        have f5 : 57 < (c.toNat : Int) := by omega
        clear h
        go_wp2_with fail
        go_ret
        exact ⟨by rw [HR.out]; first | rfl | (simp; omega), rfl⟩
      · have HR : Hold (simpleF s = (((s.data.toList.drop (j + 1)).all fun b => okN b.toNat) && decide (s.size ≤ 24))) := ⟨by rw [HST.out, show okN c.toNat = true from decide_eq_true (by omega), Bool.true_and]⟩
        have e1 : ((c.toNat : Int) != 95) = true := by simp; omega
        have e2 : ((c.toNat : Int) != 46) = true := by simp; omega
        have f0 : ¬ (c.toNat : Int) < 65 := by omega
        have f1 : 90 < (c.toNat : Int) := by omega
        have f2 : ¬ (c.toNat : Int) < 97 := by omega
        have f3 : ¬ 122 < (c.toNat : Int) := by omega
        have f4 : ¬ (c.toNat : Int) < 48 := by omega
        have f5 : 57 < (c.toNat : Int) := by omega
        clear h
        go_wp2_with fail
        exact ⟨⟨j + 1, by go_num, hlt, HR.out⟩, by simp [intOf]; omega⟩
      · have HR : Hold (simpleF s = false) := ⟨by rw [HST.out, show okN c.toNat = false from decide_eq_false (by omega)]; simp⟩
        have e1 : ((c.toNat : Int) != 95) = true := by simp; omega
        have e2 : ((c.toNat : Int) != 46) = true := by simp; omega
        have f0 : ¬ (c.toNat : Int) < 65 := by omega
        have f1 : 90 < (c.toNat : Int) := by omega
        have f2 : ¬ (c.toNat : Int) < 97 := by omega
        have f3 : 122 < (c.toNat : Int) := by omega
        have f4 : ¬ (c.toNat : Int) < 48 := by omega
        have f5 : 57 < (c.toNat : Int) := by omega
        clear h
        go_wp2_with fail
        go_ret
        exact ⟨by rw [HR.out]; first | rfl | (simp; omega), rfl⟩
    · have HR : Hold (simpleF s = decide (s.size ≤ 24)) := ⟨by rw [HST.out, List.drop_eq_nil_of_le (by rw [size_list]; omega)]; simp⟩
      by_cases h1 : s.size ≤ 24
      · replace HR := Hold.mk (HR.out.trans (decide_eq_true h1))
        go_wp2_with fail
        go_ret
        exact ⟨by rw [HR.out]; first | rfl | (simp; omega), rfl⟩
      · replace HR := Hold.mk (HR.out.trans (decide_eq_false h1))
        go_wp2_with fail
        go_ret
        exact ⟨by rw [HR.out]; first | rfl | (simp; omega), rfl⟩
end Go.Proofs.YtfpphpjobkhalaaGreatDoor
