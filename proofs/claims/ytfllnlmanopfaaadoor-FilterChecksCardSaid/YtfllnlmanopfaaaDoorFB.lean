/- Paths: numbers and places, walked. -/
import Derived.Test.YtfllnlmanopfaaaDoorFA
import Derived.Test.YtfllnlmanopfaaaDoorSA
namespace Go.Proofs.YtfllnlmanopfaaaDoor
open Go.RowKit

theorem numF_no {s : ByteArray} (h : s.size = 0 ∨ 4 < s.size ∨ 1 < s.size ∧ s.data.toList[0]? = some 48) : numF s = -1 := by unfold numF; rw [if_pos h]
theorem numF_go {s : ByteArray} (h : ¬ (s.size = 0 ∨ 4 < s.size ∨ 1 < s.size ∧ s.data.toList[0]? = some 48)) : numF s = numGo s.data.toList 0 := by unfold numF; rw [if_neg h]
theorem drop_at {s : ByteArray} {j : Nat} (h : j < s.size) : s.data.toList.drop j = s[j] :: s.data.toList.drop (j + 1) := by
  rw [List.drop_eq_getElem_cons (by rw [size_list]; exact h)]
  congr 1
theorem numGo_bad {c : UInt8} {l : List UInt8} {n : Nat} (h : c.toNat < 48 ∨ 57 < c.toNat) : numGo (c :: l) n = -1 := by rw [numGo, if_pos h]
theorem numGo_on {c : UInt8} {l : List UInt8} {n : Nat} (h : ¬ (c.toNat < 48 ∨ 57 < c.toNat)) : numGo (c :: l) n = numGo l (n * 10 + (c.toNat - 48)) := by rw [numGo, if_neg h]
theorem idx_hit {s n : ByteArray} {l : List ByteArray} {j : Nat} (h : n = s) : idxGo s (n :: l) j = j := by rw [idxGo, if_pos h]
theorem idx_on {s n : ByteArray} {l : List ByteArray} {j : Nat} (h : n ≠ s) : idxGo s (n :: l) j = idxGo s l (j + 1) := by rw [idxGo, if_neg h]
theorem drop_name {l : List ByteArray} {j : Nat} {n : ByteArray} (h : l[j]? = some n) : l.drop j = n :: l.drop (j + 1) := by
  obtain ⟨hj, e⟩ := List.getElem?_eq_some_iff.1 h
  rw [List.drop_eq_getElem_cons hj, e]
theorem numGo_lt : ∀ (l : List UInt8) (n : Nat), numGo l n = -1 ∨ ∃ q : Nat, numGo l n = q
  | [], n => .inr ⟨n, rfl⟩
  | c :: l, n => by
    rw [numGo]; split
    · exact .inl rfl
    · exact numGo_lt l _
theorem numF_cases (s : ByteArray) : numF s = -1 ∨ ∃ q : Nat, numF s = q := by
  unfold numF; split
  · exact .inl rfl
  · exact numGo_lt _ _
theorem wrap_sub (c : UInt8) (h : 48 ≤ c.toNat) : IntKind.u8.wrap ((c.toNat : Int) - 48) = ((c.toNat - 48 : Nat) : Int) := by
  have := c.toNat_lt
  rw [show (c.toNat : Int) - 48 = ((c.toNat - 48 : Nat) : Int) by omega]
  simp [IntKind.wrap, IntKind.bits, IntKind.signed]; omega
theorem str_eq {a b : ByteArray} (h : a = b) : (a.toList == b.toList) = true := by rw [h]; simp

set_option maxRecDepth 100000 in
set_option maxHeartbeats 8000000 in
theorem number_any (s : ByteArray) (w : World) (hs : s.size ≤ 1000000) :
    Calls Tryd.prog 106 #[.string s] w fun e w' => e = .returned (.int .i64 (numF s)) ∧ w = w' := by
  by_cases h0 : s.size = 0
  · have HN := Hold.mk (numF_no (.inl h0))
    have b0 : ((s.size : Int) == 0) = true := by rw [h0]; rfl
    clear h0
    go_enter Tryd.func106, Tryd.ntmps106
    go_wp2_with fail
    go_ret
    exact ⟨by rw [HN.out]; rfl, rfl⟩
  have b0 : ((s.size : Int) == 0) = false := by rw [beq_eq_false_iff_ne]; omega
  by_cases h4 : 4 < s.size
  · have HN := Hold.mk (numF_no (.inr (.inl h4)))
    go_enter Tryd.func106, Tryd.ntmps106
    go_wp2_with fail
    go_ret
    exact ⟨by rw [HN.out]; rfl, rfl⟩
  have hp : 0 < s.size := by omega
  have main : ∀ (HH : ¬ (s.size = 0 ∨ 4 < s.size ∨ 1 < s.size ∧ s.data.toList[0]? = some 48)) (hx : ¬ 1 < s.size ∨ (1 < s.size ∧ ((s[0].toNat : Int) == 48) = false)), Calls Tryd.prog 106 #[.string s] w fun e w' => e = .returned (.int .i64 (numF s)) ∧ w = w' := by
    intro HH hx
    have HN := Hold.mk (numF_go HH)
    have HSZ := Hold.mk h4
    clear HH h0
    rcases hx with hx | ⟨hx, hy⟩
    all_goals
      go_enter Tryd.func106, Tryd.ntmps106
      go_wp2_with fail
      go_loop [3, 4] (fun n i => ∃ j m : Nat, i = .int .i64 j ∧ n = .int .i64 m ∧ j ≤ s.size ∧ m < 10 ^ j ∧ numF s = numGo (s.data.toList.drop j) m) (fun _ i => s.size - (intOf i).toNat)
      case atStart => exact ⟨0, 0, rfl, rfl, Nat.zero_le _, by decide, by rw [HN.out]; rfl⟩
      case round =>
        obtain ⟨j, m, rfl, rfl, hj, hm, hst⟩ := hrel
        have HST := Hold.mk hst
        have HM := Hold.mk hm
        clear hst hm
        by_cases hlt : j < s.size
        · have hm2 : m < 10000 := Nat.lt_of_lt_of_le HM.out (Nat.pow_le_pow_right (by decide) (show j ≤ 4 by have := HSZ.out; omega))
          have HD := Hold.mk (drop_at hlt)
          obtain ⟨c, hc⟩ : ∃ c, s[j]'hlt = c := ⟨_, rfl⟩
          rw [hc] at HD
          have hcl := c.toNat_lt
          by_cases hlo : c.toNat < 48
          · have HB := Hold.mk (HST.out.trans ((congrArg (fun l => numGo l m) HD.out).trans (numGo_bad (.inl hlo))))
            have e1 : (c.toNat : Int) < 48 := by omega
            go_wp2_with fail
            go_ret
            exact ⟨by rw [HB.out]; rfl, rfl⟩
          by_cases hhi : 57 < c.toNat
          · have HB := Hold.mk (HST.out.trans ((congrArg (fun l => numGo l m) HD.out).trans (numGo_bad (.inr hhi))))
            have e1 : ¬ (c.toNat : Int) < 48 := by omega
            have e2 : 57 < (c.toNat : Int) := by omega
            go_wp2_with fail
            go_ret
            exact ⟨by rw [HB.out]; rfl, rfl⟩
          have HB := Hold.mk (HST.out.trans ((congrArg (fun l => numGo l m) HD.out).trans (numGo_on (by omega))))
          have e1 : ¬ (c.toNat : Int) < 48 := by omega
          have e2 : ¬ 57 < (c.toNat : Int) := by omega
          have e3 := wrap_sub c (by omega)
          have hq : c.toNat - 48 < 10 := by omega
          clear hlo hhi
          generalize c.toNat - 48 = q at *
          go_wp2_with fail
          exact ⟨⟨j + 1, m * 10 + q, by go_num, by go_num, hlt, by rw [Nat.pow_succ]; have := HM.out; omega, HB.out⟩, by simp [intOf]; omega⟩
        · have HB : Hold (numF s = m) := ⟨by rw [HST.out, List.drop_eq_nil_of_le (by rw [size_list]; omega), numGo]⟩
          go_wp2_with fail
          go_ret
          exact ⟨by rw [HB.out]; rfl, rfl⟩
  by_cases h1 : 1 < s.size
  · by_cases hz : s[0] = 48
    · have HN := Hold.mk (numF_no (.inr (.inr ⟨h1, by rw [byte_at hp, hz]⟩)))
      have b1 : ((s[0].toNat : Int) == 48) = true := byte_is hz
      clear hz main h0
      go_enter Tryd.func106, Tryd.ntmps106
      go_wp2_with fail
      go_ret
      exact ⟨by rw [HN.out]; rfl, rfl⟩
    · refine main ?_ (.inr ⟨h1, byte_ne hz⟩)
      rintro (h | h | ⟨_, h⟩)
      · exact h0 h
      · exact h4 h
      · rw [byte_at hp] at h; exact hz (Option.some.inj h)
  · refine main ?_ (.inl h1)
    rintro (h | h | ⟨h, _⟩)
    · exact h0 h
    · exact h4 h
    · exact h1 h

set_option maxRecDepth 100000 in
set_option maxHeartbeats 8000000 in
theorem place_any (v : JV) (x : Value) (s : ByteArray) (w : World) (hx : JAt (cf w) v x) (hs : s.size ≤ 1000000) :
    Calls Tryd.prog 73 #[x, .string s] w fun e w' => e = .returned (.int .i64 (placeF v s)) ∧ Below w.heap.size w w' := by
  obtain ⟨k, n, t, nm, it, na, ncap, ia, icap, rfl, rfl, _, _, _, hst, hit⟩ := hx.open
  have hilen : it.length ≤ 9223372036854775807 := by obtain ⟨_, _, _, h, _⟩ := hit; exact h
  have HNUM := Hold.mk (fun w => number_any s w hs)
  clear hx hit
  by_cases h5 : k = 5
  · subst h5
    rcases numF_cases s with hm | ⟨q, hq⟩
    · have HP : Hold (placeF (.mk 5 n t nm it) s = -1) := ⟨by unfold placeF; rw [if_pos ⟨rfl, by rw [hm]; omega⟩, hm]⟩
      rw [hm] at HNUM
      clear hm
      go_enter Tryd.func73, Tryd.ntmps73
      go_wp2_with fail
      refine (HNUM.out _).mono ?_
      rintro e w1 ⟨rfl, rfl⟩
      have hneg : (-1 : Int) < (it.length : Int) := by omega
      go_wp2_with fail
      go_ret
      exact ⟨by rw [HP.out]; rfl, (Below.refl _ _).alloc (Nat.le_refl _) _⟩
    · rw [hq] at HNUM
      by_cases hlt : q < it.length
      · have HP : Hold (placeF (.mk 5 n t nm it) s = q) := ⟨by unfold placeF; rw [if_pos ⟨rfl, by rw [hq]; exact Int.ofNat_lt.2 hlt⟩, hq]⟩
        clear hq
        go_enter Tryd.func73, Tryd.ntmps73
        go_wp2_with fail
        refine (HNUM.out _).mono ?_
        rintro e w1 ⟨rfl, rfl⟩
        go_wp2_with fail
        go_ret
        exact ⟨by rw [HP.out]; rfl, (Below.refl _ _).alloc (Nat.le_refl _) _⟩
      · have HP : Hold (placeF (.mk 5 n t nm it) s = -1) := ⟨by unfold placeF; rw [if_neg (fun h => hlt (Int.ofNat_lt.1 (by rw [← hq]; exact h.2))), if_neg (show ¬ (JV.mk 5 n t nm it).kind = 6 from (by decide : ¬ (5 : Int) = 6))]⟩
        clear hq
        go_enter Tryd.func73, Tryd.ntmps73
        go_wp2_with fail
        refine (HNUM.out _).mono ?_
        rintro e w1 ⟨rfl, rfl⟩
        go_wp2_with fail
        go_ret
        exact ⟨by rw [HP.out]; rfl, (Below.refl _ _).alloc (Nat.le_refl _) _⟩
  by_cases h6 : k = 6
  · subst h6
    have HP : Hold (placeF (.mk 6 n t nm it) s = idxGo s nm 0) := ⟨by unfold placeF; rw [if_neg (fun h => absurd h.1 (show ¬ (6 : Int) = 5 by decide)), if_pos (show (JV.mk 6 n t nm it).kind = 6 from rfl)]; rfl⟩
    obtain ⟨na', ncap', e, hnlen, hns⟩ := hst
    cases e
    have HS := Hold.mk hns
    clear hns h5 HNUM
    go_enter Tryd.func73, Tryd.ntmps73
    go_wp2_with fail
    go_loopw [6] (fun i wr => ∃ j : Nat, i = .int .i64 j ∧ j ≤ nm.length ∧ idxGo s nm 0 = idxGo s (nm.drop j) j ∧ Boxed w wr _) (fun i _ => nm.length - (intOf i).toNat)
    case atStart => exact ⟨0, rfl, Nat.zero_le _, rfl, Boxed.refl _ _⟩
    case round =>
      obtain ⟨j, rfl, hj, hst, hbx⟩ := hrel
      have HST := Hold.mk hst
      have HB := Hold.mk hbx
      have y3 := hbx.c3
      clear hst hbx
      by_cases hlt : j < nm.length
      · obtain ⟨u, hu⟩ : ∃ u, nm[j]? = some u := ⟨nm[j], List.getElem?_eq_getElem hlt⟩
        obtain ⟨_, sb, so, rfl, hsc⟩ := HS.out j u hu
        have z5 := cle_below HB.out.below _ _ _ hsc
        unfold cf at z5
        have HD := Hold.mk (drop_name hu)
        clear hsc hu
        by_cases he : u = s
        · have hb : (u.toList == s.toList) = true := str_eq he
          have HR := Hold.mk (HST.out.trans ((congrArg (fun l => idxGo s l j) HD.out).trans (idx_hit he)))
          clear he
          go_wp2_with fail
          go_ret
          exact ⟨by rw [HP.out, HR.out]; rfl, HB.out.below⟩
        · have hb : (u.toList == s.toList) = false := str_ne he
          have HR := Hold.mk (HST.out.trans ((congrArg (fun l => idxGo s l j) HD.out).trans (idx_on he)))
          clear he
          go_wp2_with fail
          exact ⟨⟨j + 1, by go_num, hlt, HR.out, HB.out⟩, by simp [intOf]; omega⟩
      · have HR : Hold (idxGo s nm 0 = -1) := ⟨by rw [HST.out, List.drop_eq_nil_of_le (by omega), idxGo]⟩
        go_wp2_with fail
        go_ret
        exact ⟨by rw [HP.out, HR.out]; rfl, HB.out.below⟩
  have HP : Hold (placeF (.mk k n t nm it) s = -1) := ⟨by unfold placeF; rw [if_neg (fun h => h5 h.1), if_neg (show ¬ (JV.mk k n t nm it).kind = 6 from h6)]⟩
  have b5 : (k == 5) = false := by simpa using h5
  have b6 : (k == 6) = false := by simpa using h6
  clear h5 h6
  go_enter Tryd.func73, Tryd.ntmps73
  go_wp2_with fail
  go_ret
  exact ⟨by rw [HP.out]; rfl, (Below.refl _ _).alloc (Nat.le_refl _) _⟩

set_option maxRecDepth 100000 in
set_option maxHeartbeats 8000000 in
theorem rnumber_any (s : ByteArray) (w : World) (hs : s.size ≤ 1000000) :
    Calls Tryd.prog 139 #[.string s] w fun e w' => e = .returned (.int .i64 (numF s)) ∧ w = w' := by
  by_cases h0 : s.size = 0
  · have HN := Hold.mk (numF_no (.inl h0))
    have b0 : ((s.size : Int) == 0) = true := by rw [h0]; rfl
    clear h0
    go_enter Tryd.func139, Tryd.ntmps139
    go_wp2_with fail
    go_ret
    exact ⟨by rw [HN.out]; rfl, rfl⟩
  have b0 : ((s.size : Int) == 0) = false := by rw [beq_eq_false_iff_ne]; omega
  by_cases h4 : 4 < s.size
  · have HN := Hold.mk (numF_no (.inr (.inl h4)))
    go_enter Tryd.func139, Tryd.ntmps139
    go_wp2_with fail
    go_ret
    exact ⟨by rw [HN.out]; rfl, rfl⟩
  have hp : 0 < s.size := by omega
  have main : ∀ (HH : ¬ (s.size = 0 ∨ 4 < s.size ∨ 1 < s.size ∧ s.data.toList[0]? = some 48)) (hx : ¬ 1 < s.size ∨ (1 < s.size ∧ ((s[0].toNat : Int) == 48) = false)), Calls Tryd.prog 139 #[.string s] w fun e w' => e = .returned (.int .i64 (numF s)) ∧ w = w' := by
    intro HH hx
    have HN := Hold.mk (numF_go HH)
    have HSZ := Hold.mk h4
    clear HH h0
    rcases hx with hx | ⟨hx, hy⟩
    all_goals
      go_enter Tryd.func139, Tryd.ntmps139
      go_wp2_with fail
      go_loop [3, 4] (fun n i => ∃ j m : Nat, i = .int .i64 j ∧ n = .int .i64 m ∧ j ≤ s.size ∧ m < 10 ^ j ∧ numF s = numGo (s.data.toList.drop j) m) (fun _ i => s.size - (intOf i).toNat)
      case atStart => exact ⟨0, 0, rfl, rfl, Nat.zero_le _, by decide, by rw [HN.out]; rfl⟩
      case round =>
        obtain ⟨j, m, rfl, rfl, hj, hm, hst⟩ := hrel
        have HST := Hold.mk hst
        have HM := Hold.mk hm
        clear hst hm
        by_cases hlt : j < s.size
        · have hm2 : m < 10000 := Nat.lt_of_lt_of_le HM.out (Nat.pow_le_pow_right (by decide) (show j ≤ 4 by have := HSZ.out; omega))
          have HD := Hold.mk (drop_at hlt)
          obtain ⟨c, hc⟩ : ∃ c, s[j]'hlt = c := ⟨_, rfl⟩
          rw [hc] at HD
          have hcl := c.toNat_lt
          by_cases hlo : c.toNat < 48
          · have HB := Hold.mk (HST.out.trans ((congrArg (fun l => numGo l m) HD.out).trans (numGo_bad (.inl hlo))))
            have e1 : (c.toNat : Int) < 48 := by omega
            go_wp2_with fail
            go_ret
            exact ⟨by rw [HB.out]; rfl, rfl⟩
          by_cases hhi : 57 < c.toNat
          · have HB := Hold.mk (HST.out.trans ((congrArg (fun l => numGo l m) HD.out).trans (numGo_bad (.inr hhi))))
            have e1 : ¬ (c.toNat : Int) < 48 := by omega
            have e2 : 57 < (c.toNat : Int) := by omega
            go_wp2_with fail
            go_ret
            exact ⟨by rw [HB.out]; rfl, rfl⟩
          have HB := Hold.mk (HST.out.trans ((congrArg (fun l => numGo l m) HD.out).trans (numGo_on (by omega))))
          have e1 : ¬ (c.toNat : Int) < 48 := by omega
          have e2 : ¬ 57 < (c.toNat : Int) := by omega
          have e3 := wrap_sub c (by omega)
          have hq : c.toNat - 48 < 10 := by omega
          clear hlo hhi
          generalize c.toNat - 48 = q at *
          go_wp2_with fail
          exact ⟨⟨j + 1, m * 10 + q, by go_num, by go_num, hlt, by rw [Nat.pow_succ]; have := HM.out; omega, HB.out⟩, by simp [intOf]; omega⟩
        · have HB : Hold (numF s = m) := ⟨by rw [HST.out, List.drop_eq_nil_of_le (by rw [size_list]; omega), numGo]⟩
          go_wp2_with fail
          go_ret
          exact ⟨by rw [HB.out]; rfl, rfl⟩
  by_cases h1 : 1 < s.size
  · by_cases hz : s[0] = 48
    · have HN := Hold.mk (numF_no (.inr (.inr ⟨h1, by rw [byte_at hp, hz]⟩)))
      have b1 : ((s[0].toNat : Int) == 48) = true := byte_is hz
      clear hz main h0
      go_enter Tryd.func139, Tryd.ntmps139
      go_wp2_with fail
      go_ret
      exact ⟨by rw [HN.out]; rfl, rfl⟩
    · refine main ?_ (.inr ⟨h1, byte_ne hz⟩)
      rintro (h | h | ⟨_, h⟩)
      · exact h0 h
      · exact h4 h
      · rw [byte_at hp] at h; exact hz (Option.some.inj h)
  · refine main ?_ (.inl h1)
    rintro (h | h | ⟨h, _⟩)
    · exact h0 h
    · exact h4 h
    · exact h1 h

set_option maxRecDepth 100000 in
set_option maxHeartbeats 8000000 in
theorem rplace_any (v : JV) (x : Value) (s : ByteArray) (w : World) (hx : JAt (cf w) v x) (hs : s.size ≤ 1000000) :
    Calls Tryd.prog 99 #[x, .string s] w fun e w' => e = .returned (.int .i64 (placeF v s)) ∧ Below w.heap.size w w' := by
  obtain ⟨k, n, t, nm, it, na, ncap, ia, icap, rfl, rfl, _, _, _, hst, hit⟩ := hx.open
  have hilen : it.length ≤ 9223372036854775807 := by obtain ⟨_, _, _, h, _⟩ := hit; exact h
  have HNUM := Hold.mk (fun w => rnumber_any s w hs)
  clear hx hit
  by_cases h5 : k = 5
  · subst h5
    rcases numF_cases s with hm | ⟨q, hq⟩
    · have HP : Hold (placeF (.mk 5 n t nm it) s = -1) := ⟨by unfold placeF; rw [if_pos ⟨rfl, by rw [hm]; omega⟩, hm]⟩
      rw [hm] at HNUM
      clear hm
      go_enter Tryd.func99, Tryd.ntmps99
      go_wp2_with fail
      refine (HNUM.out _).mono ?_
      rintro e w1 ⟨rfl, rfl⟩
      have hneg : (-1 : Int) < (it.length : Int) := by omega
      go_wp2_with fail
      go_ret
      exact ⟨by rw [HP.out]; rfl, (Below.refl _ _).alloc (Nat.le_refl _) _⟩
    · rw [hq] at HNUM
      by_cases hlt : q < it.length
      · have HP : Hold (placeF (.mk 5 n t nm it) s = q) := ⟨by unfold placeF; rw [if_pos ⟨rfl, by rw [hq]; exact Int.ofNat_lt.2 hlt⟩, hq]⟩
        clear hq
        go_enter Tryd.func99, Tryd.ntmps99
        go_wp2_with fail
        refine (HNUM.out _).mono ?_
        rintro e w1 ⟨rfl, rfl⟩
        go_wp2_with fail
        go_ret
        exact ⟨by rw [HP.out]; rfl, (Below.refl _ _).alloc (Nat.le_refl _) _⟩
      · have HP : Hold (placeF (.mk 5 n t nm it) s = -1) := ⟨by unfold placeF; rw [if_neg (fun h => hlt (Int.ofNat_lt.1 (by rw [← hq]; exact h.2))), if_neg (show ¬ (JV.mk 5 n t nm it).kind = 6 from (by decide : ¬ (5 : Int) = 6))]⟩
        clear hq
        go_enter Tryd.func99, Tryd.ntmps99
        go_wp2_with fail
        refine (HNUM.out _).mono ?_
        rintro e w1 ⟨rfl, rfl⟩
        go_wp2_with fail
        go_ret
        exact ⟨by rw [HP.out]; rfl, (Below.refl _ _).alloc (Nat.le_refl _) _⟩
  by_cases h6 : k = 6
  · subst h6
    have HP : Hold (placeF (.mk 6 n t nm it) s = idxGo s nm 0) := ⟨by unfold placeF; rw [if_neg (fun h => absurd h.1 (show ¬ (6 : Int) = 5 by decide)), if_pos (show (JV.mk 6 n t nm it).kind = 6 from rfl)]; rfl⟩
    obtain ⟨na', ncap', e, hnlen, hns⟩ := hst
    cases e
    have HS := Hold.mk hns
    clear hns h5 HNUM
    go_enter Tryd.func99, Tryd.ntmps99
    go_wp2_with fail
    go_loopw [6] (fun i wr => ∃ j : Nat, i = .int .i64 j ∧ j ≤ nm.length ∧ idxGo s nm 0 = idxGo s (nm.drop j) j ∧ Boxed w wr _) (fun i _ => nm.length - (intOf i).toNat)
    case atStart => exact ⟨0, rfl, Nat.zero_le _, rfl, Boxed.refl _ _⟩
    case round =>
      obtain ⟨j, rfl, hj, hst, hbx⟩ := hrel
      have HST := Hold.mk hst
      have HB := Hold.mk hbx
      have y3 := hbx.c3
      clear hst hbx
      by_cases hlt : j < nm.length
      · obtain ⟨u, hu⟩ : ∃ u, nm[j]? = some u := ⟨nm[j], List.getElem?_eq_getElem hlt⟩
        obtain ⟨_, sb, so, rfl, hsc⟩ := HS.out j u hu
        have z5 := cle_below HB.out.below _ _ _ hsc
        unfold cf at z5
        have HD := Hold.mk (drop_name hu)
        clear hsc hu
        by_cases he : u = s
        · have hb : (u.toList == s.toList) = true := str_eq he
          have HR := Hold.mk (HST.out.trans ((congrArg (fun l => idxGo s l j) HD.out).trans (idx_hit he)))
          clear he
          go_wp2_with fail
          go_ret
          exact ⟨by rw [HP.out, HR.out]; rfl, HB.out.below⟩
        · have hb : (u.toList == s.toList) = false := str_ne he
          have HR := Hold.mk (HST.out.trans ((congrArg (fun l => idxGo s l j) HD.out).trans (idx_on he)))
          clear he
          go_wp2_with fail
          exact ⟨⟨j + 1, by go_num, hlt, HR.out, HB.out⟩, by simp [intOf]; omega⟩
      · have HR : Hold (idxGo s nm 0 = -1) := ⟨by rw [HST.out, List.drop_eq_nil_of_le (by omega), idxGo]⟩
        go_wp2_with fail
        go_ret
        exact ⟨by rw [HP.out, HR.out]; rfl, HB.out.below⟩
  have HP : Hold (placeF (.mk k n t nm it) s = -1) := ⟨by unfold placeF; rw [if_neg (fun h => h5 h.1), if_neg (show ¬ (JV.mk k n t nm it).kind = 6 from h6)]⟩
  have b5 : (k == 5) = false := by simpa using h5
  have b6 : (k == 6) = false := by simpa using h6
  clear h5 h6
  go_enter Tryd.func99, Tryd.ntmps99
  go_wp2_with fail
  go_ret
  exact ⟨by rw [HP.out]; rfl, (Below.refl _ _).alloc (Nat.le_refl _) _⟩

end Go.Proofs.YtfllnlmanopfaaaDoor
