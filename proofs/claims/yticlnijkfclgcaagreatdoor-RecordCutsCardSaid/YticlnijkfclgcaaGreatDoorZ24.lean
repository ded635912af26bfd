/- Indexes: names and plain texts, of both. -/
import Derived.Test.YticlnijkfclgcaaGreatDoorZ21
import Derived.Test.YticlnijkfclgcaaGreatDoorELays
import Derived.Laws.RangeAny
namespace Go.Proofs.YticlnijkfclgcaaGreatDoor
open Go.RowKit

/-- letters, digits, _ and points -/
def okN (x : Nat) : Bool := decide (65 ≤ x ∧ x ≤ 90 ∨ 97 ≤ x ∧ x ≤ 122 ∨ 48 ≤ x ∧ x ≤ 57 ∨ x = 95 ∨ x = 46)
def plainS (s : ByteArray) : Bool := s.data.toList.all fun b => okN b.toNat
def lowN (x : Nat) : Bool := decide (97 ≤ x ∧ x ≤ 122 ∨ 48 ≤ x ∧ x ≤ 57)
def nameF (s : ByteArray) : Bool := decide (1 ≤ s.size ∧ s.size ≤ 12) && s.data.toList.all fun b => lowN b.toNat
def simpleF (s : ByteArray) : Bool := (s.data.toList.all fun b => okN b.toNat) && decide (s.size ≤ 24)
theorem okN_hi {x : Nat} (h : 128 ≤ x) : okN x = false := by unfold okN; rw [decide_eq_false]; omega
theorem idx_from (s : ByteArray) : ∀ f pos, s.size - pos ≤ f → decide (0 ≤ Lib.idxFuncFrom (fun x => !okN x) true s f pos) = !((s.data.toList.drop pos).all fun b => okN b.toNat)
  | 0, pos, h => by
    rw [Lib.idxFuncFrom, List.drop_eq_nil_of_le (by rw [size_list]; omega)]; rfl
  | f + 1, pos, h => by
    unfold Lib.idxFuncFrom
    by_cases hlt : pos < s.size
    · rw [if_pos hlt]
      have hd : s.data.toList.drop pos = s[pos] :: s.data.toList.drop (pos + 1) := drop_at hlt
      rw [hd, List.all_cons]
      by_cases ha : s[pos].toNat < 128
      · rw [decode_ascii s pos hlt ha]
        cases ho : okN s[pos].toNat with
        | true => simp only [Bool.not_true, Bool.false_eq_true, if_false, Bool.true_and]; exact idx_from s f (pos + 1) (by omega)
        | false => simp
      · have h2 := (decode_high s pos hlt (by omega)).1
        rw [okN_hi h2, okN_hi (show 128 ≤ s[pos].toNat by omega)]
        simp
    · rw [if_neg hlt, List.drop_eq_nil_of_le (by rw [size_list]; omega)]; rfl
theorem idx_plain (s : ByteArray) : decide (0 ≤ Lib.idxFunc (fun x => !okN x) true s) = !plainS s := by
  have := idx_from s s.size 0 (by omega)
  rw [List.drop_zero] at this
  exact this
set_option maxRecDepth 100000 in
set_option maxHeartbeats 4000000 in
theorem plain1_any (x : Nat) (w : World) : Calls Tryz.prog 116 #[.int .i32 (x : Int)] w fun e w' => e = .returned (.bool (!okN x)) ∧ Below w.heap.size w w' := by
  have hc : (x < 46) ∨ x = 46 ∨ x = 47 ∨ (48 ≤ x ∧ x ≤ 57) ∨ (58 ≤ x ∧ x ≤ 64) ∨ (65 ≤ x ∧ x ≤ 90) ∨ (91 ≤ x ∧ x ≤ 94) ∨ x = 95 ∨ x = 96 ∨ (97 ≤ x ∧ x ≤ 122) ∨ 122 < x := by omega
  rcases hc with h | h | h | h | h | h | h | h | h | h | h
  · have HR : Hold (okN x = false) := ⟨decide_eq_false (by omega)⟩
    have e1 : ((x : Int) != 95) = true := by simp; omega
    have e2 : ((x : Int) != 46) = true := by simp; omega
    go_enter Tryz.func116, Tryz.ntmps116
    go_wp2_with fail
    go_ret
    exact ⟨by rw [HR.out]; first | rfl | (simp; omega), Below.refl _ _⟩
  · have HR : Hold (okN x = true) := ⟨decide_eq_true (by omega)⟩
    have e1 : ((x : Int) != 95) = true := by simp; omega
    have e2 : ((x : Int) != 46) = false := by simp; omega
    have h1 : 46 ≤ x := by omega
    have h2 : x ≤ 46 := by omega
    clear h
    go_enter Tryz.func116, Tryz.ntmps116
    go_wp2_with fail
    go_ret
    exact ⟨by rw [HR.out]; first | rfl | (simp; omega), Below.refl _ _⟩
  · have HR : Hold (okN x = false) := ⟨decide_eq_false (by omega)⟩
    have e1 : ((x : Int) != 95) = true := by simp; omega
    have e2 : ((x : Int) != 46) = true := by simp; omega
    have h1 : 47 ≤ x := by omega
    have h2 : x ≤ 47 := by omega
    clear h
    go_enter Tryz.func116, Tryz.ntmps116
    go_wp2_with fail
    go_ret
    exact ⟨by rw [HR.out]; first | rfl | (simp; omega), Below.refl _ _⟩
  · have HR : Hold (okN x = true) := ⟨decide_eq_true (by omega)⟩
    have e1 : ((x : Int) != 95) = true := by simp; omega
    have e2 : ((x : Int) != 46) = true := by simp; omega
    go_enter Tryz.func116, Tryz.ntmps116
    go_wp2_with fail
    go_ret
    exact ⟨by rw [HR.out]; first | rfl | (simp; omega), Below.refl _ _⟩
  · have HR : Hold (okN x = false) := ⟨decide_eq_false (by omega)⟩
    have e1 : ((x : Int) != 95) = true := by simp; omega
    have e2 : ((x : Int) != 46) = true := by simp; omega
    go_enter Tryz.func116, Tryz.ntmps116
    go_wp2_with fail
    go_ret
    exact ⟨by rw [HR.out]; first | rfl | (simp; omega), Below.refl _ _⟩
  · have HR : Hold (okN x = true) := ⟨decide_eq_true (by omega)⟩
    have e1 : ((x : Int) != 95) = true := by simp; omega
    have e2 : ((x : Int) != 46) = true := by simp; omega
    go_enter Tryz.func116, Tryz.ntmps116
    go_wp2_with fail
    go_ret
    exact ⟨by rw [HR.out]; first | rfl | (simp; omega), Below.refl _ _⟩
  · have HR : Hold (okN x = false) := ⟨decide_eq_false (by omega)⟩
    have e1 : ((x : Int) != 95) = true := by simp; omega
    have e2 : ((x : Int) != 46) = true := by simp; omega
    go_enter Tryz.func116, Tryz.ntmps116
    go_wp2_with fail
    go_ret
    exact ⟨by rw [HR.out]; first | rfl | (simp; omega), Below.refl _ _⟩
  · have HR : Hold (okN x = true) := ⟨decide_eq_true (by omega)⟩
    have e1 : ((x : Int) != 95) = false := by simp; omega
    have e2 : ((x : Int) != 46) = true := by simp; omega
    have h1 : 95 ≤ x := by omega
    have h2 : x ≤ 95 := by omega
    clear h
    go_enter Tryz.func116, Tryz.ntmps116
    go_wp2_with fail
    go_ret
    exact ⟨by rw [HR.out]; first | rfl | (simp; omega), Below.refl _ _⟩
  · have HR : Hold (okN x = false) := ⟨decide_eq_false (by omega)⟩
    have e1 : ((x : Int) != 95) = true := by simp; omega
    have e2 : ((x : Int) != 46) = true := by simp; omega
    have h1 : 96 ≤ x := by omega
    have h2 : x ≤ 96 := by omega
    clear h
    go_enter Tryz.func116, Tryz.ntmps116
    go_wp2_with fail
    go_ret
    exact ⟨by rw [HR.out]; first | rfl | (simp; omega), Below.refl _ _⟩
  · have HR : Hold (okN x = true) := ⟨decide_eq_true (by omega)⟩
    have e1 : ((x : Int) != 95) = true := by simp; omega
    have e2 : ((x : Int) != 46) = true := by simp; omega
    go_enter Tryz.func116, Tryz.ntmps116
    go_wp2_with fail
    go_ret
    exact ⟨by rw [HR.out]; first | rfl | (simp; omega), Below.refl _ _⟩
  · have HR : Hold (okN x = false) := ⟨decide_eq_false (by omega)⟩
    have e1 : ((x : Int) != 95) = true := by simp; omega
    have e2 : ((x : Int) != 46) = true := by simp; omega
    go_enter Tryz.func116, Tryz.ntmps116
    go_wp2_with fail
    go_ret
    exact ⟨by rw [HR.out]; first | rfl | (simp; omega), Below.refl _ _⟩
theorem plain1_enters (args : Array Value) (w : World) : (callFunc 116 args).run Tryz.prog w = .ok (.enter 116 args) w := enters_of Tryz.func116 (by kernel_rfl) rfl args w
set_option maxHeartbeats 2000000 in
theorem plain_s (s : ByteArray) (w : World) : Calls Tryz.prog 94 #[.string s] w fun e w' => e = .returned (.bool (plainS s)) ∧ Below w.heap.size w w' := by
  have HX := Hold.mk (Any.strings_ContainsFunc_grows Tryz.laysCF 116 #[] plain1_enters (fun x => !okN x) s w (fun W x _ _ => plain1_any x W))
  rw [idx_plain] at HX
  generalize plainS s = b at HX ⊢
  go_enter Tryz.func94, Tryz.ntmps94
  go_wp2_with fail
  refine HX.out.mono ?_
  rintro e w1 ⟨rfl, hb1⟩
  have HB := Hold.mk hb1
  clear hb1 HX
  go_wp2_with fail
  go_ret
  exact ⟨by simp, HB.out⟩
/-! a name -/
theorem ok_ascii {x : Nat} (h : okN x = true) : x < 128 := by unfold okN at h; have := of_decide_eq_true h; omega
theorem lower_same : ∀ (l : List UInt8), Lib.toLowerA l = l ↔ ∀ b ∈ l, Lib.isUpperB b = false
  | [] => by simp [Lib.toLowerA]
  | b :: l => by
    have ih := lower_same l
    unfold Lib.toLowerA at ih ⊢
    rw [List.map_cons, List.cons.injEq, ih]
    constructor
    · rintro ⟨h1, h2⟩ c hc
      rcases List.mem_cons.1 hc with rfl | hc
      · cases hu : Lib.isUpperB c with
        | false => rfl
        | true =>
          unfold Lib.lowerB at h1
          rw [if_pos hu] at h1
          have := congrArg UInt8.toNat h1
          rw [UInt8.toNat_add] at this
          have h32 : (32 : UInt8).toNat = 32 := rfl
          have := c.toNat_lt
          omega
      · exact h2 c hc
    · intro h
      refine ⟨?_, fun c hc => h c (by simp [hc])⟩
      unfold Lib.lowerB
      rw [if_neg (by rw [h b (by simp)]; simp)]
theorem any_none (chars : List UInt8) : ∀ l : List UInt8, Lib.containsAny l chars = l.any fun b => chars.contains b
  | [] => by simp [Lib.containsAny, Lib.indexAny]
  | b :: l => by
    have ih := any_none chars l
    unfold Lib.containsAny at ih ⊢
    have e : Lib.indexAny (b :: l) chars = if chars.contains b then 0 else if Lib.indexAny l chars == -1 then -1 else Lib.indexAny l chars + 1 := rfl
    rw [List.any_cons, ← ih, e]
    have hg := Lib.indexAny_ge chars l
    generalize Lib.indexAny l chars = k at hg
    cases hc : chars.contains b with
    | true => simp
    | false =>
      by_cases h1 : k = -1
      · subst h1; rfl
      · have h0 : (k == -1) = false := by simpa using h1
        rw [h0]
        simp only [Bool.false_eq_true, if_false, Bool.false_or]
        rw [decide_eq_true (show (0 : Int) ≤ k by omega), decide_eq_true (show (0 : Int) ≤ k + 1 by omega)]
theorem upper_is (b : UInt8) : Lib.isUpperB b = decide (65 ≤ b.toNat ∧ b.toNat ≤ 90) := by
  unfold Lib.isUpperB
  rw [Bool.eq_iff_iff]
  simp [UInt8.le_iff_toNat_le]
theorem name_law (s : ByteArray) : nameF s = (decide (1 ≤ s.size ∧ s.size ≤ 12) && plainS s && decide (Lib.toLowerA s.data.toList = s.data.toList) && !Lib.containsAny s.data.toList [95, 46]) := by
  unfold nameF plainS
  rw [Bool.and_assoc, Bool.and_assoc]
  congr 1
  rw [any_none, Bool.eq_iff_iff]
  simp only [Bool.and_eq_true, List.all_eq_true, decide_eq_true_eq, lower_same, Bool.not_eq_true', List.any_eq_false]
  constructor
  · intro h
    refine ⟨fun b hb => ?_, fun b hb => ?_, fun b hb => ?_⟩
    · have := h b hb; unfold lowN at this; unfold okN; have := of_decide_eq_true this; exact decide_eq_true (by omega)
    · have := h b hb; unfold lowN at this; rw [upper_is]; have := of_decide_eq_true this; exact decide_eq_false (by omega)
    · have := h b hb; unfold lowN at this; have := of_decide_eq_true this
      simp only [List.contains_cons, List.contains_nil, Bool.or_false, Bool.or_eq_true, beq_iff_eq, not_or]
      constructor
      · rintro rfl; revert this; decide
      · rintro rfl; revert this; decide
  · rintro ⟨h1, h2, h3⟩ b hb
    have a1 := h1 b hb
    have a2 := h2 b hb
    have a3 := h3 b hb
    unfold okN at a1
    have a1 := of_decide_eq_true a1
    rw [upper_is] at a2
    have a2 := of_decide_eq_false a2
    simp only [List.contains_cons, List.contains_nil, Bool.or_false, Bool.or_eq_true, beq_iff_eq, not_or] at a3
    have b1 : b.toNat ≠ 95 := fun e => a3.1 (UInt8.toNat_inj.1 (by rw [e]; rfl))
    have b2 : b.toNat ≠ 46 := fun e => a3.2 (UInt8.toNat_inj.1 (by rw [e]; rfl))
    unfold lowN
    exact decide_eq_true (by omega)
set_option maxHeartbeats 4000000 in
theorem Name_any (s : ByteArray) (w : World) (hs : s.size ≤ 9223372036854775807) : Calls Tryz.prog 71 #[.string s] w fun e w' => e = .returned (.bool (nameF s)) ∧ Below w.heap.size w w' := by
  have HL := Hold.mk (name_law s)
  by_cases h1 : 1 ≤ s.size
  · by_cases h2 : s.size ≤ 12
    · replace HL : Hold (nameF s = (plainS s && decide (Lib.toLowerA s.data.toList = s.data.toList) && !Lib.containsAny s.data.toList [95, 46])) := ⟨by rw [HL.out, decide_eq_true (show 1 ≤ s.size ∧ s.size ≤ 12 from ⟨h1, h2⟩), Bool.true_and]⟩
      have HX := Hold.mk (plain_s s w)
      cases hp : plainS s with
      | false =>
        rw [hp] at HX
        have HR : Hold (nameF s = false) := ⟨by rw [HL.out, hp]; rfl⟩
        clear hp
        go_enter Tryz.func71, Tryz.ntmps71
        go_wp2_with fail
        refine HX.out.mono ?_
        rintro e w1 ⟨rfl, hb1⟩
        have HB := Hold.mk hb1
        clear hb1 HX
        go_wp2_with fail
        go_ret
        exact ⟨by rw [HR.out]; rfl, HB.out⟩
      | true =>
        rw [hp] at HX
        have HAS : Hold (∀ (j : Nat) (b : UInt8), s.data.toList[j]? = some b → b.toNat < 128) := ⟨fun j b hb => ok_ascii (List.all_eq_true.1 hp b (List.mem_of_getElem? hb))⟩
        replace HL : Hold (nameF s = (decide (Lib.toLowerA s.data.toList = s.data.toList) && !Lib.containsAny s.data.toList [95, 46])) := ⟨by rw [HL.out, hp, Bool.true_and]⟩
        clear hp
        go_enter Tryz.func71, Tryz.ntmps71
        go_wp2_with fail
        refine HX.out.mono ?_
        rintro e w1 ⟨rfl, hb1⟩
        have HB := Hold.mk hb1
        clear hb1 HX
        have HX := Hold.mk (Any.strings_ToLower_ascii Tryz.laysLow Tryz.lowExtra s w1 (by omega) HAS.out)
        have HT : Hold (((⟨(Lib.toLowerA s.data.toList).toArray⟩ : ByteArray).toList == s.toList) = decide (Lib.toLowerA s.data.toList = s.data.toList)) := ⟨by
          rw [ByteArray.toList_eq, ByteArray.toList_eq, Bool.eq_iff_iff]; simp⟩
        generalize (⟨(Lib.toLowerA s.data.toList).toArray⟩ : ByteArray) = t at HX HT
        go_wp2_with fail
        refine HX.out.mono ?_
        rintro e w2 ⟨rfl, hb2⟩
        replace HB := Hold.mk (HB.out.trans (hb2.mono HB.out.size))
        clear hb2 HX
        cases hl : decide (Lib.toLowerA s.data.toList = s.data.toList) with
        | false =>
          have e1 : (t.toList == s.toList) = false := HT.out.trans hl
          have HR : Hold (nameF s = false) := ⟨by rw [HL.out, hl]; rfl⟩
          clear hl
          go_wp2_with fail
          go_ret
          exact ⟨by rw [HR.out]; rfl, HB.out⟩
        | true =>
          have e1 : (t.toList == s.toList) = true := HT.out.trans hl
          have HR : Hold (nameF s = !Lib.containsAny s.data.toList [95, 46]) := ⟨by rw [HL.out, hl]; rfl⟩
          clear hl
          have HX := Hold.mk (Any.strings_ContainsAny_laid Tryz.laysCA (by kernel_rfl) s ⟨#[95, 46]⟩ w2 (by omega) (by decide) HAS.out (fun j b hb => by
            match j, hb with
            | 0, hb => cases hb; decide
            | 1, hb => cases hb; decide))
          change Hold (Calls _ _ _ _ fun e w' => e = .returned (.bool (Lib.containsAny s.data.toList [95, 46])) ∧ _) at HX
          generalize Lib.containsAny s.data.toList [95, 46] = r at HX HR
          go_wp2_with fail
          refine HX.out.mono ?_
          rintro e w3 ⟨rfl, hb3⟩
          replace HB := Hold.mk (HB.out.trans (hb3.mono HB.out.size))
          clear hb3 HX
          go_wp2_with fail
          go_ret
          exact ⟨by rw [HR.out]; rfl, HB.out⟩
    · have HR : Hold (nameF s = false) := ⟨by rw [HL.out, decide_eq_false (fun h => h2 h.2)]; rfl⟩
      go_enter Tryz.func71, Tryz.ntmps71
      go_wp2_with fail
      go_ret
      exact ⟨by rw [HR.out]; rfl, Below.refl _ _⟩
  · have HR : Hold (nameF s = false) := ⟨by rw [HL.out, decide_eq_false (fun h => h1 h.1)]; rfl⟩
    go_enter Tryz.func71, Tryz.ntmps71
    go_wp2_with fail
    go_ret
    exact ⟨by rw [HR.out]; rfl, Below.refl _ _⟩
end Go.Proofs.YticlnijkfclgcaaGreatDoor
