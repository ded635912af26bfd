/- Reading, plainly: a number that is printed is read as it was. -/
import Derived.Test.YtdhilnnohokoeaaDoorRP
import Derived.Lib.ValidLaws
namespace Go.Proofs.YtdhilnnohokoeaaDoor
open Go.RowKit

theorem dec_first (u : Nat) : ∀ c l, Lib.decDigits u = c :: l → l ≠ [] → c ≠ 48 := by
  induction u using Nat.strongRecOn with
  | ind u ih =>
    intro c l h hl
    rw [Lib.decDigits] at h
    split at h
    · have := (List.cons.inj h).2; exact absurd this.symm hl
    · rename_i h10
      obtain ⟨c2, l2, e2, _⟩ := dec_head (u / 10)
      rw [e2, List.cons_append] at h
      obtain ⟨rfl, h3⟩ := List.cons.inj h
      by_cases hl2 : l2 = []
      · subst hl2
        have h4 : u / 10 < 10 := by
          rcases Nat.lt_or_ge (u / 10) 10 with h | h
          · exact h
          · rw [Lib.decDigits, dif_neg (by omega)] at e2
            have := congrArg List.length e2
            obtain ⟨c3, l3, e3, _⟩ := dec_head (u / 10 / 10)
            rw [e3] at this; simp at this
        rw [Lib.decDigits, dif_pos h4] at e2
        have h5 := (List.cons.inj e2).1
        intro e
        rw [← h5] at e
        have := congrArg UInt8.toNat e
        simp [UInt8.toNat_ofNat] at this
        omega
      · exact ih (u / 10) (by omega) c2 l2 e2 hl2
theorem take_dec {u : Nat} {r : List UInt8} (hr : ∀ c r', r = c :: r' → isD c = false) : (Lib.decDigits u ++ r).takeWhile isD = Lib.decDigits u ∧ (Lib.decDigits u ++ r).dropWhile isD = r := by
  constructor
  · rw [List.takeWhile_append_of_pos (dig_all u)]
    have : r.takeWhile isD = [] := by
      cases r with
      | nil => rfl
      | cons c r' => rw [List.takeWhile_cons, hr c r' rfl]; rfl
    rw [this, List.append_nil]
  · rw [List.dropWhile_append_of_pos (dig_all u)]
    cases r with
    | nil => rfl
    | cons c r' => rw [List.dropWhile_cons, hr c r' rfl]; rfl
theorem dig_ok (u : Nat) : ¬ (Lib.decDigits u = [] ∨ 1 < (Lib.decDigits u).length ∧ (Lib.decDigits u).head? = some 48) := by
  obtain ⟨c, l, e, _⟩ := dec_head u
  rw [e]
  rintro (h | ⟨h1, h2⟩)
  · cases h
  · have hl : l ≠ [] := fun h => by subst h; simp at h1
    exact dec_first u c l e hl (by simpa using h2)
theorem num_itoa {n : Int} (h0 : -9223372036854775808 ≤ n) (h1 : n ≤ 9223372036854775807) {r : List UInt8} (hr : ∀ c r', r = c :: r' → isD c = false) : numL (Lib.itoa n ++ r) = some (n, r) := by
  unfold Lib.itoa
  by_cases hn : n < 0
  · rw [if_pos hn]
    unfold numL
    rw [List.cons_append, if_pos (show (45 :: (Lib.decDigits n.natAbs ++ r)).head? = some 45 from rfl)]
    obtain ⟨e1, e2⟩ := take_dec (u := n.natAbs) hr
    rw [List.tail_cons, e1, e2]
    unfold digL
    rw [if_neg (dig_ok _), if_pos rfl, valD_dec, if_pos (by omega)]
    congr 2; omega
  · rw [if_neg hn]
    unfold numL
    obtain ⟨c, l, e, hc⟩ := dec_head n.toNat
    obtain ⟨e1, e2⟩ := take_dec (u := n.toNat) hr
    rw [if_neg (by
      rw [e, List.cons_append]
      intro h
      have : c = 45 := by simpa using h
      subst this; exact absurd hc (by decide)), e1, e2]
    unfold digL
    rw [if_neg (dig_ok _), if_neg (by simp), valD_dec, if_pos (by omega)]
    congr 2; omega
theorem itoa_ascii (n : Int) : ∀ c ∈ Lib.itoa n, c.toNat < 128 := fun c hc => by
  have hd : ∀ u, ∀ c ∈ Lib.decDigits u, c.toNat < 128 := fun u c h => by have := of_decide_eq_true (dig_all u c h); omega
  unfold Lib.itoa at hc
  split at hc
  · rcases List.mem_cons.1 hc with rfl | h
    · decide
    · exact hd _ c h
  · exact hd _ c hc
theorem valid_ascii {l : List UInt8} (h : ∀ c ∈ l, c.toNat < 128) : Lib.validD l = true := by
  rw [Lib.validD_ascii l.length l (fun b hb => h b (List.mem_of_mem_take hb)), List.drop_length]
  rfl
/-- the blanks of the law -/
def spaceB (k : Nat) : List UInt8 := if k = 0 then [] else if k = 1 then [32] else if k = 2 then [9, 10] else [13, 32]
theorem space_blank (k : Nat) : ∀ c ∈ spaceB k, isB c = true := by
  unfold spaceB
  repeat' split
  all_goals simp [isB]
theorem space_len (k : Nat) : (spaceB k).length ≤ 2 := by
  unfold spaceB
  repeat' split
  all_goals simp
theorem blank_ascii {c : UInt8} (h : isB c = true) : c.toNat < 128 ∧ isD c = false := by
  simp [isB] at h
  rcases h with ((rfl | rfl) | rfl) | rfl <;> decide
theorem skip_blanks : ∀ (l r : List UInt8), (∀ c ∈ l, isB c = true) → skipL (l ++ r) = skipL r
  | [], r, _ => rfl
  | c :: l, r, h => by rw [List.cons_append, skipL_yes (h c (by simp)), skip_blanks l r (fun x hx => h x (by simp [hx]))]
theorem skip_all (l : List UInt8) (h : ∀ c ∈ l, isB c = true) : skipL l = [] := by
  have := skip_blanks l [] h
  rw [List.append_nil] at this; exact this
theorem itoa_first (n : Int) : ∃ c l, Lib.itoa n = c :: l ∧ (c = 45 ∨ isD c = true) ∧ isB c = false := by
  obtain ⟨c, l, e, h⟩ := itoa_head n
  refine ⟨c, l, e, h, ?_⟩
  cases hb : isB c with
  | false => rfl
  | true =>
    have := (blank_ascii hb).2
    rcases h with rfl | h
    · exact absurd hb (by decide)
    · rw [this] at h; cases h
def numJ (n : Int) : JV := .mk 3 n ⟨#[]⟩ [] []
theorem text_none : textF ⟨#[]⟩ = true := by unfold textF; simp [ByteArray.size, Lib.validD, Lib.validGoD]
theorem num_formed (n : Int) : formedF 6 (numJ n) = true := by
  have h2 : headOk 3 n ⟨#[]⟩ := ⟨by omega, by omega, .inl rfl, .inr (by kernel_rfl), text_none⟩
  unfold numJ
  rw [formedF, decide_eq_true h2, if_pos (by decide)]; rfl
/-- the text of the law -/
def numText (n : Int) (a b : Nat) : List UInt8 := spaceB a ++ (Lib.itoa n ++ spaceB b)
theorem num_skip (n : Int) (a b : Nat) : skipL (numText n a b) = Lib.itoa n ++ spaceB b := by
  unfold numText
  rw [skip_blanks _ _ (space_blank a)]
  obtain ⟨c, l, e, _, hb⟩ := itoa_first n
  rw [e, List.cons_append, skipL_no hb]
theorem num_val {n : Int} (h0 : -9223372036854775808 ≤ n) (h1 : n ≤ 9223372036854775807) (a b m : Nat) : valL (m + 1) (numText n a b) = some (numJ n, spaceB b) := by
  obtain ⟨c, l, e, hc, _⟩ := itoa_first n
  have hs := num_skip n a b
  rw [e, List.cons_append] at hs
  rw [val_num hs hc, ← List.cons_append, ← e, num_itoa h0 h1 (fun c r' h => (blank_ascii (space_blank b c (by rw [h]; simp))).2)]
  rfl
theorem num_read {n : Int} (h0 : -9223372036854775808 ≤ n) (h1 : n ≤ 9223372036854775807) (a b : Nat) : readF (numText n a b) = (numJ n, 0) := by
  have hl : (numText n a b).length ≤ 100 := by
    have e : (ba (Lib.itoa n)).size = (Lib.itoa n).length := rfl
    have h2 := itoa_size h0 h1
    have h3 := space_len a
    have h4 := space_len b
    unfold numText
    rw [List.length_append, List.length_append]; omega
  have hv : Lib.validD (numText n a b) = true := valid_ascii fun c hc => by
    unfold numText at hc
    rw [List.mem_append, List.mem_append] at hc
    rcases hc with h | h | h
    · exact (blank_ascii (space_blank a c h)).1
    · exact itoa_ascii n c h
    · exact (blank_ascii (space_blank b c h)).1
  unfold readF
  rw [if_neg (by omega), if_neg (by rw [hv]; simp), num_val h0 h1]
  dsimp only
  rw [if_pos (skip_all _ (space_blank b)), if_pos (num_formed n)]

end Go.Proofs.YtdhilnnohokoeaaDoor
