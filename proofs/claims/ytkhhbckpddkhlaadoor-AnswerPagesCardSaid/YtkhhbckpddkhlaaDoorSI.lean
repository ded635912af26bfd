/- Formed values have one text each: the text tells the value. -/
import Derived.Test.YtkhhbckpddkhlaaDoorJD
namespace Go.Proofs.YtkhhbckpddkhlaaDoor

/-- what may stand behind a value: nothing, a comma, a closing mark -/
def Ends (r : List UInt8) : Prop := r = [] ∨ ∃ c r', r = c :: r' ∧ (c = 44 ∨ c = 93 ∨ c = 125)
theorem Ends.nodigit {r : List UInt8} (h : Ends r) : ∀ c r', r = c :: r' → ¬ (48 ≤ c.toNat ∧ c.toNat ≤ 57) := by
  rintro c r' rfl
  rcases h with h | ⟨c2, r2, h, hc⟩
  · cases h
  · obtain ⟨rfl, rfl⟩ := List.cons.inj h
    rcases hc with rfl | rfl | rfl <;> decide

/-! numbers -/
def isD (c : UInt8) : Bool := decide (48 ≤ c.toNat ∧ c.toNat ≤ 57)
theorem dig_all (u : Nat) : ∀ c ∈ Lib.decDigits u, isD c = true := by
  induction u using Nat.strongRecOn with
  | ind u ih =>
    intro c hc
    rw [Lib.decDigits] at hc
    split at hc
    · simp at hc; subst hc; simp [isD, UInt8.toNat_ofNat]; omega
    · rw [List.mem_append] at hc
      rcases hc with hc | hc
      · exact ih (u / 10) (by omega) c hc
      · simp at hc; subst hc; simp [isD, UInt8.toNat_ofNat]; omega
/-- the number that digits tell -/
def valD (l : List UInt8) : Nat := l.foldl (fun a c => a * 10 + (c.toNat - 48)) 0
theorem valD_dec (u : Nat) : valD (Lib.decDigits u) = u := by
  induction u using Nat.strongRecOn with
  | ind u ih =>
    rw [Lib.decDigits]
    split
    · simp [valD, UInt8.toNat_ofNat]; omega
    · have := ih (u / 10) (by omega)
      unfold valD at this ⊢
      rw [List.foldl_append, this]
      simp [UInt8.toNat_ofNat]; omega
theorem dec_split {u v : Nat} {r s : List UInt8} (hr : Ends r) (hs : Ends s) (h : Lib.decDigits u ++ r = Lib.decDigits v ++ s) : u = v ∧ r = s := by
  have key : ∀ (l r : List UInt8), (∀ c ∈ l, isD c = true) → Ends r → (l ++ r).takeWhile isD = l := by
    intro l r hl hr
    rw [List.takeWhile_append_of_pos hl]
    have : r.takeWhile isD = [] := by
      cases r with
      | nil => rfl
      | cons c r' =>
        have hd : isD c = false := decide_eq_false (hr.nodigit c r' rfl)
        rw [List.takeWhile_cons, hd]; rfl
    rw [this, List.append_nil]
  have e : Lib.decDigits u = Lib.decDigits v := by
    rw [← key _ r (dig_all u) hr, ← key _ s (dig_all v) hs, h]
  have e2 : u = v := by rw [← valD_dec u, e, valD_dec]
  subst e2
  exact ⟨rfl, List.append_cancel_left h⟩
theorem dec_head (u : Nat) : ∃ c l, Lib.decDigits u = c :: l ∧ isD c = true := by
  cases e : Lib.decDigits u with
  | nil => rw [Lib.decDigits] at e; split at e <;> simp at e
  | cons c l => exact ⟨c, l, rfl, dig_all u c (by rw [e]; simp)⟩
theorem itoa_split {n m : Int} {r s : List UInt8} (hr : Ends r) (hs : Ends s) (h : Lib.itoa n ++ r = Lib.itoa m ++ s) : n = m ∧ r = s := by
  unfold Lib.itoa at h
  by_cases hn : n < 0 <;> by_cases hm : m < 0
  · rw [if_pos hn, if_pos hm] at h
    obtain ⟨h1, h2⟩ := dec_split hr hs (List.cons.inj h).2
    exact ⟨by omega, h2⟩
  · rw [if_pos hn, if_neg hm] at h
    obtain ⟨c, l, e, hd⟩ := dec_head m.toNat
    rw [e] at h
    obtain ⟨rfl, _⟩ := List.cons.inj h
    cases hd
  · rw [if_neg hn, if_pos hm] at h
    obtain ⟨c, l, e, hd⟩ := dec_head n.toNat
    rw [e] at h
    obtain ⟨rfl, _⟩ := List.cons.inj h
    cases hd
  · rw [if_neg hn, if_neg hm] at h
    obtain ⟨h1, h2⟩ := dec_split hr hs h
    exact ⟨by omega, h2⟩
theorem itoa_head (n : Int) : ∃ c l, Lib.itoa n = c :: l ∧ (c = 45 ∨ isD c = true) := by
  unfold Lib.itoa
  split
  · exact ⟨45, _, rfl, .inl rfl⟩
  · obtain ⟨c, l, e, hd⟩ := dec_head n.toNat
    exact ⟨c, l, e, .inr hd⟩

/-! strings -/
theorem esc_free : ∀ a b : Fin 256, (escF (UInt8.ofNat a.val)).isPrefixOf (escF (UInt8.ofNat b.val)) = true → a = b := by decide +kernel
theorem esc_ne : ∀ a : Fin 256, (match escF (UInt8.ofNat a.val) with | [] => false | c :: _ => c != 34) = true := by decide +kernel
theorem byte_fin (c : UInt8) : ∃ a : Fin 256, UInt8.ofNat a.val = c := ⟨⟨c.toNat, c.toNat_lt⟩, by simp⟩
theorem esc_head (c : UInt8) : ∃ x l, escF c = x :: l ∧ x ≠ 34 := by
  obtain ⟨a, rfl⟩ := byte_fin c
  have := esc_ne a
  cases e : escF (UInt8.ofNat a.val) with
  | nil => rw [e] at this; cases this
  | cons x l => rw [e] at this; exact ⟨x, l, rfl, by simpa using this⟩
theorem esc_split {c d : UInt8} {r s : List UInt8} (h : escF c ++ r = escF d ++ s) : c = d ∧ r = s := by
  have e : c = d := by
    obtain ⟨a, rfl⟩ := byte_fin c
    obtain ⟨b, rfl⟩ := byte_fin d
    rcases Nat.le_total (escF (UInt8.ofNat a.val)).length (escF (UInt8.ofNat b.val)).length with hl | hl
    · have hp : escF (UInt8.ofNat a.val) <+: escF (UInt8.ofNat b.val) := List.prefix_of_prefix_length_le ⟨r, h⟩ ⟨s, rfl⟩ hl
      rw [esc_free a b (List.isPrefixOf_iff_prefix.2 hp)]
    · have hp : escF (UInt8.ofNat b.val) <+: escF (UInt8.ofNat a.val) := List.prefix_of_prefix_length_le ⟨s, h.symm⟩ ⟨r, rfl⟩ hl
      rw [esc_free b a (List.isPrefixOf_iff_prefix.2 hp)]
  subst e
  exact ⟨rfl, List.append_cancel_left h⟩
theorem inside_split : ∀ (s t r r' : List UInt8), s.flatMap escF ++ (34 :: r) = t.flatMap escF ++ (34 :: r') → s = t ∧ r = r'
  | [], [], r, r', h => by simpa using h
  | [], d :: t, r, r', h => by
    obtain ⟨x, l, e, hx⟩ := esc_head d
    rw [List.flatMap_cons, e] at h
    exact absurd (List.cons.inj h).1.symm hx
  | c :: s, [], r, r', h => by
    obtain ⟨x, l, e, hx⟩ := esc_head c
    rw [List.flatMap_cons, e] at h
    exact absurd (List.cons.inj h).1 hx
  | c :: s, d :: t, r, r', h => by
    rw [List.flatMap_cons, List.flatMap_cons, List.append_assoc, List.append_assoc] at h
    obtain ⟨rfl, h2⟩ := esc_split h
    obtain ⟨rfl, h3⟩ := inside_split s t r r' h2
    exact ⟨rfl, h3⟩
theorem quoted_split {s t r r' : List UInt8} (h : quotedF s ++ r = quotedF t ++ r') : s = t ∧ r = r' := by
  unfold quotedF at h
  rw [List.cons_append, List.cons_append, List.append_assoc, List.append_assoc] at h
  exact inside_split s t r r' (List.cons.inj h).2

/-! members -/
/-- members from the j-th on -/
def memsF (f : JV → List UInt8) (k : Int) : Nat → List ByteArray → List JV → List UInt8
  | _, _, [] => []
  | j, nm, x :: it => (if j = 0 then [] else [44]) ++ ((if k = 6 then quotedF (nm.headD ⟨#[]⟩).data.toList ++ [58] else []) ++ (f x ++ memsF f k (j + 1) nm.tail it))
theorem part_mems (f : JV → List UInt8) (k : Int) (nm : List ByteArray) (it : List JV) : ∀ m j, j + m = it.length → partF f k nm it j ++ memsF f k j (nm.drop j) (it.drop j) = partF f k nm it it.length
  | 0, j, h => by
    obtain rfl : j = it.length := by omega
    rw [List.drop_eq_nil_of_le (Nat.le_refl _), memsF, List.append_nil]
  | m + 1, j, h => by
    have hj : j < it.length := by omega
    have ih := part_mems f k nm it m (j + 1) (by omega)
    rw [← ih, List.drop_eq_getElem_cons hj, memsF, partF, List.getElem?_eq_getElem hj]
    unfold headF
    rw [List.tail_drop]
    have e : (nm.drop j).headD ⟨#[]⟩ = nm.getD j ⟨#[]⟩ := by
      rw [List.headD_eq_head?_getD, List.head?_drop, List.getD_eq_getElem?_getD]
    rw [e]
    simp only [Option.map_some, Option.getD_some, List.append_assoc]
theorem part_all (f : JV → List UInt8) (k : Int) (nm : List ByteArray) (it : List JV) : partF f k nm it it.length = memsF f k 0 nm it := by
  have := part_mems f k nm it it.length 0 (by omega)
  rw [← this]; rfl

/-- a text that tells its value, whatever stands behind it -/
def Tells (f : JV → List UInt8) (P : JV → Prop) : Prop := ∀ a b r s, P a → P b → Ends r → Ends s → f a ++ r = f b ++ s → a = b ∧ r = s
theorem mems_ends {f : JV → List UInt8} {k : Int} {j : Nat} (hj : j ≠ 0) {nm : List ByteArray} {it : List JV} {e : UInt8} (he : e = 93 ∨ e = 125) (r : List UInt8) : Ends (memsF f k j nm it ++ (e :: r)) := by
  cases it with
  | nil => exact .inr ⟨e, r, rfl, .inr he⟩
  | cons x it => rw [memsF, if_neg hj]; exact .inr ⟨44, _, rfl, .inl rfl⟩
theorem mems_split {f : JV → List UInt8} {P : JV → Prop} (hf : Tells f P) (hh : ∀ a, P a → ∃ c l, f a = c :: l ∧ c ≠ 93) {k : Int} {e : UInt8} (he : k = 5 ∧ e = 93 ∨ k = 6 ∧ e = 125) :
    ∀ (it ju : List JV) (j : Nat) (nm nu : List ByteArray) (r s : List UInt8), (∀ x ∈ it, P x) → (∀ x ∈ ju, P x) → (nm.length = if k = 6 then it.length else 0) → (nu.length = if k = 6 then ju.length else 0) →
      memsF f k j nm it ++ (e :: r) = memsF f k j nu ju ++ (e :: s) → it = ju ∧ nm = nu ∧ r = s
  | [], [], j, nm, nu, r, s, _, _, h1, h2, h => by
    have e1 : nm = [] := List.length_eq_zero_iff.1 (by rw [h1]; split <;> rfl)
    have e2 : nu = [] := List.length_eq_zero_iff.1 (by rw [h2]; split <;> rfl)
    exact ⟨rfl, e1.trans e2.symm, (List.cons.inj h).2⟩
  | [], x :: ju, j, nm, nu, r, s, _, hju, h1, h2, h => by
    exfalso
    rw [memsF, memsF, List.nil_append] at h
    by_cases hj : j = 0
    · rw [if_pos hj, List.nil_append] at h
      rcases he with ⟨rfl, rfl⟩ | ⟨rfl, rfl⟩
      · obtain ⟨c, l, e, hc⟩ := hh x (hju x (by simp))
        rw [if_neg (by decide), List.nil_append, e] at h
        exact hc (List.cons.inj h).1.symm
      · rw [if_pos rfl] at h
        unfold quotedF at h
        exact absurd (List.cons.inj h).1 (by decide)
    · rw [if_neg hj] at h
      have := (List.cons.inj h).1
      rcases he with ⟨rfl, rfl⟩ | ⟨rfl, rfl⟩ <;> exact absurd this (by decide)
  | x :: it, [], j, nm, nu, r, s, hit, _, h1, h2, h => by
    exfalso
    rw [memsF, memsF, List.nil_append] at h
    by_cases hj : j = 0
    · rw [if_pos hj, List.nil_append] at h
      rcases he with ⟨rfl, rfl⟩ | ⟨rfl, rfl⟩
      · obtain ⟨c, l, e, hc⟩ := hh x (hit x (by simp))
        rw [if_neg (by decide), List.nil_append, e] at h
        exact hc (List.cons.inj h).1
      · rw [if_pos rfl] at h
        unfold quotedF at h
        exact absurd (List.cons.inj h).1 (by decide)
    · rw [if_neg hj] at h
      have := (List.cons.inj h).1
      rcases he with ⟨rfl, rfl⟩ | ⟨rfl, rfl⟩ <;> exact absurd this (by decide)
  | x :: it, y :: ju, j, nm, nu, r, s, hit, hju, h1, h2, h => by
    have hE : e = 93 ∨ e = 125 := by rcases he with ⟨_, h⟩ | ⟨_, h⟩ <;> simp [h]
    rw [memsF, memsF] at h
    simp only [List.append_assoc] at h
    have h3 := List.append_cancel_left h
    clear h
    have fin : ∀ (p q : List UInt8), p = f x ++ (memsF f k (j + 1) nm.tail it ++ (e :: r)) → q = f y ++ (memsF f k (j + 1) nu.tail ju ++ (e :: s)) → p = q → (∀ n : Nat, nm.length = n → True) → (nm.tail.length = if k = 6 then it.length else 0) → (nu.tail.length = if k = 6 then ju.length else 0) → x = y ∧ it = ju ∧ nm.tail = nu.tail ∧ r = s := by
      intro p q hp hq hpq _ l1 l2
      rw [hp, hq] at hpq
      obtain ⟨rfl, h5⟩ := hf x y _ _ (hit x (by simp)) (hju y (by simp)) (mems_ends (by omega) hE r) (mems_ends (by omega) hE s) hpq
      obtain ⟨e1, e2, e3⟩ := mems_split hf hh he it ju (j + 1) nm.tail nu.tail r s (fun z hz => hit z (by simp [hz])) (fun z hz => hju z (by simp [hz])) l1 l2 h5
      exact ⟨rfl, e1, e2, e3⟩
    by_cases hk : k = 6
    · subst hk
      rw [if_pos rfl] at h1 h2 h3
      rw [if_pos rfl] at h3
      cases nm with
      | nil => simp at h1
      | cons n1 nm =>
        cases nu with
        | nil => simp at h2
        | cons n2 nu =>
          rw [List.append_assoc, List.append_assoc] at h3
          obtain ⟨e4, h4⟩ := quoted_split h3
          have h5 := (List.cons.inj h4).2
          obtain ⟨rfl, rfl, e6, rfl⟩ := fin _ _ rfl rfl h5 (fun _ _ => trivial) (by simpa using h1) (by simpa using h2)
          have e5 : n1 = n2 := by
            cases n1; cases n2
            exact congrArg ByteArray.mk (Array.toList_inj.1 e4)
          simp at e6
          rw [e5, e6]
          exact ⟨rfl, rfl, rfl⟩
    · rw [if_neg hk, if_neg hk, List.nil_append, List.nil_append] at h3
      rw [if_neg hk] at h1 h2
      have z1 : nm = [] := List.length_eq_zero_iff.1 h1
      have z2 : nu = [] := List.length_eq_zero_iff.1 h2
      subst z1 z2
      obtain ⟨rfl, rfl, _, rfl⟩ := fin _ _ rfl rfl h3 (fun _ _ => trivial) (by simp [hk]) (by simp [hk])
      exact ⟨rfl, rfl, rfl⟩

/-! values -/
theorem word_split {k q : Int} (hk : k = 0 ∨ k = 1 ∨ k = 2) (hq : q = 0 ∨ q = 1 ∨ q = 2) {r s : List UInt8} (h : wordF k ++ r = wordF q ++ s) : k = q ∧ r = s := by
  rcases hk with rfl | rfl | rfl <;> rcases hq with rfl | rfl | rfl <;> simp [wordF] at h ⊢ <;> assumption

/-- the first byte tells the kind -/
def headK (c : UInt8) : Int := if c = 110 then 0 else if c = 102 then 1 else if c = 116 then 2 else if c = 34 then 4 else if c = 91 then 5 else if c = 123 then 6 else 3
theorem show_head (d : Nat) (k n : Int) (t : ByteArray) (nm : List ByteArray) (it : List JV) (h0 : 0 ≤ k) (h6 : k ≤ 6) : ∃ c l, showF (d + 1) (.mk k n t nm it) = c :: l ∧ headK c = k ∧ c ≠ 93 := by
  rw [showF]
  by_cases h3 : k = 3
  · obtain ⟨c, l, e, hc⟩ := itoa_head n
    rw [if_pos h3, e]
    refine ⟨c, l, rfl, ?_⟩
    rcases hc with rfl | hc
    · exact ⟨by subst h3; decide, by decide⟩
    · have hd : 48 ≤ c.toNat ∧ c.toNat ≤ 57 := of_decide_eq_true hc
      have ne : ∀ x : UInt8, x.toNat > 57 ∨ x.toNat < 48 → c ≠ x := by rintro x hx rfl; omega
      unfold headK
      rw [if_neg (ne 110 (by decide)), if_neg (ne 102 (by decide)), if_neg (ne 116 (by decide)), if_neg (ne 34 (by decide)), if_neg (ne 91 (by decide)), if_neg (ne 123 (by decide))]
      exact ⟨h3.symm, ne 93 (by decide)⟩
  rw [if_neg h3]
  by_cases h4 : k = 4
  · rw [if_pos h4]; exact ⟨34, _, rfl, by subst h4; decide, by decide⟩
  rw [if_neg h4]
  by_cases h5 : k = 5
  · rw [if_pos h5]; exact ⟨91, _, rfl, by subst h5; decide, by decide⟩
  rw [if_neg h5]
  by_cases h6 : k = 6
  · rw [if_pos h6]; exact ⟨123, _, rfl, by subst h6; decide, by decide⟩
  rw [if_neg h6]
  have : k = 0 ∨ k = 1 ∨ k = 2 := by omega
  rcases this with rfl | rfl | rfl
  · exact ⟨110, _, rfl, by decide, by decide⟩
  · exact ⟨102, _, rfl, by decide, by decide⟩
  · exact ⟨116, _, rfl, by decide, by decide⟩

theorem empty_text {t : ByteArray} (h : t.toList = []) : t = ⟨#[]⟩ := by
  have e : t.data.toList = [] := by rw [← ByteArray.toList_eq]; exact h
  cases t
  simp at e
  rw [e]

theorem show_tells : ∀ d, Tells (showF d) (fun v => formedF d v = true)
  | 0 => fun a b r s ha => by simp [formedF] at ha
  | d + 1 => fun a b r s ha hb hr hs h => by
    have IH := show_tells d
    obtain ⟨k, n, t, nm, it⟩ := a
    obtain ⟨q, m, u, nu, ju⟩ := b
    have hha := formed_head ha
    have hhb := formed_head hb
    have ek : k = q := by
      obtain ⟨c, l, e, hc, _⟩ := show_head d k n t nm it hha.1 hha.2.1
      obtain ⟨c2, l2, e2, hc2, _⟩ := show_head d q m u nu ju hhb.1 hhb.2.1
      rw [e, e2] at h
      obtain ⟨rfl, _⟩ := List.cons.inj h
      exact hc.symm.trans hc2
    subst ek
    have hN : k ≠ 3 → n = 0 ∧ m = 0 := fun h3 => ⟨hha.2.2.1.resolve_left h3, hhb.2.2.1.resolve_left h3⟩
    have hT : k ≠ 4 → t = ⟨#[]⟩ ∧ u = ⟨#[]⟩ := fun h4 => ⟨empty_text (hha.2.2.2.1.resolve_left h4), empty_text (hhb.2.2.2.1.resolve_left h4)⟩
    have hL : k < 5 → nm = [] ∧ nu = [] ∧ it = [] ∧ ju = [] := fun h5 => by
      rw [formedF, if_pos h5, Bool.and_eq_true] at ha hb
      have h1 := of_decide_eq_true ha.2
      have h2 := of_decide_eq_true hb.2
      exact ⟨List.length_eq_zero_iff.1 h1.2, List.length_eq_zero_iff.1 h2.2, List.length_eq_zero_iff.1 h1.1, List.length_eq_zero_iff.1 h2.1⟩
    have hhd : ∀ x, formedF d x = true → ∃ c l, showF d x = c :: l ∧ c ≠ 93 := fun x hx => by
      cases d with
      | zero => simp [formedF] at hx
      | succ d =>
        obtain ⟨k, n, t, nm, it⟩ := x
        have := formed_head hx
        obtain ⟨c, l, e, _, hc⟩ := show_head d k n t nm it this.1 this.2.1
        exact ⟨c, l, e, hc⟩
    rw [showF, showF] at h
    by_cases h3 : k = 3
    · rw [if_pos h3, if_pos h3] at h
      obtain ⟨rfl, h2⟩ := itoa_split hr hs h
      obtain ⟨rfl, rfl⟩ := hT (by omega)
      obtain ⟨rfl, rfl, rfl, rfl⟩ := hL (by omega)
      exact ⟨rfl, h2⟩
    rw [if_neg h3, if_neg h3] at h
    obtain ⟨rfl, rfl⟩ := hN h3
    by_cases h4 : k = 4
    · rw [if_pos h4, if_pos h4] at h
      obtain ⟨e, h2⟩ := quoted_split h
      obtain ⟨rfl, rfl, rfl, rfl⟩ := hL (by omega)
      have e5 : t = u := by
        cases t; cases u
        exact congrArg ByteArray.mk (Array.toList_inj.1 e)
      rw [e5]
      exact ⟨rfl, h2⟩
    rw [if_neg h4, if_neg h4] at h
    obtain ⟨rfl, rfl⟩ := hT h4
    by_cases h5 : k = 5
    · subst h5
      obtain ⟨_, l1, _, f1, _⟩ := formed_body ha (by decide)
      obtain ⟨_, l2, _, f2, _⟩ := formed_body hb (by decide)
      rw [if_pos rfl, if_pos rfl, part_all, part_all] at h
      simp only [List.append_assoc, List.cons_append, List.nil_append, List.cons.injEq, true_and] at h
      obtain ⟨rfl, rfl, h7⟩ := mems_split IH hhd (.inl ⟨rfl, rfl⟩) it ju 0 nm nu r s f1 f2 l1 l2 h
      exact ⟨rfl, h7⟩
    rw [if_neg h5, if_neg h5] at h
    by_cases h6 : k = 6
    · subst h6
      obtain ⟨_, l1, _, f1, _⟩ := formed_body ha (by decide)
      obtain ⟨_, l2, _, f2, _⟩ := formed_body hb (by decide)
      rw [if_pos rfl, if_pos rfl, part_all, part_all] at h
      simp only [List.append_assoc, List.cons_append, List.nil_append, List.cons.injEq, true_and] at h
      obtain ⟨rfl, rfl, h7⟩ := mems_split IH hhd (.inr ⟨rfl, rfl⟩) it ju 0 nm nu r s f1 f2 l1 l2 h
      exact ⟨rfl, h7⟩
    rw [if_neg h6, if_neg h6] at h
    have h0 := hha.1
    have h7 := hha.2.1
    obtain ⟨rfl, rfl, rfl, rfl⟩ := hL (by omega)
    exact ⟨rfl, List.append_cancel_left h⟩

/-- two formed values are alike just if their texts are -/
theorem show_inj {d : Nat} {a b : JV} (ha : formedF d a = true) (hb : formedF d b = true) (h : showF d a = showF d b) : a = b :=
  (show_tells d a b [] [] ha hb (.inl rfl) (.inl rfl) (by rw [h])).1

end Go.Proofs.YtkhhbckpddkhlaaDoor
