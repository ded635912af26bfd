/- What is printed is valid UTF-8, and no longer than six times what was read. -/
import Derived.Test.YtdhilnnohokoeaaDoorRZ
namespace Go.Proofs.YtdhilnnohokoeaaDoor
open Go.Shelf Go.RowKit Go.Lib

theorem esc_high {c : UInt8} (h : 128 ≤ c.toNat) : escF c = [c] := by
  have key : ∀ a : Fin 256, 128 ≤ (UInt8.ofNat a.val).toNat → escF (UInt8.ofNat a.val) = [UInt8.ofNat a.val] := by decide +kernel
  obtain ⟨a, rfl⟩ := byte_fin c
  exact key a h
theorem esc_low {c : UInt8} (h : c.toNat < 128) : ∀ x ∈ escF c, x.toNat < 128 := by
  have key : ∀ a : Fin 256, (UInt8.ofNat a.val).toNat < 128 → ((escF (UInt8.ofNat a.val)).all fun x => decide (x.toNat < 128)) = true := by decide +kernel
  obtain ⟨a, rfl⟩ := byte_fin c
  intro x hx
  exact of_decide_eq_true (List.all_eq_true.1 (key a h) x hx)
theorem valid_asc : ∀ (a r : List UInt8), (∀ c ∈ a, c.toNat < 128) → validD (a ++ r) = validD r
  | [], _, _ => rfl
  | c :: a, r, h => by rw [List.cons_append, validD_cons _ _ (h c (List.mem_cons_self ..)), valid_asc a r (fun x hx => h x (List.mem_cons_of_mem _ hx))]
theorem check_some {n b1 b2 b3 sz lo hi k : Nat} (h : checkN n b1 b2 b3 sz lo hi = some k) : (sz = 2 ∨ sz = 3 ∨ sz = 4) ∧ k = sz ∧ k ≤ n ∧ lo ≤ b1 ∧ (3 ≤ k → 128 ≤ b2) ∧ (4 ≤ k → 128 ≤ b3) ∧ ∀ n' b2' b3', k ≤ n' → (3 ≤ k → b2' = b2) → (4 ≤ k → b3' = b3) → checkN n' b1 b2' b3' sz lo hi = some k := by
  unfold checkN at h
  split at h
  · rename_i h1
    split at h
    · cases h
    · cases h
      rename_i h2
      refine ⟨by omega, by omega, by omega, by omega, by omega, by omega, fun n' b2' b3' hn _ _ => ?_⟩
      unfold checkN
      rw [if_pos h1, if_neg (by omega)]
  · rename_i h1
    split at h
    · rename_i h2
      split at h
      · cases h
      · cases h
        rename_i h3
        refine ⟨by omega, by omega, by omega, by omega, by omega, by omega, fun n' b2' b3' hn e2 _ => ?_⟩
        have := e2 (by omega)
        subst this
        unfold checkN
        rw [if_neg h1, if_pos h2, if_neg (by omega)]
    · rename_i h2
      split at h
      · rename_i h3
        split at h
        · cases h
        · cases h
          rename_i h4
          refine ⟨by omega, by omega, by omega, by omega, by omega, by omega, fun n' b2' b3' hn e2 e3 => ?_⟩
          have := e2 (by omega)
          subst this
          have := e3 (by omega)
          subst this
          unfold checkN
          rw [if_neg h1, if_neg h2, if_pos h3, if_neg (by omega)]
      · cases h
theorem lo_high : ∀ b : Fin 256, firstT b.val % 8 = 2 ∨ firstT b.val % 8 = 3 ∨ firstT b.val % 8 = 4 → 128 ≤ accLo (firstT b.val / 16) := by decide +kernel
theorem valid_esc : ∀ (n : Nat) (l r : List UInt8), l.length ≤ n → validD l = true → validD (l.flatMap escF ++ r) = validD r
  | 0, l, r, hl, _ => by
    obtain rfl : l = [] := List.length_eq_zero_iff.1 (by omega)
    rfl
  | n + 1, [], r, _, _ => rfl
  | n + 1, b :: t, r, hl, hv => by
    rw [List.length_cons] at hl
    rcases Nat.lt_or_ge b.toNat 128 with h | h
    · rw [validD_cons _ _ h] at hv
      rw [List.flatMap_cons, List.append_assoc, valid_asc _ _ (esc_low h), valid_esc n t r (by omega) hv]
    · rw [validD_lead (b :: t) (by simp) h] at hv
      split at hv
      · cases hv
      · rename_i k hk
        obtain ⟨hsz, hks, hkn, hlo, h2, h3, hext⟩ := check_some hk
        have hlo2 := lo_high ⟨b.toNat, b.toNat_lt⟩ hsz
        have hb1 : 128 ≤ ((b :: t).getD 1 0).toNat := Nat.le_trans hlo2 hlo
        have hb0 : ((b :: t).getD 0 0) = b := rfl
        rw [hb0] at hk hext
        have hk4 : k = 2 ∨ k = 3 ∨ k = 4 := by omega
        rcases hk4 with rfl | rfl | rfl
        · match t, hkn with
          | b1 :: t, _ =>
            have e : (b :: b1 :: t).flatMap escF ++ r = b :: b1 :: (t.flatMap escF ++ r) := by
              rw [List.flatMap_cons, List.flatMap_cons, esc_high h, esc_high (c := b1) hb1]; rfl
            rw [e, validD_lead (b :: b1 :: (t.flatMap escF ++ r)) (by simp) h]
            have hx := hext (b :: b1 :: (t.flatMap escF ++ r)).length ((b :: b1 :: (t.flatMap escF ++ r)).getD 2 0).toNat ((b :: b1 :: (t.flatMap escF ++ r)).getD 3 0).toNat (by simp) (fun h => by omega) (fun h => by omega)
            rw [show ((b :: b1 :: (t.flatMap escF ++ r)).getD 1 0) = (b :: b1 :: t).getD 1 0 from rfl, show ((b :: b1 :: (t.flatMap escF ++ r)).getD 0 0) = b from rfl, hx]
            exact valid_esc n t r (by simp at hl; omega) hv
        · match t, hkn with
          | b1 :: b2 :: t, _ =>
            have e : (b :: b1 :: b2 :: t).flatMap escF ++ r = b :: b1 :: b2 :: (t.flatMap escF ++ r) := by
              rw [List.flatMap_cons, List.flatMap_cons, List.flatMap_cons, esc_high h, esc_high (c := b1) hb1, esc_high (c := b2) (h2 (by omega))]; rfl
            rw [e, validD_lead (b :: b1 :: b2 :: (t.flatMap escF ++ r)) (by simp) h]
            have hx := hext (b :: b1 :: b2 :: (t.flatMap escF ++ r)).length ((b :: b1 :: b2 :: (t.flatMap escF ++ r)).getD 2 0).toNat ((b :: b1 :: b2 :: (t.flatMap escF ++ r)).getD 3 0).toNat (by simp) (fun _ => rfl) (fun h => by omega)
            rw [show ((b :: b1 :: b2 :: (t.flatMap escF ++ r)).getD 1 0) = (b :: b1 :: b2 :: t).getD 1 0 from rfl, show ((b :: b1 :: b2 :: (t.flatMap escF ++ r)).getD 0 0) = b from rfl, hx]
            exact valid_esc n t r (by simp at hl; omega) hv
        · match t, hkn with
          | b1 :: b2 :: b3 :: t, _ =>
            have e : (b :: b1 :: b2 :: b3 :: t).flatMap escF ++ r = b :: b1 :: b2 :: b3 :: (t.flatMap escF ++ r) := by
              rw [List.flatMap_cons, List.flatMap_cons, List.flatMap_cons, List.flatMap_cons, esc_high h, esc_high (c := b1) hb1, esc_high (c := b2) (h2 (by omega)), esc_high (c := b3) (h3 (by omega))]; rfl
            rw [e, validD_lead (b :: b1 :: b2 :: b3 :: (t.flatMap escF ++ r)) (by simp) h]
            have hx := hext (b :: b1 :: b2 :: b3 :: (t.flatMap escF ++ r)).length ((b :: b1 :: b2 :: b3 :: (t.flatMap escF ++ r)).getD 2 0).toNat ((b :: b1 :: b2 :: b3 :: (t.flatMap escF ++ r)).getD 3 0).toNat (by simp) (fun _ => rfl) (fun _ => rfl)
            rw [show ((b :: b1 :: b2 :: b3 :: (t.flatMap escF ++ r)).getD 1 0) = (b :: b1 :: b2 :: b3 :: t).getD 1 0 from rfl, show ((b :: b1 :: b2 :: b3 :: (t.flatMap escF ++ r)).getD 0 0) = b from rfl, hx]
            exact valid_esc n t r (by simp at hl; omega) hv
theorem valid_quo {s : ByteArray} (h : validD s.data.toList = true) (r : List UInt8) : validD (quotedF s.data.toList ++ r) = validD r := by
  unfold quotedF
  rw [List.cons_append, validD_cons _ _ (by decide), List.append_assoc, valid_esc _ _ _ (Nat.le_refl _) h]
  exact validD_cons 34 r (by decide)
theorem text_valid {s : ByteArray} (h : textF s = true) : validD s.data.toList = true := by
  unfold textF at h
  rw [Bool.and_eq_true] at h
  exact h.2
theorem valid_mems {f : JV → List UInt8} {k : Int} : ∀ (it : List JV) (j : Nat) (nm : List ByteArray) (r : List UInt8), (∀ x ∈ it, ∀ r, validD (f x ++ r) = validD r) → (∀ s ∈ nm, textF s = true) → validD (memsF f k j nm it ++ r) = validD r
  | [], j, nm, r, _, _ => by unfold memsF; rfl
  | x :: it, j, nm, r, hf, hn => by
    rw [memsF]
    have ih := valid_mems (k := k) it (j + 1) nm.tail r (fun y hy => hf y (List.mem_cons_of_mem _ hy)) (fun s hs => hn s (List.mem_of_mem_tail hs))
    have e1 : validD (f x ++ (memsF f k (j + 1) nm.tail it ++ r)) = validD r := by rw [hf x (List.mem_cons_self ..), ih]
    have e2 : validD ((if k = 6 then quotedF (nm.headD ⟨#[]⟩).data.toList ++ [58] else []) ++ (f x ++ (memsF f k (j + 1) nm.tail it ++ r))) = validD r := by
      split
      · have ht : textF (nm.headD ⟨#[]⟩) = true := by
          cases nm with
          | nil => exact text_none
          | cons a nm => exact hn a (List.mem_cons_self ..)
        rw [List.append_assoc, valid_quo (text_valid ht)]
        exact (validD_cons 58 _ (by decide)).trans e1
      · exact e1
    rw [List.append_assoc, List.append_assoc, List.append_assoc]
    split
    · exact e2
    · exact (validD_cons 44 _ (by decide)).trans e2
theorem valid_show : ∀ (d : Nat) (v : JV), formedF d v = true → ∀ r, validD (showF d v ++ r) = validD r
  | 0, _, h, _ => by simp [formedF] at h
  | d + 1, .mk k n t nm it, hf, r => by
    obtain ⟨h0, h6, h3, h4, ht⟩ := formed_head hf
    rw [formedF, Bool.and_eq_true] at hf
    have hf2 := hf.2
    unfold showF
    split
    · exact valid_asc _ _ (fun c hc => itoa_ascii n c hc)
    · split
      · exact valid_quo (text_valid ht) r
      · have hb : ¬ k < 5 → (∀ x ∈ it, ∀ r, validD (showF d x ++ r) = validD r) ∧ (∀ s ∈ nm, textF s = true) := fun h => by
          rw [if_neg h, Bool.and_eq_true] at hf2
          have hb := hf2.1
          unfold bodyOk at hb
          simp only [Bool.and_eq_true] at hb
          exact ⟨fun x hx => valid_show d x (List.all_eq_true.1 hf2.2 x hx), fun s hs => List.all_eq_true.1 hb.1.2 s hs⟩
        split
        · obtain ⟨h1, h2⟩ := hb (by omega)
          rw [part_all, List.append_assoc, List.append_assoc]
          refine (validD_cons 91 _ (by decide)).trans ?_
          show validD (memsF (showF d) 5 0 nm it ++ ([93] ++ r)) = _
          rw [valid_mems it 0 nm _ h1 h2]
          exact validD_cons 93 r (by decide)
        · split
          · obtain ⟨h1, h2⟩ := hb (by omega)
            rw [part_all, List.append_assoc, List.append_assoc]
            refine (validD_cons 123 _ (by decide)).trans ?_
            show validD (memsF (showF d) 6 0 nm it ++ ([125] ++ r)) = _
            rw [valid_mems it 0 nm _ h1 h2]
            exact validD_cons 125 r (by decide)
          · refine valid_asc _ _ (fun c hc => ?_)
            unfold wordF at hc
            have : ∀ l : List UInt8, (l.all fun c => decide (c.toNat < 128)) = true → c ∈ l → c.toNat < 128 := fun l h1 h2 => of_decide_eq_true (List.all_eq_true.1 h1 c h2)
            split at hc
            · exact this _ (by decide) hc
            · split at hc
              · exact this _ (by decide) hc
              · exact this _ (by decide) hc

/-- how long it is -/
theorem uni_small {l r t : List UInt8} (h : uniL l = some (t, r)) : t.length + r.length ≤ l.length := by
  unfold uniL at h
  split at h
  · cases h
  · rename_i n r1 h1
    have hl := hex4L_len h1
    split at h
    · split at h
      · split at h
        · cases h
        · rename_i m r2 h2
          have hl2 := hex4L_len h2
          rw [List.length_drop] at hl2
          split at h
          · have := Option.some.inj h
            simp only [Prod.mk.injEq] at this
            have h4 := encL_len (65536 + (n - 55296) * 1024 + (m - 56320))
            rw [this.1] at h4
            rw [← this.2]; omega
          · cases h
      · cases h
    · split at h
      · cases h
      · have := Option.some.inj h
        simp only [Prod.mk.injEq] at this
        have h4 := encL_len n
        rw [this.1] at h4
        rw [← this.2]; omega
theorem esc_small {l r t : List UInt8} (h : escL l = some (t, r)) : t.length + r.length ≤ l.length := by
  cases l with
  | nil => cases h
  | cons c l =>
    rw [escL] at h
    split at h
    · have := Option.some.inj h
      simp only [Prod.mk.injEq] at this
      rw [← this.1, ← this.2]; simp; omega
    · split at h
      · have := uni_small h
        rw [List.length_cons]; omega
      · cases h
theorem quo_small : ∀ (n : Nat) (l acc t r : List UInt8), quoL n l acc = some (t, r) → t.length + r.length + 1 ≤ acc.length + l.length
  | 0, _, _, _, _, h => by cases h
  | _ + 1, [], _, _, _, h => by cases h
  | n + 1, c :: l, acc, t, r, h => by
    unfold quoL at h
    rw [List.length_cons]
    split at h
    · cases h
    · split at h
      · have := Option.some.inj h
        simp only [Prod.mk.injEq] at this
        rw [← this.1, ← this.2]; omega
      · split at h
        · split at h
          · cases h
          · rename_i b r2 h2
            have h3 := esc_small h2
            have h4 := quo_small n _ _ _ _ h
            rw [List.length_append] at h4
            omega
        · have h4 := quo_small n _ _ _ _ h
          rw [List.length_append, List.length_singleton] at h4
          omega
theorem str_small {l r : List UInt8} {t : ByteArray} (h : strL l = some (t, r)) : (quotedF t.data.toList).length + 6 * r.length ≤ 6 * l.length := by
  cases l with
  | nil => cases h
  | cons c l =>
    rw [strL] at h
    split at h
    · obtain ⟨⟨b, r1⟩, h1, e⟩ := Option.map_eq_some_iff.1 h
      simp only [Prod.mk.injEq] at e
      have h2 := quo_small _ _ _ _ _ h1
      rw [e.2] at h2
      have h3 := @quotedF_len t
      have h4 : t.size = b.length := by rw [← e.1]; rfl
      rw [List.length_nil] at h2
      rw [List.length_cons]; omega
    · cases h
theorem dec_small : ∀ (k u : Nat), u < 10 ^ (k + 1) → (Lib.decDigits u).length ≤ k + 1
  | 0, u, h => by
    rw [Lib.decDigits, dif_pos (by simpa using h)]; simp
  | k + 1, u, h => by
    rw [Lib.decDigits]
    split
    · simp
    · have := dec_small k (u / 10) (by rw [Nat.pow_succ] at h; omega)
      rw [List.length_append, List.length_singleton]; omega
theorem val_small : ∀ (l : List UInt8) (a : Nat), (∀ c ∈ l, isD c = true) → l.foldl (fun a c => a * 10 + (c.toNat - 48)) a < (a + 1) * 10 ^ l.length
  | [], a, _ => by simp
  | c :: l, a, h => by
    have hc := of_decide_eq_true (h c (List.mem_cons_self ..))
    have ih := val_small l (a * 10 + (c.toNat - 48)) (fun x hx => h x (List.mem_cons_of_mem _ hx))
    rw [List.foldl_cons, List.length_cons, Nat.pow_succ]
    refine Nat.lt_of_lt_of_le ih ?_
    have : (a * 10 + (c.toNat - 48) + 1) ≤ (a + 1) * 10 := by omega
    calc (a * 10 + (c.toNat - 48) + 1) * 10 ^ l.length ≤ ((a + 1) * 10) * 10 ^ l.length := Nat.mul_le_mul_right _ this
      _ = (a + 1) * (10 ^ l.length * 10) := by rw [Nat.mul_assoc, Nat.mul_comm 10]
theorem digs_small {l : List UInt8} (h : ∀ c ∈ l, isD c = true) (hne : l ≠ []) : (Lib.decDigits (valD l)).length ≤ l.length := by
  obtain ⟨k, hk⟩ : ∃ k, l.length = k + 1 := ⟨l.length - 1, by have := List.length_pos_iff.2 hne; omega⟩
  have h1 := val_small l 0 h
  rw [hk]
  refine dec_small k _ ?_
  unfold valD
  rw [hk] at h1
  simpa using h1
theorem take_isD (l : List UInt8) : ∀ c ∈ l.takeWhile isD, isD c = true := by
  induction l with
  | nil => intro c hc; cases hc
  | cons a l ih =>
    intro c hc
    rw [List.takeWhile_cons] at hc
    split at hc
    · rename_i ha
      rcases List.mem_cons.1 hc with rfl | hc
      · exact ha
      · exact ih c hc
    · cases hc
theorem digL_small {neg : Bool} {ds r r' : List UInt8} {v : Int} (hd : ∀ c ∈ ds, isD c = true) (h : digL neg ds r = some (v, r')) : (Lib.itoa v).length ≤ ds.length + (if neg then 1 else 0) ∧ r' = r := by
  unfold digL at h
  split at h
  · cases h
  · rename_i h0
    have hs := digs_small hd (fun e => h0 (.inl e))
    cases neg with
    | true =>
      rw [if_pos rfl] at h
      split at h
      · have := Option.some.inj h
        simp only [Prod.mk.injEq] at this
        refine ⟨?_, this.2.symm⟩
        rw [← this.1, if_pos rfl]
        unfold Lib.itoa
        split
        · rw [List.length_cons, show (-(valD ds : Int)).natAbs = valD ds by omega]; omega
        · rename_i h1
          rw [show (-(valD ds : Int)).toNat = valD ds by omega]; omega
      · cases h
    | false =>
      rw [if_neg (by decide)] at h
      split at h
      · have := Option.some.inj h
        simp only [Prod.mk.injEq] at this
        refine ⟨?_, this.2.symm⟩
        rw [← this.1, if_neg (by decide)]
        unfold Lib.itoa
        rw [if_neg (by omega), show ((valD ds : Int)).toNat = valD ds by omega]
        exact hs
      · cases h
theorem num_small {l r : List UInt8} {v : Int} (h : numL l = some (v, r)) : (Lib.itoa v).length + r.length ≤ l.length := by
  unfold numL at h
  split at h
  · rename_i hh
    have h1 := digL_small (take_isD _) h
    have h2 := take_drop_len isD l.tail
    rw [List.length_tail] at h2
    rw [h1.2]
    have h3 := h1.1
    simp only [if_true] at h3
    have : 0 < l.length := by cases l; simp at hh; simp
    omega
  · have h1 := digL_small (take_isD _) h
    have h2 := take_drop_len isD l
    rw [h1.2]
    have h3 := h1.1
    simp at h3
    omega

end Go.Proofs.YtdhilnnohokoeaaDoor
