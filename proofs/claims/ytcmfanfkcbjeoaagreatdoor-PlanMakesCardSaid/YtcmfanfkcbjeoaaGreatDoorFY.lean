/- Filters: FilterLogic and FilterHolds, plainly. -/
import Derived.Test.YtcmfanfkcbjeoaaGreatDoorFS
namespace Go.Proofs.YtcmfanfkcbjeoaaGreatDoor

theorem sumO_all : ∀ (l : List (Option Nat)) (n r : Nat), sumO n l = some r → ∀ o ∈ l, ∃ k, o = some k
  | [], _, _, _, o, ho => by cases ho
  | none :: _, _, _, h, _, _ => by cases h
  | some k :: l, n, r, h, o, ho => by
    rw [sumO] at h
    rcases List.mem_cons.1 ho with rfl | ho
    · exact ⟨k, rfl⟩
    · exact sumO_all l _ r h o ho

theorem isN_of {s : ByteArray} {l : List UInt8} (h : isN s l = true) : s.toList = l := by unfold isN at h; simpa using h
theorem isN_nof {s : ByteArray} {l : List UInt8} (h : isN s l = false) : ¬ s.toList = l := by unfold isN at h; simpa using h

/-- how a clause that is one is shaped -/
inductive Clause (cnt : JV → Option Nat) (s : ByteArray) (v : JV) : Nat → Prop
  | list (n : Nat) (h : s.toList = sAnd ∨ s.toList = sOr) (h5 : v.kind = 5) (h0 : v.items.length ≠ 0) (hn : sumO 1 (v.items.map cnt) = some n) : Clause cnt s v n
  | not (m : Nat) (h : s.toList = sNot) (hm : cnt v = some m) : Clause cnt s v (m + 1)
  | path (h1 : ¬ s.toList = sAnd) (h2 : ¬ s.toList = sOr) (h3 : ¬ s.toList = sNot) (h4 : signF s = false) (l : List ByteArray) (h5 : stepsF s = some l) (ht : testsF v = true → ∀ p ∈ v.names.zip v.items, testF p.1 p.2 = true) : Clause cnt s v 1
theorem clause_of {cnt : JV → Option Nat} {s : ByteArray} {v : JV} {n : Nat} (h : clauseF cnt s v = some n) : Clause cnt s v n := by
  cases h1 : isN s sAnd with
  | true =>
    by_cases hk : v.kind = 5 ∧ v.items.length ≠ 0
    · rw [cl_list (.inl h1) hk.1 hk.2] at h; exact .list n (.inl (isN_of h1)) hk.1 hk.2 h
    · rw [cl_nolist (.inl h1) hk] at h; cases h
  | false =>
    cases h2 : isN s sOr with
    | true =>
      by_cases hk : v.kind = 5 ∧ v.items.length ≠ 0
      · rw [cl_list (.inr h2) hk.1 hk.2] at h; exact .list n (.inr (isN_of h2)) hk.1 hk.2 h
      · rw [cl_nolist (.inr h2) hk] at h; cases h
    | false =>
      cases h3 : isN s sNot with
      | true =>
        rw [cl_not h1 h2 h3] at h
        obtain ⟨m, hm, rfl⟩ := Option.map_eq_some_iff.1 h
        exact .not m (isN_of h3) hm
      | false =>
        cases h4 : signF s with
        | true => rw [cl_sign h1 h2 h3 h4] at h; cases h
        | false =>
          cases h5 : stepsF s with
          | none => rw [cl_steps h1 h2 h3 h4 h5] at h; cases h
          | some l =>
            rw [cl_path h1 h2 h3 h4 h5] at h
            split at h
            · cases h
            · rename_i hc
              obtain rfl : (1 : Nat) = n := by simpa using h
              refine .path (isN_nof h1) (isN_nof h2) (isN_nof h3) h4 l h5 fun ht p hp => ?_
              rw [ht] at hc
              have hall : ((v.names.zip v.items).all fun p => testF p.1 p.2) = true := by simpa using hc
              exact List.all_eq_true.1 hall p hp
theorem Clause.up {cnt cnu : JV → Option Nat} {s : ByteArray} {v : JV} {n : Nat} (h : clauseF cnt s v = some n) (hc : ∀ x m, (x = v ∨ x ∈ v.items) → cnt x = some m → cnu x = some m) : clauseF cnu s v = some n := by
  rw [← h]
  cases clause_of h with
  | list _ hs h5 h0 hn =>
    have hs' : isN s sAnd = true ∨ isN s sOr = true := hs.imp isN_yes isN_yes
    rw [cl_list hs' h5 h0, cl_list hs' h5 h0]
    congr 1
    refine List.map_congr_left fun x hx => ?_
    obtain ⟨m, hm⟩ := sumO_all _ _ _ hn (cnt x) (List.mem_map_of_mem hx)
    rw [hm, hc x m (.inr hx) hm]
  | not m hs hm =>
    rw [cl_not (isN_ne hs (by decide)) (isN_ne hs (by decide)) (isN_yes hs), cl_not (isN_ne hs (by decide)) (isN_ne hs (by decide)) (isN_yes hs), hm, hc v m (.inl rfl) hm]
  | path h1 h2 h3 h4 l h5 ht =>
    rw [cl_path (isN_no h1) (isN_no h2) (isN_no h3) h4 h5, cl_path (isN_no h1) (isN_no h2) (isN_no h3) h4 h5]

theorem count_kind {d : Nat} {f : JV} {n : Nat} (h : countF (d + 1) f = some n) : f.kind = 6 ∧ sumO 0 ((f.names.zip f.items).map fun p => clauseF (countF d) p.1 p.2) = some n := by
  rw [countF] at h
  split at h
  · exact ⟨by assumption, h⟩
  · cases h
theorem count_up : ∀ (d : Nat) (f : JV) (n : Nat), countF d f = some n → countF (d + 1) f = some n
  | 0, _, _, h => by cases h
  | d + 1, f, n, h => by
    obtain ⟨hk, hs⟩ := count_kind h
    rw [countF, if_pos hk, ← hs]
    congr 1
    refine List.map_congr_left fun p hp => ?_
    obtain ⟨m, hm⟩ := sumO_all _ _ _ hs _ (List.mem_map_of_mem hp)
    rw [hm]
    exact Clause.up hm fun x m _ hx => count_up d x m hx
theorem count_le_up {d e : Nat} {f : JV} {n : Nat} (h : countF d f = some n) (hde : d ≤ e) : countF e f = some n := by
  induction hde with
  | refl => exact h
  | step _ ih => exact count_up _ f n ih

/-- two ways to tell whether a filter holds agree, where tests, likeness and depths do -/
theorem holds_alike {pass pass' : ByteArray → JV → Option JV → Bool} {eq eq' : JV → JV → Bool} (doc : JV) :
    ∀ (d e : Nat) (f : JV) (n : Nat), d ≤ e → countF d f = some n → formedF d f = true →
    (∀ s v o, testF s v = true → formedF 6 v = true → (∀ x, o = some x → formedF 6 x = true) → pass s v o = pass' s v o) →
    (∀ x v, formedF 6 x = true → formedF 6 v = true → eq x v = eq' x v) → d ≤ 6 →
    holdsF pass eq d f doc = holdsF pass' eq' e f doc
  | 0, _, _, _, _, h, _, _, _, _ => by cases h
  | d + 1, 0, _, _, hde, _, _, _, _, _ => absurd hde (by omega)
  | d + 1, e + 1, f, n, hde, h, hf, hp, he, hd6 => by
    obtain ⟨hk, hs⟩ := count_kind h
    rw [holdsF, holdsF]
    rw [Bool.eq_iff_iff, List.all_eq_true, List.all_eq_true]
    suffices hh : ∀ p ∈ f.names.zip f.items, oneFF pass eq (fun g => holdsF pass eq d g doc) p.1 p.2 doc = oneFF pass' eq' (fun g => holdsF pass' eq' e g doc) p.1 p.2 doc by
      constructor
      · intro hx p hpm; rw [← hh p hpm]; exact hx p hpm
      · intro hx p hpm; rw [hh p hpm]; exact hx p hpm
    rintro ⟨s, v⟩ hpm
    obtain ⟨m, hm⟩ := sumO_all _ _ _ hs _ (List.mem_map_of_mem hpm)
    have hv : formedF d v = true := formed_kids hf (List.of_mem_zip hpm).2
    have hv6 : formedF 6 v = true := formed_up hv (by omega)
    cases clause_of hm with
    | list _ hs2 h5 h0 hn =>
      have ih : ∀ x ∈ v.items, holdsF pass eq d x doc = holdsF pass' eq' e x doc := fun x hx => by
        obtain ⟨q, hq⟩ := sumO_all _ _ _ hn (countF d x) (List.mem_map_of_mem hx)
        have hd0 : d ≠ 0 := by rintro rfl; cases hq
        obtain ⟨d', rfl⟩ := Nat.exists_eq_succ_of_ne_zero hd0
        exact holds_alike doc _ e x q (by omega) hq (formed_mono _ x (formed_kids hv hx)) hp he (by omega)
      have e1 : v.items.all (fun g => holdsF pass eq d g doc) = v.items.all (fun g => holdsF pass' eq' e g doc) := by
        rw [Bool.eq_iff_iff, List.all_eq_true, List.all_eq_true]
        exact ⟨fun hx x hm => by rw [← ih x hm]; exact hx x hm, fun hx x hm => by rw [ih x hm]; exact hx x hm⟩
      have e2 : v.items.any (fun g => holdsF pass eq d g doc) = v.items.any (fun g => holdsF pass' eq' e g doc) := by
        rw [Bool.eq_iff_iff, List.any_eq_true, List.any_eq_true]
        exact ⟨fun ⟨x, hm, hx⟩ => ⟨x, hm, by rw [← ih x hm]; exact hx⟩, fun ⟨x, hm, hx⟩ => ⟨x, hm, by rw [ih x hm]; exact hx⟩⟩
      rcases hs2 with hs2 | hs2
      · rw [on_and hs2, on_and hs2]; exact e1
      · rw [on_or hs2, on_or hs2]; exact e2
    | not q hs2 hq =>
      have hd0 : d ≠ 0 := by rintro rfl; cases hq
      obtain ⟨d', rfl⟩ := Nat.exists_eq_succ_of_ne_zero hd0
      rw [on_not hs2, on_not hs2, holds_alike doc _ e v q (by omega) hq hv hp he (by omega)]
    | path h1 h2 h3 h4 l h5 ht =>
      cases htt : testsF v with
      | true =>
        rw [on_tests h1 h2 h3 htt, on_tests h1 h2 h3 htt, Bool.eq_iff_iff, List.all_eq_true, List.all_eq_true]
        have hh : ∀ p ∈ v.names.zip v.items, pass p.1 p.2 (getJ doc s) = pass' p.1 p.2 (getJ doc s) := fun p hp2 => by
          have hd0 : d ≠ 0 := by rintro rfl; simp [formedF] at hv
          obtain ⟨d', rfl⟩ := Nat.exists_eq_succ_of_ne_zero hd0
          exact hp p.1 p.2 _ (ht htt p hp2) (formed_up (formed_kids hv (List.of_mem_zip hp2).2) (by omega)) fun x hx => get_formed hx
        exact ⟨fun hx p hm => by rw [← hh p hm]; exact hx p hm, fun hx p hm => by rw [hh p hm]; exact hx p hm⟩
      | false =>
        cases hg : getJ doc s with
        | none => rw [on_none h1 h2 h3 htt hg, on_none h1 h2 h3 htt hg]
        | some u => rw [on_some h1 h2 h3 htt hg, on_some h1 h2 h3 htt hg, he u v (get_formed hg) hv6]

theorem check_count {f : JV} (h : checkF f = 0) : formedF 6 f = true ∧ ∃ n, countF 6 f = some n ∧ n ≤ 12 := by
  refine ⟨check_formed h, ?_⟩
  unfold checkF at h
  rw [if_pos (check_formed h)] at h
  cases hc : countF 6 f with
  | none => rw [hc] at h; cases h
  | some n =>
    rw [hc] at h
    simp only at h
    split at h
    · cases h
    · exact ⟨n, rfl, by omega⟩
theorem count_check {f : JV} {n : Nat} (hf : formedF 6 f = true) (hc : countF 6 f = some n) (hn : n ≤ 12) : checkF f = 0 := by
  unfold checkF
  rw [if_pos hf, hc]
  simp only
  rw [if_neg (by omega)]

/-- FilterHolds, plainly -/
theorem pass_alike {s : ByteArray} {v : JV} {o : Option JV} (ht : testF s v = true) (hv : formedF 6 v = true) (ho : ∀ x, o = some x → formedF 6 x = true) : passP s v o = passR s v o := by
  unfold passP passR
  by_cases h1 : isN s sHas = true
  · rw [if_pos h1, if_pos h1]
    have hk : v.kind = 2 ∨ v.kind = 1 := by
      have hh := isN_of h1
      unfold testF at ht
      rw [isN_ne hh (by decide), isN_ne hh (by decide), isN_ne hh (by decide), isN_ne hh (by decide), isN_ne hh (by decide), isN_ne hh (by decide), isN_ne hh (by decide)] at ht
      rw [if_neg (by simp), if_neg (by simp), if_pos h1] at ht
      simpa using ht
    rcases hk with hk | hk <;> rw [hk] <;> cases o <;> simp
  · rw [if_neg h1, if_neg h1]
    cases o with
    | none => rfl
    | some x =>
      simp only
      by_cases h2 : isN s sIn = true
      · have hh := isN_of h2
        rw [if_pos h2]
        unfold byName
        rw [isN_ne hh (by decide), isN_ne hh (by decide), isN_ne hh (by decide), isN_ne hh (by decide), isN_ne hh (by decide), isN_ne hh (by decide)]
        simp only [Bool.false_eq_true, if_false]
        have hx := ho x rfl
        rw [Bool.eq_iff_iff, List.any_eq_true, List.any_eq_true]
        have hh : ∀ y ∈ v.items, sameB x y = decide (cmpF 6 x y = 0) := fun y hy => (same_cmp hx (formed_mono 5 y (formed_kids hv hy))).symm
        exact ⟨fun ⟨y, hm, hy⟩ => ⟨y, hm, by rw [← hh y hm]; exact hy⟩, fun ⟨y, hm, hy⟩ => ⟨y, hm, by rw [hh y hm]; exact hy⟩⟩
      · rw [if_neg h2]
        by_cases h3 : isN s sGe = true
        · rw [if_pos h3]
        · have h4 : isN s sEq = true ∨ isN s sNe = true ∨ isN s sLt = true ∨ isN s sLe = true ∨ isN s sGt = true := by
            unfold testF at ht
            rw [if_neg h2, if_neg h1] at ht
            split at ht
            · rename_i h; simp only [Bool.or_eq_true] at h
              rcases h with ((((h | h) | h) | h) | h) | h
              · exact .inl h
              · exact .inr (.inl h)
              · exact .inr (.inr (.inl h))
              · exact .inr (.inr (.inr (.inl h)))
              · exact .inr (.inr (.inr (.inr h)))
              · exact absurd h h3
            · cases ht
          unfold byName
          by_cases a1 : isN s sEq = true
          · rw [if_pos a1, if_pos a1]
          rw [if_neg a1, if_neg a1]
          by_cases a2 : isN s sNe = true
          · rw [if_pos a2, if_pos a2]
          rw [if_neg a2, if_neg a2]
          by_cases a3 : isN s sLt = true
          · rw [if_pos a3, if_pos a3]
          rw [if_neg a3, if_neg a3]
          by_cases a4 : isN s sLe = true
          · rw [if_pos a4, if_pos a4]
          rw [if_neg a4, if_neg a4]
          rw [if_pos (by rcases h4 with h | h | h | h | h; exact absurd h a1; exact absurd h a2; exact absurd h a3; exact absurd h a4; exact h), if_pos (by rcases h4 with h | h | h | h | h; exact absurd h a1; exact absurd h a2; exact absurd h a3; exact absurd h a4; exact h)]
theorem holds_law (f doc : JV) : HoldsP f doc = HoldsR f doc := by
  unfold HoldsP HoldsR
  by_cases h : checkF f = 0
  · obtain ⟨hf, n, hc, _⟩ := check_count h
    rw [holds_alike (pass := passP) (pass' := passR) (eq := sameB) (eq' := eqR) doc 6 6 f n (Nat.le_refl _) hc hf (fun s v o a b c => pass_alike a b c) (fun x v a b => (same_cmp a b).symm) (Nat.le_refl _)]
    simp only [Bool.and_assoc, Bool.and_left_comm]
  · rw [decide_eq_false h]; simp

/-- FilterLogic, plainly -/
abbrev nNot : ByteArray := ⟨#[36, 110, 111, 116]⟩
abbrev nAnd : ByteArray := ⟨#[36, 97, 110, 100]⟩
abbrev nOr : ByteArray := ⟨#[36, 111, 114]⟩
def bothJ (f g : JV) : JV := .mk 5 0 ⟨#[]⟩ [] [f, g]
theorem holds_doc {f doc : JV} (hk : doc.kind = 6) (hd : formedF 6 doc = true) : HoldsP f doc = (decide (checkF f = 0) && holdsF passP sameB 6 f doc) := by
  unfold HoldsP; rw [hk, hd]; simp
theorem one_count {s : ByteArray} {v : JV} {n : Nat} (h : countF 6 (oneJ s v) = some n) : clauseF (countF 5) s v = some n := by
  obtain ⟨_, h⟩ := count_kind h
  have h' : sumO 0 [clauseF (countF 5) s v] = some n := h
  cases hc : clauseF (countF 5) s v with
  | none => rw [hc] at h'; cases h'
  | some m => rw [hc] at h'; simpa [sumO] using h'
theorem one_holds {s : ByteArray} {v doc : JV} : holdsF passP sameB 6 (oneJ s v) doc = oneFF passP sameB (fun g => holdsF passP sameB 5 g doc) s v doc := by
  rw [holdsF]
  show ([s].zip [v]).all _ = _
  simp
theorem kid_holds {d : Nat} {f doc : JV} {m : Nat} (hd : d ≤ 6) (hf : formedF d f = true) (hc : countF d f = some m) (hm : m ≤ 12) : checkF f = 0 ∧ holdsF passP sameB d f doc = holdsF passP sameB 6 f doc :=
  ⟨count_check (formed_up hf hd) (count_le_up hc hd) hm, holds_alike doc d 6 f m hd hc hf (fun _ _ _ _ _ _ => rfl) (fun _ _ _ _ => rfl) hd⟩
theorem not_law {f doc : JV} (hk : doc.kind = 6) (hd : formedF 6 doc = true) (h : checkF (oneJ nNot f) = 0) : HoldsP (oneJ nNot f) doc = !HoldsP f doc := by
  obtain ⟨hf, n, hc, hn⟩ := check_count h
  have hcl := one_count hc
  rw [cl_not (by decide +kernel) (by decide +kernel) (by decide +kernel)] at hcl
  obtain ⟨m, hm, rfl⟩ := Option.map_eq_some_iff.1 hcl
  have hff : formedF 5 f = true := formed_kids (d := 5) (v := oneJ nNot f) hf (by simp [oneJ, JV.items])
  obtain ⟨k1, k2⟩ := kid_holds (doc := doc) (by omega) hff hm (by omega)
  rw [holds_doc hk hd, holds_doc hk hd, h, k1, one_holds, on_not (by decide +kernel), k2]
  simp
theorem both_kids {s : ByteArray} {f g doc : JV} (hs : s.toList = sAnd ∨ s.toList = sOr) (h : checkF (oneJ s (bothJ f g)) = 0) :
    (checkF f = 0 ∧ holdsF passP sameB 5 f doc = holdsF passP sameB 6 f doc) ∧ (checkF g = 0 ∧ holdsF passP sameB 5 g doc = holdsF passP sameB 6 g doc) := by
  obtain ⟨hf, n, hc, hn⟩ := check_count h
  have hcl := one_count hc
  rw [cl_list (hs.imp isN_yes isN_yes) rfl (by simp [bothJ, JV.items])] at hcl
  have hcl' : sumO 1 [countF 5 f, countF 5 g] = some n := hcl
  have hb : formedF 5 (bothJ f g) = true := formed_kids (d := 5) (v := oneJ s (bothJ f g)) hf (by simp [oneJ, JV.items])
  have h1 : formedF 4 f = true := formed_kids (d := 4) (v := bothJ f g) hb (by simp [bothJ, JV.items])
  have h2 : formedF 4 g = true := formed_kids (d := 4) (v := bothJ f g) hb (by simp [bothJ, JV.items])
  cases c1 : countF 5 f with
  | none => rw [c1] at hcl'; cases hcl'
  | some a =>
    cases c2 : countF 5 g with
    | none => rw [c1, c2] at hcl'; cases hcl'
    | some b =>
      rw [c1, c2] at hcl'
      have : 1 + a + b = n := by simpa [sumO] using hcl'
      exact ⟨kid_holds (by omega) (formed_mono 4 f h1) c1 (by omega), kid_holds (by omega) (formed_mono 4 g h2) c2 (by omega)⟩
theorem and_law {f g doc : JV} (hk : doc.kind = 6) (hd : formedF 6 doc = true) (h : checkF (oneJ nAnd (bothJ f g)) = 0) : HoldsP (oneJ nAnd (bothJ f g)) doc = (HoldsP f doc && HoldsP g doc) := by
  obtain ⟨⟨a1, a2⟩, b1, b2⟩ := both_kids (doc := doc) (.inl (by decide +kernel)) h
  rw [holds_doc hk hd, holds_doc hk hd, holds_doc hk hd, h, a1, b1, one_holds, on_and (by decide +kernel)]
  show (_ && [f, g].all _) = _
  simp [a2, b2]
theorem or_law {f g doc : JV} (hk : doc.kind = 6) (hd : formedF 6 doc = true) (h : checkF (oneJ nOr (bothJ f g)) = 0) : HoldsP (oneJ nOr (bothJ f g)) doc = (HoldsP f doc || HoldsP g doc) := by
  obtain ⟨⟨a1, a2⟩, b1, b2⟩ := both_kids (doc := doc) (.inr (by decide +kernel)) h
  rw [holds_doc hk hd, holds_doc hk hd, holds_doc hk hd, h, a1, b1, one_holds, on_or (by decide +kernel)]
  show (_ && [f, g].any _) = _
  simp [a2, b2]

end Go.Proofs.YtcmfanfkcbjeoaaGreatDoor
