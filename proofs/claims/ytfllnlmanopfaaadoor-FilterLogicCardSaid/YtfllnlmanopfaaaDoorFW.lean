/- Filters: FilterTests, plainly. -/
import Derived.Test.YtfllnlmanopfaaaDoorFU
namespace Go.Proofs.YtfllnlmanopfaaaDoor

theorem rises_one (s : ByteArray) : rises [s] = true := rfl
/-- an object of one member is formed just if its name is a text and its item is formed -/
theorem one_formed {d : Nat} {s : ByteArray} {v : JV} (hs : textF s = true) : formedF (d + 1) (oneJ s v) = formedF d v := by
  have h2 : headOk 6 0 ⟨#[]⟩ := ⟨by omega, by omega, .inr rfl, .inr (by kernel_rfl), empty_text2⟩
  unfold oneJ
  rw [formedF, decide_eq_true h2, if_neg (by decide), Bool.true_and]
  have hb : bodyOk 6 [s] [v].length = true := by simp [bodyOk, hs, rises_one]
  rw [hb]; simp

theorem text_a : textF nA = true := by kernel_rfl
theorem text_b : textF nB = true := by kernel_rfl

/-- what is asked is a filter just if the value is formed, not too deep -/
theorem ask_check {p s : ByteArray} {v : JV} (hp : p = nA ∨ p = nB) (hs : textF s = true) (_ : signF s = true) (ht : testF s v = true) : checkF (askJ p s v) = if formedF 4 v = true then 0 else 2 := by
  have hpt : textF p = true := by rcases hp with rfl | rfl; exact text_a; exact text_b
  have hf : formedF 6 (askJ p s v) = formedF 4 v := by unfold askJ; rw [one_formed hpt, one_formed hs]
  unfold checkF
  rw [hf]
  split
  · have h1 : isN p sAnd = false := by rcases hp with rfl | rfl <;> decide +kernel
    have h2 : isN p sOr = false := by rcases hp with rfl | rfl <;> decide +kernel
    have h3 : isN p sNot = false := by rcases hp with rfl | rfl <;> decide +kernel
    have h4 : signF p = false := by rcases hp with rfl | rfl <;> decide +kernel
    have h5 : ∃ l, stepsF p = some l := by rcases hp with rfl | rfl; exact ⟨_, steps_a⟩; exact ⟨_, steps_b⟩
    obtain ⟨l, h5⟩ := h5
    have hc : countF 6 (askJ p s v) = some 1 := by
      rw [countF, if_pos (show (askJ p s v).kind = 6 from rfl)]
      show sumO 0 (([p].zip [oneJ s v]).map _) = some 1
      simp only [List.zip_cons_cons, List.zip_nil_left, List.map_cons, List.map_nil]
      rw [cl_path h1 h2 h3 h4 h5]
      have : ((oneJ s v).names.zip (oneJ s v).items).all (fun p => testF p.1 p.2) = true := by
        show ([s].zip [v]).all _ = true
        simp [ht]
      rw [this]
      simp [sumO]
    rw [hc]; rfl
  · rfl

theorem six_text : textF nLt = true ∧ textF nEq = true ∧ textF nGt = true ∧ textF nLe = true ∧ textF nGe = true ∧ textF nNe = true ∧ textF nIn = true ∧ textF nHas = true := by
  refine ⟨?_, ?_, ?_, ?_, ?_, ?_, ?_, ?_⟩ <;> kernel_rfl
theorem test_six (s : ByteArray) (v : JV) (h : s = nLt ∨ s = nEq ∨ s = nGt ∨ s = nLe ∨ s = nGe ∨ s = nNe) : testF s v = true := by
  unfold testF
  rcases h with rfl | rfl | rfl | rfl | rfl | rfl <;> rw [if_pos (by decide +kernel)]

/-- True -/
def trueJ : JV := .mk 2 0 ⟨#[]⟩ [] []
def falseJ : JV := .mk 1 0 ⟨#[]⟩ [] []
theorem is_true {x : JV} (hx : formedF 6 x = true) : sameB x trueJ = decide (x.kind = 2) := by
  obtain ⟨k, n, t, nm, it⟩ := x
  by_cases hk : k = 2
  · subst hk
    have h1 := formed_head hx
    obtain ⟨rfl, rfl⟩ : it = [] ∧ nm = [] := by
      rw [formedF, if_pos (by decide), Bool.and_eq_true] at hx
      have := of_decide_eq_true hx.2
      exact ⟨List.length_eq_zero_iff.1 this.1, List.length_eq_zero_iff.1 this.2⟩
    obtain rfl : n = 0 := h1.2.2.1.resolve_left (by decide)
    have ht : t = ⟨#[]⟩ := by
      have e : t.data.toList = [] := by rw [← ByteArray.toList_eq]; exact h1.2.2.2.1.resolve_left (by decide)
      cases t; simp at e; rw [e]
    subst ht
    rw [sameB_true (show JV.mk 2 0 ⟨#[]⟩ [] [] = trueJ from rfl)]; rfl
  · rw [sameB_false (fun e : JV.mk k n t nm it = trueJ => hk (congrArg JV.kind e)), decide_eq_false (show ¬ (JV.mk k n t nm it).kind = 2 from hk)]

section
variable {x v : JV} (hd : formedF 6 (oneJ nA x) = true) (hok : checkF (askJ nA nLt v) = 0)
include hd hok
omit hd in
theorem tests_v : formedF 4 v = true := by
  rw [ask_check (.inl rfl) six_text.1 (by decide +kernel) (test_six _ _ (.inl rfl))] at hok
  split at hok
  · assumption
  · cases hok
omit hd in
theorem tests_ck {p s : ByteArray} (hp : p = nA ∨ p = nB) (hs : textF s = true) (hg : signF s = true) (ht : testF s v = true) : checkF (askJ p s v) = 0 := by
  rw [ask_check hp hs hg ht, if_pos (tests_v hok)]
theorem tests_c {s : ByteArray} (h : s = nLt ∨ s = nEq ∨ s = nGt ∨ s = nLe ∨ s = nGe ∨ s = nNe) : HoldsP (askJ nA s v) (oneJ nA x) = passP s v (some x) := by
  have ht : textF s = true := by rcases h with rfl | rfl | rfl | rfl | rfl | rfl; exact six_text.1; exact six_text.2.1; exact six_text.2.2.1; exact six_text.2.2.2.1; exact six_text.2.2.2.2.1; exact six_text.2.2.2.2.2.1
  have hg : signF s = true := by rcases h with rfl | rfl | rfl | rfl | rfl | rfl <;> decide +kernel
  rw [ask_holds (.inl rfl) hg (tests_ck hok (.inl rfl) ht hg (test_six s v h)) hd, get_a hd]
theorem tests_lt : HoldsP (askJ nA nLt v) (oneJ nA x) = decide (cmpF 6 x v < 0) := by rw [tests_c hd hok (.inl rfl), pass_lt]
theorem tests_eq : HoldsP (askJ nA nEq v) (oneJ nA x) = decide (cmpF 6 x v = 0) := by rw [tests_c hd hok (.inr (.inl rfl)), pass_eq]
theorem tests_gt : HoldsP (askJ nA nGt v) (oneJ nA x) = decide (0 < cmpF 6 x v) := by rw [tests_c hd hok (.inr (.inr (.inl rfl))), pass_gt]
theorem tests_le : HoldsP (askJ nA nLe v) (oneJ nA x) = decide (cmpF 6 x v ≤ 0) := by rw [tests_c hd hok (.inr (.inr (.inr (.inl rfl)))), pass_le]
theorem tests_ge : HoldsP (askJ nA nGe v) (oneJ nA x) = decide (0 ≤ cmpF 6 x v) := by rw [tests_c hd hok (.inr (.inr (.inr (.inr (.inl rfl))))), pass_ge]
theorem tests_ne : HoldsP (askJ nA nNe v) (oneJ nA x) = decide (cmpF 6 x v ≠ 0) := by rw [tests_c hd hok (.inr (.inr (.inr (.inr (.inr rfl))))), pass_ne]
theorem tests_same : decide (cmpF 6 x v = 0) = sameB x v := same_cmp (doc_formed hd) (formed_up (tests_v hok) (by omega))
theorem tests_in (hc : checkF (askJ nA nIn (.mk 5 0 ⟨#[]⟩ [] [trueJ, v])) = 0) : HoldsP (askJ nA nIn (.mk 5 0 ⟨#[]⟩ [] [trueJ, v])) (oneJ nA x) = (decide (cmpF 6 x v = 0) || decide (x.kind = 2)) := by
  rw [ask_holds (.inl rfl) (by decide +kernel) hc hd, get_a hd, pass_in, tests_same hd hok, ← is_true (doc_formed hd)]
  show [trueJ, v].any (sameB x) = _
  simp [Bool.or_comm]
theorem tests_none : HoldsP (askJ nB nLe v) (oneJ nA x) = false := by
  rw [ask_holds (.inr rfl) (by decide +kernel) (tests_ck hok (.inr rfl) six_text.2.2.2.1 (by decide +kernel) (test_six _ _ (.inr (.inr (.inr (.inl rfl)))))) hd, get_b]
  unfold passP; rw [if_neg (by decide +kernel)]; show isN nLe sNe = false; decide +kernel
theorem tests_other : HoldsP (askJ nB nNe v) (oneJ nA x) = true := by
  rw [ask_holds (.inr rfl) (by decide +kernel) (tests_ck hok (.inr rfl) six_text.2.2.2.2.2.1 (by decide +kernel) (test_six _ _ (.inr (.inr (.inr (.inr (.inr rfl))))))) hd, get_b]
  unfold passP; rw [if_neg (by decide +kernel)]; show isN nNe sNe = true; decide +kernel
end
theorem tests_has {x : JV} (hd : formedF 6 (oneJ nA x) = true) : HoldsP (askJ nB nHas falseJ) (oneJ nA x) = true := by
  have hf : formedF 4 falseJ = true := by
    have h2 : headOk 1 0 ⟨#[]⟩ := ⟨by omega, by omega, .inr rfl, .inr (by kernel_rfl), empty_text2⟩
    unfold falseJ
    rw [formedF, decide_eq_true h2, if_pos (by decide)]; rfl
  have ht : testF nHas falseJ = true := by
    unfold testF; rw [if_neg (by decide +kernel), if_neg (by decide +kernel), if_pos (by decide +kernel)]; rfl
  have hc : checkF (askJ nB nHas falseJ) = 0 := by rw [ask_check (.inr rfl) six_text.2.2.2.2.2.2.2 (by decide +kernel) ht, if_pos hf]
  rw [ask_holds (.inr rfl) (by decide +kernel) hc hd, get_b]
  unfold passP; rw [if_pos (by decide +kernel)]; rfl

end Go.Proofs.YtfllnlmanopfaaaDoor
