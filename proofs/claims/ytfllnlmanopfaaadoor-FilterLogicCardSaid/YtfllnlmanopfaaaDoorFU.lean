/- Filters: what is asked of an object of one member, plainly. -/
import Derived.Test.YtfllnlmanopfaaaDoorFT
namespace Go.Proofs.YtfllnlmanopfaaaDoor

abbrev nA : ByteArray := ⟨#[97]⟩
abbrev nB : ByteArray := ⟨#[98]⟩
theorem steps_a : stepsF nA = some [nA] := by kernel_rfl
theorem steps_b : stepsF nB = some [nB] := by kernel_rfl
theorem get_a {x : JV} (h : formedF 6 (oneJ nA x) = true) : getF (oneJ nA x) nA = some x := by
  unfold getF
  rw [steps_a]
  simp only [Option.bind_some]
  rw [if_pos h, walkF]
  have hp : placeF (oneJ nA x) nA = 0 := by
    unfold placeF oneJ
    rw [if_neg (fun h => absurd h.1 (by decide : ¬ (6 : Int) = 5)), if_pos (show (JV.mk 6 0 ⟨#[]⟩ [nA] [x]).kind = 6 from rfl)]
    show idxGo nA [nA] 0 = 0
    rw [idxGo, if_pos rfl]; rfl
  rw [hp]; rfl
theorem get_b {x : JV} : getF (oneJ nA x) nB = none := by
  unfold getF
  rw [steps_b]
  simp only [Option.bind_some]
  split
  · rw [walkF]
    have hp : placeF (oneJ nA x) nB = -1 := by
      unfold placeF oneJ
      rw [if_neg (fun h => absurd h.1 (by decide : ¬ (6 : Int) = 5)), if_pos (show (JV.mk 6 0 ⟨#[]⟩ [nA] [x]).kind = 6 from rfl)]
      show idxGo nB [nA] 0 = -1
      rw [idxGo, if_neg (by decide +kernel), idxGo]
    rw [hp]; rfl
  · rfl

theorem check_formed {f : JV} (h : checkF f = 0) : formedF 6 f = true := by
  unfold checkF at h; split at h
  · assumption
  · cases h
theorem ask_formed {p s : ByteArray} {v : JV} (h : checkF (askJ p s v) = 0) : formedF 6 v = true := by
  have h1 := check_formed h
  have h2 : formedF 5 (oneJ s v) = true := formed_kids (d := 5) (v := askJ p s v) h1 (by simp [askJ, oneJ, JV.items])
  have h3 : formedF 4 v = true := formed_kids (d := 4) (v := oneJ s v) h2 (by simp [oneJ, JV.items])
  exact formed_up h3 (by omega)
theorem doc_formed {s : ByteArray} {x : JV} (h : formedF 6 (oneJ s x) = true) : formedF 6 x = true := by
  have h3 : formedF 5 x = true := formed_kids (d := 5) (v := oneJ s x) h (by simp [oneJ, JV.items])
  exact formed_up h3 (by omega)

/-- what is asked is answered as the test of the member is -/
theorem ask_holds {p s : ByteArray} {v x : JV} (hp : p = nA ∨ p = nB) (hs : signF s = true) (hc : checkF (askJ p s v) = 0) (hd : formedF 6 (oneJ nA x) = true) :
    HoldsP (askJ p s v) (oneJ nA x) = passP s v (getF (oneJ nA x) p) := by
  unfold HoldsP
  rw [hc, hd]
  have h1 : ¬ p.toList = sAnd := by rcases hp with rfl | rfl <;> decide +kernel
  have h2 : ¬ p.toList = sOr := by rcases hp with rfl | rfl <;> decide +kernel
  have h3 : ¬ p.toList = sNot := by rcases hp with rfl | rfl <;> decide +kernel
  have ht : testsF (oneJ s v) = true := by simp [testsF, oneJ, JV.names, hs]
  have e : holdsF passP sameB 6 (askJ p s v) (oneJ nA x) = passP s v (getF (oneJ nA x) p) := by
    rw [holdsF]
    show ([p].zip [oneJ s v]).all _ = _
    simp only [List.zip_cons_cons, List.zip_nil_left, List.all_cons, List.all_nil, Bool.and_true]
    rw [on_tests h1 h2 h3 ht]
    show ([s].zip [v]).all _ = _
    simp only [List.zip_cons_cons, List.zip_nil_left, List.all_cons, List.all_nil, Bool.and_true]
  rw [e]
  show (decide ((0 : Int) = 0) && decide ((6 : Int) = 6) && true && _) = _
  simp

abbrev nIn : ByteArray := ⟨#[36, 105, 110]⟩
abbrev nEq : ByteArray := ⟨#[36, 101, 113]⟩
abbrev nNe : ByteArray := ⟨#[36, 110, 101]⟩
abbrev nLt : ByteArray := ⟨#[36, 108, 116]⟩
abbrev nLe : ByteArray := ⟨#[36, 108, 101]⟩
abbrev nGt : ByteArray := ⟨#[36, 103, 116]⟩
abbrev nGe : ByteArray := ⟨#[36, 103, 101]⟩
abbrev nHas : ByteArray := ⟨#[36, 104, 97, 115]⟩
theorem pass_in {v x : JV} : passP nIn v (some x) = v.items.any (sameB x) := by
  unfold passP; rw [if_neg (by decide +kernel)]; simp only; rw [if_pos (by decide +kernel)]
theorem pass_eq {v x : JV} : passP nEq v (some x) = decide (cmpF 6 x v = 0) := by
  unfold passP; rw [if_neg (by decide +kernel)]; simp only; rw [if_neg (by decide +kernel)]; unfold byName; rw [if_pos (by decide +kernel)]
theorem pass_ne {v x : JV} : passP nNe v (some x) = decide (cmpF 6 x v ≠ 0) := by
  unfold passP; rw [if_neg (by decide +kernel)]; simp only; rw [if_neg (by decide +kernel)]; unfold byName; rw [if_neg (by decide +kernel), if_pos (by decide +kernel)]
theorem pass_lt {v x : JV} : passP nLt v (some x) = decide (cmpF 6 x v < 0) := by
  unfold passP; rw [if_neg (by decide +kernel)]; simp only; rw [if_neg (by decide +kernel)]; unfold byName; rw [if_neg (by decide +kernel), if_neg (by decide +kernel), if_pos (by decide +kernel)]
theorem pass_le {v x : JV} : passP nLe v (some x) = decide (cmpF 6 x v ≤ 0) := by
  unfold passP; rw [if_neg (by decide +kernel)]; simp only; rw [if_neg (by decide +kernel)]; unfold byName; rw [if_neg (by decide +kernel), if_neg (by decide +kernel), if_neg (by decide +kernel), if_pos (by decide +kernel)]
theorem pass_gt {v x : JV} : passP nGt v (some x) = decide (0 < cmpF 6 x v) := by
  unfold passP; rw [if_neg (by decide +kernel)]; simp only; rw [if_neg (by decide +kernel)]; unfold byName; rw [if_neg (by decide +kernel), if_neg (by decide +kernel), if_neg (by decide +kernel), if_neg (by decide +kernel), if_pos (by decide +kernel)]
theorem pass_ge {v x : JV} : passP nGe v (some x) = decide (0 ≤ cmpF 6 x v) := by
  unfold passP; rw [if_neg (by decide +kernel)]; simp only; rw [if_neg (by decide +kernel)]; unfold byName; rw [if_neg (by decide +kernel), if_neg (by decide +kernel), if_neg (by decide +kernel), if_neg (by decide +kernel), if_neg (by decide +kernel)]
theorem same_cmp {x v : JV} (hx : formedF 6 x = true) (hv : formedF 6 v = true) : decide (cmpF 6 x v = 0) = sameB x v := by
  by_cases h : x = v
  · rw [sameB_true h]; exact decide_eq_true ((cmp_zero 6 x v hx hv).2 h)
  · rw [sameB_false h]; exact decide_eq_false fun e => h ((cmp_zero 6 x v hx hv).1 e)

/-- FilterIn, plainly -/
theorem in_law {x a b : JV} (hd : formedF 6 (oneJ nA x) = true) (h1 : checkF (askJ nA nIn (.mk 5 0 ⟨#[]⟩ [] [a, b])) = 0) (h2 : checkF (askJ nA nEq a) = 0) (h3 : checkF (askJ nA nEq b) = 0) :
    HoldsP (askJ nA nIn (.mk 5 0 ⟨#[]⟩ [] [a, b])) (oneJ nA x) = (HoldsP (askJ nA nEq a) (oneJ nA x) || HoldsP (askJ nA nEq b) (oneJ nA x)) := by
  rw [ask_holds (.inl rfl) (by decide +kernel) h1 hd, ask_holds (.inl rfl) (by decide +kernel) h2 hd, ask_holds (.inl rfl) (by decide +kernel) h3 hd, get_a hd, pass_in, pass_eq, pass_eq, same_cmp (doc_formed hd) (ask_formed h2), same_cmp (doc_formed hd) (ask_formed h3)]
  show [a, b].any (sameB x) = _
  simp

end Go.Proofs.YtfllnlmanopfaaaDoor
