/- Filters: what the laws share: values that are built, empty, awake, few, ask. Filters: ask. Filters: what is asked of an object of one member, plainly. -/
import Derived.Test.YtcmfanfkcbjeoaaGreatDoorFM
import Derived.Test.YtcmfanfkcbjeoaaGreatDoorJA
namespace Go.Proofs.YtcmfanfkcbjeoaaGreatDoor
open Go.RowKit

theorem al_old {w : World} {o x : Obj} {k : Nat} (h : w.heap[k]? = some x) : (w.alloc o).heap[k]? = some x := kept h ((Below.refl _ w).alloc (Nat.le_refl _) o)
theorem al_new {w : World} {o : Obj} {n : Nat} (h : n = w.heap.size) : (w.alloc o).heap[n]? = some o := by rw [h]; exact heap_alloc_new w o

theorem strs0 (c : CF) : StrsAt c (.slice none 0 0) [] := ⟨none, 0, rfl, by simp, fun i s h => by simp at h⟩
theorem items0 (c : CF) : ItemsAt c (.slice none 0 0) [] := ⟨none, 0, rfl, by simp, fun i s h => by simp at h⟩
theorem strs1 {w : World} {b : Nat} {s : ByteArray} {t : TypeId} {fr : Nat × Nat} (h : w.heap[b]? = some (.cells #[.string s] t fr)) (hs : s.size ≤ 9223372036854775807) : StrsAt (cf w) (.slice (some ⟨b, 0, none⟩) 1 1) [s] := by
  refine ⟨some ⟨b, 0, none⟩, 1, rfl, by simp, fun i x hx => ?_⟩
  match i, hx with
  | 0, hx => simp at hx; subst hx; exact ⟨hs, b, 0, rfl, by simp [cf, World.cell?, h]⟩
theorem items1 {w : World} {b : Nat} {x : JV} {c0 c1 c2 c3 c4 : Value} {t : TypeId} {fr : Nat × Nat} (h : w.heap[b]? = some (.cells #[c0, c1, c2, c3, c4] t fr)) (hx : JAt (cf w) x (.agg #[c0, c1, c2, c3, c4])) : ItemsAt (cf w) (.slice (some ⟨b, 0, none⟩) 1 1) [x] := by
  obtain ⟨k, n, s, nm, it, na, ncap, ia, icap, rfl, e, _⟩ := id hx.open
  simp only [Value.agg.injEq, Array.mk.injEq, List.cons.injEq, and_true] at e
  obtain ⟨rfl, rfl, rfl, rfl, rfl⟩ := e
  refine ⟨some ⟨b, 0, none⟩, 1, rfl, by simp, fun i y hy => ?_⟩
  match i, hy with
  | 0, hy =>
    simp at hy; subst hy
    exact ⟨b, 0, k, n, s, nm, it, na, ncap, ia, icap, rfl, rfl, by simp [cf, World.cell?, h], by simp [cf, World.cell?, h], by simp [cf, World.cell?, h], by simp [cf, World.cell?, h], by simp [cf, World.cell?, h], hx⟩
theorem items2 {w : World} {b : Nat} {x y : JV} {c0 c1 c2 c3 c4 d0 d1 d2 d3 d4 : Value} {t : TypeId} {fr : Nat × Nat} (h : w.heap[b]? = some (.cells #[c0, c1, c2, c3, c4, d0, d1, d2, d3, d4] t fr)) (hx : JAt (cf w) x (.agg #[c0, c1, c2, c3, c4])) (hy : JAt (cf w) y (.agg #[d0, d1, d2, d3, d4])) : ItemsAt (cf w) (.slice (some ⟨b, 0, none⟩) 2 2) [x, y] := by
  obtain ⟨k, n, s, nm, it, na, ncap, ia, icap, rfl, e, _⟩ := id hx.open
  simp only [Value.agg.injEq, Array.mk.injEq, List.cons.injEq, and_true] at e
  obtain ⟨rfl, rfl, rfl, rfl, rfl⟩ := e
  obtain ⟨k2, n2, s2, nm2, it2, na2, ncap2, ia2, icap2, rfl, e, _⟩ := id hy.open
  simp only [Value.agg.injEq, Array.mk.injEq, List.cons.injEq, and_true] at e
  obtain ⟨rfl, rfl, rfl, rfl, rfl⟩ := e
  refine ⟨some ⟨b, 0, none⟩, 2, rfl, by simp, fun i z hz => ?_⟩
  match i, hz with
  | 0, hz =>
    simp at hz; subst hz
    exact ⟨b, 0, k, n, s, nm, it, na, ncap, ia, icap, rfl, rfl, by simp [cf, World.cell?, h], by simp [cf, World.cell?, h], by simp [cf, World.cell?, h], by simp [cf, World.cell?, h], by simp [cf, World.cell?, h], hx⟩
  | 1, hz =>
    simp at hz; subst hz
    exact ⟨b, 0, k2, n2, s2, nm2, it2, na2, ncap2, ia2, icap2, rfl, rfl, by simp [cf, World.cell?, h], by simp [cf, World.cell?, h], by simp [cf, World.cell?, h], by simp [cf, World.cell?, h], by simp [cf, World.cell?, h], hy⟩
theorem items3 {w : World} {b : Nat} {x y z : JV} {c0 c1 c2 c3 c4 d0 d1 d2 d3 d4 e0 e1 e2 e3 e4 : Value} {t : TypeId} {fr : Nat × Nat} (h : w.heap[b]? = some (.cells #[c0, c1, c2, c3, c4, d0, d1, d2, d3, d4, e0, e1, e2, e3, e4] t fr)) (hx : JAt (cf w) x (.agg #[c0, c1, c2, c3, c4])) (hy : JAt (cf w) y (.agg #[d0, d1, d2, d3, d4])) (hz : JAt (cf w) z (.agg #[e0, e1, e2, e3, e4])) : ItemsAt (cf w) (.slice (some ⟨b, 0, none⟩) 3 3) [x, y, z] := by
  obtain ⟨k, n, s, nm, it, na, ncap, ia, icap, rfl, e, _⟩ := id hx.open
  simp only [Value.agg.injEq, Array.mk.injEq, List.cons.injEq, and_true] at e
  obtain ⟨rfl, rfl, rfl, rfl, rfl⟩ := e
  obtain ⟨k2, n2, s2, nm2, it2, na2, ncap2, ia2, icap2, rfl, e, _⟩ := id hy.open
  simp only [Value.agg.injEq, Array.mk.injEq, List.cons.injEq, and_true] at e
  obtain ⟨rfl, rfl, rfl, rfl, rfl⟩ := e
  obtain ⟨k3, n3, s3, nm3, it3, na3, ncap3, ia3, icap3, rfl, e, _⟩ := id hz.open
  simp only [Value.agg.injEq, Array.mk.injEq, List.cons.injEq, and_true] at e
  obtain ⟨rfl, rfl, rfl, rfl, rfl⟩ := e
  refine ⟨some ⟨b, 0, none⟩, 3, rfl, by simp, fun i u hu => ?_⟩
  match i, hu with
  | 0, hu =>
    simp at hu; subst hu
    exact ⟨b, 0, k, n, s, nm, it, na, ncap, ia, icap, rfl, rfl, by simp [cf, World.cell?, h], by simp [cf, World.cell?, h], by simp [cf, World.cell?, h], by simp [cf, World.cell?, h], by simp [cf, World.cell?, h], hx⟩
  | 1, hu =>
    simp at hu; subst hu
    exact ⟨b, 0, k2, n2, s2, nm2, it2, na2, ncap2, ia2, icap2, rfl, rfl, by simp [cf, World.cell?, h], by simp [cf, World.cell?, h], by simp [cf, World.cell?, h], by simp [cf, World.cell?, h], by simp [cf, World.cell?, h], hy⟩
  | 2, hu =>
    simp at hu; subst hu
    exact ⟨b, 0, k3, n3, s3, nm3, it3, na3, ncap3, ia3, icap3, rfl, rfl, by simp [cf, World.cell?, h], by simp [cf, World.cell?, h], by simp [cf, World.cell?, h], by simp [cf, World.cell?, h], by simp [cf, World.cell?, h], hz⟩

/-- {} -/
def emptyJ : JV := .mk 6 0 ⟨#[]⟩ [] []
abbrev emptyV : Value := .agg #[.int .i64 6, .int .i64 0, .string ⟨#[]⟩, .slice none 0 0, .slice none 0 0]
theorem empty_at (c : CF) : JAt c emptyJ emptyV := JAt.shut (by kernel_rfl) (by kernel_rfl) (by simp [ByteArray.size]) (strs0 c) (items0 c)
theorem empty_text2 : textF ⟨#[]⟩ = true := by unfold textF; simp [ByteArray.size, Lib.validD, Lib.validGoD]
theorem empty_formed : formedF 6 emptyJ = true := by
  have h2 : headOk 6 0 ⟨#[]⟩ := ⟨by omega, by omega, .inr rfl, .inr (by kernel_rfl), empty_text2⟩
  unfold emptyJ
  rw [formedF, decide_eq_true h2, if_neg (by decide)]; rfl
theorem empty_holds : HoldsP emptyJ emptyJ = true := by
  have h1 : countF 6 emptyJ = some 0 := by unfold emptyJ; rw [countF, if_pos (show (JV.mk 6 0 ⟨#[]⟩ [] []).kind = 6 from rfl)]; rfl
  have h2 : checkF emptyJ = 0 := by unfold checkF; rw [if_pos empty_formed, h1]; rfl
  have h3 : holdsF passP sameB 6 emptyJ emptyJ = true := by rw [holdsF]; rfl
  unfold HoldsP
  rw [h2, empty_formed, h3]; rfl

end Go.Proofs.YtcmfanfkcbjeoaaGreatDoor

namespace Go.Proofs.YtcmfanfkcbjeoaaGreatDoor
open Go.RowKit

/-- an object of one member -/
def oneJ (s : ByteArray) (v : JV) : JV := .mk 6 0 ⟨#[]⟩ [s] [v]
theorem one_at {w : World} {b c : Nat} {s : ByteArray} {v : JV} {c0 c1 c2 c3 c4 : Value} {t1 t2 : TypeId} {f1 f2 : Nat × Nat} (hb : w.heap[b]? = some (.cells #[.string s] t1 f1)) (hs : s.size ≤ 9223372036854775807) (hc : w.heap[c]? = some (.cells #[c0, c1, c2, c3, c4] t2 f2)) (hv : JAt (cf w) v (.agg #[c0, c1, c2, c3, c4])) :
    JAt (cf w) (oneJ s v) (.agg #[.int .i64 6, .int .i64 0, .string ⟨#[]⟩, .slice (some ⟨b, 0, none⟩) 1 1, .slice (some ⟨c, 0, none⟩) 1 1]) :=
  JAt.shut (by kernel_rfl) (by kernel_rfl) (by simp [ByteArray.size]) (strs1 hb hs) (items1 hc hv)
/-- what ask asks -/
def askJ (p s : ByteArray) (v : JV) : JV := oneJ p (oneJ s v)

theorem eight (w : World) (o0 o1 o2 o3 o4 o5 o6 o7 : Obj) : ∃ W, W = ((((((((w.alloc o0).alloc o1).alloc o2).alloc o3).alloc o4).alloc o5).alloc o6).alloc o7) ∧ Below w.heap.size w W ∧ W.heap[w.heap.size]? = some o0 ∧ W.heap[w.heap.size + 1]? = some o1 ∧ W.heap[w.heap.size + 1 + 1]? = some o2 ∧ W.heap[w.heap.size + 1 + 1 + 1]? = some o3 ∧ W.heap[w.heap.size + 1 + 1 + 1 + 1]? = some o4 ∧ W.heap[w.heap.size + 1 + 1 + 1 + 1 + 1]? = some o5 ∧ W.heap[w.heap.size + 1 + 1 + 1 + 1 + 1 + 1]? = some o6 ∧ W.heap[w.heap.size + 1 + 1 + 1 + 1 + 1 + 1 + 1]? = some o7 := by
  refine ⟨_, rfl, ?_, ?_, ?_, ?_, ?_, ?_, ?_, ?_, ?_⟩
  · exact (((((((((Below.refl _ w).alloc (by simp; try omega) o0).alloc (by simp; try omega) o1).alloc (by simp; try omega) o2).alloc (by simp; try omega) o3).alloc (by simp; try omega) o4).alloc (by simp; try omega) o5).alloc (by simp; try omega) o6).alloc (by simp; try omega) o7)
  · exact al_old (al_old (al_old (al_old (al_old (al_old (al_old (al_new (by simp))))))))
  · exact al_old (al_old (al_old (al_old (al_old (al_old (al_new (by simp)))))))
  · exact al_old (al_old (al_old (al_old (al_old (al_new (by simp))))))
  · exact al_old (al_old (al_old (al_old (al_new (by simp)))))
  · exact al_old (al_old (al_old (al_new (by simp))))
  · exact al_old (al_old (al_new (by simp)))
  · exact al_old (al_new (by simp))
  · exact al_new (by simp)

end Go.Proofs.YtcmfanfkcbjeoaaGreatDoor

namespace Go.Proofs.YtcmfanfkcbjeoaaGreatDoor

abbrev nA : ByteArray := ⟨#[97]⟩
abbrev nB : ByteArray := ⟨#[98]⟩
theorem steps_a : stepsF nA = some [nA] := by kernel_rfl
theorem steps_b : stepsF nB = some [nB] := by kernel_rfl
theorem get_a {x : JV} (h : formedF 6 (oneJ nA x) = true) : getJ (oneJ nA x) nA = some x := by
  unfold getJ
  rw [steps_a]
  simp only [Option.bind_some]
  rw [if_pos h, walkF]
  have hp : placeF (oneJ nA x) nA = 0 := by
    unfold placeF oneJ
    rw [if_neg (fun h => absurd h.1 (by decide : ¬ (6 : Int) = 5)), if_pos (show (JV.mk 6 0 ⟨#[]⟩ [nA] [x]).kind = 6 from rfl)]
    show idxGo nA [nA] 0 = 0
    rw [idxGo, if_pos rfl]; rfl
  rw [hp]; rfl
theorem get_b {x : JV} : getJ (oneJ nA x) nB = none := by
  unfold getJ
  rw [steps_b]
  simp only [Option.bind_some]
  split
  · rw [walkF]
    have hp : placeF (oneJ nA x) nB = -1 := by
      unfold placeF oneJ
      rw [if_neg (fun h => absurd h.1 (by decide : ¬ (6 : Int) = 5)), if_pos (show (JV.mk 6 0 ⟨#[]⟩ [nA] [x]).kind = 6 from rfl)]
      show idxGo nB [nA] 0 = -1
      rw [idxGo, if_neg (by decide +kernel), idxGo]
    rw [hp]; rfl
  · rfl

theorem check_formed {f : JV} (h : checkF f = 0) : formedF 6 f = true := by
  unfold checkF at h; split at h
  · assumption
  · cases h
theorem ask_formed {p s : ByteArray} {v : JV} (h : checkF (askJ p s v) = 0) : formedF 6 v = true := by
  have h1 := check_formed h
  have h2 : formedF 5 (oneJ s v) = true := formed_kids (d := 5) (v := askJ p s v) h1 (by simp [askJ, oneJ, JV.items])
  have h3 : formedF 4 v = true := formed_kids (d := 4) (v := oneJ s v) h2 (by simp [oneJ, JV.items])
  exact formed_up h3 (by omega)
theorem doc_formed {s : ByteArray} {x : JV} (h : formedF 6 (oneJ s x) = true) : formedF 6 x = true := by
  have h3 : formedF 5 x = true := formed_kids (d := 5) (v := oneJ s x) h (by simp [oneJ, JV.items])
  exact formed_up h3 (by omega)

/-- what is asked is answered as the test of the member is -/
theorem ask_holds {p s : ByteArray} {v x : JV} (hp : p = nA ∨ p = nB) (hs : signF s = true) (hc : checkF (askJ p s v) = 0) (hd : formedF 6 (oneJ nA x) = true) :
    HoldsP (askJ p s v) (oneJ nA x) = passP s v (getJ (oneJ nA x) p) := by
  unfold HoldsP
  rw [hc, hd]
  have h1 : ¬ p.toList = sAnd := by rcases hp with rfl | rfl <;> decide +kernel
  have h2 : ¬ p.toList = sOr := by rcases hp with rfl | rfl <;> decide +kernel
  have h3 : ¬ p.toList = sNot := by rcases hp with rfl | rfl <;> decide +kernel
  have ht : testsF (oneJ s v) = true := by simp [testsF, oneJ, JV.names, hs]
  have e : holdsF passP sameB 6 (askJ p s v) (oneJ nA x) = passP s v (getJ (oneJ nA x) p) := by
    rw [holdsF]
    show ([p].zip [oneJ s v]).all _ = _
    simp only [List.zip_cons_cons, List.zip_nil_left, List.all_cons, List.all_nil, Bool.and_true]
    rw [on_tests h1 h2 h3 ht]
    show ([s].zip [v]).all _ = _
    simp only [List.zip_cons_cons, List.zip_nil_left, List.all_cons, List.all_nil, Bool.and_true]
  rw [e]
  show (decide ((0 : Int) = 0) && decide ((6 : Int) = 6) && true && _) = _
  simp

abbrev nIn : ByteArray := ⟨#[36, 105, 110]⟩
abbrev nEq : ByteArray := ⟨#[36, 101, 113]⟩
abbrev nNe : ByteArray := ⟨#[36, 110, 101]⟩
abbrev nLt : ByteArray := ⟨#[36, 108, 116]⟩
abbrev nLe : ByteArray := ⟨#[36, 108, 101]⟩
abbrev nGt : ByteArray := ⟨#[36, 103, 116]⟩
abbrev nGe : ByteArray := ⟨#[36, 103, 101]⟩
abbrev nHas : ByteArray := ⟨#[36, 104, 97, 115]⟩
theorem pass_in {v x : JV} : passP nIn v (some x) = v.items.any (sameB x) := by
  unfold passP; rw [if_neg (by decide +kernel)]; simp only; rw [if_pos (by decide +kernel)]
theorem pass_eq {v x : JV} : passP nEq v (some x) = decide (cmpF 6 x v = 0) := by
  unfold passP; rw [if_neg (by decide +kernel)]; simp only; rw [if_neg (by decide +kernel)]; unfold byName; rw [if_pos (by decide +kernel)]
theorem pass_ne {v x : JV} : passP nNe v (some x) = decide (cmpF 6 x v ≠ 0) := by
  unfold passP; rw [if_neg (by decide +kernel)]; simp only; rw [if_neg (by decide +kernel)]; unfold byName; rw [if_neg (by decide +kernel), if_pos (by decide +kernel)]
theorem pass_lt {v x : JV} : passP nLt v (some x) = decide (cmpF 6 x v < 0) := by
  unfold passP; rw [if_neg (by decide +kernel)]; simp only; rw [if_neg (by decide +kernel)]; unfold byName; rw [if_neg (by decide +kernel), if_neg (by decide +kernel), if_pos (by decide +kernel)]
theorem pass_le {v x : JV} : passP nLe v (some x) = decide (cmpF 6 x v ≤ 0) := by
  unfold passP; rw [if_neg (by decide +kernel)]; simp only; rw [if_neg (by decide +kernel)]; unfold byName; rw [if_neg (by decide +kernel), if_neg (by decide +kernel), if_neg (by decide +kernel), if_pos (by decide +kernel)]
theorem pass_gt {v x : JV} : passP nGt v (some x) = decide (0 < cmpF 6 x v) := by
  unfold passP; rw [if_neg (by decide +kernel)]; simp only; rw [if_neg (by decide +kernel)]; unfold byName; rw [if_neg (by decide +kernel), if_neg (by decide +kernel), if_neg (by decide +kernel), if_neg (by decide +kernel), if_pos (by decide +kernel)]
theorem pass_ge {v x : JV} : passP nGe v (some x) = decide (0 ≤ cmpF 6 x v) := by
  unfold passP; rw [if_neg (by decide +kernel)]; simp only; rw [if_neg (by decide +kernel)]; unfold byName; rw [if_neg (by decide +kernel), if_neg (by decide +kernel), if_neg (by decide +kernel), if_neg (by decide +kernel), if_neg (by decide +kernel)]
theorem same_cmp {x v : JV} (hx : formedF 6 x = true) (hv : formedF 6 v = true) : decide (cmpF 6 x v = 0) = sameB x v := by
  by_cases h : x = v
  · rw [sameB_true h]; exact decide_eq_true ((cmp_zero 6 x v hx hv).2 h)
  · rw [sameB_false h]; exact decide_eq_false fun e => h ((cmp_zero 6 x v hx hv).1 e)

/-- FilterIn, plainly -/
theorem in_law {x a b : JV} (hd : formedF 6 (oneJ nA x) = true) (h1 : checkF (askJ nA nIn (.mk 5 0 ⟨#[]⟩ [] [a, b])) = 0) (h2 : checkF (askJ nA nEq a) = 0) (h3 : checkF (askJ nA nEq b) = 0) :
    HoldsP (askJ nA nIn (.mk 5 0 ⟨#[]⟩ [] [a, b])) (oneJ nA x) = (HoldsP (askJ nA nEq a) (oneJ nA x) || HoldsP (askJ nA nEq b) (oneJ nA x)) := by
  rw [ask_holds (.inl rfl) (by decide +kernel) h1 hd, ask_holds (.inl rfl) (by decide +kernel) h2 hd, ask_holds (.inl rfl) (by decide +kernel) h3 hd, get_a hd, pass_in, pass_eq, pass_eq, same_cmp (doc_formed hd) (ask_formed h2), same_cmp (doc_formed hd) (ask_formed h3)]
  show [a, b].any (sameB x) = _
  simp

end Go.Proofs.YtcmfanfkcbjeoaaGreatDoor
