/- Lists of the reader's: the search, and the plain steps. -/
import Derived.Test.YtdhilnnohokoeaaDoorRL
namespace Go.Proofs.YtdhilnnohokoeaaDoor
open Go.Shelf Go.RowKit

theorem bin_any {B : Nat} {w : World} {nv : Value} {nm : List ByteArray} (h : w.ownsRow B 9 1 nv nm.length (nm.map .string)) (hu : upN nm) (hl : nm.length ≤ 1000000) (t : ByteArray) :
    Calls Tryd.prog 51 #[nv, .string t] w fun e w' => e = .returned (.tuple #[.int .i64 (placeN nm t : Nat), .bool (hasN nm t)]) ∧ Below w.heap.size w w' := by
  rcases h.2 with ⟨rfl, h0⟩ | ⟨g, cap, cur, rfl, hB, hg, h3, h4, h5, h6⟩
  · have hn : nm = [] := List.length_eq_zero_iff.1 h0
    subst hn
    exact (Any2.slices_BinarySearch_string_empty Tryd.laysBin none 0 t w).mono fun e w' ⟨he, hw⟩ => by subst hw; exact ⟨he, Below.refl _ _⟩
  · obtain ⟨Sx, hSx⟩ : ∃ Sx : Nat → ByteArray, ∀ j, Sx j = (nm[j]?).getD t := ⟨_, fun _ => rfl⟩
    have hS : ∀ (j : Nat) x, nm[j]? = some x → Sx j = x := fun j x hx => by rw [hSx, hx]; rfl
    have hc : ∀ j, j < nm.length → w.cell? ⟨g, 0 + j, none⟩ = some (.string (Sx j)) := fun j hj => by
      have e : (nm.map Value.string)[j]? = some (.string (Sx j)) := by
        rw [List.getElem?_map, List.getElem?_eq_getElem hj, hS j _ (List.getElem?_eq_getElem hj)]; rfl
      rw [← h6, List.getElem?_take] at e
      split at e
      · simp only [World.cell?, hg, Nat.zero_add]; simpa using e
      · cases e
    have hk := Lib.bsGo_spec (fun u => Op.bytesLess (Sx u).toList t.toList) (placeN nm t)
      (fun u hu1 => by
        have hlt : u < nm.length := Nat.lt_of_lt_of_le hu1 (placeN_le nm t)
        have := placeN_lt hu1 (List.getElem?_eq_getElem hlt)
        rw [← hS u _ (List.getElem?_eq_getElem hlt)] at this
        exact this)
      (fun u hu1 => by
        rcases Nat.lt_or_ge u nm.length with hlt | hge
        · have := placeN_ge hu hu1 (List.getElem?_eq_getElem hlt)
          rw [← hS u _ (List.getElem?_eq_getElem hlt)] at this
          exact this
        · have : Sx u = t := by rw [hSx, List.getElem?_eq_none hge]; rfl
          rw [this]; exact strLt_irrefl t)
      nm.length 0 nm.length (by omega) (Nat.zero_le _) (placeN_le nm t)
    refine (Any2.slices_BinarySearch_string Tryd.laysBin g 0 nm.length cap Sx t w (by omega) hc).mono ?_
    rintro e w' ⟨rfl, q, rfl⟩
    rw [hk]
    refine ⟨?_, ⟨rfl, rfl, rfl, Nat.le_refl _, fun _ _ => rfl⟩⟩
    have hd : decide (placeN nm t < nm.length ∧ Sx (placeN nm t) = t) = hasN nm t := by
      have e1 : (placeN nm t < nm.length ∧ Sx (placeN nm t) = t) ↔ hasN nm t = true := by
        rw [hasN_iff, placeN_mem hu]
        constructor
        · rintro ⟨a, b⟩
          rw [List.getElem?_eq_getElem a, ← hS _ _ (List.getElem?_eq_getElem a), b]
        · intro a
          exact ⟨(List.getElem?_eq_some_iff.1 a).1, hS _ _ a⟩
      cases hh : hasN nm t with
      | true => exact decide_eq_true (e1.2 hh)
      | false => exact decide_eq_false (fun c => by rw [e1.1 c] at hh; cases hh)
    rw [hd]

/-- what is still to come of a list -/
def moreL (f : Bool) (m : Nat) (k : Int) (l : List UInt8) (nm : List ByteArray) (it : List JV) : Option (JV × List UInt8) :=
  if f = true ∧ (skipL l).head? = some (endK k) then some (.mk k 0 ⟨#[]⟩ nm it, (skipL l).tail) else if k = 5 then arrL m l it else objL m l nm it
/-- its end -/
def endL (k : Int) (l : List UInt8) (nm : List ByteArray) (it : List JV) : Option (JV × List UInt8) :=
  if (skipL l).head? = some (endK k) then some (.mk k 0 ⟨#[]⟩ nm it, (skipL l).tail) else none
theorem more_start (n : Nat) (k : Int) (r : List UInt8) : listL n k r = moreL true n k r [] [] := by
  unfold listL moreL
  simp
theorem more_end {m : Nat} {k : Int} {l : List UInt8} {nm : List ByteArray} {it : List JV} (h : (skipL l).head? = some (endK k)) : moreL true m k l nm it = endL k l nm it := by
  unfold moreL endL
  rw [if_pos ⟨rfl, h⟩, if_pos h]
theorem more_on {f : Bool} {m : Nat} {k : Int} {l : List UInt8} {nm : List ByteArray} {it : List JV} (h : f = true → (skipL l).head? ≠ some (endK k)) : moreL f m k l nm it = if k = 5 then arrL m l it else objL m l nm it := by
  unfold moreL
  rw [if_neg (fun ⟨a, b⟩ => h a b)]
theorem more_next {m : Nat} {k : Int} {l : List UInt8} {nm : List ByteArray} {it : List JV} : moreL false m k l nm it = if k = 5 then arrL m l it else objL m l nm it := more_on (fun h => by cases h)
/-- behind a value: a comma, or the end -/
def tailL (m : Nat) (k : Int) (l : List UInt8) (nm : List ByteArray) (it : List JV) : Option (JV × List UInt8) :=
  if (skipL l).head? = some 44 then moreL false m k (skipL l).tail nm it else endL k l nm it
theorem arr_none {m : Nat} {l : List UInt8} {xs : List JV} (h : valL m l = none) : arrL (m + 1) l xs = none := by rw [arrL, h]
theorem arr_some {m : Nat} {l r : List UInt8} {xs : List JV} {x : JV} (h : valL m l = some (x, r)) : arrL (m + 1) l xs = tailL m 5 r [] (xs ++ [x]) := by
  rw [arrL, h]
  unfold tailL endL
  rw [more_next, if_pos rfl]
  dsimp only
  cases hs : skipL r with
  | nil => simp [endK]
  | cons c r2 =>
    simp only [List.head?_cons, List.tail_cons, Option.some.injEq]
    split
    · rfl
    · simp [endK]
theorem obj_str {m : Nat} {l : List UInt8} {nm : List ByteArray} {xs : List JV} (h : strL (skipL l) = none) : objL (m + 1) l nm xs = none := by rw [objL, h]
theorem obj_no {m : Nat} {l r : List UInt8} {nm : List ByteArray} {xs : List JV} {s : ByteArray} (h : strL (skipL l) = some (s, r)) (h2 : (∀ r2, skipL r ≠ 58 :: r2) ∨ hasN nm s = true) : objL (m + 1) l nm xs = none := by
  rw [objL, h]
  dsimp only
  cases hs : skipL r with
  | nil => rfl
  | cons c r2 =>
    dsimp only
    rw [if_pos ?_]
    rcases h2 with h2 | h2
    · exact .inl (fun e => h2 r2 (by rw [hs, e]))
    · exact .inr h2
theorem obj_val {m : Nat} {l r r2 : List UInt8} {nm : List ByteArray} {xs : List JV} {s : ByteArray} (h : strL (skipL l) = some (s, r)) (h2 : skipL r = 58 :: r2) (h3 : hasN nm s = false) (h4 : valL m r2 = none) : objL (m + 1) l nm xs = none := by
  rw [objL, h]
  dsimp only
  rw [h2]
  dsimp only
  rw [if_neg (by rw [h3]; simp), h4]
theorem obj_some {m : Nat} {l r r2 r3 : List UInt8} {nm : List ByteArray} {xs : List JV} {s : ByteArray} {x : JV} (h : strL (skipL l) = some (s, r)) (h2 : skipL r = 58 :: r2) (h3 : hasN nm s = false) (h4 : valL m r2 = some (x, r3)) : objL (m + 1) l nm xs = tailL m 6 r3 (insA (placeN nm s) s nm) (insA (placeN nm s) x xs) := by
  rw [objL, h]
  dsimp only
  rw [h2]
  dsimp only
  rw [if_neg (by rw [h3]; simp), h4]
  unfold tailL endL
  rw [more_next, if_neg (show ¬ (6 : Int) = 5 by decide)]
  dsimp only
  cases hs : skipL r3 with
  | nil => simp [endK]
  | cons c r4 =>
    simp only [List.head?_cons, List.tail_cons, Option.some.injEq]
    split
    · rfl
    · simp [endK]
theorem tail_on {m : Nat} {k : Int} {l r : List UInt8} {nm : List ByteArray} {it : List JV} (h : skipL l = 44 :: r) : tailL m k l nm it = moreL false m k r nm it := by
  unfold tailL; rw [h]; simp
theorem tail_end {m : Nat} {k : Int} {l : List UInt8} {nm : List ByteArray} {it : List JV} (h : ∀ r, skipL l ≠ 44 :: r) : tailL m k l nm it = endL k l nm it := by
  unfold tailL
  rw [if_neg]
  intro e
  cases hs : skipL l with
  | nil => rw [hs] at e; cases e
  | cons c r => rw [hs] at e; simp at e; subst e; exact h r hs
theorem end_some {k : Int} {l r : List UInt8} {nm : List ByteArray} {it : List JV} (h : skipL l = endK k :: r) : endL k l nm it = some (.mk k 0 ⟨#[]⟩ nm it, r) := by
  unfold endL; rw [h]; simp
theorem end_none {k : Int} {l : List UInt8} {nm : List ByteArray} {it : List JV} (h : ∀ r, skipL l ≠ endK k :: r) : endL k l nm it = none := by
  unfold endL
  rw [if_neg]
  intro e
  cases hs : skipL l with
  | nil => rw [hs] at e; cases e
  | cons c r => rw [hs] at e; simp at e; subst e; exact h r hs

/-- the end of the walk: the list's value is handed back -/
theorem list_post {b : Nat} {s : ByteArray} {R : Option (JV × List UInt8)} {w w2 : World} {k : Int} {nv iv : Value} {nm : List ByteArray} {ps : PVl} {q : Bool} (h : LV w.heap.size k nv iv nm ps q w2) (hk : (Lit.int .i64 k).wf = true) (hb : But b w w2) (hbw : b < w.heap.size) (bd : Bool) (hq : bd = false → q = true) (j : Nat) (hr : RB b s j bd w2)
    (h1 : bd = false → R = some (.mk k 0 ⟨#[]⟩ nm (itsOf ps), dl s j)) (h2 : bd = true → R = none) :
    ∃ W2, W2 = set5R w2 (w.heap.size + 1) (.int .i64 k) (.int .i64 0) (.string ⟨#[]⟩) nv iv ∧ W2.heap[w.heap.size + 1]? = some (.cells #[.int .i64 k, .int .i64 0, .string ⟨#[]⟩, nv, iv] 26 (0, 0)) ∧ ResPost b s R w (.returned (.agg #[.int .i64 k, .int .i64 0, .string ⟨#[]⟩, nv, iv])) W2 := by
  refine ⟨_, rfl, set5R_self h.res, But.own hb (Nat.le_succ _) (set5R_but _ _ _ _ _ _ _), bd, _, j, rfl, ?_, hr.keep (set5R_but _ _ _ _ _ _ _) (by omega), fun e => ?_, h2⟩
  · obtain ⟨a, c, e1, _⟩ := row_cell h.names
    obtain ⟨a2, c2, e2, _⟩ := row_cell h.items
    exact ⟨_, _, _, _, _, _, _, _, _, by rw [e1, e2]⟩
  · have e2 := hq e
    subst e2
    exact ⟨_, h1 e, ((h.done hk).mono (cfF_but (set5R_but _ _ _ _ _ _ _) (by omega))).mono (cfF_le _ (by omega))⟩
theorem end_skip {k : Int} {l l' : List UInt8} {nm : List ByteArray} {it : List JV} (h : skipL l = skipL l') : endL k l nm it = endL k l' nm it := by
  unfold endL; rw [h]
theorem list_fin {b : Nat} {s : ByteArray} {R : Option (JV × List UInt8)} {w w2 : World} {k : Int} {nv iv : Value} {nm : List ByteArray} {ps : PVl} {q : Bool} {ec : UInt8} (hec : ec = endK k) (h : LV w.heap.size k nv iv nm ps q w2) (hk : (Lit.int .i64 k).wf = true) (hb : But b w w2) (hbw : b < w.heap.size) (bd : Bool) (hq : bd = false → q = true) (j : Nat)
    (ht : (∃ r, skipL (dl s j) = ec :: r ∧ ∃ j', dl s j' = r ∧ j < j' ∧ RB b s j' bd w2) ∨ (∀ r, skipL (dl s j) ≠ ec :: r) ∧ RBad b s w2)
    (h1 : bd = false → endL k (dl s j) nm (itsOf ps) = R) (h2 : bd = true → R = none) :
    ∃ W2, W2 = set5R w2 (w.heap.size + 1) (.int .i64 k) (.int .i64 0) (.string ⟨#[]⟩) nv iv ∧ W2.heap[w.heap.size + 1]? = some (.cells #[.int .i64 k, .int .i64 0, .string ⟨#[]⟩, nv, iv] 26 (0, 0)) ∧ ResPost b s R w (.returned (.agg #[.int .i64 k, .int .i64 0, .string ⟨#[]⟩, nv, iv])) W2 := by
  subst hec
  rcases ht with ⟨r, hs, j', hj, _, hr⟩ | ⟨hn, j', hr⟩
  · exact list_post h hk hb hbw bd hq j' hr (fun e => by rw [← h1 e, end_some hs, hj]) h2
  · refine list_post h hk hb hbw true (fun e => by cases e) j' hr (fun e => by cases e) (fun _ => ?_)
    cases bd with
    | true => exact h2 rfl
    | false => rw [← h1 rfl, end_none hn]
/-- the bad end: fail's value is handed back -/
theorem bad_post {b : Nat} {s : ByteArray} {R : Option (JV × List UInt8)} {w w2 : World} (hv : w2.heap[w.heap.size + 1]? = some (.cells zero5R 26 (0, 0))) (hb : But b w w2) (hbw : b < w.heap.size) (hr : RBad b s w2) (h2 : R = none) :
    ∃ W2, W2 = set5R w2 (w.heap.size + 1) (.int .i64 0) (.int .i64 0) (.string ⟨#[]⟩) (.slice none 0 0) (.slice none 0 0) ∧ W2.heap[w.heap.size + 1]? = some (.cells zero5R 26 (0, 0)) ∧ ResPost b s R w (.returned (.agg zero5R)) W2 := by
  obtain ⟨j, hr⟩ := hr
  exact ⟨_, rfl, set5R_self hv, But.own hb (Nat.le_succ _) (set5R_but _ _ _ _ _ _ _), true, _, j, rfl, shape_zero, hr.keep (set5R_but _ _ _ _ _ _ _) (by omega), (fun h => by cases h), fun _ => h2⟩

end Go.Proofs.YtdhilnnohokoeaaDoor
