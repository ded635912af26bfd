/- Lists of the reader's: the search, and the plain steps. Lists of the reader's: the loop. Lists of the reader's: the steps at objects. -/
import Derived.Test.YticlnijkfclgcaaGreatDoorZ15
namespace Go.Proofs.YticlnijkfclgcaaGreatDoor
open Go.Shelf Go.RowKit

theorem bin_any {B : Nat} {w : World} {nv : Value} {nm : List ByteArray} (h : w.ownsRow B 9 1 nv nm.length (nm.map .string)) (hu : upN nm) (hl : nm.length ≤ 1000000) (t : ByteArray) :
    Calls Tryz.prog 60 #[nv, .string t] w fun e w' => e = .returned (.tuple #[.int .i64 (placeN nm t : Nat), .bool (hasN nm t)]) ∧ Below w.heap.size w w' := by
  rcases h.2 with ⟨rfl, h0⟩ | ⟨g, cap, cur, rfl, hB, hg, h3, h4, h5, h6⟩
  · have hn : nm = [] := List.length_eq_zero_iff.1 h0
    subst hn
    exact (Any2.slices_BinarySearch_string_empty Tryz.laysBin none 0 t w).mono fun e w' ⟨he, hw⟩ => by subst hw; exact ⟨he, Below.refl _ _⟩
  · obtain ⟨Sx, hSx⟩ : ∃ Sx : Nat → ByteArray, ∀ j, Sx j = (nm[j]?).getD t := ⟨_, fun _ => rfl⟩
    have hS : ∀ (j : Nat) x, nm[j]? = some x → Sx j = x := fun j x hx => by rw [hSx, hx]; rfl
    have hc : ∀ j, j < nm.length → w.cell? ⟨g, 0 + j, none⟩ = some (.string (Sx j)) := fun j hj => by
      have e : (nm.map Value.string)[j]? = some (.string (Sx j)) := by
        rw [List.getElem?_map, List.getElem?_eq_getElem hj, hS j _ (List.getElem?_eq_getElem hj)]; rfl
      rw [← h6, List.getElem?_take] at e
      split at e
      · simp only [World.cell?, hg, Nat.zero_add]; simpa using e
      · cases e
    have hk := Lib.bsGo_spec (fun u => Op.bytesLess (Sx u).toList t.toList) (placeN nm t)
      (fun u hu1 => by
        have hlt : u < nm.length := Nat.lt_of_lt_of_le hu1 (placeN_le nm t)
        have := placeN_lt hu1 (List.getElem?_eq_getElem hlt)
        rw [← hS u _ (List.getElem?_eq_getElem hlt)] at this
        exact this)
      (fun u hu1 => by
        rcases Nat.lt_or_ge u nm.length with hlt | hge
        · have := placeN_ge hu hu1 (List.getElem?_eq_getElem hlt)
          rw [← hS u _ (List.getElem?_eq_getElem hlt)] at this
          exact this
        · have : Sx u = t := by rw [hSx, List.getElem?_eq_none hge]; rfl
          rw [this]; exact strLt_irrefl t)
      nm.length 0 nm.length (by omega) (Nat.zero_le _) (placeN_le nm t)
    refine (Any2.slices_BinarySearch_string Tryz.laysBin g 0 nm.length cap Sx t w (by omega) hc).mono ?_
    rintro e w' ⟨rfl, q, rfl⟩
    rw [hk]
    refine ⟨?_, ⟨rfl, rfl, rfl, Nat.le_refl _, fun _ _ => rfl⟩⟩
    have hd : decide (placeN nm t < nm.length ∧ Sx (placeN nm t) = t) = hasN nm t := by
      have e1 : (placeN nm t < nm.length ∧ Sx (placeN nm t) = t) ↔ hasN nm t = true := by
        rw [hasN_iff, placeN_mem hu]
        constructor
        · rintro ⟨a, b⟩
          rw [List.getElem?_eq_getElem a, ← hS _ _ (List.getElem?_eq_getElem a), b]
        · intro a
          exact ⟨(List.getElem?_eq_some_iff.1 a).1, hS _ _ a⟩
      cases hh : hasN nm t with
      | true => exact decide_eq_true (e1.2 hh)
      | false => exact decide_eq_false (fun c => by rw [e1.1 c] at hh; cases hh)
    rw [hd]
/-- what is still to come of a list -/
def moreL (f : Bool) (m : Nat) (k : Int) (l : List UInt8) (nm : List ByteArray) (it : List JV) : Option (JV × List UInt8) :=
  if f = true ∧ (skipL l).head? = some (endK k) then some (.mk k 0 ⟨#[]⟩ nm it, (skipL l).tail) else if k = 5 then arrL m l it else objL m l nm it
/-- its end -/
def endL (k : Int) (l : List UInt8) (nm : List ByteArray) (it : List JV) : Option (JV × List UInt8) :=
  if (skipL l).head? = some (endK k) then some (.mk k 0 ⟨#[]⟩ nm it, (skipL l).tail) else none
theorem more_start (n : Nat) (k : Int) (r : List UInt8) : listL n k r = moreL true n k r [] [] := by
  unfold listL moreL
  simp
theorem more_end {m : Nat} {k : Int} {l : List UInt8} {nm : List ByteArray} {it : List JV} (h : (skipL l).head? = some (endK k)) : moreL true m k l nm it = endL k l nm it := by
  unfold moreL endL
  rw [if_pos ⟨rfl, h⟩, if_pos h]
theorem more_on {f : Bool} {m : Nat} {k : Int} {l : List UInt8} {nm : List ByteArray} {it : List JV} (h : f = true → (skipL l).head? ≠ some (endK k)) : moreL f m k l nm it = if k = 5 then arrL m l it else objL m l nm it := by
  unfold moreL
  rw [if_neg (fun ⟨a, b⟩ => h a b)]
theorem more_next {m : Nat} {k : Int} {l : List UInt8} {nm : List ByteArray} {it : List JV} : moreL false m k l nm it = if k = 5 then arrL m l it else objL m l nm it := more_on (fun h => by cases h)
/-- behind a value: a comma, or the end -/
def tailL (m : Nat) (k : Int) (l : List UInt8) (nm : List ByteArray) (it : List JV) : Option (JV × List UInt8) :=
  if (skipL l).head? = some 44 then moreL false m k (skipL l).tail nm it else endL k l nm it
theorem arr_none {m : Nat} {l : List UInt8} {xs : List JV} (h : valL m l = none) : arrL (m + 1) l xs = none := by rw [arrL, h]
theorem arr_some {m : Nat} {l r : List UInt8} {xs : List JV} {x : JV} (h : valL m l = some (x, r)) : arrL (m + 1) l xs = tailL m 5 r [] (xs ++ [x]) := by
  rw [arrL, h]
  unfold tailL endL
  rw [more_next, if_pos rfl]
  dsimp only
  cases hs : skipL r with
  | nil => simp [endK]
  | cons c r2 =>
    simp only [List.head?_cons, List.tail_cons, Option.some.injEq]
    split
    · rfl
    · simp [endK]
theorem obj_str {m : Nat} {l : List UInt8} {nm : List ByteArray} {xs : List JV} (h : strL (skipL l) = none) : objL (m + 1) l nm xs = none := by rw [objL, h]
theorem obj_no {m : Nat} {l r : List UInt8} {nm : List ByteArray} {xs : List JV} {s : ByteArray} (h : strL (skipL l) = some (s, r)) (h2 : (∀ r2, skipL r ≠ 58 :: r2) ∨ hasN nm s = true) : objL (m + 1) l nm xs = none := by
  rw [objL, h]
  dsimp only
  cases hs : skipL r with
  | nil => rfl
  | cons c r2 =>
    dsimp only
    rw [if_pos ?_]
    rcases h2 with h2 | h2
    · exact .inl (fun e => h2 r2 (by rw [hs, e]))
    · exact .inr h2
theorem obj_val {m : Nat} {l r r2 : List UInt8} {nm : List ByteArray} {xs : List JV} {s : ByteArray} (h : strL (skipL l) = some (s, r)) (h2 : skipL r = 58 :: r2) (h3 : hasN nm s = false) (h4 : valL m r2 = none) : objL (m + 1) l nm xs = none := by
  rw [objL, h]
  dsimp only
  rw [h2]
  dsimp only
  rw [if_neg (by rw [h3]; simp), h4]
theorem obj_some {m : Nat} {l r r2 r3 : List UInt8} {nm : List ByteArray} {xs : List JV} {s : ByteArray} {x : JV} (h : strL (skipL l) = some (s, r)) (h2 : skipL r = 58 :: r2) (h3 : hasN nm s = false) (h4 : valL m r2 = some (x, r3)) : objL (m + 1) l nm xs = tailL m 6 r3 (insA (placeN nm s) s nm) (insA (placeN nm s) x xs) := by
  rw [objL, h]
  dsimp only
  rw [h2]
  dsimp only
  rw [if_neg (by rw [h3]; simp), h4]
  unfold tailL endL
  rw [more_next, if_neg (show ¬ (6 : Int) = 5 by decide)]
  dsimp only
  cases hs : skipL r3 with
  | nil => simp [endK]
  | cons c r4 =>
    simp only [List.head?_cons, List.tail_cons, Option.some.injEq]
    split
    · rfl
    · simp [endK]
theorem tail_on {m : Nat} {k : Int} {l r : List UInt8} {nm : List ByteArray} {it : List JV} (h : skipL l = 44 :: r) : tailL m k l nm it = moreL false m k r nm it := by
  unfold tailL; rw [h]; simp
theorem tail_end {m : Nat} {k : Int} {l : List UInt8} {nm : List ByteArray} {it : List JV} (h : ∀ r, skipL l ≠ 44 :: r) : tailL m k l nm it = endL k l nm it := by
  unfold tailL
  rw [if_neg]
  intro e
  cases hs : skipL l with
  | nil => rw [hs] at e; cases e
  | cons c r => rw [hs] at e; simp at e; subst e; exact h r hs
theorem end_some {k : Int} {l r : List UInt8} {nm : List ByteArray} {it : List JV} (h : skipL l = endK k :: r) : endL k l nm it = some (.mk k 0 ⟨#[]⟩ nm it, r) := by
  unfold endL; rw [h]; simp
theorem end_none {k : Int} {l : List UInt8} {nm : List ByteArray} {it : List JV} (h : ∀ r, skipL l ≠ endK k :: r) : endL k l nm it = none := by
  unfold endL
  rw [if_neg]
  intro e
  cases hs : skipL l with
  | nil => rw [hs] at e; cases e
  | cons c r => rw [hs] at e; simp at e; subst e; exact h r hs
/-- the end of the walk: the list's value is handed back -/
theorem list_post {b : Nat} {s : ByteArray} {R : Option (JV × List UInt8)} {w w2 : World} {k : Int} {nv iv : Value} {nm : List ByteArray} {ps : PVl} {q : Bool} (h : LV w.heap.size k nv iv nm ps q w2) (hk : (Lit.int .i64 k).wf = true) (hb : But b w w2) (hbw : b < w.heap.size) (bd : Bool) (hq : bd = false → q = true) (j : Nat) (hr : RB b s j bd w2)
    (h1 : bd = false → R = some (.mk k 0 ⟨#[]⟩ nm (itsOf ps), dl s j)) (h2 : bd = true → R = none) :
    ∃ W2, W2 = set5R w2 (w.heap.size + 1) (.int .i64 k) (.int .i64 0) (.string ⟨#[]⟩) nv iv ∧ W2.heap[w.heap.size + 1]? = some (.cells #[.int .i64 k, .int .i64 0, .string ⟨#[]⟩, nv, iv] 58 (0, 0)) ∧ ResPost b s R w (.returned (.agg #[.int .i64 k, .int .i64 0, .string ⟨#[]⟩, nv, iv])) W2 := by
  refine ⟨_, rfl, set5R_self h.res, But.own hb (Nat.le_succ _) (set5R_but _ _ _ _ _ _ _), bd, _, j, rfl, ?_, hr.keep (set5R_but _ _ _ _ _ _ _) (by omega), fun e => ?_, h2⟩
  · obtain ⟨a, c, e1, _⟩ := row_cell h.names
    obtain ⟨a2, c2, e2, _⟩ := row_cell h.items
    exact ⟨_, _, _, _, _, _, _, _, _, by rw [e1, e2]⟩
  · have e2 := hq e
    subst e2
    exact ⟨_, h1 e, ((h.done hk).mono (cfF_but (set5R_but _ _ _ _ _ _ _) (by omega))).mono (cfF_le _ (by omega))⟩
theorem end_skip {k : Int} {l l' : List UInt8} {nm : List ByteArray} {it : List JV} (h : skipL l = skipL l') : endL k l nm it = endL k l' nm it := by
  unfold endL; rw [h]
theorem list_fin {b : Nat} {s : ByteArray} {R : Option (JV × List UInt8)} {w w2 : World} {k : Int} {nv iv : Value} {nm : List ByteArray} {ps : PVl} {q : Bool} {ec : UInt8} (hec : ec = endK k) (h : LV w.heap.size k nv iv nm ps q w2) (hk : (Lit.int .i64 k).wf = true) (hb : But b w w2) (hbw : b < w.heap.size) (bd : Bool) (hq : bd = false → q = true) (j : Nat)
    (ht : (∃ r, skipL (dl s j) = ec :: r ∧ ∃ j', dl s j' = r ∧ j < j' ∧ RB b s j' bd w2) ∨ (∀ r, skipL (dl s j) ≠ ec :: r) ∧ RBad b s w2)
    (h1 : bd = false → endL k (dl s j) nm (itsOf ps) = R) (h2 : bd = true → R = none) :
    ∃ W2, W2 = set5R w2 (w.heap.size + 1) (.int .i64 k) (.int .i64 0) (.string ⟨#[]⟩) nv iv ∧ W2.heap[w.heap.size + 1]? = some (.cells #[.int .i64 k, .int .i64 0, .string ⟨#[]⟩, nv, iv] 58 (0, 0)) ∧ ResPost b s R w (.returned (.agg #[.int .i64 k, .int .i64 0, .string ⟨#[]⟩, nv, iv])) W2 := by
  subst hec
  rcases ht with ⟨r, hs, j', hj, _, hr⟩ | ⟨hn, j', hr⟩
  · exact list_post h hk hb hbw bd hq j' hr (fun e => by rw [← h1 e, end_some hs, hj]) h2
  · refine list_post h hk hb hbw true (fun e => by cases e) j' hr (fun e => by cases e) (fun _ => ?_)
    cases bd with
    | true => exact h2 rfl
    | false => rw [← h1 rfl, end_none hn]
/-- the bad end: fail's value is handed back -/
theorem bad_post {b : Nat} {s : ByteArray} {R : Option (JV × List UInt8)} {w w2 : World} (hv : w2.heap[w.heap.size + 1]? = some (.cells zero5R 58 (0, 0))) (hb : But b w w2) (hbw : b < w.heap.size) (hr : RBad b s w2) (h2 : R = none) :
    ∃ W2, W2 = set5R w2 (w.heap.size + 1) (.int .i64 0) (.int .i64 0) (.string ⟨#[]⟩) (.slice none 0 0) (.slice none 0 0) ∧ W2.heap[w.heap.size + 1]? = some (.cells zero5R 58 (0, 0)) ∧ ResPost b s R w (.returned (.agg zero5R)) W2 := by
  obtain ⟨j, hr⟩ := hr
  exact ⟨_, rfl, set5R_self hv, But.own hb (Nat.le_succ _) (set5R_but _ _ _ _ _ _ _), true, _, j, rfl, shape_zero, hr.keep (set5R_but _ _ _ _ _ _ _) (by omega), (fun h => by cases h), fun _ => h2⟩
end Go.Proofs.YticlnijkfclgcaaGreatDoor

namespace Go.Proofs.YticlnijkfclgcaaGreatDoor
open Go.Shelf Go.RowKit

/-- the loop: what is still to be read tells the whole -/
def LInv (b : Nat) (s : ByteArray) (n : Nat) (k : Int) (R : Option (JV × List UInt8)) (w : World) (g : Nat) (f : Bool) (wr : World) : Prop :=
  But b w wr ∧ ∃ (j : Nat) (nv iv : Value) (nm : List ByteArray) (ps : PVl), RB b s j false wr ∧ LV w.heap.size k nv iv nm ps true wr ∧ (s.size - j ≤ g ∧ ps.length ≤ j ∧ upN nm ∧ (k = 5 → nm = []) ∧ (k = 6 → nm.length = ps.length)) ∧
    ∃ m, m ≤ n ∧ 2 * (s.size - j) + 2 ≤ m ∧ moreL f m k (dl s j) nm (itsOf ps) = R
theorem LV.start {w : World} {k : Int} (W : World) (hW : W = (w.alloc (.cells #[.int .i64 k, .int .i64 0, .string ⟨#[]⟩, .slice none 0 0, .slice none 0 0] 58)).alloc (.cells zero5R 58)) : LV w.heap.size k (.slice none 0 0) (.slice none 0 0) [] [] true W := by
  have h1 : W.heap[w.heap.size + 1]? = some (.cells zero5R 58 (0, 0)) := by
    rw [hW]
    have := heap_alloc_new (w.alloc (.cells #[.int .i64 k, .int .i64 0, .string ⟨#[]⟩, .slice none 0 0, .slice none 0 0] 58)) (.cells zero5R 58)
    simpa using this
  have h0 : W.heap[w.heap.size]? = some (.cells #[.int .i64 k, .int .i64 0, .string ⟨#[]⟩, .slice none 0 0, .slice none 0 0] 58 (0, 0)) := by
    rw [hW]
    exact keptR (heap_alloc_new w _) ((Below.refl _ _).alloc (Nat.le_refl _) _)
  exact ⟨h0, h1, ⟨rfl, .inl ⟨rfl, rfl⟩⟩, ⟨rfl, .inl ⟨rfl, rfl⟩⟩, (fun _ p hp => by cases hp), (fun g hg => by cases hg), (fun x hx => by cases hx)⟩
/-- any world -/
def AnyW : Type := { _w : World // True }
instance : Nonempty AnyW := ⟨⟨default, trivial⟩⟩
abbrev AnyC : World → Prop := fun w' => ∃ e : AnyW, w' = e.val
theorem anyC (w : World) : AnyC w := ⟨⟨w, trivial⟩, rfl⟩
theorem val_skip (m : Nat) (l : List UInt8) : valL m (skipL l) = valL m l := by
  cases m with
  | zero => simp [valL]
  | succ m => rw [valL, valL, skipL_skip]
theorem here_head {l : List UInt8} {c : UInt8} (hc : c ≠ 0) : hereB l = c ↔ l.head? = some c := by
  cases l with
  | nil => unfold hereB; simp; exact fun h => hc h.symm
  | cons a l => unfold hereB; simp
theorem here_dec (l : List UInt8) (c : UInt8) : (((hereB l).toNat : Int) == (c.toNat : Int)) = decide (hereB l = c) := by
  by_cases h : hereB l = c
  · rw [h]; simp
  · rw [decide_eq_false h]
    have : (hereB l).toNat ≠ c.toNat := fun e => h (UInt8.toNat_inj.1 e)
    simp; omega
theorem But.row {b : Nat} {w w1 w2 : World} {o : Option Nat} (h : But b w w1) (hg : w1.grownBy w2 o) (ho : ∀ q, o = some q → w.heap.size ≤ q) : But b w w2 :=
  ⟨hg.os.trans h.os, hg.tape.trans h.tape, hg.output.trans h.output, Nat.le_trans h.size hg.size, fun q hq hn => by
    rw [hg.block q (Nat.lt_of_lt_of_le hq h.size) (fun e => by have := ho q e.symm; omega)]; exact h.block q hq hn⟩
theorem RB.row {b : Nat} {s : ByteArray} {i : Nat} {bad : Bool} {w w' : World} {o : Option Nat} (h : RB b s i bad w) (hg : w.grownBy w' o) (ho : ∀ q, o = some q → b < q) : RB b s i bad w' :=
  ⟨by rw [hg.block b h.lt (fun e => by have := ho b e.symm; omega)]; exact h.box, h.le⟩
theorem box_row {b : Nat} {w w' : World} {x : Obj} {o : Option Nat} (h : w.heap[b]? = some x) (hg : w.grownBy w' o) (ho : ∀ q, o = some q → b < q) : w'.heap[b]? = some x := by
  rw [hg.block b (ltR h) (fun e => by have := ho b e.symm; omega)]; exact h
/-- a value was read, and its row grew by one -/
def Nxt (b : Nat) (s : ByteArray) (k : Int) (R : Option (JV × List UInt8)) (w : World) (m j : Nat) (wx : World) : Prop :=
  But b w wx ∧ ∃ (bd : Bool) (j3 : Nat) (nv iv : Value) (nm : List ByteArray) (ps : PVl), RB b s j3 bd wx ∧ LV w.heap.size k nv iv nm ps (!bd) wx ∧ (bd = false → j < j3 ∧ ps.length ≤ j3 ∧ upN nm ∧ (k = 5 → nm = []) ∧ (k = 6 → nm.length = ps.length) ∧ tailL m k (dl s j3) nm (itsOf ps) = R) ∧ (bd = true → R = none)
theorem nxt_arr {b : Nat} {s : ByteArray} {R : Option (JV × List UInt8)} {w w4 w5 : World} {nv iv sv : Value} {ps : PVl} {m j2 j3 : Nat} {bd : Bool} {v : JV} {xl : List Value}
    (hLV : LV w.heap.size 5 nv iv [] ps true w4) (hR : RB b s j3 bd w4) (hB : But b w w4) (hbw : b < w.heap.size)
    (hx : bd = false → valL m (dl s j2) = some (v, dl s j3) ∧ JAt (cfX (w.heap.size + 2) nv.ownBlock iv.ownBlock w4) v (.agg xl.toArray)) (hbad : bd = true → valL m (dl s j2) = none)
    (hq : arrL (m + 1) (dl s j2) (itsOf ps) = R) (hpl : ps.length ≤ j2) (hxl : xl.length = 5) (hx1 : ∀ u ∈ xl, u.oneCell' = true)
    (hown : w5.ownsRow (w.heap.size + 2) 58 5 sv (ps.length + 1) (rowOf ps ++ xl)) (hgr : w4.grownBy w5 iv.ownBlock) (hgg : ∀ q, sv.ownBlock = some q → iv.ownBlock = some q ∨ w4.heap.size ≤ q) :
    Nxt b s 5 R w m j2 (w5.setCell ⟨w.heap.size, 4, none⟩ sv) := by
  have hBi : ∀ q, iv.ownBlock = some q → w.heap.size + 2 ≤ q := fun q hq => (own_lt hLV.items hq).1
  have hset := But.set (b := w.heap.size) w5 4 sv
  refine ⟨But.own (hB.row hgr (fun q hq => by have := hBi q hq; omega)) (Nat.le_refl _) hset, bd, j3, nv, sv, [], ps ++ [(v, xl)], (hR.row hgr (fun q hq => by have := hBi q hq; omega)).keep hset (by omega),
    hLV.item hgr (by rw [List.length_append, row_app]; simpa [rowOf] using hown) hgg (!bd) (fun e => (hLV.vals rfl).add ⟨hxl, hx1, (hx (by simpa using e)).2⟩), fun e => ?_, fun e => by rw [← hq, arr_none (hbad e)]⟩
  obtain ⟨h1, h2⟩ := hx e
  have h3 := valL_len _ _ _ _ h1
  rw [dl_len, dl_len] at h3
  refine ⟨by omega, by rw [List.length_append]; simp; omega, List.Pairwise.nil, fun _ => rfl, fun h => by simp at h, ?_⟩
  rw [← hq, arr_some h1]
  unfold itsOf
  rw [List.map_append]; rfl
end Go.Proofs.YticlnijkfclgcaaGreatDoor

namespace Go.Proofs.YticlnijkfclgcaaGreatDoor
open Go.Shelf Go.RowKit

theorem strL_no {l : List UInt8} (h : ∀ r, l ≠ 34 :: r) : strL l = none := by
  cases l with
  | nil => rfl
  | cons c r => rw [strL, if_neg (fun e => h r (by rw [e]))]
/-- behind a name: a colon -/
theorem colon_step {b : Nat} {s : ByteArray} {w8 : World} {bd : Bool} {t : ByteArray} {j2 j3 j4 m : Nat} {nm : List ByteArray} {it : List JV} (h3 : dl s j3 = skipL (dl s j2)) (hg : bd = false → strL (dl s j3) = some (t, dl s j4)) (hb : bd = true → strL (dl s j3) = none)
    (hk : (∃ r, skipL (dl s j4) = 58 :: r ∧ ∃ j', dl s j' = r ∧ j4 < j' ∧ RB b s j' bd w8) ∨ (∀ r, skipL (dl s j4) ≠ 58 :: r) ∧ RBad b s w8) :
    ∃ (bd8 : Bool) (j5 : Nat), RB b s j5 bd8 w8 ∧ (bd8 = false → strL (skipL (dl s j2)) = some (t, dl s j4) ∧ skipL (dl s j4) = 58 :: dl s j5) ∧ (bd8 = true → objL (m + 1) (dl s j2) nm it = none) := by
  rw [h3] at hg hb
  rcases hk with ⟨r, h1, j', h2, _, hr⟩ | ⟨h1, j', hr⟩
  · exact ⟨bd, j', hr, fun h => ⟨hg h, by rw [h1, h2]⟩, fun h => obj_str (hb h)⟩
  · refine ⟨true, j', hr, (fun h => by cases h), fun _ => ?_⟩
    cases bd with
    | true => exact obj_str (hb rfl)
    | false => exact obj_no (hg rfl) (.inl h1)
theorem map_ins {k : Nat} {t : ByteArray} {nm : List ByteArray} : (nm.map Value.string).take (k * 1) ++ [Value.string t] ++ (nm.map Value.string).drop (k * 1) = (insA k t nm).map Value.string := by
  unfold insA
  rw [Nat.mul_one, List.map_append, List.map_cons, List.map_take, List.map_drop, List.append_assoc]; rfl
theorem one_strs (nm : List ByteArray) : ∀ u ∈ nm.map Value.string, u.oneCell' = true := fun u hu => by
  obtain ⟨x, _, rfl⟩ := List.mem_map.1 hu
  rfl
/-- the name is put in its place -/
theorem name_step {w w10 w11 : World} {nv iv sv : Value} {nm : List ByteArray} {ps : PVl} {t : ByteArray} (hLV : LV w.heap.size 6 nv iv nm ps true w10) (ht : t.size ≤ 4000000)
    (h : w11.ownsRow (w.heap.size + 2) 9 1 sv (nm.length + 1) ((nm.map Value.string).take (placeN nm t * 1) ++ [Value.string t] ++ (nm.map Value.string).drop (placeN nm t * 1))) (hgr : w10.grownBy w11 nv.ownBlock) (hgg : ∀ q, sv.ownBlock = some q → nv.ownBlock = some q ∨ w10.heap.size ≤ q) :
    LV w.heap.size 6 sv iv (insA (placeN nm t) t nm) ps true (w11.setCell ⟨w.heap.size, 3, none⟩ sv) :=
  hLV.name hgr (by rw [insA_len _ _ _ (placeN_le nm t), ← map_ins]; exact h) hgg (fun x hx => by
    rcases insA_mem hx with rfl | hx
    · exact ht
    · exact hLV.small x hx)
theorem nxt_obj {b : Nat} {s : ByteArray} {R : Option (JV × List UInt8)} {w w4 w5 : World} {nv iv sv : Value} {nm : List ByteArray} {ps : PVl} {m j2 j3 j4 j5 : Nat} {t : ByteArray} {bd : Bool} {v : JV} {xl : List Value}
    (hLV : LV w.heap.size 6 nv iv (insA (placeN nm t) t nm) ps true w4) (hR : RB b s j3 bd w4) (hB : But b w w4) (hbw : b < w.heap.size)
    (hx : bd = false → valL m (dl s j5) = some (v, dl s j3) ∧ JAt (cfX (w.heap.size + 2) nv.ownBlock iv.ownBlock w4) v (.agg xl.toArray)) (hbad : bd = true → valL m (dl s j5) = none)
    (hq : objL (m + 1) (dl s j2) nm (itsOf ps) = R) (h1 : strL (skipL (dl s j2)) = some (t, dl s j4)) (h2 : skipL (dl s j4) = 58 :: dl s j5) (hj5 : j2 < j5) (hu : upN nm) (hl : nm.length = ps.length) (hh : hasN nm t = false) (hpl : ps.length ≤ j2) (hxl : xl.length = 5) (hx1 : ∀ u ∈ xl, u.oneCell' = true)
    (hown : w5.ownsRow (w.heap.size + 2) 58 5 sv (ps.length + 1) ((rowOf ps).take (placeN nm t * 5) ++ xl ++ (rowOf ps).drop (placeN nm t * 5))) (hgr : w4.grownBy w5 iv.ownBlock) (hgg : ∀ q, sv.ownBlock = some q → iv.ownBlock = some q ∨ w4.heap.size ≤ q) :
    Nxt b s 6 R w m j2 (w5.setCell ⟨w.heap.size, 4, none⟩ sv) := by
  have hBi : ∀ q, iv.ownBlock = some q → w.heap.size + 2 ≤ q := fun q hq => (own_lt hLV.items hq).1
  have hset := But.set (b := w.heap.size) w5 4 sv
  have hkp : placeN nm t ≤ ps.length := by rw [← hl]; exact placeN_le nm t
  refine ⟨But.own (hB.row hgr (fun q hq => by have := hBi q hq; omega)) (Nat.le_refl _) hset, bd, j3, nv, sv, _, insA (placeN nm t) (v, xl) ps, (hR.row hgr (fun q hq => by have := hBi q hq; omega)).keep hset (by omega),
    hLV.item hgr (by rw [insA_len _ _ _ hkp, ← row_ins (hLV.vals rfl) hkp]; exact hown) hgg (!bd) (fun e => (hLV.vals rfl).ins ⟨hxl, hx1, (hx (by simpa using e)).2⟩ _), fun e => ?_, fun e => by rw [← hq, obj_val h1 h2 hh (hbad e)]⟩
  obtain ⟨h3, h4⟩ := hx e
  have h5 := valL_len _ _ _ _ h3
  rw [dl_len, dl_len] at h5
  refine ⟨by omega, by rw [insA_len _ _ _ hkp]; omega, upN_ins hu (fun hm => ?_), fun h => by simp at h, fun _ => by rw [insA_len _ _ _ hkp, insA_len _ _ _ (placeN_le nm t), hl], ?_⟩
  · rw [(hasN_iff nm t).2 hm] at hh; cases hh
  · rw [← hq, obj_some h1 h2 hh h3, its_ins]
end Go.Proofs.YticlnijkfclgcaaGreatDoor
