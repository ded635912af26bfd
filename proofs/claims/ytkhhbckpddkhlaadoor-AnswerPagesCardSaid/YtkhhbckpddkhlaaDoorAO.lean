/- Answers: Run of the program: what it hands back, the loop over the documents, a row of documents that is cut and whose values are stored. -/
import Derived.Test.YtkhhbckpddkhlaaDoorAN
import Derived.Test.YtkhhbckpddkhlaaDoorAG
namespace Go.Proofs.YtkhhbckpddkhlaaDoor
open Go.Shelf Go.RowKit

theorem okA_app : ∀ (a b s : List DR), okA s (a ++ b) = (okA s a && okA (s ++ a) b)
  | [], b, s => by simp [okA]
  | x :: a, b, s => by
    rw [List.cons_append, okA, okA, okA_app a b]
    simp [Bool.and_assoc]
theorem okA_one (s : List DR) (x : DR) : okA s [x] = (docF x && !seenA s x.id) := by simp [okA]
theorem okA_split {l : List DR} {j : Nat} {x : DR} (hx : l[j]? = some x) (h : okA [] (l.take j) = true) : okA [] (l.take (j + 1)) = (docF x && !seenA (l.take j) x.id) := by
  rw [take_nextW hx, okA_app, h, Bool.true_and, List.nil_append, okA_one]
theorem okA_stop {l : List DR} {j : Nat} {x : DR} (hx : l[j]? = some x) (h : okA [] (l.take j) = true) (hb : (docF x && !seenA (l.take j) x.id) = false) : okA [] l = false := by
  rw [← List.take_append_drop (j + 1) l, okA_app, okA_split hx h, hb, Bool.false_and]
noncomputable def keepA (q : QR) (l : List DR) : List DR := l.filter fun d => HoldsP q.flt d.v
theorem keepA_next (q : QR) {l : List DR} {j : Nat} {x : DR} (hx : l[j]? = some x) : keepA q (l.take (j + 1)) = if HoldsP q.flt x.v = true then keepA q (l.take j) ++ [x] else keepA q (l.take j) := by
  unfold keepA
  rw [take_nextW hx, List.filter_append]
  by_cases h : HoldsP q.flt x.v = true
  · rw [if_pos h]; simp [h]
  · rw [if_neg h]; simp [h]
/-- what Run hands back -/
def RunPost (q : QR) (l : List DR) (w : World) (e : Ending) (w' : World) : Prop := ∃ sv, e = .returned (.tuple #[sv, .int .i64 (runE q l)]) ∧ SAt 6 RD (cf w') sv (runO q l) ∧ Below w.heap.size w w'
theorem run_bad {q : QR} {l : List DR} {w w' : World} {r : Int} (h : runE q l = r) (hr : r ≠ 0) (hb : Below w.heap.size w w') : RunPost q l w (.returned (.tuple #[.slice none 0 0, .int .i64 r])) w' :=
  ⟨_, by rw [h], by unfold runO; rw [if_neg (by rw [h]; exact hr)]; exact SAt.none _ _ _, hb⟩
theorem runE_check {q : QR} {l : List DR} (h : qcheckF q ≠ 0) : runE q l = qcheckF q := by unfold runE; rw [if_pos h]
theorem runE_two {q : QR} {l : List DR} (h : qcheckF q = 0) (h2 : okA [] l = false) : runE q l = 2 := by unfold runE; rw [if_neg (by simpa using h), if_neg (by rw [h2]; decide)]
theorem qcheck_bounds {q : QR} (h : qcheckF q = 0) : 0 ≤ q.skip ∧ q.skip ≤ 100 ∧ 0 ≤ q.lim ∧ q.lim ≤ 100 := by
  unfold qcheckF at h
  split at h
  · rename_i h3; exact absurd h h3
  · split at h
    · cases h
    · split at h
      · cases h
      · split at h
        · cases h
        · split at h
          · cases h
          · omega
/-- the loop over the documents -/
structure RunL (q : QR) (l : List DR) (Q9 : Array Value) (w wr : World) (bm : Nat) (sl : Value) (j p : Nat) (cs : List Value) : Prop where
  qb : wr.heap[w.heap.size]? = some (.cells Q9 28 (0, 0))
  sm : SeenM bm (l.take j) wr
  low : w.heap.size < bm
  own : OwnS 6 RD 33 (bm + 1) wr sl p (keepA q (l.take j)) cs
  ok : okA [] (l.take j) = true
  bel : Below w.heap.size w wr
theorem RunL.quiet {q : QR} {l : List DR} {Q9 : Array Value} {w wr w' : World} {bm : Nat} {sl : Value} {j p : Nat} {cs : List Value} (h : RunL q l Q9 w wr bm sl j p cs) (hb : Below wr.heap.size wr w') : RunL q l Q9 w w' bm sl j p cs :=
  ⟨kept h.qb hb, h.sm.quiet hb, h.low, h.own.quiet RD_mono hb, h.ok, h.bel.trans (hb.mono h.bel.size)⟩
/-- an id more, a document or none -/
theorem RunL.id_ {q : QR} {l : List DR} {Q9 : Array Value} {w wr w' : World} {bm : Nat} {sl : Value} {j p : Nat} {cs : List Value} {x : DR} (h : RunL q l Q9 w wr bm sl j p cs) (hx : l[j]? = some x) (hm : SeenM bm (l.take j ++ [x]) w') (hg : wr.grownBy w' (some bm)) :
    w'.heap[w.heap.size]? = some (.cells Q9 28 (0, 0)) ∧ SeenM bm (l.take (j + 1)) w' ∧ OwnS 6 RD 33 (bm + 1) w' sl p (keepA q (l.take j)) cs ∧ Below w.heap.size w w' ∧ Below bm wr w' := by
  have hlow := h.low
  have hsl : ∀ g, sl.ownBlock = some g → bm + 1 ≤ g ∧ g < wr.heap.size := h.own.low
  refine ⟨?_, by rw [take_nextW hx]; exact hm, ⟨own_grownA h.own.own hg (fun q hq e => by have := (hsl q hq).1; have := Option.some.inj e; omega), h.own.len, h.own.row.mono RD_mono (fun b o u hu => ?_), Nat.le_trans h.own.le hg.size⟩, h.bel.grown hg h.bel.size (fun k hk => by have := Option.some.inj hk; omega), (Below.refl bm wr).grown hg (Nat.le_of_lt h.sm.lt) (fun k hk => by have := Option.some.inj hk; omega)⟩
  · rw [hg.block _ (heap_lt h.qb) (fun e => by have := Option.some.inj e; omega)]; exact h.qb
  · unfold cfN at hu ⊢
    split at hu
    · cases hu
    · rename_i hne
      rw [if_neg hne]
      refine hg.cell hu (fun e => ?_)
      have e2 : b = bm := Option.some.inj e
      subst e2
      obtain ⟨D, ⟨es, cl, hmp, _⟩, _⟩ := h.sm
      unfold World.cell? at hu
      rw [hmp] at hu
      cases hu
theorem own_blk (a : Option Addr) (n c : Nat) : (Value.slice a n c).ownBlock = a.map (fun x => x.block) := by cases a <;> rfl
theorem cell_cur {w : World} {g o : Nat} {cur : Array Value} {T : TypeId} (h : w.heap[g]? = some (.cells cur T (0, 0))) : w.cell? ⟨g, o, none⟩ = cur[o]? := by simp [World.cell?, h]
/-- a part of a row of the call's own, in block g -/
structure PRow (B : Nat) (w : World) (sl : Value) (xs : List DR) : Prop where
  shape : ∃ a cap, sl = .slice a xs.length cap ∧ xs.length ≤ cap ∧ cap ≤ 9223372036854775807
  low : ∀ g, sl.ownBlock = some g → B ≤ g ∧ ∃ cur, w.heap[g]? = some (.cells cur 33 (0, 0))
  lies : ∀ (i : Nat) x, xs[i]? = some x → ∃ g off cap d, sl = .slice (some ⟨g, off, none⟩) xs.length cap ∧ d.length = 6 ∧ (∀ (j : Nat) u, d[j]? = some u → w.cell? ⟨g, off + i * 6 + j, none⟩ = some u) ∧ RD (cfN sl w) x d
theorem PRow.of_own {B : Nat} {w : World} {sl : Value} {p : Nat} {xs : List DR} {cs : List Value} (h : OwnS 6 RD 33 B w sl p xs cs) : PRow B w sl xs := by
  obtain ⟨a, cap, rfl, h1, h2⟩ := own_shapeA h.own
  have hl := h.len
  subst hl
  refine ⟨⟨a, cap, rfl, h1, h2⟩, fun g hg => ⟨(h.low g hg).1, ?_⟩, fun i x hx => ?_⟩
  · rcases h.own.2 with ⟨hv, hn⟩ | ⟨g', cap', cur, hv, _, hg', _⟩
    · rw [hv] at hg; cases hg
    · rw [hv] at hg
      obtain rfl : g' = g := by simpa [Value.ownBlock] using hg
      exact ⟨cur, hg'⟩
  · rcases id h.own.2 with ⟨hv, hn⟩ | ⟨g', cap', cur, hv, _, hg', _⟩
    · have := (List.getElem?_eq_some_iff.1 hx).1; omega
    · obtain ⟨d, h3, h4, h5⟩ := h.row.2 i x hx
      refine ⟨g', 0, cap', d, hv, h3, fun j u hu => ?_, h5⟩
      have := h.own.cells (g := g') (by rw [hv]; rfl) (i * 6 + j) u (h4 j u hu)
      rw [addr_at] at this
      rw [Nat.zero_add]; exact this
theorem PRow.sat {B : Nat} {w : World} {sl : Value} {xs : List DR} (h : PRow B w sl xs) : SAt 6 RD (cf w) sl xs := by
  obtain ⟨a, cap, e, h1, h2⟩ := h.shape
  refine ⟨a, cap, e, h1, h2, fun i x hx => ?_⟩
  obtain ⟨g, off, cap', d, e2, h3, h4, h5⟩ := h.lies i x hx
  rw [e] at e2
  cases e2
  exact ⟨g, off, d, rfl, h3, h4, RD_mono _ _ _ _ (cfN_cf _ _) h5⟩
theorem PRow.quiet {B : Nat} {w w' : World} {sl : Value} {xs : List DR} (h : PRow B w sl xs) (hb : Below w.heap.size w w') : PRow B w' sl xs := by
  refine ⟨h.shape, fun g hg => ⟨(h.low g hg).1, ?_⟩, fun i x hx => ?_⟩
  · obtain ⟨cur, hc⟩ := (h.low g hg).2
    exact ⟨cur, kept hc hb⟩
  · obtain ⟨g, off, cap', d, e2, h3, h4, h5⟩ := h.lies i x hx
    exact ⟨g, off, cap', d, e2, h3, fun j u hu => cle_below hb _ _ _ (h4 j u hu), RD_mono _ _ _ _ (cfN_quiet hb) h5⟩
/-- the end of it -/
theorem prow_tail {ts : TypeId} (a : Option Addr) (len cap k : Nat) (hts : Tryd.prog.underlying ts = some (.slice 33)) (he : Tryd.prog.elem ts = 33) (hk : k ≤ len) (hc : len ≤ cap) (hcap : cap ≤ 9223372036854775807) :
    ∃ a', (∀ w, (Instr.slice ts (.slice a len cap) (some (.int .i64 (k : Int))) Option.none Option.none).run Tryd.prog w = .ok (.slice a' (len - k) (cap - k)) w) ∧
      ∀ {B : Nat} {w : World} {xs : List DR}, xs.length = len → PRow B w (.slice a len cap) xs → PRow B w (.slice a' (len - k) (cap - k)) (xs.drop k) := by
  obtain ⟨i0, hi, hz1⟩ := Option.map_eq_some_iff.1 infoDp
  have hz2 : i0.size = 6 := by have := congrArg (fun p => p.2.1) hz1; simpa using this
  have hrun : ∀ w, (Instr.slice ts (.slice a len cap) (some (.int .i64 (k : Int))) Option.none Option.none).run Tryd.prog w = .ok (sliced a k len cap 6) w := fun w => by
    rw [run_slice_l (P := Tryd.prog) (w := w) ts a len cap (by rw [he]; exact hts) .i64 (k : Int) (by omega) (by omega), he]
    simp [sizeOf, typeInfo, hi, hz2, Result.andThen]
  by_cases h0 : cap = k
  · refine ⟨a, fun w => by rw [hrun w]; unfold sliced; rw [if_pos h0], fun {B w xs} hl h => ?_⟩
    have hx : xs.drop k = [] := List.drop_eq_nil_of_le (by omega)
    rw [hx]
    have hz : len - k = 0 := by omega
    rw [hz]
    exact ⟨⟨a, cap - k, rfl, Nat.zero_le _, by omega⟩, fun g hg => h.low g (by rw [own_blk] at hg ⊢; exact hg), fun i x hx => by simp at hx⟩
  · refine ⟨a.map fun x => x.add (k * 6), fun w => by rw [hrun w]; unfold sliced; rw [if_neg h0], fun {B w xs} hl h => ?_⟩
    have hob : (Value.slice (a.map fun x => x.add (k * 6)) (len - k) (cap - k)).ownBlock = (Value.slice a len cap).ownBlock := by
      cases a with
      | none => rfl
      | some x =>
        obtain ⟨b, o, v⟩ := x
        simp only [Option.map_some, Value.ownBlock]
        unfold Addr.add; split <;> rfl
    refine ⟨⟨_, _, by rw [List.length_drop, hl], by rw [List.length_drop]; omega, by omega⟩, fun g hg => h.low g (by rw [← hob]; exact hg), fun i x hx => ?_⟩
    rw [List.getElem?_drop] at hx
    obtain ⟨g, off, cap', d, e2, h3, h4, h5⟩ := h.lies (k + i) x hx
    simp only [Value.slice.injEq] at e2
    obtain ⟨rfl, _, rfl⟩ := e2
    have e : (⟨g, off, Option.none⟩ : Addr).add (k * 6) = ⟨g, off + k * 6, Option.none⟩ := addr_addA _ _ _
    refine ⟨g, off + k * 6, cap - k, d, by rw [List.length_drop, hl, Option.map_some, e], h3, fun j u hu => ?_, RD_mono _ _ _ _ (fun b o u hu => ?_) h5⟩
    · have := h4 j u hu
      rw [Nat.add_mul] at this
      rw [show off + k * 6 + i * 6 + j = off + (k * 6 + i * 6) + j by omega]; exact this
    · unfold cfN at hu ⊢
      rw [hob]; exact hu
/-- its beginning -/
theorem prow_head {ts : TypeId} (a : Option Addr) (len cap k : Nat) (hts : Tryd.prog.underlying ts = some (.slice 33)) (he : Tryd.prog.elem ts = 33) (hk : k ≤ len) (hc : len ≤ cap) :
    (∀ w, (Instr.slice ts (.slice a len cap) Option.none (some (.int .i64 (k : Int))) Option.none).run Tryd.prog w = .ok (.slice a k cap) w) ∧
      ∀ {B : Nat} {w : World} {xs : List DR}, xs.length = len → PRow B w (.slice a len cap) xs → PRow B w (.slice a k cap) (xs.take k) := by
  obtain ⟨i0, hi, hz1⟩ := Option.map_eq_some_iff.1 infoDp
  have hz2 : i0.size = 6 := by have := congrArg (fun p => p.2.1) hz1; simpa using this
  refine ⟨fun w => ?_, fun {B w xs} hl h => ?_⟩
  · rw [run_slice_h (P := Tryd.prog) (w := w) ts a len cap (by rw [he]; exact hts) .i64 (k : Int) (by omega) (by omega), he]
    simp [sizeOf, typeInfo, hi, hz2, Result.andThen, sliced]
    intro _
    cases a with
    | none => rfl
    | some x => simp [Addr.add]
  · obtain ⟨a2, cap2, e, h1, h2⟩ := h.shape
    cases e
    refine ⟨⟨a, cap, by rw [List.length_take, Nat.min_eq_left (by omega)], by rw [List.length_take]; omega, h2⟩, fun g hg => h.low g (by rw [own_blk] at hg ⊢; exact hg), fun i x hx => ?_⟩
    rw [List.getElem?_take] at hx
    split at hx
    · obtain ⟨g, off, cap', d, e2, h3, h4, h5⟩ := h.lies i x hx
      cases e2
      exact ⟨g, off, cap, d, by rw [List.length_take, Nat.min_eq_left (by omega)], h3, h4, h5⟩
    · cases hx
/-- one document's value is stored -/
theorem PRow.set {B : Nat} {w : World} {g off m cap i : Nat} {xs : List DR} {x y : DR} {s : ByteArray} {c0 c1 c2 c3 c4 : Value} (h : PRow B w (.slice (some ⟨g, off, none⟩) m cap) xs) (hx : xs[i]? = some x) (hs : x.id = s)
    (hy : RD (cfN (.slice (some ⟨g, off, none⟩) m cap) w) y [.string s, c0, c1, c2, c3, c4]) : PRow B (set5A w g (off + i * 6 + 1) c0 c1 c2 c3 c4) (.slice (some ⟨g, off, none⟩) m cap) (xs.set i y) ∧ w.grownBy (set5A w g (off + i * 6 + 1) c0 c1 c2 c3 c4) (some g) := by
  obtain ⟨a2, cap2, e, h1, h2⟩ := h.shape
  cases e
  obtain ⟨hB, cur, hcur⟩ := h.low g rfl
  have hi := (List.getElem?_eq_some_iff.1 hx).1
  obtain ⟨g2, off2, cap3, d, e2, hd, hdc, hdr⟩ := h.lies i x hx
  cases e2
  have hsz : ∀ j, j < 6 → off + i * 6 + j < cur.size := fun j hj => by
    have h3 := hdc j _ (List.getElem?_eq_getElem (by omega))
    simp only [World.cell?] at h3
    rw [hcur] at h3
    exact (Array.getElem?_eq_some_iff.1 h3).1
  have hg : w.grownBy (set5A w g (off + i * 6 + 1) c0 c1 c2 c3 c4) (some g) := by
    have hb : Below g w (set5A w g (off + i * 6 + 1) c0 c1 c2 c3 c4) := (((((Below.refl g w).setCell (p := ⟨g, _, none⟩) (Nat.le_refl _) _).setCell (p := ⟨g, _, none⟩) (Nat.le_refl _) _).setCell (p := ⟨g, _, none⟩) (Nat.le_refl _) _).setCell (p := ⟨g, _, none⟩) (Nat.le_refl _) _).setCell (p := ⟨g, _, none⟩) (Nat.le_refl _) _
    refine ⟨hb.os, hb.tape, hb.output, hb.size, fun k _ hk => ?_⟩
    have hk : k ≠ g := fun e => hk (by rw [e])
    rw [Below.heap_setCell _ _ _ _ hk, Below.heap_setCell _ _ _ _ hk, Below.heap_setCell _ _ _ _ hk, Below.heap_setCell _ _ _ _ hk, Below.heap_setCell _ _ _ _ hk]
  have hcell : (set5A w g (off + i * 6 + 1) c0 c1 c2 c3 c4).heap[g]? = some (.cells (((((cur.set! (off + i * 6 + 1) c0).set! (off + i * 6 + 1 + 1) c1).set! (off + i * 6 + 1 + 2) c2).set! (off + i * 6 + 1 + 3) c3).set! (off + i * 6 + 1 + 4) c4) 33 (0, 0)) :=
    set_self (set_self (set_self (set_self (set_self hcur))))
  have hle : CLe (cfN (.slice (some ⟨g, off, none⟩) xs.length cap) w) (cfN (.slice (some ⟨g, off, none⟩) xs.length cap) (set5A w g (off + i * 6 + 1) c0 c1 c2 c3 c4)) := fun b o u hu => by
    unfold cfN at hu ⊢
    split at hu
    · cases hu
    · rename_i hne
      rw [if_neg hne]
      exact hg.cell hu (fun e => hne e.symm)
  refine ⟨⟨⟨_, cap, by rw [List.length_set], by rw [List.length_set]; exact h1, h2⟩, fun g' hg' => ?_, fun k z hz => ?_⟩, hg⟩
  · obtain rfl : g = g' := by simpa [Value.ownBlock] using hg'
    exact ⟨hB, _, hcell⟩
  · by_cases e : k = i
    · subst e
      rw [List.getElem?_set_self hi] at hz
      obtain rfl := Option.some.inj hz
      refine ⟨g, off, cap, _, by rw [List.length_set], rfl, fun j u hu => ?_, RD_mono _ _ _ _ hle hy⟩
      have hj : j < 6 := by simpa using (List.getElem?_eq_some_iff.1 hu).1
      rw [cell_cur hcell]
      have hc0 := hdc 0 _ (List.getElem?_eq_getElem (by omega))
      rw [cell_cur hcur] at hc0
      have s0 := hsz 0 (by omega)
      have s1 := hsz 1 (by omega)
      have s2 := hsz 2 (by omega)
      have s3 := hsz 3 (by omega)
      have s4 := hsz 4 (by omega)
      have s5 := hsz 5 (by omega)
      match j, hj, hu with
      | 0, _, hu =>
        simp at hu
        subst hu
        obtain ⟨k2, n2, t2, na2, nl2, nc2, ia2, il2, ic2, rfl, _⟩ := hdr
        simp only [List.getElem_cons_zero, Nat.add_zero, hs] at hc0
        rw [Nat.add_zero]
        simp only [Array.set!_eq_setIfInBounds]
        rw [Array.getElem?_setIfInBounds_ne (by omega), Array.getElem?_setIfInBounds_ne (by omega), Array.getElem?_setIfInBounds_ne (by omega), Array.getElem?_setIfInBounds_ne (by omega), Array.getElem?_setIfInBounds_ne (by omega)]
        exact hc0
      | 1, _, hu => simp at hu; subst hu; simp [Array.getElem?_setIfInBounds]; omega
      | 2, _, hu => simp at hu; subst hu; simp [Array.getElem?_setIfInBounds]; omega
      | 3, _, hu => simp at hu; subst hu; simp [Array.getElem?_setIfInBounds]; omega
      | 4, _, hu => simp at hu; subst hu; simp [Array.getElem?_setIfInBounds]; omega
      | 5, _, hu => simp at hu; subst hu; simp [Array.getElem?_setIfInBounds]; omega
    · rw [List.getElem?_set_ne (fun h => e h.symm)] at hz
      obtain ⟨g3, off3, cap4, d3, e3, h3, h4, h5⟩ := h.lies k z hz
      cases e3
      refine ⟨g, off, cap, d3, by rw [List.length_set], h3, fun j u hu => ?_, RD_mono _ _ _ _ hle h5⟩
      have hj : j < 6 := by rw [← h3]; exact (List.getElem?_eq_some_iff.1 hu).1
      have := h4 j u hu
      rw [cell_cur hcur] at this
      rw [cell_cur hcell]
      simp only [Array.set!_eq_setIfInBounds]
      rw [Array.getElem?_setIfInBounds_ne (by omega), Array.getElem?_setIfInBounds_ne (by omega), Array.getElem?_setIfInBounds_ne (by omega), Array.getElem?_setIfInBounds_ne (by omega), Array.getElem?_setIfInBounds_ne (by omega)]
      exact this
/-- all kept documents are sorted -/
theorem sort_all (q : QR) (d : List Value) (zb : Nat) (B p : Nat) (sl : Value) (xs : List DR) (cs : List Value) (w : World) (ho : OwnS 6 RD 33 B w sl p xs cs) (hp2 : p ≤ 1000000)
    (hz : w.heap[zb]? = some (.cells d.toArray 28 (0, 0))) (hzb : zb < B) (hq : QAt (cfN sl w) q d) (hsz : ∀ o ∈ q.sort, o.path.size ≤ 1000000) (hT : ∀ w', Below B w w' → Tabs w') :
    Calls Tryd.prog 18 #[sl, .func (.func 19) #[] #[.pointer (some ⟨zb, 0, none⟩)]] w fun e w' => e = .returned (.tuple #[]) ∧
      ∃ xs' cs', xs'.Perm xs ∧ xs'.Pairwise (leA q.sort) ∧ OwnS 6 RD 33 B w' sl p xs' cs' ∧ w.grownBy w' sl.ownBlock := by
  obtain ⟨a, cap, rfl, _, _⟩ := own_shapeA ho.own
  by_cases h0 : 0 < p
  · rcases id ho.own.2 with ⟨_, hn⟩ | ⟨g, cap', cur, hv, hB, hg, _⟩
    · omega
    · simp only [Value.slice.injEq] at hv
      obtain ⟨rfl, _, rfl⟩ := hv
      exact sort_docs q d zb B g p cap xs cs w ho h0 hp2 hz (by omega) hq hsz (fun w' h => hT w' ((Below.refl B w).grown h ho.le (fun k hk => by rw [← Option.some.inj hk]; exact hB)))
  · obtain rfl : p = 0 := by omega
    have hS := AnyF.slices_SortFunc_none Tryd.laysSF a cap (.func (.func 19) #[] #[.pointer (some ⟨zb, 0, none⟩)]) w
    refine Calls.mono hS ?_
    rintro e w' ⟨rfl, rfl⟩
    have hx : xs = [] := List.length_eq_zero_iff.1 ho.len
    subst hx
    exact ⟨rfl, [], cs, List.Perm.refl _, List.Pairwise.nil, ho, World.grownBy.refl _ _⟩

theorem drop_minA {α : Type} (l : List α) (k p : Nat) (h : l.length = p) : l.drop (min k p) = l.drop k := by
  rcases Nat.le_total k p with h1 | h1
  · rw [Nat.min_eq_left h1]
  · rw [Nat.min_eq_right h1, List.drop_eq_nil_of_le (by omega), List.drop_eq_nil_of_le (by omega)]
theorem take_minA {α : Type} (l : List α) (k p : Nat) (h : l.length = p) : l.take (min k p) = l.take k := by
  rcases Nat.le_total k p with h1 | h1
  · rw [Nat.min_eq_left h1]
  · rw [Nat.min_eq_right h1, List.take_of_length_le (by omega), List.take_of_length_le (by omega)]
/-- j documents are projected -/
def halfA (q : QR) (ys : List DR) (j : Nat) : List DR := (ys.take j).map (projA q) ++ ys.drop j
theorem halfA_len (q : QR) (ys : List DR) (j : Nat) : (halfA q ys j).length = ys.length := by
  unfold halfA; rw [List.length_append, List.length_map, List.length_take, List.length_drop]; omega
theorem halfA_at (q : QR) {ys : List DR} {j : Nat} {x : DR} (h : ys[j]? = some x) : (halfA q ys j)[j]? = some x := by
  have hj := (List.getElem?_eq_some_iff.1 h).1
  unfold halfA
  rw [List.getElem?_append_right (by rw [List.length_map, List.length_take]; omega), List.length_map, List.length_take, Nat.min_eq_left (by omega), Nat.sub_self, List.getElem?_drop, Nat.add_zero]
  exact h
theorem halfA_set (q : QR) {ys : List DR} {j : Nat} {x : DR} (h : ys[j]? = some x) : (halfA q ys j).set j (projA q x) = halfA q ys (j + 1) := by
  have hj := (List.getElem?_eq_some_iff.1 h).1
  unfold halfA
  rw [List.set_append_right _ _ (by rw [List.length_map, List.length_take]; omega), List.length_map, List.length_take, Nat.min_eq_left (by omega), Nat.sub_self, take_nextW h, List.map_append]
  have e : ys.drop j = x :: ys.drop (j + 1) := by
    obtain ⟨h1, h2⟩ := List.getElem?_eq_some_iff.1 h
    rw [List.drop_eq_getElem_cons h1, h2]
  rw [e]
  simp
theorem halfA_zero (q : QR) (ys : List DR) : halfA q ys 0 = ys := by unfold halfA; simp
theorem halfA_all (q : QR) (ys : List DR) : halfA q ys ys.length = ys.map (projA q) := by unfold halfA; simp
theorem rd_new {c : CF} {i : ByteArray} {v : JV} {k n : Int} {t : ByteArray} {na : Option Addr} {nl nc : Nat} {ia : Option Addr} {il ic : Nat} (hi : i.size ≤ 9223372036854775807) (h : JAt c v (.agg #[.int .i64 k, .int .i64 n, .string t, .slice na nl nc, .slice ia il ic])) : RD c ⟨i, v⟩ [.string i, .int .i64 k, .int .i64 n, .string t, .slice na nl nc, .slice ia il ic] := by
  refine ⟨k, n, t, na, nl, nc, ia, il, ic, rfl, hi, ?_, h⟩
  obtain ⟨k2, n2, t2, nm, it, na2, nc2, ia2, ic2, rfl, e, _⟩ := h.open
  simp only [Value.agg.injEq, Array.mk.injEq, List.cons.injEq, Value.int.injEq, true_and] at e
  exact e.1.symm
theorem run_good {q : QR} {l : List DR} {w w' : World} {sv : Value} (h : runE q l = 0) (hs : SAt 6 RD (cf w') sv (outA q l)) (hb : Below w.heap.size w w') : RunPost q l w (.returned (.tuple #[sv, .int .i64 0])) w' :=
  ⟨sv, by rw [h], by unfold runO; rw [if_pos h]; exact hs, hb⟩

end Go.Proofs.YtkhhbckpddkhlaaDoor
