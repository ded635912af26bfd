/- Rows of anything: slices whose elements take n cells, and rows of a call's own that grow by one element. -/
import Derived.Test.YtdajfdahgjhmaaaDoorJGrow
import Derived.Test.YtdajfdahgjhmaaaDoorFC
import Derived.Deep.AppendLies
import Derived.Test.YtdajfdahgjhmaaaDoorKA
namespace Go.Proofs.YtdajfdahgjhmaaaDoor
open Go.RowKit

/-- how an element's cells hold it, in memory c -/
abbrev Rep (α : Type) := CF → α → List Value → Prop
def Mono {α : Type} (R : Rep α) : Prop := ∀ c c' x d, CLe c c' → R c x d → R c' x d
/-- a slice of elements of n cells -/
def SAt {α : Type} (n : Nat) (R : Rep α) (c : CF) (v : Value) (xs : List α) : Prop :=
  ∃ a cap, v = .slice a xs.length cap ∧ xs.length ≤ cap ∧ cap ≤ 9223372036854775807 ∧ ∀ (i : Nat) x, xs[i]? = some x → ∃ b off d, a = some ⟨b, off, none⟩ ∧ d.length = n ∧ (∀ (j : Nat) u, d[j]? = some u → c b (off + i * n + j) = some u) ∧ R c x d
theorem SAt.mono {α : Type} {n : Nat} {R : Rep α} (hR : Mono R) {c c' : CF} {v : Value} {xs : List α} (h : SAt n R c v xs) (hc : CLe c c') : SAt n R c' v xs := by
  obtain ⟨a, cap, e, h1, h2, h3⟩ := h
  refine ⟨a, cap, e, h1, h2, fun i x hx => ?_⟩
  obtain ⟨b, off, d, e2, h4, h5, h6⟩ := h3 i x hx
  exact ⟨b, off, d, e2, h4, fun j u hu => hc _ _ _ (h5 j u hu), hR _ _ _ _ hc h6⟩
theorem SAt.none {α : Type} (n : Nat) (R : Rep α) (c : CF) : SAt n R c (.slice Option.none 0 0) ([] : List α) := ⟨_, _, rfl, Nat.le_refl _, by decide, fun i x h => by simp at h⟩

/-- cells of a row hold elements -/
def GRow {α : Type} (n : Nat) (R : Rep α) (c : CF) (xs : List α) (cs : List Value) : Prop :=
  cs.length = xs.length * n ∧ ∀ (i : Nat) x, xs[i]? = some x → ∃ d, d.length = n ∧ (∀ (j : Nat) u, d[j]? = some u → cs[i * n + j]? = some u) ∧ R c x d
theorem GRow.nil {α : Type} (n : Nat) (R : Rep α) (c : CF) : GRow n R c ([] : List α) [] := ⟨by simp, fun i x h => by simp at h⟩
theorem GRow.mono {α : Type} {n : Nat} {R : Rep α} (hR : Mono R) {c c' : CF} {xs : List α} {cs : List Value} (h : GRow n R c xs cs) (hc : CLe c c') : GRow n R c' xs cs := ⟨h.1, fun i x hx => by
  obtain ⟨d, h1, h2, h3⟩ := h.2 i x hx
  exact ⟨d, h1, h2, hR _ _ _ _ hc h3⟩⟩
theorem GRow.snoc {α : Type} {n : Nat} {R : Rep α} {c : CF} {xs : List α} {cs d : List Value} {x : α} (h : GRow n R c xs cs) (hd : d.length = n) (hx : R c x d) : GRow n R c (xs ++ [x]) (cs ++ d) := by
  refine ⟨by rw [List.length_append, List.length_append, h.1, hd, Nat.add_mul]; simp, fun i y hy => ?_⟩
  by_cases hi : i < xs.length
  · rw [List.getElem?_append_left hi] at hy
    obtain ⟨d2, h1, h2, h3⟩ := h.2 i y hy
    refine ⟨d2, h1, fun j u hu => ?_, h3⟩
    have hj : j < n := by rw [← h1]; exact (List.getElem?_eq_some_iff.1 hu).1
    have : i * n + j < cs.length := by
      rw [h.1]
      have : (i + 1) * n ≤ xs.length * n := Nat.mul_le_mul_right _ hi
      rw [Nat.add_mul] at this; omega
    rw [List.getElem?_append_left this]; exact h2 j u hu
  · rw [List.getElem?_append_right (by omega)] at hy
    obtain ⟨rfl, rfl⟩ : i = xs.length ∧ y = x := by
      cases he : i - xs.length with
      | zero => rw [he] at hy; exact ⟨by omega, by simpa using hy.symm⟩
      | succ q => rw [he] at hy; simp at hy
    refine ⟨d, hd, fun j u hu => ?_, hx⟩
    rw [List.getElem?_append_right (by rw [h.1]; omega), h.1, Nat.add_sub_cancel_left]; exact hu

/-- the cells outside a row's own block -/
def cfN (s : Value) (w : World) : CF := fun b o => if s.ownBlock = some b then none else w.cell? ⟨b, o, none⟩
theorem cfN_cf (s : Value) (w : World) : CLe (cfN s w) (cf w) := fun b o u h => by
  unfold cfN at h; split at h
  · cases h
  · exact h
theorem cfN_quiet {s : Value} {w w' : World} (hb : Below w.heap.size w w') : CLe (cfN s w) (cfN s w') := fun b o u h => by
  unfold cfN at h ⊢; split at h
  · cases h
  · rename_i hne; rw [if_neg hne]; exact cle_below hb b o u h
theorem cfN_grew {s s' : Value} {w w' : World} (hg : Grew w w' s s') : CLe (cfN s w) (cfN s' w') := fun b o u h => by
  unfold cfN at h ⊢; split at h
  · cases h
  · rename_i hne
    have hlt := lt_of_cell h
    rw [if_neg (fun e => by
      rcases hg.own b e with h1 | h1
      · exact hne h1
      · omega)]
    rw [World.cell?_of_block (w := w) (hg.by_.block b hlt (fun e => hne e.symm))]; exact h
theorem cfA_cfN {s : Value} {w : World} {B : Nat} (hs : ∀ g, s.ownBlock = some g → g < B) : CLe (cfA B w) (cfN s w) := fun b o u h => by
  unfold cfA at h; unfold cfN; split at h
  · rw [if_neg (fun e => by have := hs b e; omega)]; exact h
  · cases h

/-- a row of elements that a call owns, in a block from B on -/
structure OwnS {α : Type} (n : Nat) (R : Rep α) (T : TypeId) (B : Nat) (w : World) (sl : Value) (p : Nat) (xs : List α) (cs : List Value) : Prop where
  own : w.ownsRow B T n sl p cs
  len : xs.length = p
  row : GRow n R (cfN sl w) xs cs
  le : B ≤ w.heap.size
theorem OwnS.start {α : Type} (n : Nat) (R : Rep α) (T : TypeId) {B : Nat} {w : World} (h : B ≤ w.heap.size) : OwnS n R T B w (.slice none 0 0) 0 ([] : List α) [] := ⟨World.ownsRow_nil _ _ _ _, rfl, GRow.nil _ _ _, h⟩
theorem OwnS.low {α : Type} {n : Nat} {R : Rep α} {T : TypeId} {B : Nat} {w : World} {sl : Value} {p : Nat} {xs : List α} {cs : List Value} (h : OwnS n R T B w sl p xs cs) : ∀ g, sl.ownBlock = some g → B ≤ g ∧ g < w.heap.size := h.own.lt
theorem OwnS.shape {α : Type} {n : Nat} {R : Rep α} {T : TypeId} {B : Nat} {w : World} {sl : Value} {p : Nat} {xs : List α} {cs : List Value} (h : OwnS n R T B w sl p xs cs) : ∃ a cap, sl = .slice a p cap := by
  rcases h.own.2 with ⟨hv, hn⟩ | ⟨g, cap, cur, hv, _⟩
  · exact ⟨none, 0, by rw [hv, hn]⟩
  · exact ⟨_, cap, hv⟩
theorem OwnS.quiet {α : Type} {n : Nat} {R : Rep α} (hR : Mono R) {T : TypeId} {B : Nat} {w w' : World} {sl : Value} {p : Nat} {xs : List α} {cs : List Value} (h : OwnS n R T B w sl p xs cs) (k : Below w.heap.size w w') : OwnS n R T B w' sl p xs cs :=
  ⟨h.own.kept (row := none) ⟨k.os, k.tape, k.output, k.size, fun q hq _ => k.block q hq⟩ (by cases sl.ownBlock <;> simp), h.len, h.row.mono hR (cfN_quiet k), Nat.le_trans h.le k.size⟩
theorem OwnS.alloc {α : Type} {n : Nat} {R : Rep α} (hR : Mono R) {T : TypeId} {B : Nat} {w : World} {sl : Value} {p : Nat} {xs : List α} {cs : List Value} (h : OwnS n R T B w sl p xs cs) (o : Obj) : OwnS n R T B (w.alloc o) sl p xs cs :=
  h.quiet hR ((Below.refl _ w).alloc (Nat.le_refl _) o)
theorem OwnS.drew {α : Type} {n : Nat} {R : Rep α} {T : TypeId} {B : Nat} {w : World} {sl : Value} {p : Nat} {xs : List α} {cs : List Value} (h : OwnS n R T B w sl p xs cs) : OwnS n R T B w.drew sl p xs cs := ⟨h.own, h.len, h.row, h.le⟩
theorem OwnS.below {α : Type} {n : Nat} {R : Rep α} {T : TypeId} {B : Nat} {w w' : World} {sl s1 : Value} {p : Nat} {xs : List α} {cs : List Value} (h : OwnS n R T B w sl p xs cs) (k : Grew w w' sl s1) : Below B w w' := k.below h.le fun g hg => (h.low g hg).1
theorem OwnS.at_ {α : Type} {n : Nat} {R : Rep α} (hR : Mono R) {T : TypeId} {B : Nat} {w : World} {sl : Value} {p : Nat} {xs : List α} {cs : List Value} (h : OwnS n R T B w sl p xs cs) : SAt n R (cf w) sl xs := by
  have hlen := h.len
  rcases id h.own.2 with ⟨hv, hn⟩ | ⟨g, cap, cur, hv, hb, _, hle, hcap, _⟩
  · obtain rfl : xs = [] := List.length_eq_zero_iff.1 (by omega)
    exact ⟨none, 0, hv, Nat.le_refl _, by decide, fun i s h => by simp at h⟩
  · refine ⟨some ⟨g, 0, none⟩, cap, by rw [hv, hlen], by omega, by unfold maxLen at hcap; omega, fun i x hi => ?_⟩
    obtain ⟨d, h1, h2, h3⟩ := h.row.2 i x hi
    refine ⟨g, 0, d, rfl, h1, fun j u hu => ?_, hR _ _ _ _ (cfN_cf sl w) h3⟩
    have := h.own.cells (g := g) (by rw [hv]; rfl) (i * n + j) u (h2 j u hu)
    rw [addr_at] at this
    unfold cf; rw [Nat.zero_add]; exact this
/-- in memory from B on, where what the elements lead to lies there too -/
theorem OwnS.atA {α : Type} {n : Nat} {R : Rep α} {T : TypeId} {B : Nat} {w : World} {sl : Value} {p : Nat} {xs : List α} {cs : List Value} (h : OwnS n R T B w sl p xs cs) (hA : GRow n R (cfA B w) xs cs) : SAt n R (cfA B w) sl xs := by
  have hlen := h.len
  rcases id h.own.2 with ⟨hv, hn⟩ | ⟨g, cap, cur, hv, hb, _, hle, hcap, _⟩
  · obtain rfl : xs = [] := List.length_eq_zero_iff.1 (by omega)
    exact ⟨none, 0, hv, Nat.le_refl _, by decide, fun i s h => by simp at h⟩
  · refine ⟨some ⟨g, 0, none⟩, cap, by rw [hv, hlen], by omega, by unfold maxLen at hcap; omega, fun i x hi => ?_⟩
    obtain ⟨d, h1, h2, h3⟩ := hA.2 i x hi
    refine ⟨g, 0, d, rfl, h1, fun j u hu => ?_, h3⟩
    have := h.own.cells (g := g) (by rw [hv]; rfl) (i * n + j) u (h2 j u hu)
    rw [addr_at] at this
    unfold cfA; rw [Nat.zero_add, if_pos hb]; exact this

/-- one element that lies in the last block is appended -/
theorem wp_push {α : Type} {n : Nat} {R : Rep α} (hR : Mono R) {T ts : TypeId} {z : Value} {by_ : Nat} {o : Oper} {a : Act} {K : Act → World → Prop} {Q : Exit → Act → World → Prop} (s x : Operand) (ho : o.op = .call { callee := .builtin .append, args := #[s, x], argTypes := #[ts, ts] })
    (hinfo : (Tryd.prog.info? T).map (fun i => (i.zero, i.size, i.bytes)) = some (some z, n, by_)) (hts : Tryd.prog.underlying ts = some (.slice T)) (hz : z.cells.size = n) (hn : 0 < n)
    (B : Nat) (w : World) (sl : Value) (p : Nat) (xs : List α) (cs : List Value) (hb : OwnS n R T B w sl p xs cs) (hs : a.eval s = sl) (vs : Array Value) (d : List Value) (hvs : vs.toList = d) (hd : d.length = n) (h1 : ∀ u ∈ d, u.oneCell' = true) (e : α) (he : R (cfN sl w) e d)
    (H : Nat) (hx : a.eval x = .slice (some ⟨H, 0, none⟩) 1 1) (hH : w.heap.size = H) (hlen : p ≤ 1000000000) (hby : by_ ≤ 1000)
    (h : ∀ sl' w', OwnS n R T B w' sl' (p + 1) (xs ++ [e]) (cs ++ d) → Grew w w' sl sl' → K (a.put o.dst sl') w') : o.wp Tryd.prog a (w.alloc (.cells vs T)) K Q := by
  subst hH
  obtain ⟨i0, hi, hz0, hz1, hz2⟩ := info_parts hinfo
  have hb2 := hb.alloc hR (.cells vs T)
  have hby2 : (p + 1) * by_ ≤ 1000000001 * 1000 := Nat.mul_le_mul (by omega) hby
  refine wp_append_lies _ s x ts ho B T i0 z n by_ hts hi hz0 hz1 hz2 hz hn sl p cs hs hb2.own ⟨w.heap.size, 0, none⟩ 1 1 d hx (by rw [hd, Nat.one_mul]) ?_ h1 (by decide) (by unfold maxLen; omega) (by omega) hb2.le _ rfl ?_
  · rw [← hvs]; exact World.news_of_block (heap_alloc_new w _)
  · intro g cap w' ho' hg hgg _
    have hgr : Grew w w' sl (.slice (some ⟨g, 0, none⟩) (p + 1) cap) := ((Grew.refl w sl).alloc _).trans ⟨hg, fun q hq => by
      obtain rfl : g = q := by simpa [Value.ownBlock] using hq
      rcases hgg with h1 | h1
      · exact .inl h1
      · exact .inr (by omega)⟩
    exact h _ w' ⟨ho', by rw [List.length_append, hb.len]; rfl, (hb.row.mono hR (cfN_grew hgr)).snoc hd (hR _ _ _ _ (cfN_grew hgr) he), Nat.le_trans hb2.le hg.size⟩ hgr
theorem push_new {α : Type} {n : Nat} {R : Rep α} (hR : Mono R) {T ts : TypeId} {z : Value} {by_ : Nat} {ops : Array Oper} {rest : List Oper} {o : Oper} {a : Act} {Q : Exit → Act → World → Prop} (hgd : o.guard = none) (s x : Operand) (ho : o.op = .call { callee := .builtin .append, args := #[s, x], argTypes := #[ts, ts] })
    (hinfo : (Tryd.prog.info? T).map (fun i => (i.zero, i.size, i.bytes)) = some (some z, n, by_)) (hts : Tryd.prog.underlying ts = some (.slice T)) (hz : z.cells.size = n) (hn : 0 < n)
    (B : Nat) (w : World) (sl : Value) (p : Nat) (xs : List α) (cs : List Value) (hb : OwnS n R T B w sl p xs cs) (hs : a.eval s = sl) (vs : Array Value) (d : List Value) (hvs : vs.toList = d) (hd : d.length = n) (h1 : ∀ u ∈ d, u.oneCell' = true) (e : α) (he : R (cfN sl w) e d)
    (H : Nat) (hx : a.eval x = .slice (some ⟨H, 0, none⟩) 1 1) (hH : w.heap.size = H) (hlen : p ≤ 1000000000) (hby : by_ ≤ 1000)
    (h : ∀ sl' w', OwnS n R T B w' sl' (p + 1) (xs ++ [e]) (cs ++ d) → Grew w w' sl sl' → wpList Tryd.prog ops Q rest (a.put o.dst sl') w') : wpList Tryd.prog ops Q (o :: rest) a (w.alloc (.cells vs T)) :=
  wpList_plain hgd fun _ hK => wp_push hR s x ho hinfo hts hz hn B w sl p xs cs hb hs vs d hvs hd h1 e he H hx hH hlen hby fun sl' w' h1 h2 => hK _ _ (h sl' w' h1 h2)

end Go.Proofs.YtdajfdahgjhmaaaDoor
