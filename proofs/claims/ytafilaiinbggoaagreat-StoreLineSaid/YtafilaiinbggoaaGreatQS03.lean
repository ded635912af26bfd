import Derived.Test.YtafilaiinbggoaaGreatQS02
import Derived.Deep.AppendLies
namespace Go.Proofs.YtafilaiinbggoaaGreat
open Go.RowKit
def cfA (B : Nat) (w : World) : CF := fun b o => if B <= b then w.cell? ⟨b, o, none⟩ else none
theorem cfA_le (B : Nat) (w : World) : CLe (cfA B w) (cf w) := fun b o u h => by
 unfold cfA at h; split at h
 ·exact h
 ·cases h
theorem addr_at (g i : Nat) : (⟨g, 0, none⟩ : Addr).add i = ⟨g, i, none⟩ := by
 unfold Addr.add; split
 ·simp_all
 ·simp
theorem kept {w w' : World} {k : Nat} {o : Obj} (h : w.heap[k]? = some o) (hb : Below w.heap.size w w') : w'.heap[k]? = some o := by
 rw [hb.block k (Array.getElem?_eq_some_iff.1 h).1]; exact h
theorem heap_lt {w : World} {k : Nat} {o : Obj} (h : w.heap[k]? = some o) : k < w.heap.size := (Array.getElem?_eq_some_iff.1 h).1
structure Grew (w w' : World) (sv sv' : Value) : Prop where
 by_ : w.grownBy w' sv.ownBlock
 own : ∀ g, sv'.ownBlock = some g -> sv.ownBlock = some g \/ w.heap.size <= g
theorem Grew.refl (w : World) (sv : Value) : Grew w w sv sv := ⟨⟨rfl, rfl, rfl, Nat.le_refl _, fun _ _ _ => rfl⟩, fun _ h => .inl h⟩
theorem Grew.trans {w w1 w2 : World} {sv s1 s2 : Value} (h : Grew w w1 sv s1) (k : Grew w1 w2 s1 s2) : Grew w w2 sv s2 := by
 refine ⟨⟨k.by_.os.trans h.by_.os, k.by_.tape.trans h.by_.tape, k.by_.output.trans h.by_.output, Nat.le_trans h.by_.size k.by_.size, fun q hq hne => ?_⟩, fun g hg => ?_⟩
 ·rw [k.by_.block q (Nat.lt_of_lt_of_le hq h.by_.size) (fun e => ?_)]
  ·exact h.by_.block q hq hne
  ·rcases h.own q e.symm with e1 | e1
   ·exact hne e1.symm
   ·omega
 ·rcases k.own g hg with e1 | e1
  ·exact h.own g e1
  ·exact .inr (Nat.le_trans h.by_.size e1)
theorem Grew.alloc {w w' : World} {sv s1 : Value} (h : Grew w w' sv s1) (o : Obj) : Grew w (w'.alloc o) sv s1 := h.trans ⟨World.grownBy_alloc w' o _, fun _ h => .inl h⟩
theorem Grew.drew {w w' : World} {sv s1 : Value} (h : Grew w w' sv s1) : Grew w w'.drew sv s1 := h.trans ⟨⟨rfl, rfl, rfl, Nat.le_refl _, fun _ _ _ => rfl⟩, fun _ h => .inl h⟩
theorem Grew.quiet {w w' w2 : World} {sv s1 : Value} (h : Grew w w' sv s1) (k : Below w'.heap.size w' w2) : Grew w w2 sv s1 := h.trans ⟨⟨k.os, k.tape, k.output, k.size, fun q hq _ => k.block q hq⟩, fun _ h => .inl h⟩
theorem Grew.below {B : Nat} {w w' : World} {sv s1 : Value} (h : Grew w w' sv s1) (hB : B <= w.heap.size) (hg : ∀ g, sv.ownBlock = some g -> B <= g) : Below B w w' := (Below.refl B w).grown h.by_ hB hg
theorem Grew.kept {w w' : World} {sv s1 : Value} {k : Nat} {o : Obj} (h : Grew w w' sv s1) (hk : w.heap[k]? = some o) (hne : ∀ g, sv.ownBlock = some g -> k ≠ g) : w'.heap[k]? = some o := by
 rw [h.by_.block k (Array.getElem?_eq_some_iff.1 hk).1 (fun e => hne k e.symm rfl)]; exact hk
abbrev Rep (α : Type) := CF -> α -> List Value -> Prop
def Mono {α : Type} (R : Rep α) : Prop := ∀ c c' x d, CLe c c' -> R c x d -> R c' x d
def SAt {α : Type} (n : Nat) (R : Rep α) (c : CF) (v : Value) (xs : List α) : Prop :=
 ∃ a cap, v = .slice a xs.length cap /\ xs.length <= cap /\ cap <= 9223372036854775807 /\ ∀ (i : Nat) x, xs[i]? = some x -> ∃ b off d, a = some ⟨b, off, none⟩ /\ d.length = n /\ (∀ (j : Nat) u, d[j]? = some u -> c b (off + i * n + j) = some u) /\ R c x d
theorem SAt.mono {α : Type} {n : Nat} {R : Rep α} (hR : Mono R) {c c' : CF} {v : Value} {xs : List α} (h : SAt n R c v xs) (hc : CLe c c') : SAt n R c' v xs := by
 obtain ⟨a, cap, e, h1, h2, h3⟩ := h
 refine ⟨a, cap, e, h1, h2, fun i x hx => ?_⟩
 obtain ⟨b, off, d, e2, h4, h5, h6⟩ := h3 i x hx
 exact ⟨b, off, d, e2, h4, fun j u hu => hc _ _ _ (h5 j u hu), hR _ _ _ _ hc h6⟩
theorem SAt.none {α : Type} (n : Nat) (R : Rep α) (c : CF) : SAt n R c (.slice Option.none 0 0) ([] : List α) := ⟨_, _, rfl, Nat.le_refl _, by decide, fun i x h => by simp at h⟩
def GRow {α : Type} (n : Nat) (R : Rep α) (c : CF) (xs : List α) (cs : List Value) : Prop :=
 cs.length = xs.length * n /\ ∀ (i : Nat) x, xs[i]? = some x -> ∃ d, d.length = n /\ (∀ (j : Nat) u, d[j]? = some u -> cs[i * n + j]? = some u) /\ R c x d
theorem GRow.nil {α : Type} (n : Nat) (R : Rep α) (c : CF) : GRow n R c ([] : List α) [] := ⟨by simp, fun i x h => by simp at h⟩
theorem GRow.mono {α : Type} {n : Nat} {R : Rep α} (hR : Mono R) {c c' : CF} {xs : List α} {cs : List Value} (h : GRow n R c xs cs) (hc : CLe c c') : GRow n R c' xs cs := ⟨h.1, fun i x hx => by
 obtain ⟨d, h1, h2, h3⟩ := h.2 i x hx
 exact ⟨d, h1, h2, hR _ _ _ _ hc h3⟩⟩
theorem GRow.snoc {α : Type} {n : Nat} {R : Rep α} {c : CF} {xs : List α} {cs d : List Value} {x : α} (h : GRow n R c xs cs) (hd : d.length = n) (hx : R c x d) : GRow n R c (xs ++ [x]) (cs ++ d) := by
 refine ⟨by rw [List.length_append, List.length_append, h.1, hd, Nat.add_mul]; simp, fun i y hy => ?_⟩
 by_cases hi : i < xs.length
 ·rw [List.getElem?_append_left hi] at hy
  obtain ⟨d2, h1, h2, h3⟩ := h.2 i y hy
  refine ⟨d2, h1, fun j u hu => ?_, h3⟩
  have hj : j < n := by rw [<- h1]; exact (List.getElem?_eq_some_iff.1 hu).1
  have : i * n + j < cs.length := by
   rw [h.1]
   have : (i + 1) * n <= xs.length * n := Nat.mul_le_mul_right _ hi
   rw [Nat.add_mul] at this; omega
  rw [List.getElem?_append_left this]; exact h2 j u hu
 ·rw [List.getElem?_append_right (by omega)] at hy
  obtain ⟨rfl, rfl⟩ : i = xs.length /\ y = x := by
   cases he : i - xs.length with
   | zero => rw [he] at hy; exact ⟨by omega, by simpa using hy.symm⟩
   | succ q => rw [he] at hy; simp at hy
  refine ⟨d, hd, fun j u hu => ?_, hx⟩
  rw [List.getElem?_append_right (by rw [h.1]; omega), h.1, Nat.add_sub_cancel_left]; exact hu
def cfN (s : Value) (w : World) : CF := fun b o => if s.ownBlock = some b then none else w.cell? ⟨b, o, none⟩
theorem cfN_cf (s : Value) (w : World) : CLe (cfN s w) (cf w) := fun b o u h => by
 unfold cfN at h; split at h
 ·cases h
 ·exact h
theorem cfN_quiet {s : Value} {w w' : World} (hb : Below w.heap.size w w') : CLe (cfN s w) (cfN s w') := fun b o u h => by
 unfold cfN at h |-; split at h
 ·cases h
 ·rename_i hne; rw [if_neg hne]; exact cle_below hb b o u h
theorem cfN_grew {s s' : Value} {w w' : World} (hg : Grew w w' s s') : CLe (cfN s w) (cfN s' w') := fun b o u h => by
 unfold cfN at h |-; split at h
 ·cases h
 ·rename_i hne
  have hlt := lt_of_cell h
  rw [if_neg (fun e => by
   rcases hg.own b e with h1 | h1
   ·exact hne h1
   ·omega)]
  rw [World.cell?_of_block (w := w) (hg.by_.block b hlt (fun e => hne e.symm))]; exact h
theorem cfA_cfN {s : Value} {w : World} {B : Nat} (hs : ∀ g, s.ownBlock = some g -> g < B) : CLe (cfA B w) (cfN s w) := fun b o u h => by
 unfold cfA at h; unfold cfN; split at h
 ·rw [if_neg (fun e => by have := hs b e; omega)]; exact h
 ·cases h
structure OwnS {α : Type} (n : Nat) (R : Rep α) (T : TypeId) (B : Nat) (w : World) (sl : Value) (p : Nat) (xs : List α) (cs : List Value) : Prop where
 own : w.ownsRow B T n sl p cs
 len : xs.length = p
 row : GRow n R (cfN sl w) xs cs
 le : B <= w.heap.size
theorem OwnS.start {α : Type} (n : Nat) (R : Rep α) (T : TypeId) {B : Nat} {w : World} (h : B <= w.heap.size) : OwnS n R T B w (.slice none 0 0) 0 ([] : List α) [] := ⟨World.ownsRow_nil _ _ _ _, rfl, GRow.nil _ _ _, h⟩
theorem OwnS.low {α : Type} {n : Nat} {R : Rep α} {T : TypeId} {B : Nat} {w : World} {sl : Value} {p : Nat} {xs : List α} {cs : List Value} (h : OwnS n R T B w sl p xs cs) : ∀ g, sl.ownBlock = some g -> B <= g /\ g < w.heap.size := h.own.lt
theorem OwnS.shape {α : Type} {n : Nat} {R : Rep α} {T : TypeId} {B : Nat} {w : World} {sl : Value} {p : Nat} {xs : List α} {cs : List Value} (h : OwnS n R T B w sl p xs cs) : ∃ a cap, sl = .slice a p cap := by
 rcases h.own.2 with ⟨hv, hn⟩ | ⟨g, cap, cur, hv, _⟩
 ·exact ⟨none, 0, by rw [hv, hn]⟩
 ·exact ⟨_, cap, hv⟩
theorem OwnS.quiet {α : Type} {n : Nat} {R : Rep α} (hR : Mono R) {T : TypeId} {B : Nat} {w w' : World} {sl : Value} {p : Nat} {xs : List α} {cs : List Value} (h : OwnS n R T B w sl p xs cs) (k : Below w.heap.size w w') : OwnS n R T B w' sl p xs cs :=
 ⟨h.own.kept (row := none) ⟨k.os, k.tape, k.output, k.size, fun q hq _ => k.block q hq⟩ (by cases sl.ownBlock <;> simp), h.len, h.row.mono hR (cfN_quiet k), Nat.le_trans h.le k.size⟩
theorem OwnS.alloc {α : Type} {n : Nat} {R : Rep α} (hR : Mono R) {T : TypeId} {B : Nat} {w : World} {sl : Value} {p : Nat} {xs : List α} {cs : List Value} (h : OwnS n R T B w sl p xs cs) (o : Obj) : OwnS n R T B (w.alloc o) sl p xs cs :=
 h.quiet hR ((Below.refl _ w).alloc (Nat.le_refl _) o)
theorem OwnS.drew {α : Type} {n : Nat} {R : Rep α} {T : TypeId} {B : Nat} {w : World} {sl : Value} {p : Nat} {xs : List α} {cs : List Value} (h : OwnS n R T B w sl p xs cs) : OwnS n R T B w.drew sl p xs cs := ⟨h.own, h.len, h.row, h.le⟩
theorem OwnS.below {α : Type} {n : Nat} {R : Rep α} {T : TypeId} {B : Nat} {w w' : World} {sl s1 : Value} {p : Nat} {xs : List α} {cs : List Value} (h : OwnS n R T B w sl p xs cs) (k : Grew w w' sl s1) : Below B w w' := k.below h.le fun g hg => (h.low g hg).1
theorem OwnS.at_ {α : Type} {n : Nat} {R : Rep α} (hR : Mono R) {T : TypeId} {B : Nat} {w : World} {sl : Value} {p : Nat} {xs : List α} {cs : List Value} (h : OwnS n R T B w sl p xs cs) : SAt n R (cf w) sl xs := by
 have hlen := h.len
 rcases id h.own.2 with ⟨hv, hn⟩ | ⟨g, cap, cur, hv, hb, _, hle, hcap, _⟩
 ·obtain rfl : xs = [] := List.length_eq_zero_iff.1 (by omega)
  exact ⟨none, 0, hv, Nat.le_refl _, by decide, fun i s h => by simp at h⟩
 ·refine ⟨some ⟨g, 0, none⟩, cap, by rw [hv, hlen], by omega, by unfold maxLen at hcap; omega, fun i x hi => ?_⟩
  obtain ⟨d, h1, h2, h3⟩ := h.row.2 i x hi
  refine ⟨g, 0, d, rfl, h1, fun j u hu => ?_, hR _ _ _ _ (cfN_cf sl w) h3⟩
  have := h.own.cells (g := g) (by rw [hv]; rfl) (i * n + j) u (h2 j u hu)
  rw [addr_at] at this
  unfold cf; rw [Nat.zero_add]; exact this
theorem OwnS.atA {α : Type} {n : Nat} {R : Rep α} {T : TypeId} {B : Nat} {w : World} {sl : Value} {p : Nat} {xs : List α} {cs : List Value} (h : OwnS n R T B w sl p xs cs) (hA : GRow n R (cfA B w) xs cs) : SAt n R (cfA B w) sl xs := by
 have hlen := h.len
 rcases id h.own.2 with ⟨hv, hn⟩ | ⟨g, cap, cur, hv, hb, _, hle, hcap, _⟩
 ·obtain rfl : xs = [] := List.length_eq_zero_iff.1 (by omega)
  exact ⟨none, 0, hv, Nat.le_refl _, by decide, fun i s h => by simp at h⟩
 ·refine ⟨some ⟨g, 0, none⟩, cap, by rw [hv, hlen], by omega, by unfold maxLen at hcap; omega, fun i x hi => ?_⟩
  obtain ⟨d, h1, h2, h3⟩ := hA.2 i x hi
  refine ⟨g, 0, d, rfl, h1, fun j u hu => ?_, h3⟩
  have := h.own.cells (g := g) (by rw [hv]; rfl) (i * n + j) u (h2 j u hu)
  rw [addr_at] at this
  unfold cfA; rw [Nat.zero_add, if_pos hb]; exact this
theorem wp_push {α : Type} {n : Nat} {R : Rep α} (hR : Mono R) {T ts : TypeId} {z : Value} {by_ : Nat} {o : Oper} {a : Act} {K : Act -> World -> Prop} {Q : Exit -> Act -> World -> Prop} (s x : Operand) (ho : o.op = .call { callee := .builtin .append, args := #[s, x], argTypes := #[ts, ts] })
  (hinfo : (Tryz.prog.info? T).map (fun i => (i.zero, i.size, i.bytes)) = some (some z, n, by_)) (hts : Tryz.prog.underlying ts = some (.slice T)) (hz : z.cells.size = n) (hn : 0 < n)
  (B : Nat) (w : World) (sl : Value) (p : Nat) (xs : List α) (cs : List Value) (hb : OwnS n R T B w sl p xs cs) (hs : a.eval s = sl) (vs : Array Value) (d : List Value) (hvs : vs.toList = d) (hd : d.length = n) (h1 : ∀ u ∈ d, u.oneCell' = true) (e : α) (he : R (cfN sl w) e d)
  (H : Nat) (hx : a.eval x = .slice (some ⟨H, 0, none⟩) 1 1) (hH : w.heap.size = H) (hlen : p <= 1000000000) (hby : by_ <= 1000)
  (h : ∀ sl' w', OwnS n R T B w' sl' (p + 1) (xs ++ [e]) (cs ++ d) -> Grew w w' sl sl' -> K (a.put o.dst sl') w') : o.wp Tryz.prog a (w.alloc (.cells vs T)) K Q := by
 subst hH
 obtain ⟨i0, hi, hz0, hz1, hz2⟩ := info_parts hinfo
 have hb2 := hb.alloc hR (.cells vs T)
 have hby2 : (p + 1) * by_ <= 1000000001 * 1000 := Nat.mul_le_mul (by omega) hby
 refine wp_append_lies _ s x ts ho B T i0 z n by_ hts hi hz0 hz1 hz2 hz hn sl p cs hs hb2.own ⟨w.heap.size, 0, none⟩ 1 1 d hx (by rw [hd, Nat.one_mul]) ?_ h1 (by decide) (by unfold maxLen; omega) (by omega) hb2.le _ rfl ?_
 ·rw [<- hvs]; exact World.news_of_block (heap_alloc_new w _)
 ·intro g cap w' ho' hg hgg _
  have hgr : Grew w w' sl (.slice (some ⟨g, 0, none⟩) (p + 1) cap) := ((Grew.refl w sl).alloc _).trans ⟨hg, fun q hq => by
   obtain rfl : g = q := by simpa [Value.ownBlock] using hq
   rcases hgg with h1 | h1
   ·exact .inl h1
   ·exact .inr (by omega)⟩
  exact h _ w' ⟨ho', by rw [List.length_append, hb.len]; rfl, (hb.row.mono hR (cfN_grew hgr)).snoc hd (hR _ _ _ _ (cfN_grew hgr) he), Nat.le_trans hb2.le hg.size⟩ hgr
theorem push_new {α : Type} {n : Nat} {R : Rep α} (hR : Mono R) {T ts : TypeId} {z : Value} {by_ : Nat} {ops : Array Oper} {rest : List Oper} {o : Oper} {a : Act} {Q : Exit -> Act -> World -> Prop} (hgd : o.guard = none) (s x : Operand) (ho : o.op = .call { callee := .builtin .append, args := #[s, x], argTypes := #[ts, ts] })
  (hinfo : (Tryz.prog.info? T).map (fun i => (i.zero, i.size, i.bytes)) = some (some z, n, by_)) (hts : Tryz.prog.underlying ts = some (.slice T)) (hz : z.cells.size = n) (hn : 0 < n)
  (B : Nat) (w : World) (sl : Value) (p : Nat) (xs : List α) (cs : List Value) (hb : OwnS n R T B w sl p xs cs) (hs : a.eval s = sl) (vs : Array Value) (d : List Value) (hvs : vs.toList = d) (hd : d.length = n) (h1 : ∀ u ∈ d, u.oneCell' = true) (e : α) (he : R (cfN sl w) e d)
  (H : Nat) (hx : a.eval x = .slice (some ⟨H, 0, none⟩) 1 1) (hH : w.heap.size = H) (hlen : p <= 1000000000) (hby : by_ <= 1000)
  (h : ∀ sl' w', OwnS n R T B w' sl' (p + 1) (xs ++ [e]) (cs ++ d) -> Grew w w' sl sl' -> wpList Tryz.prog ops Q rest (a.put o.dst sl') w') : wpList Tryz.prog ops Q (o :: rest) a (w.alloc (.cells vs T)) :=
 wpList_plain hgd fun _ hK => wp_push hR s x ho hinfo hts hz hn B w sl p xs cs hb hs vs d hvs hd h1 e he H hx hH hlen hby fun sl' w' h1 h2 => hK _ _ (h sl' w' h1 h2)
theorem sat_cells {α : Type} {n : Nat} {R : Rep α} (h1 : ∀ c x d, R c x d -> ∀ u ∈ d, u.oneCell' = true) {c : CF} {v : Value} {ys : List α} (h : SAt n R c v ys) (hy : 0 < ys.length) :
  ∃ b off cap news, v = .slice (some ⟨b, off, none⟩) ys.length cap /\ GRow n R c ys news /\ (∀ (j : Nat) u, news[j]? = some u -> c b (off + j) = some u) /\ ∀ u ∈ news, u.oneCell' = true := by
 obtain ⟨a, cap, rfl, hle, hcap, hel⟩ := h
 obtain ⟨x0, hx0⟩ : ∃ x, ys[0]? = some x := ⟨ys[0], List.getElem?_eq_getElem hy⟩
 obtain ⟨b, off, _, rfl, _⟩ := hel 0 x0 hx0
 have key : ∀ i, i <= ys.length -> ∃ news, GRow n R c (ys.take i) news /\ (∀ (j : Nat) u, news[j]? = some u -> c b (off + j) = some u) /\ ∀ u ∈ news, u.oneCell' = true := by
  intro i
  induction i with
  | zero => intro _; exact ⟨[], GRow.nil _ _ _, fun j u hu => by simp at hu, fun u hu => by simp at hu⟩
  | succ i ih =>
   intro hi
   obtain ⟨news, hg, hc, ho⟩ := ih (by omega)
   obtain ⟨x, hx⟩ : ∃ x, ys[i]? = some x := ⟨ys[i], List.getElem?_eq_getElem (by omega)⟩
   obtain ⟨b2, off2, d, e, hd, hcd, hR⟩ := hel i x hx
   cases e
   refine ⟨news ++ d, by rw [take_succ hx]; exact hg.snoc hd hR, fun j u hu => ?_, fun u hu => ?_⟩
   ·have hnl : news.length = i * n := by rw [hg.1, List.length_take, Nat.min_eq_left (by omega)]
    by_cases hj : j < news.length
    ·rw [List.getElem?_append_left hj] at hu; exact hc j u hu
    ·rw [List.getElem?_append_right (by omega), hnl] at hu
     have := hcd (j - i * n) u hu
     rw [show off + j = off + i * n + (j - i * n) by omega]; exact this
   ·rcases List.mem_append.1 hu with h | h
    ·exact ho u h
    ·exact h1 _ _ _ hR u h
 obtain ⟨news, hg, hc, ho⟩ := key ys.length (Nat.le_refl _)
 rw [List.take_of_length_le (Nat.le_refl _)] at hg
 exact ⟨b, off, cap, news, rfl, hg, hc, ho⟩
theorem GRow.app {α : Type} {n : Nat} {R : Rep α} {c : CF} {xs ys : List α} {cs ds : List Value} (h : GRow n R c xs cs) (k : GRow n R c ys ds) : GRow n R c (xs ++ ys) (cs ++ ds) := by
 refine ⟨by rw [List.length_append, List.length_append, h.1, k.1, Nat.add_mul], fun i y hy => ?_⟩
 by_cases hi : i < xs.length
 ·rw [List.getElem?_append_left hi] at hy
  obtain ⟨d2, h1, h2, h3⟩ := h.2 i y hy
  refine ⟨d2, h1, fun j u hu => ?_, h3⟩
  have hj : j < n := by rw [<- h1]; exact (List.getElem?_eq_some_iff.1 hu).1
  have : i * n + j < cs.length := by
   rw [h.1]
   have : (i + 1) * n <= xs.length * n := Nat.mul_le_mul_right _ hi
   rw [Nat.add_mul] at this; omega
  rw [List.getElem?_append_left this]; exact h2 j u hu
 ·rw [List.getElem?_append_right (by omega)] at hy
  obtain ⟨d2, h1, h2, h3⟩ := k.2 _ y hy
  refine ⟨d2, h1, fun j u hu => ?_, h3⟩
  have e : i * n + j = cs.length + ((i - xs.length) * n + j) := by
   rw [h.1]
   have : xs.length * n + (i - xs.length) * n = i * n := by rw [<- Nat.add_mul, Nat.add_sub_cancel' (by omega)]
   omega
  rw [List.getElem?_append_right (by omega), e, Nat.add_sub_cancel_left]; exact h2 j u hu
theorem run_append_zero {P : Program} {w : World} (base : Nat) (t ty e : TypeId) (i : TypeInfo) (size : Nat) (ht : P.underlying t = some (.slice e)) (hi : P.info? e = some i)
  (v : Value) (n : Nat) (xs : List Value) (hown : w.ownsRow base e size v n xs) (b : Option Addr) (c : Nat) :
  (Builtin.append_ #[t, t] ty #[v, .slice b 0 c]).run P w = .ok v w := by
 rcases hown.2 with ⟨rfl, rfl⟩ | ⟨g, cap, cur, rfl, _, _, hnc, _⟩
 ·cases b with
  | none => simp [Builtin.append_, run_underlying ht, sizeOf, typeInfo, hi, Builtin.lenOf, Builtin.firstCells]
  | some a => simp [Builtin.append_, run_underlying ht, sizeOf, typeInfo, hi, Builtin.lenOf, Builtin.firstCells, loadCells, loadCellsFrom, Result.andThen]
 ·cases b with
  | none => simp [Builtin.append_, run_underlying ht, sizeOf, typeInfo, hi, Builtin.lenOf, Builtin.firstCells, hnc, storeCells]
  | some a => simp [Builtin.append_, run_underlying ht, sizeOf, typeInfo, hi, Builtin.lenOf, Builtin.firstCells, loadCells, loadCellsFrom, Result.andThen, hnc, storeCells]
theorem wp_push_src {α : Type} {n : Nat} {R : Rep α} (hR : Mono R) (h1 : ∀ c x d, R c x d -> ∀ u ∈ d, u.oneCell' = true) {T ts : TypeId} {z : Value} {by_ : Nat} {o : Oper} {a : Act} {K : Act -> World -> Prop} {Q : Exit -> Act -> World -> Prop} (s x : Operand) (ho : o.op = .call { callee := .builtin .append, args := #[s, x], argTypes := #[ts, ts] })
  (hinfo : (Tryz.prog.info? T).map (fun i => (i.zero, i.size, i.bytes)) = some (some z, n, by_)) (hts : Tryz.prog.underlying ts = some (.slice T)) (hz : z.cells.size = n) (hn : 0 < n)
  (B : Nat) (w : World) (sl : Value) (p : Nat) (xs : List α) (cs : List Value) (hb : OwnS n R T B w sl p xs cs) (hs : a.eval s = sl) (src : Value) (ys : List α) (hy : SAt n R (cfN sl w) src ys) (hx : a.eval x = src) (hlen : p + ys.length <= 1000000000) (hby : by_ <= 1000)
  (h : ∀ sl' w' cs', OwnS n R T B w' sl' (p + ys.length) (xs ++ ys) cs' -> Grew w w' sl sl' -> K (a.put o.dst sl') w') : o.wp Tryz.prog a w K Q := by
 obtain ⟨i0, hi, hz0, hz1, hz2⟩ := info_parts hinfo
 by_cases hm : 0 < ys.length
 ·obtain ⟨b, off, cap, news, rfl, hg, hc, ho1⟩ := sat_cells h1 hy hm
  have hby2 : (p + ys.length) * by_ <= 1000000000 * 1000 := Nat.mul_le_mul (by omega) hby
  refine wp_append_lies _ s x ts ho B T i0 z n by_ hts hi hz0 hz1 hz2 hz hn sl p cs hs hb.own ⟨b, off, none⟩ ys.length cap news hx hg.1 ?_ ho1 hm (by unfold maxLen; omega) (by omega) hb.le _ rfl ?_
  ·intro j u hu
   have := cfN_cf sl w _ _ _ (hc j u hu)
   have e : (⟨b, off, none⟩ : Addr).add j = ⟨b, off + j, none⟩ := by unfold Addr.add; split <;> simp_all
   rw [e]; exact this
  ·intro g cap2 w' ho' hgb hgg _
   have hgr : Grew w w' sl (.slice (some ⟨g, 0, none⟩) (p + ys.length) cap2) := ⟨hgb, fun q hq => by
    obtain rfl : g = q := by simpa [Value.ownBlock] using hq
    exact hgg.imp id (fun e => by omega)⟩
   exact h _ w' (cs ++ news) ⟨ho', by rw [List.length_append, hb.len], (hb.row.mono hR (cfN_grew hgr)).app (hg.mono hR (cfN_grew hgr)), Nat.le_trans hb.le hgb.size⟩ hgr
 ·obtain rfl : ys = [] := List.length_eq_zero_iff.1 (by omega)
  obtain ⟨b, cap, rfl, _⟩ := hy
  have hr := run_append_zero (P := Tryz.prog) B ts o.type T i0 n hts hi sl p cs hb.own b cap
  unfold Oper.wp execOp
  simp only [ho, resolve, invoke, builtin, Sem.run_bind, Sem.run_pure, Result.andThen_ok, List.map_toArray, List.map_cons, List.map_nil, hs, hx, List.length_nil, hr]
  have := h sl w cs (by simpa using hb) (Grew.refl _ _)
  exact this
theorem push_src {α : Type} {n : Nat} {R : Rep α} (hR : Mono R) (h1 : ∀ c x d, R c x d -> ∀ u ∈ d, u.oneCell' = true) {T ts : TypeId} {z : Value} {by_ : Nat} {ops : Array Oper} {rest : List Oper} {o : Oper} {a : Act} {Q : Exit -> Act -> World -> Prop} (hgd : o.guard = none) (s x : Operand) (ho : o.op = .call { callee := .builtin .append, args := #[s, x], argTypes := #[ts, ts] })
  (hinfo : (Tryz.prog.info? T).map (fun i => (i.zero, i.size, i.bytes)) = some (some z, n, by_)) (hts : Tryz.prog.underlying ts = some (.slice T)) (hz : z.cells.size = n) (hn : 0 < n)
  (B : Nat) (w : World) (sl : Value) (p : Nat) (xs : List α) (cs : List Value) (hb : OwnS n R T B w sl p xs cs) (hs : a.eval s = sl) (src : Value) (ys : List α) (hy : SAt n R (cfN sl w) src ys) (hx : a.eval x = src) (hlen : p + ys.length <= 1000000000) (hby : by_ <= 1000)
  (h : ∀ sl' w' cs', OwnS n R T B w' sl' (p + ys.length) (xs ++ ys) cs' -> Grew w w' sl sl' -> wpList Tryz.prog ops Q rest (a.put o.dst sl') w') : wpList Tryz.prog ops Q (o :: rest) a w :=
 wpList_plain hgd fun _ hK => wp_push_src hR h1 s x ho hinfo hts hz hn B w sl p xs cs hb hs src ys hy hx hlen hby fun sl' w' cs' h1 h2 => hK _ _ (h sl' w' cs' h1 h2)
theorem SAt.drop {α : Type} {n : Nat} {R : Rep α} {c : CF} {b off cap : Nat} {l : List α} (h : SAt n R c (.slice (some ⟨b, off, Option.none⟩) l.length cap) l) {k : Nat} (hk : k <= l.length) : SAt n R c (.slice (some ⟨b, off + k * n, Option.none⟩) (l.length - k) (cap - k)) (l.drop k) := by
 obtain ⟨a, cap', e, hle, hcap, hel⟩ := h
 cases e
 refine ⟨_, _, by rw [List.length_drop], by rw [List.length_drop]; omega, by omega, fun i x hx => ?_⟩
 rw [List.getElem?_drop] at hx
 obtain ⟨b2, off2, d, e, hd, hcd, hR⟩ := hel (k + i) x hx
 cases e
 refine ⟨b, off + k * n, d, rfl, hd, fun j u hu => ?_, hR⟩
 have := hcd j u hu
 rw [Nat.add_mul] at this
 rw [show off + k * n + i * n + j = off + (k * n + i * n) + j by omega]; exact this
theorem SAt.empty {α : Type} {n : Nat} {R : Rep α} {c : CF} {a : Option Addr} {cap : Nat} (h : cap <= 9223372036854775807) : SAt n R c (.slice a 0 cap) ([] : List α) := ⟨a, cap, rfl, Nat.zero_le _, h, fun i x hx => by simp at hx⟩
theorem cle_cfN_old {s : Value} {w w' : World} (hb : Below w.heap.size w w') (hs : ∀ g, s.ownBlock = some g -> w.heap.size <= g) : CLe (cf w) (cfN s w') := fun b o u h => by
 have hlt := lt_of_cell h
 unfold cfN; rw [if_neg (fun e => by have := hs b e; omega)]
 exact cle_below hb b o u h
theorem SAt.slice {α : Type} {n : Nat} {R : Rep α} {c : CF} {v : Value} {xs : List α} (h : SAt n R c v xs) : ∃ a cap, v = .slice a xs.length cap := by obtain ⟨a, cap, e, _⟩ := h; exact ⟨a, cap, e⟩
theorem SAt.form {α : Type} {n : Nat} {R : Rep α} {c : CF} {v : Value} {xs : List α} (h : SAt n R c v xs) : ∃ a cap, v = .slice a xs.length cap := by obtain ⟨a, cap, e, _⟩ := h; exact ⟨a, cap, e⟩
end Go.Proofs.YtafilaiinbggoaaGreat
