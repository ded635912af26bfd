import Derived.Test.YtafilaiinbggoaaGreatQT33
namespace Go.Proofs.YtafilaiinbggoaaGreat
open Go.RowKit Go.Maps
def Row1 {α : Type} (R : Rep α) (c : CF) (xs : List α) (cs : List Value) : Prop := cs.length = xs.length /\ ∀ (i : Nat) x u, xs[i]? = some x -> cs[i]? = some u -> R c x [u]
theorem row1_of {α : Type} {R : Rep α} {c : CF} {xs : List α} {cs : List Value} (h : GRow 1 R c xs cs) : Row1 R c xs cs :=
 ⟨by rw [h.1, Nat.mul_one], fun i x u hx hu => by
  obtain ⟨d, h1, h2, h3⟩ := h.2 i x hx
  match d, h1 with
  | [v], _ =>
   have := h2 0 v rfl
   rw [Nat.mul_one, Nat.add_zero, hu] at this
   cases this
   exact h3⟩
theorem Row1.grow {α : Type} {R : Rep α} {c : CF} {xs : List α} {cs : List Value} (h : Row1 R c xs cs) : GRow 1 R c xs cs :=
 ⟨by rw [h.1, Nat.mul_one], fun i x hx => by
  have hi := (List.getElem?_eq_some_iff.1 hx).1
  have hu : cs[i]? = some (cs[i]'(by rw [h.1]; exact hi)) := List.getElem?_eq_getElem _
  refine ⟨[cs[i]'(by rw [h.1]; exact hi)], rfl, fun j u hj => ?_, h.2 i x _ hx hu⟩
  match j, hj with
  | 0, hj => cases hj; rw [Nat.mul_one, Nat.add_zero]; exact hu⟩
theorem Row1.take {α : Type} {R : Rep α} {c : CF} {xs : List α} {cs : List Value} (h : Row1 R c xs cs) (k : Nat) : Row1 R c (xs.take k) (cs.take k) :=
 ⟨by rw [List.length_take, List.length_take, h.1], fun i x u hx hu => by
  rw [List.getElem?_take] at hx hu
  split at hx
  ·rename_i e; rw [if_pos e] at hu; exact h.2 i x u hx hu
  ·cases hx⟩
theorem Row1.drop {α : Type} {R : Rep α} {c : CF} {xs : List α} {cs : List Value} (h : Row1 R c xs cs) (k : Nat) : Row1 R c (xs.drop k) (cs.drop k) :=
 ⟨by rw [List.length_drop, List.length_drop, h.1], fun i x u hx hu => by
  rw [List.getElem?_drop] at hx hu
  exact h.2 _ x u hx hu⟩
theorem Row1.append {α : Type} {R : Rep α} {c : CF} {xs ys : List α} {cs ds : List Value} (h : Row1 R c xs cs) (k : Row1 R c ys ds) : Row1 R c (xs ++ ys) (cs ++ ds) :=
 ⟨by rw [List.length_append, List.length_append, h.1, k.1], fun i x u hx hu => by
  rw [List.getElem?_append] at hx hu
  rw [h.1] at hu
  split at hx
  ·rename_i e; rw [if_pos e] at hu; exact h.2 i x u hx hu
  ·rename_i e; rw [if_neg e] at hu; exact k.2 _ x u hx hu⟩
theorem Row1.one {α : Type} {R : Rep α} {c : CF} {x : α} {u : Value} (h : R c x [u]) : Row1 R c [x] [u] := ⟨rfl, fun i y v hy hv => by
 match i, hy with
 | 0, hy => cases hy; cases hv; exact h⟩
theorem Row1.set {α : Type} {R : Rep α} {c : CF} {xs : List α} {cs : List Value} (h : Row1 R c xs cs) (k : Nat) {x : α} {u : Value} (hx : R c x [u]) : Row1 R c (xs.set k x) (cs.set k u) :=
 ⟨by rw [List.length_set, List.length_set, h.1], fun i y v hy hv => by
  rw [List.getElem?_set] at hy hv
  rw [h.1] at hv
  split at hy
  ·rename_i e
   rw [if_pos e] at hv
   split at hy
   ·rename_i e2; rw [if_pos e2] at hv; cases hy; cases hv; exact hx
   ·cases hy
  ·rename_i e; rw [if_neg e] at hv; exact h.2 i y v hy hv⟩
theorem OwnS.ins {α : Type} {R : Rep α} (hR : ∀ c c' x d, R c x d -> R c' x d) {T : TypeId} {B : Nat} {w w' : World} {sl sl' : Value} {p k : Nat} {xs : List α} {cs : List Value} {x : α} {u : Value} (h : OwnS 1 R T B w sl p xs cs) (hx : R (cf w) x [u]) (ho : w'.ownsRow B T 1 sl' (p + 1) (cs.take (k * 1) ++ [u] ++ cs.drop (k * 1))) (hg : w.grownBy w' sl.ownBlock) (hk : k <= p) : OwnS 1 R T B w' sl' (p + 1) (insAt k x xs) (cs.take (k * 1) ++ [u] ++ cs.drop (k * 1)) := by
 have h1 := row1_of h.row
 refine ⟨ho, ?_, ?_, Nat.le_trans h.le hg.size⟩
 ·unfold insAt
  rw [List.length_append, List.length_cons, List.length_take, List.length_drop, h.len]
  omega
 ·have h2 : Row1 R (cfN sl w) (insAt k x xs) (cs.take (k * 1) ++ [u] ++ cs.drop (k * 1)) := by
   rw [Nat.mul_one]
   have := ((h1.take k).append (Row1.one (hR _ _ _ _ hx))).append (h1.drop k)
   rw [List.append_assoc] at this
   exact this
  exact (Row1.grow ⟨h2.1, fun i y v hy hv => hR _ _ _ _ (h2.2 i y v hy hv)⟩)
theorem OwnS.put {α : Type} {R : Rep α} (hR : ∀ c c' x d, R c x d -> R c' x d) {T : TypeId} {B : Nat} {w : World} {g cap p k : Nat} {xs : List α} {cs : List Value} {x : α} {u : Value} (h : OwnS 1 R T B w (.slice (some ⟨g, 0, none⟩) p cap) p xs cs) (hx : R (cf w) x [u]) : OwnS 1 R T B (w.setCell ⟨g, k, none⟩ u) (.slice (some ⟨g, 0, none⟩) p cap) p (xs.set k x) (cs.set k u) := by
 have h1 := (row1_of h.row).set k (x := x) (u := u) (hR _ _ _ _ hx)
 have hg : w.grownBy (w.setCell ⟨g, k, none⟩ u) (some g) := set6_grown _ _
 refine ⟨⟨by rw [List.length_set]; exact h.own.1, ?_⟩, by rw [List.length_set]; exact h.len, Row1.grow ⟨h1.1, fun i y v hy hv => hR _ _ _ _ (h1.2 i y v hy hv)⟩, Nat.le_trans h.le hg.size⟩
 rcases h.own.2 with ⟨e, _⟩ | ⟨g2, cap2, cur, e, e1, e2, e3, e4, e5, e6⟩
 ·cases e
 ·simp only [Value.slice.injEq, Option.some.injEq, Addr.mk.injEq, and_true, true_and] at e
  obtain ⟨rfl, rfl⟩ := e
  refine .inr ⟨g, cap, cur.set! k u, rfl, e1, set_selfT e2, e3, e4, by simpa using e5, ?_⟩
  rw [Array.set!_eq_setIfInBounds, Array.toList_setIfInBounds]
  rw [<- e6, List.take_set]
theorem own_slice {n : Nat} {α : Type} {R : Rep α} {T : TypeId} {B : Nat} {w : World} {sl : Value} {p : Nat} {xs : List α} {cs : List Value} (h : OwnS n R T B w sl p xs cs) (hp : 0 < p) : ∃ g cap cur, sl = .slice (some ⟨g, 0, none⟩) p cap /\ w.heap[g]? = some (.cells cur T (0, 0)) /\ p <= cap /\ cap <= 9223372036854775807 /\ cur.size = cap * n := by
 rcases h.own.2 with ⟨_, e⟩ | ⟨g2, cap2, cur, e, e1, e2, e3, e4, e5, e6⟩
 ·omega
 ·exact ⟨g2, cap2, cur, e, e2, e3, Nat.le_trans e4 (by decide), e5⟩
theorem NT.edK {H : HS} {B : Nat} {w w' : World} {n : ND} {kv vv iv kv' : Value} {ks : List Bts} {cs' : List Value} (h : NT H B w n kv vv iv) (hg : Grew w w' kv kv') (hH : ∀ b, H.all b -> b < w.heap.size) (ho : OwnS 1 (RB (cfU w)) 23 B w' kv' ks.length ks cs') : NT H B w' { n with keys := ks } kv' vv iv /\ CLe (cfU w) (cfU w') := by
 obtain ⟨⟨⟨_, h1⟩, ⟨_, h2⟩, ⟨_, h3⟩, h4⟩, h5⟩ := h
 have hu := grew_cfU h1 (by decide) hg
 refine ⟨⟨⟨⟨cs', ho.rep (RB_le hu)⟩, ⟨_, (own_stand (fun _ _ _ _ h => h) h2 hg.by_.size (fun g e => hg.by_.block g (h2.low g e).2 (fun e2 => h4 g e2.symm e))).rep (RB_le hu)⟩, ⟨_, own_stand (fun _ _ _ _ h => h) h3 hg.by_.size (fun g e => hg.by_.block g (h3.low g e).2 (fun e2 => ?_))⟩, fun g e e2 => ?_⟩, fun g e => ?_⟩, hu⟩
 ·obtain ⟨c1, e1⟩ := own_kind h1 e2.symm
  obtain ⟨c3, e3⟩ := own_kind h3 e
  exact kind_ne e1 e3 (by decide) rfl
 ·rcases hg.own g e with e1 | e1
  ·exact h4 g e1 e2
  ·have := (h2.low g e2).2
   omega
 ·rcases e with e | e
  ·rcases hg.own g e with e1 | e1
   ·exact h5 g (.inl e1)
   ·exact fun e2 => by have := hH g e2; omega
  ·exact h5 g (.inr e)
theorem NT.edV {H : HS} {B : Nat} {w w' : World} {n : ND} {kv vv iv vv' : Value} {ks : List Bts} {cs' : List Value} (h : NT H B w n kv vv iv) (hg : Grew w w' vv vv') (hH : ∀ b, H.all b -> b < w.heap.size) (ho : OwnS 1 (RB (cfU w)) 23 B w' vv' ks.length ks cs') : NT H B w' { n with vals := ks } kv vv' iv /\ CLe (cfU w) (cfU w') := by
 obtain ⟨⟨⟨_, h1⟩, ⟨_, h2⟩, ⟨_, h3⟩, h4⟩, h5⟩ := h
 have hu := grew_cfU h2 (by decide) hg
 refine ⟨⟨⟨⟨_, (own_stand (fun _ _ _ _ h => h) h1 hg.by_.size (fun g e => hg.by_.block g (h1.low g e).2 (fun e2 => h4 g e e2.symm))).rep (RB_le hu)⟩, ⟨cs', ho.rep (RB_le hu)⟩, ⟨_, own_stand (fun _ _ _ _ h => h) h3 hg.by_.size (fun g e => hg.by_.block g (h3.low g e).2 (fun e2 => ?_))⟩, fun g e e2 => ?_⟩, fun g e => ?_⟩, hu⟩
 ·obtain ⟨c1, e1⟩ := own_kind h2 e2.symm
  obtain ⟨c3, e3⟩ := own_kind h3 e
  exact kind_ne e1 e3 (by decide) rfl
 ·rcases hg.own g e2 with e1 | e1
  ·exact h4 g e e1
  ·have := (h1.low g e).2
   omega
 ·rcases e with e | e | e
  ·exact h5 g (.inl e)
  ·rcases hg.own g e with e1 | e1
   ·exact h5 g (.inr (.inl e1))
   ·exact fun e2 => by have := hH g e2; omega
  ·exact h5 g (.inr (.inr e))
theorem NT.edI {H : HS} {B : Nat} {w w' : World} {n : ND} {kv vv iv iv' : Value} {ks : List Nat} {cs' : List Value} (h : NT H B w n kv vv iv) (hg : Grew w w' iv iv') (hH : ∀ b, H.all b -> b < w.heap.size) (ho : OwnS 1 RI 3 B w' iv' ks.length (ks.map Int.ofNat) cs') : NT H B w' { n with kids := ks } kv vv iv' /\ CLe (cfU w) (cfU w') := by
 obtain ⟨⟨⟨_, h1⟩, ⟨_, h2⟩, ⟨_, h3⟩, h4⟩, h5⟩ := h
 have hu := grew_cfU h3 (by decide) hg
 have hne : ∀ {v : Value} {p : Nat} {xs : List Bts} {cs : List Value}, OwnS 1 (RB (cfU w)) 23 B w v p xs cs -> ∀ g, v.ownBlock = some g -> iv.ownBlock ≠ some g := fun hv g e e2 => by
  obtain ⟨c1, e1⟩ := own_kind hv e
  obtain ⟨c3, e3⟩ := own_kind h3 e2
  exact kind_ne e1 e3 (by decide) rfl
 refine ⟨⟨⟨⟨_, (own_stand (fun _ _ _ _ h => h) h1 hg.by_.size (fun g e => hg.by_.block g (h1.low g e).2 (fun e2 => hne h1 g e e2.symm))).rep (RB_le hu)⟩, ⟨_, (own_stand (fun _ _ _ _ h => h) h2 hg.by_.size (fun g e => hg.by_.block g (h2.low g e).2 (fun e2 => hne h2 g e e2.symm))).rep (RB_le hu)⟩, ⟨cs', ho⟩, h4⟩, fun g e => ?_⟩, hu⟩
 rcases e with e | e | e
 ·exact h5 g (.inl e)
 ·exact h5 g (.inr (.inl e))
 ·rcases hg.own g e with e1 | e1
  ·exact h5 g (.inr (.inr e1))
  ·exact fun e2 => by have := hH g e2; omega
end Go.Proofs.YtafilaiinbggoaaGreat
