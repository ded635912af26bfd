/- The reader of the reference: escape. The reader of the reference: escape at 'u'. The reader of the reference: quoted. -/
import Derived.Test.YticlnijkfclgcaaGreatDoorZ05
import Derived.Test.YticlnijkfclgcaaGreatDoorZ11
import Derived.Test.YticlnijkfclgcaaGreatDoorZ12
import Derived.Test.YticlnijkfclgcaaGreatDoorZ15
import Derived.Test.YticlnijkfclgcaaGreatDoorZ17
import Derived.Deep.LoopGhost
import Derived.Deep.DeepCutAuto
import Derived.Deep.CutBlock
namespace Go.Proofs.YticlnijkfclgcaaGreatDoor
open Go.Shelf Go.RowKit

end Go.Proofs.YticlnijkfclgcaaGreatDoor

namespace Go.Proofs.YticlnijkfclgcaaGreatDoor
open Go.Shelf Go.RowKit

end Go.Proofs.YticlnijkfclgcaaGreatDoor

namespace Go.Proofs.YticlnijkfclgcaaGreatDoor
open Go.Shelf Go.RowKit

/-- the loop: what is still to be read tells the whole -/
def RQI (s : ByteArray) (R : Option (List UInt8 × List UInt8)) (bd : Bool) (j : Nat) (acc : List UInt8) : Prop :=
  acc.length ≤ 4 * s.size + 8 ∧ (bd = false → (∃ n, (dl s j).length < n ∧ quoL n (dl s j) acc = R) ∧ acc.length + 4 * (s.size - j) ≤ 4 * s.size) ∧ (bd = true → R = none)
theorem RQI.start {s : ByteArray} {j : Nat} (hj : j ≤ s.size + 1) : RQI s (quoL ((dl s j).length + 1) (dl s j) []) false j [] :=
  ⟨by simp, fun _ => ⟨⟨_, Nat.lt_succ_self _, rfl⟩, by simp; omega⟩, fun h => by cases h⟩
theorem RQI.low {s : ByteArray} {R : Option (List UInt8 × List UInt8)} {j : Nat} {acc : List UInt8} (h : RQI s R false j acc) (hj : j < s.size) (hc : s[j].toNat < 32) : R = none := by
  obtain ⟨⟨n, hn, hq⟩, _⟩ := h.2.1 rfl
  rw [dl_cons hj] at hn hq
  obtain ⟨m, rfl⟩ : ∃ m, n = m + 1 := ⟨n - 1, by simp at hn; omega⟩
  rw [← hq]; exact quoL_low hc
theorem RQI.next {s : ByteArray} {R : Option (List UInt8 × List UInt8)} {j : Nat} {acc : List UInt8} {c : UInt8} (h : RQI s R false j acc) (hj : j < s.size) (hc : s[j] = c) (h32 : ¬ c.toNat < 32) (h34 : c ≠ 34) (h92 : c ≠ 92) : RQI s R false (j + 1) (acc ++ [c]) := by
  obtain ⟨h0, h1, _⟩ := h
  obtain ⟨⟨n, hn, hq⟩, h2⟩ := h1 rfl
  rw [dl_cons hj] at hn hq
  rw [hc] at hq
  obtain ⟨m, rfl⟩ : ∃ m, n = m + 1 := ⟨n - 1, by simp at hn; omega⟩
  rw [quoL_step h32 h34 h92] at hq
  refine ⟨by simp; omega, fun _ => ⟨⟨m, by simp at hn; omega, hq⟩, by simp; omega⟩, fun h => by cases h⟩
end Go.Proofs.YticlnijkfclgcaaGreatDoor

/- The reader of the reference: with. (printed by genXQL.py) The reader of the reference: array. (printed by genXQM.py) The reader of the reference: object. (printed by genXQN.py) The reader of the reference: value. (printed by genXQO.py) -/
namespace Go.Proofs.YticlnijkfclgcaaGreatDoor
open Go.Shelf Go.RowKit

/-- five cells, as they are -/
def Raw5 : Rep (List Value) := fun _ x d => d = x ∧ x.length = 5 ∧ ∀ u ∈ x, u.oneCell' = true
theorem Raw5_mono : Mono Raw5 := fun _ _ _ _ _ h => h
theorem OwnS.keepB {α : Type} {n : Nat} {R : Rep α} (hS : ∀ c c' x d, R c x d → R c' x d) {T : TypeId} {B : Nat} {w w' : World} {sl : Value} {p : Nat} {xs : List α} {cs : List Value} (h : OwnS n R T B w sl p xs cs) {g : Option Nat} (hg : w.grownBy w' g) (hne : ∀ q, sl.ownBlock = some q → g ≠ some q) : OwnS n R T B w' sl p xs cs :=
  ⟨own_keep h.own hg hne, h.len, ⟨h.row.1, fun i x hx => by
    obtain ⟨d, h1, h2, h3⟩ := h.row.2 i x hx
    exact ⟨d, h1, h2, hS _ _ _ _ h3⟩⟩, Nat.le_trans h.le hg.size⟩
/-- the object under way -/
structure WV (N : Nat) (W wr : World) (sv tv : Value) (p p2 : Nat) (a : List ByteArray) (l : List (List Value)) (cs ds : List Value) : Prop where
  bel : Below (N + 3) W wr
  box : wr.heap[N + 3]? = some (.cells #[.int .i64 6, .int .i64 0, .string ⟨#[]⟩, sv, tv] 58 (0, 0))
  nam : OwnS 1 RS 9 (N + 4) wr sv p a cs
  itm : OwnS 5 Raw5 58 (N + 4) wr tv p2 l ds
  apart : ∀ g, sv.ownBlock = some g → tv.ownBlock ≠ some g
theorem WV.alloc {N : Nat} {W wr : World} {sv tv : Value} {p p2 : Nat} {a : List ByteArray} {l : List (List Value)} {cs ds : List Value} (h : WV N W wr sv tv p p2 a l cs ds) (o : Obj) : WV N W (wr.alloc o) sv tv p p2 a l cs ds :=
  ⟨h.bel.alloc (by have := h.nam.le; omega) o, kept h.box ((Below.refl _ wr).alloc (Nat.le_refl _) o), h.nam.alloc RS_mono o, h.itm.alloc Raw5_mono o, h.apart⟩
theorem WV.drew {N : Nat} {W wr : World} {sv tv : Value} {p p2 : Nat} {a : List ByteArray} {l : List (List Value)} {cs ds : List Value} (h : WV N W wr sv tv p p2 a l cs ds) : WV N W wr.drew sv tv p p2 a l cs ds :=
  ⟨h.bel.drew, h.box, h.nam.drew, h.itm.drew, h.apart⟩
theorem WV.name {N : Nat} {W wr w' : World} {sv tv sv' : Value} {p p' p2 : Nat} {a a' : List ByteArray} {l : List (List Value)} {cs cs' ds : List Value} (h : WV N W wr sv tv p p2 a l cs ds) (hg : Grew wr w' sv sv') (ho : OwnS 1 RS 9 (N + 4) w' sv' p' a' cs') : WV N W (w'.setCell ⟨N + 3, 3, none⟩ sv') sv' tv p' p2 a' l cs' ds := by
  have hlt := ltR h.box
  have hle := h.nam.le
  have hset := But.set (b := N + 3) w' 3 sv'
  have hs1 : ∀ q, sv.ownBlock = some q → N + 4 ≤ q := fun q hq => (h.nam.low q hq).1
  have hs2 : ∀ q, sv'.ownBlock = some q → N + 4 ≤ q := fun q hq => (ho.low q hq).1
  have hs3 : ∀ q, tv.ownBlock = some q → N + 4 ≤ q ∧ q < wr.heap.size := fun q hq => h.itm.low q hq
  refine ⟨?_, ?_, ?_, ?_, ?_⟩
  · have h1 := h.bel.trans (hg.below (B := N + 3) (by omega) (fun g hq => by have := hs1 g hq; omega))
    exact h1.setCell (p := ⟨N + 3, 3, none⟩) (Nat.le_refl _) _
  · rw [set_at (hg.kept h.box (fun g hq e => by have := hs1 g hq; omega))]; rfl
  · exact ho.keepB (fun _ _ _ _ h => h) hset (fun q hq e => by have := hs2 q hq; have := Option.some.inj e; omega)
  · refine (h.itm.keepB (fun _ _ _ _ h => h) hg.by_ (fun q hq e => h.apart q e hq)).keepB (fun _ _ _ _ h => h) hset (fun q hq e => by have := (hs3 q hq).1; have := Option.some.inj e; omega)
  · intro g hgg ht
    rcases hg.own g hgg with e | e
    · exact h.apart g e ht
    · have := (hs3 g ht).2; omega
theorem WV.item {N : Nat} {W wr w' : World} {sv tv tv' : Value} {p p2 p2' : Nat} {a : List ByteArray} {l l' : List (List Value)} {cs ds ds' : List Value} (h : WV N W wr sv tv p p2 a l cs ds) (hg : Grew wr w' tv tv') (ho : OwnS 5 Raw5 58 (N + 4) w' tv' p2' l' ds') : WV N W (w'.setCell ⟨N + 3, 4, none⟩ tv') sv tv' p p2' a l' cs ds' := by
  have hlt := ltR h.box
  have hle := h.nam.le
  have hset := But.set (b := N + 3) w' 4 tv'
  have hs1 : ∀ q, tv.ownBlock = some q → N + 4 ≤ q := fun q hq => (h.itm.low q hq).1
  have hs2 : ∀ q, tv'.ownBlock = some q → N + 4 ≤ q := fun q hq => (ho.low q hq).1
  have hs3 : ∀ q, sv.ownBlock = some q → N + 4 ≤ q ∧ q < wr.heap.size := fun q hq => h.nam.low q hq
  refine ⟨?_, ?_, ?_, ?_, ?_⟩
  · have h1 := h.bel.trans (hg.below (B := N + 3) (by omega) (fun g hq => by have := hs1 g hq; omega))
    exact h1.setCell (p := ⟨N + 3, 4, none⟩) (Nat.le_refl _) _
  · rw [set_at (hg.kept h.box (fun g hq e => by have := hs1 g hq; omega))]; rfl
  · refine (h.nam.keepB (fun _ _ _ _ h => h) hg.by_ (fun q hq e => h.apart q hq e)).keepB (fun _ _ _ _ h => h) hset (fun q hq e => by have := (hs3 q hq).1; have := Option.some.inj e; omega)
  · exact ho.keepB (fun _ _ _ _ h => h) hset (fun q hq e => by have := hs2 q hq; have := Option.some.inj e; omega)
  · intro g hgs ht
    rcases hg.own g ht with e | e
    · exact h.apart g hgs e
    · have := (hs3 g hgs).2; omega
theorem WV.start {w : World} {o1 o2 o3 : Obj} {W : World} (hW : W = (((w.alloc o1).alloc o2).alloc o3).alloc (.cells #[.int .i64 6, .int .i64 0, .string ⟨#[]⟩, .slice none 0 0, .slice none 0 0] 58)) : WV w.heap.size W W (.slice none 0 0) (.slice none 0 0) 0 0 [] [] [] [] := by
  subst hW
  refine ⟨Below.refl _ _, ?_, OwnS.start _ _ _ (by simp), OwnS.start _ _ _ (by simp), fun g h => by simp [Value.ownBlock] at h⟩
  have := heap_alloc_new (((w.alloc o1).alloc o2).alloc o3) (.cells #[.int .i64 6, .int .i64 0, .string ⟨#[]⟩, .slice none 0 0, .slice none 0 0] 58)
  simpa using this
end Go.Proofs.YticlnijkfclgcaaGreatDoor

namespace Go.Proofs.YticlnijkfclgcaaGreatDoor
open Go.Shelf Go.RowKit

/-- values, and the cells that they lie in -/
def Vals (c : CF) (xs : List JV) (ls : List (List Value)) : Prop := ls.length = xs.length ∧ ∀ (i : Nat) x l, xs[i]? = some x → ls[i]? = some l → JAt c x (.agg l.toArray)
theorem Vals.mono {c d : CF} {xs : List JV} {ls : List (List Value)} (h : Vals c xs ls) (hl : CLe c d) : Vals d xs ls := ⟨h.1, fun i x l hx hy => (h.2 i x l hx hy).mono hl⟩
theorem Vals.nil (c : CF) : Vals c [] [] := ⟨rfl, fun i x l h => by simp at h⟩
theorem Vals.add {c : CF} {xs : List JV} {ls : List (List Value)} {x : JV} {l : List Value} (h : Vals c xs ls) (hx : JAt c x (.agg l.toArray)) : Vals c (xs ++ [x]) (ls ++ [l]) := by
  refine ⟨by simp [h.1], fun i y m hy hm => ?_⟩
  by_cases hi : i < xs.length
  · rw [List.getElem?_append_left hi] at hy
    rw [List.getElem?_append_left (by rw [h.1]; exact hi)] at hm
    exact h.2 i y m hy hm
  · rw [List.getElem?_append_right (by omega)] at hy
    rw [List.getElem?_append_right (by rw [h.1]; omega), h.1] at hm
    cases he : i - xs.length with
    | zero =>
      rw [he] at hy hm
      obtain rfl : x = y := by simpa using hy
      obtain rfl : l = m := by simpa using hm
      exact hx
    | succ q => rw [he] at hy; simp at hy
/-- the array under way -/
structure AV (B : Nat) (sl : Value) (ls : List (List Value)) (cs : List Value) (w : World) : Prop where
  box : w.heap[B + 1]? = some (.cells #[.int .i64 5, .int .i64 0, .string ⟨#[]⟩, .slice none 0 0, sl] 58 (0, 0))
  res : w.heap[B]? = some (.cells zero5R 58 (0, 0))
  itm : OwnS 5 Raw5 58 (B + 2) w sl ls.length ls cs
theorem AV.but {B : Nat} {sl : Value} {ls : List (List Value)} {cs : List Value} {w w' : World} (h : AV B sl ls cs w) {b : Nat} (hb : But b w w') (hbB : b < B) : AV B sl ls cs w' :=
  ⟨But.keep hb h.box (by omega), But.keep hb h.res (by omega), h.itm.keepB (fun _ _ _ _ h => h) hb (fun q hq e => by have := (h.itm.low q hq).1; have := Option.some.inj e; omega)⟩
theorem AV.start {w : World} (W : World) (hW : W = (w.alloc (.cells zero5R 58)).alloc (.cells (kind5 5) 58)) : AV w.heap.size (.slice none 0 0) [] [] W := by
  subst hW
  refine ⟨?_, kept (heap_alloc_new w _) ((Below.refl _ _).alloc (Nat.le_refl _) _), OwnS.start _ _ _ (by simp)⟩
  have := heap_alloc_new (w.alloc (.cells zero5R 58)) (.cells (kind5 5) 58)
  simpa using this
theorem AV.push {B : Nat} {sl sl' : Value} {ls ls' : List (List Value)} {cs cs' : List Value} {w w' : World} (h : AV B sl ls cs w) (hg : Grew w w' sl sl') (ho : OwnS 5 Raw5 58 (B + 2) w' sl' ls'.length ls' cs') : AV B sl' ls' cs' (w'.setCell ⟨B + 1, 4, none⟩ sl') := by
  have hset := But.set (b := B + 1) w' 4 sl'
  have hs1 : ∀ q, sl.ownBlock = some q → B + 2 ≤ q := fun q hq => (h.itm.low q hq).1
  refine ⟨?_, ?_, ?_⟩
  · rw [set_at (hg.kept h.box (fun g hq e => by have := hs1 g hq; omega))]; rfl
  · exact But.keep hset (hg.kept h.res (fun g hq e => by have := hs1 g hq; omega)) (by omega)
  · exact ho.keepB (fun _ _ _ _ h => h) hset (fun q hq e => by have := (ho.low q hq).1; have := Option.some.inj e; omega)
/-- the values stand, when the row has grown and the box holds it -/
theorem AV.vals {B : Nat} {sl sl' : Value} {w w' : World} (hg : Grew w w' sl sl') : CLe (cfX (B + 2) sl.ownBlock none w) (cfX (B + 2) sl'.ownBlock none (w'.setCell ⟨B + 1, 4, none⟩ sl')) := by
  have h1 : CLe (cfX (B + 2) sl.ownBlock none w) (cfX (B + 2) sl'.ownBlock none w') := cfX_grown hg.by_ (.inl rfl) hg.own (fun _ h => by cases h)
  exact h1.trans (cfX_grown (But.set (b := B + 1) w' 4 sl') (.inr (.inr fun q e => by have := Option.some.inj e; omega)) (fun _ h => .inl h) (fun _ h => by cases h))
end Go.Proofs.YticlnijkfclgcaaGreatDoor

namespace Go.Proofs.YticlnijkfclgcaaGreatDoor
open Go.Shelf Go.RowKit

/-- the object under way -/
structure OV (B : Nat) (nv iv : Value) (nm : List ByteArray) (ls : List (List Value)) (w : World) : Prop where
  box : w.heap[B + 1]? = some (.cells #[.int .i64 6, .int .i64 0, .string ⟨#[]⟩, nv, iv] 58 (0, 0))
  res : w.heap[B]? = some (.cells zero5R 58 (0, 0))
  nam : SAt 1 RS (cfF (B + 2) w) nv nm
  itm : SAt 5 Raw5 (cfF (B + 2) w) iv ls
  len : ls.length = nm.length
theorem OV.but {B : Nat} {nv iv : Value} {nm : List ByteArray} {ls : List (List Value)} {w w' : World} (h : OV B nv iv nm ls w) {b : Nat} (hb : But b w w') (hbB : b < B) : OV B nv iv nm ls w' :=
  ⟨But.keep hb h.box (by omega), But.keep hb h.res (by omega), h.nam.mono RS_mono (cfF_but hb (by omega)), h.itm.mono Raw5_mono (cfF_but hb (by omega)), h.len⟩
theorem OV.start {w : World} (W : World) (hW : W = (w.alloc (.cells zero5R 58)).alloc (.cells (kind5 6) 58)) : OV w.heap.size (.slice none 0 0) (.slice none 0 0) [] [] W := by
  subst hW
  refine ⟨?_, kept (heap_alloc_new w _) ((Below.refl _ _).alloc (Nat.le_refl _) _), SAt.none _ _ _, SAt.none _ _ _, rfl⟩
  have := heap_alloc_new (w.alloc (.cells zero5R 58)) (.cells (kind5 6) 58)
  simpa using this
theorem OV.set {B : Nat} {nv iv nv' iv' : Value} {nm nm' : List ByteArray} {ls ls' : List (List Value)} {w w' : World} {b : Nat} (h : OV B nv iv nm ls w) (hb : But b w w') (hbB : b < B) (hn : SAt 1 RS (cfF (B + 2) w') nv' nm') (hi : SAt 5 Raw5 (cfF (B + 2) w') iv' ls') (hl : ls'.length = nm'.length) :
    OV B nv' iv' nm' ls' (set5R w' (B + 1) (.int .i64 6) (.int .i64 0) (.string ⟨#[]⟩) nv' iv') :=
  ⟨set5R_self (h.but hb hbB).box, But.keep (set5R_but _ _ _ _ _ _ _) (h.but hb hbB).res (by omega), hn.mono RS_mono (cfF_but (set5R_but _ _ _ _ _ _ _) (by omega)), hi.mono Raw5_mono (cfF_but (set5R_but _ _ _ _ _ _ _) (by omega)), hl⟩
theorem OV.shape {B : Nat} {nv iv : Value} {nm : List ByteArray} {ls : List (List Value)} {w : World} (h : OV B nv iv nm ls w) : ∃ na nc ia ic, nv = .slice na nm.length nc ∧ iv = .slice ia ls.length ic := by
  obtain ⟨na, nc, e, _⟩ := h.nam
  obtain ⟨ia, ic, e2, _⟩ := h.itm
  exact ⟨na, nc, ia, ic, e, e2⟩
/-- behind the name and the colon -/
def Colon (s : ByteArray) (j : Nat) (t : ByteArray) (j4 : Nat) : Prop := ∃ r, strL (skipL (dl s j)) = some (t, r) ∧ skipL r = 58 :: dl s j4
theorem Colon.lt {s : ByteArray} {j j4 : Nat} {t : ByteArray} (h : Colon s j t j4) : 2 * (s.size - j4) + 2 ≤ 2 * (s.size - j) ∧ j < j4 := by
  obtain ⟨r, h1, h2⟩ := h
  have a := strL_len h1
  have b1 := skipL_len (dl s j)
  have c := skipL_len r
  rw [h2, List.length_cons, dl_len] at c
  rw [dl_len] at b1
  omega
end Go.Proofs.YticlnijkfclgcaaGreatDoor

namespace Go.Proofs.YticlnijkfclgcaaGreatDoor
open Go.Shelf Go.RowKit

end Go.Proofs.YticlnijkfclgcaaGreatDoor
