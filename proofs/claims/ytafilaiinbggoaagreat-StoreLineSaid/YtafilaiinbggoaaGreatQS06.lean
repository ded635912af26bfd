import Derived.Test.YtafilaiinbggoaaGreatQS05
namespace Go.Proofs.YtafilaiinbggoaaGreat
structure PS where
 is : List Nat
 used : List Nat
 fr : Nat -> Option (Bts × Bool)
 now : Nat -> Option Bts
def secP (S : PS) (s : Nat) : Bts := (S.now s).getD (List.replicate 256 0)
def discP (S : PS) (n : Nat) : Bts := secP S (4 * n) ++ (secP S (4 * n + 1) ++ (secP S (4 * n + 2) ++ secP S (4 * n + 3)))
def contP (S : PS) (n : Nat) : Bts := match S.fr n with
 | some (b, _) => b
 | none => discP S n
structure PInv (pool : Nat) (S : PS) : Prop where
 nd : S.used.Nodup
 mem : ∀ n, n ∈ S.used ↔ (S.fr n).isSome = true
 few : S.used.length <= pool
 len : ∀ n b d, S.fr n = some (b, d) -> b.length = 1024
 clean : ∀ n b, S.fr n = some (b, false) -> b = discP S n
 sec : ∀ s b, S.now s = some b -> b.length = 256
theorem PInv.seclen {pool : Nat} {S : PS} (h : PInv pool S) (s : Nat) : (secP S s).length = 256 := by
 unfold secP
 cases e : S.now s with
 | none => exact List.length_replicate ..
 | some b => exact h.sec s b e
theorem PInv.disclen {pool : Nat} {S : PS} (h : PInv pool S) (n : Nat) : (discP S n).length = 1024 := by
 unfold discP
 simp only [List.length_append, h.seclen]
theorem PInv.contlen {pool : Nat} {S : PS} (h : PInv pool S) (n : Nat) : (contP S n).length = 1024 := by
 unfold contP
 split
 ·rename_i b d e
  exact h.len n b d e
 ·exact h.disclen n
def dropP (n : Nat) (S : PS) : PS := { S with used := S.used.erase n, fr := fun m => if m = n then none else S.fr m }
theorem drop_disc (n m : Nat) (S : PS) : discP (dropP n S) m = discP S m := rfl
theorem drop_inv {pool n : Nat} {S : PS} (h : PInv pool S) : PInv pool (dropP n S) := by
 refine ⟨h.nd.sublist List.erase_sublist, fun m => ?_, Nat.le_trans List.erase_sublist.length_le h.few, fun m b d hm => ?_, fun m b hm => ?_, h.sec⟩
 ·show m ∈ S.used.erase n ↔ (if m = n then none else S.fr m).isSome = true
  rw [h.nd.mem_erase_iff, h.mem]
  by_cases e : m = n
  ·simp [e]
  ·simp [e]
 ·have hm' : (if m = n then none else S.fr m) = some (b, d) := hm
  split at hm'
  ·cases hm'
  ·exact h.len m b d hm'
 ·have hm' : (if m = n then none else S.fr m) = some (b, false) := hm
  split at hm'
  ·cases hm'
  ·exact h.clean m b hm'
theorem drop_cont {n m : Nat} (S : PS) (hm : m ≠ n) : contP (dropP n S) m = contP S m := by
 have e : (dropP n S).fr m = S.fr m := if_neg hm
 unfold contP
 rw [e]
 rfl
theorem drop_none {pool n : Nat} {S : PS} (h : PInv pool S) (hn : S.fr n = none) : dropP n S = S := by
 have h1 : n ∉ S.used := fun h2 => by have := (h.mem n).1 h2; rw [hn] at this; cases this
 unfold dropP
 rw [List.erase_of_not_mem h1]
 have h2 : (fun m => if m = n then none else S.fr m) = S.fr := funext fun m => by
  by_cases e : m = n
  ·rw [if_pos e, e, hn]
  ·rw [if_neg e]
 rw [h2]
def writeP (n : Nat) (b : Bts) (S : PS) : PS := { S with now := fun s => if s / 4 = n then some ((b.drop (256 * (s % 4))).take 256) else S.now s, fr := fun m => if m = n then some (b, false) else S.fr m }
theorem quarter {α : Type} {b : List α} (h : b.length = 1024) : (b.drop 0).take 256 ++ ((b.drop 256).take 256 ++ ((b.drop 512).take 256 ++ (b.drop 768).take 256)) = b := by
 have h1 : ∀ i j, (b.drop i).take j ++ b.drop (i + j) = b.drop i := fun i j => by
  rw [<- List.drop_drop, List.take_append_drop]
 have h2 : (b.drop 768).take 256 = b.drop 768 := List.take_of_length_le (by rw [List.length_drop]; omega)
 have a1 := h1 0 256
 have a2 := h1 256 256
 have a3 := h1 512 256
 simp only [Nat.reduceAdd, Nat.zero_add] at a1 a2 a3
 rw [h2, a3, a2, a1, List.drop_zero]
theorem write_disc {n m : Nat} {b : Bts} {S : PS} (hb : b.length = 1024) : discP (writeP n b S) m = if m = n then b else discP S m := by
 have hs : ∀ i, i < 4 -> secP (writeP n b S) (4 * m + i) = if m = n then (b.drop (256 * i)).take 256 else secP S (4 * m + i) := fun i hi => by
  have e1 : (4 * m + i) / 4 = m := by omega
  have e2 : (4 * m + i) % 4 = i := by omega
  show ((if (4 * m + i) / 4 = n then some ((b.drop (256 * ((4 * m + i) % 4))).take 256) else S.now (4 * m + i)).getD (List.replicate 256 0)) = _
  rw [e1, e2]
  split <;> rfl
 unfold discP
 have h0 := hs 0 (by omega)
 rw [Nat.add_zero] at h0
 rw [h0, hs 1 (by omega), hs 2 (by omega), hs 3 (by omega)]
 split
 ·exact quarter hb
 ·rfl
theorem write_inv {pool n : Nat} {b : Bts} {d : Bool} {S : PS} (h : PInv pool S) (hn : S.fr n = some (b, d)) : PInv pool (writeP n b S) /\ ∀ m, contP (writeP n b S) m = contP S m := by
 have hb := h.len n b d hn
 have hf : ∀ m, (writeP n b S).fr m = if m = n then some (b, false) else S.fr m := fun _ => rfl
 refine ⟨⟨h.nd, fun m => ?_, h.few, fun m c e hm => ?_, fun m c hm => ?_, fun s c hs => ?_⟩, fun m => ?_⟩
 ·rw [hf]
  show m ∈ S.used ↔ _
  rw [h.mem m]
  by_cases e : m = n
  ·rw [if_pos e, e, hn]; simp
  ·rw [if_neg e]
 ·rw [hf] at hm
  split at hm
  ·cases hm; exact hb
  ·exact h.len m c e hm
 ·rw [hf] at hm
  rw [write_disc hb]
  split at hm
  ·rename_i e
   rw [if_pos e]
   cases hm; rfl
  ·rename_i e
   rw [if_neg e]
   exact h.clean m c hm
 ·have hs' : (if s / 4 = n then some ((b.drop (256 * (s % 4))).take 256) else S.now s) = some c := hs
  split at hs'
  ·cases hs'
   rw [List.length_take, List.length_drop]
   omega
  ·exact h.sec s c hs'
 ·unfold contP
  rw [hf, write_disc hb]
  by_cases e : m = n
  ·rw [if_pos e, e, hn]
  ·rw [if_neg e, if_neg e]
def evictP (pool : Nat) (S : PS) : PS := if S.used.length < pool then S else match S.used.getLast? with
 | none => S
 | some l => match S.fr l with
  | some (b, true) => dropP l (writeP l b S)
  | _ => dropP l S
theorem evict_ok {pool : Nat} {S : PS} (hp : 1 <= pool) (h : PInv pool S) : PInv pool (evictP pool S) /\ (evictP pool S).used.length < pool /\ (∀ m, contP (evictP pool S) m = contP S m) /\ (evictP pool S).is = S.is /\ ∀ m, S.fr m = none -> (evictP pool S).fr m = none /\ discP (evictP pool S) m = discP S m := by
 unfold evictP
 split
 ·rename_i h1
  exact ⟨h, h1, fun _ => rfl, rfl, fun m hm => ⟨hm, rfl⟩⟩
 ·rename_i h1
  have hne : S.used ≠ [] := fun e => by rw [e] at h1; simp at h1; omega
  obtain ⟨l, hl⟩ : ∃ l, S.used.getLast? = some l := by
   cases e : S.used.getLast? with
   | none => exact absurd (List.getLast?_eq_none_iff.1 e) hne
   | some l => exact ⟨l, rfl⟩
  have hlm := List.mem_of_getLast? hl
  rw [hl]
  have hsome := (h.mem l).1 hlm
  have hlen : ∀ T : PS, T.used = S.used -> (dropP l T).used.length < pool := fun T hT => by
   show (T.used.erase l).length < pool
   rw [hT, List.length_erase_of_mem hlm]
   have := h.few
   have := List.length_pos_iff.2 hne
   omega
  obtain ⟨⟨b, d⟩, hbd⟩ := Option.isSome_iff_exists.1 hsome
  have hne' : ∀ m, S.fr m = none -> m ≠ l := fun m hm e => by rw [e, hbd] at hm; cases hm
  simp only [hbd]
  cases d with
  | true =>
   obtain ⟨w1, w2⟩ := write_inv h hbd
   have hb := h.len l b true hbd
   refine ⟨drop_inv w1, hlen _ rfl, fun m => ?_, rfl, fun m hm => ?_⟩
   ·by_cases e : m = l
    ·subst e
     have e1 : (dropP m (writeP m b S)).fr m = none := if_pos rfl
     unfold contP
     rw [e1, hbd]
     show discP (writeP m b S) m = b
     rw [write_disc hb, if_pos rfl]
    ·rw [drop_cont _ e, w2]
   ·refine ⟨?_, ?_⟩
    ·show (if m = l then none else if m = l then some (b, false) else S.fr m) = none
     rw [if_neg (hne' m hm), if_neg (hne' m hm), hm]
    ·rw [drop_disc, write_disc hb, if_neg (hne' m hm)]
  | false =>
   refine ⟨drop_inv h, hlen _ rfl, fun m => ?_, rfl, fun m hm => ⟨?_, rfl⟩⟩
   ·by_cases e : m = l
    ·subst e
     have e1 : (dropP m S).fr m = none := if_pos rfl
     unfold contP
     rw [e1, hbd]
     exact (h.clean m b hbd).symm
    ·exact drop_cont _ e
   ·show (if m = l then none else S.fr m) = none
    rw [if_neg (hne' m hm), hm]
def putP (pool n : Nat) (b : Bts) (d : Bool) (S : PS) : PS :=
 { evictP pool (dropP n S) with used := n :: (evictP pool (dropP n S)).used, fr := fun m => if m = n then some (b, d) else (evictP pool (dropP n S)).fr m }
theorem put_pool {pool n : Nat} {b : Bts} {d : Bool} {S : PS} (hp : 1 <= pool) (h : PInv pool S) (hb : b.length = 1024) (hd : d = false -> b = discP S n) :
  PInv pool (putP pool n b d S) /\ (∀ m, contP (putP pool n b d S) m = if m = n then b else contP S m) /\ (putP pool n b d S).is = S.is := by
 obtain ⟨e1, e2, e3, e4, e5⟩ := evict_ok hp (drop_inv (n := n) h)
 have hf0 : (dropP n S).fr n = none := if_pos rfl
 obtain ⟨f1, f2⟩ := e5 n hf0
 rw [drop_disc] at f2
 have hnu : n ∉ (evictP pool (dropP n S)).used := fun h1 => by have := (e1.mem n).1 h1; rw [f1] at this; cases this
 have hf : ∀ m, (putP pool n b d S).fr m = if m = n then some (b, d) else (evictP pool (dropP n S)).fr m := fun _ => rfl
 have hds : ∀ m, discP (putP pool n b d S) m = discP (evictP pool (dropP n S)) m := fun _ => rfl
 refine ⟨⟨List.nodup_cons.2 ⟨hnu, e1.nd⟩, fun m => ?_, ?_, fun m c g hm => ?_, fun m c hm => ?_, e1.sec⟩, fun m => ?_, e4⟩
 ·rw [hf]
  show m ∈ n :: (evictP pool (dropP n S)).used ↔ _
  rw [List.mem_cons, e1.mem m]
  by_cases e : m = n
  ·simp [e]
  ·simp [e]
 ·show (n :: (evictP pool (dropP n S)).used).length <= pool
  rw [List.length_cons]
  omega
 ·rw [hf] at hm
  split at hm
  ·cases hm; exact hb
  ·exact e1.len m c g hm
 ·rw [hf] at hm
  rw [hds]
  split at hm
  ·rename_i e
   obtain ⟨rfl, hd'⟩ : b = c /\ d = false := by cases hm; exact ⟨rfl, rfl⟩
   rw [e, f2]
   exact hd hd'
  ·exact e1.clean m c hm
 ·by_cases e : m = n
  ·rw [if_pos e]
   unfold contP
   rw [hf, if_pos e]
  ·rw [if_neg e]
   have h1 := e3 m
   rw [drop_cont _ e] at h1
   rw [<- h1]
   unfold contP
   rw [hf, if_neg e, hds]
end Go.Proofs.YtafilaiinbggoaaGreat
namespace Go.Proofs.YtafilaiinbggoaaGreat
def be16 (n : Nat) : Bts := [UInt8.ofNat (n / 256), UInt8.ofNat n]
def be32 (n : Nat) : Bts := [UInt8.ofNat (n / 16777216), UInt8.ofNat (n / 65536), UInt8.ofNat (n / 256), UInt8.ofNat n]
def encE (e : Bts × Bts) : Bts := UInt8.ofNat e.1.length :: (be16 e.2.length ++ (e.1 ++ e.2))
def encK (e : Bts × Nat) : Bts := UInt8.ofNat e.1.length :: (e.1 ++ be32 e.2)
def rawLeaf (es : EL) : Bts := 1 :: (be16 es.length ++ es.flatMap encE)
def rawNode (kids : List Nat) (keys : List Bts) : Bts := 2 :: (be16 keys.length ++ (be32 (kids.headD 0) ++ (keys.zip kids.tail).flatMap encK))
def padTo (n : Nat) (b : Bts) : Bts := b ++ List.replicate (n - b.length) 0
def encLeaf (es : EL) : Bts := padTo 1024 (rawLeaf es)
def encNode (kids : List Nat) (keys : List Bts) : Bts := padTo 1024 (rawNode kids keys)
theorem pad_len {n : Nat} {b : Bts} (h : b.length <= n) : (padTo n b).length = n := by
 unfold padTo
 rw [List.length_append, List.length_replicate]
 omega
def sitsT (C : Nat -> Bts) : (h : Nat) -> Tree h -> Prop
 | 0, t => C t.1 = encLeaf t.2
 | h + 1, t => C t.1 = encNode (t.2.1.map (pgT h)) t.2.2 /\ ∀ x ∈ t.2.1, sitsT C h x
theorem pg_mem : ∀ (h : Nat) (t : Tree h), pgT h t ∈ pagesT h t
 | 0, _ => List.mem_cons_self ..
 | _ + 1, _ => List.mem_cons_self ..
theorem pages_kid {h : Nat} {t : Tree (h + 1)} {x : Tree h} (hx : x ∈ t.2.1) {p : Nat} (hp : p ∈ pagesT h x) : p ∈ pagesT (h + 1) t := List.mem_cons_of_mem _ (List.mem_flatMap.2 ⟨x, hx, hp⟩)
theorem sits_same {C C' : Nat -> Bts} : ∀ (h : Nat) {t : Tree h}, (∀ p ∈ pagesT h t, C' p = C p) -> sitsT C h t -> sitsT C' h t
 | 0, t, hp, hs => (hp _ (pg_mem 0 t)).trans hs
 | h + 1, t, hp, hs => ⟨(hp _ (pg_mem (h + 1) t)).trans hs.1, fun x hx => sits_same h (fun p hpp => hp p (pages_kid hx hpp)) (hs.2 x hx)⟩
structure Moves (S S' : PS) (old new : List Nat) : Prop where
 nd : new.Nodup
 cont : ∀ p, p ∉ old -> S.is[p]? ≠ some 0 -> contP S' p = contP S p
 same : ∀ p, p ∉ old -> p ∉ new -> S'.is[p]? = S.is[p]?
 took : ∀ p ∈ new, p ∈ old \/ S.is[p]? = some 0
 fresh : ∀ p ∈ new, S'.is[p]? = some 2
 left : ∀ p ∈ old, p ∉ new -> S'.is[p]? = some 0
 len : S'.is.length = S.is.length
theorem Moves.other {S S' : PS} {old new : List Nat} (h : Moves S S' old new) {p : Nat} (h1 : p ∉ old) (h2 : S.is[p]? = some 2) : p ∉ new /\ contP S' p = contP S p /\ S'.is[p]? = some 2 := by
 have h3 : p ∉ new := fun hp => by
  rcases h.took p hp with h4 | h4
  ·exact h1 h4
  ·rw [h2] at h4; cases h4
 exact ⟨h3, h.cont p h1 (by rw [h2]; decide), (h.same p h1 h3).trans h2⟩
theorem Moves.refl {S : PS} {old : List Nat} (hn : old.Nodup) (hf : ∀ p ∈ old, S.is[p]? = some 2) : Moves S S old old := ⟨hn, fun _ _ _ => rfl, fun _ _ _ => rfl, fun _ hp => .inl hp, hf, fun _ hp hq => absurd hp hq, rfl⟩
theorem Moves.wide {S S' : PS} {old new rest : List Nat} (h : Moves S S' old new) (hr : rest.Nodup) (hd : ∀ p ∈ rest, p ∉ old) (hf : ∀ p ∈ rest, S.is[p]? = some 2) : Moves S S' (rest ++ old) (rest ++ new) := by
 refine ⟨List.nodup_append.2 ⟨hr, h.nd, fun a ha b hb e => ?_⟩, fun p h1 h2 => ?_, fun p h1 h2 => ?_, fun p hp => ?_, fun p hp => ?_, fun p hp hq => ?_, h.len⟩
 ·subst e
  exact (h.other (hd a ha) (hf a ha)).1 hb
 ·exact h.cont p (fun e => h1 (List.mem_append_right _ e)) h2
 ·exact h.same p (fun e => h1 (List.mem_append_right _ e)) (fun e => h2 (List.mem_append_right _ e))
 ·rcases List.mem_append.1 hp with hp | hp
  ·exact .inl (List.mem_append_left _ hp)
  ·rcases h.took p hp with h4 | h4
   ·exact .inl (List.mem_append_right _ h4)
   ·exact .inr h4
 ·rcases List.mem_append.1 hp with hp | hp
  ·exact (h.other (hd p hp) (hf p hp)).2.2
  ·exact h.fresh p hp
 ·rcases List.mem_append.1 hp with hp | hp
  ·exact absurd (List.mem_append_left _ hp) hq
  ·exact h.left p hp (fun e => hq (List.mem_append_right _ e))
theorem Moves.trans {S S' S'' : PS} {a b c : List Nat} (h : Moves S S' a b) (k : Moves S' S'' b c) : Moves S S'' a c := by
 refine ⟨k.nd, fun p h1 h2 => ?_, fun p h1 h2 => ?_, fun p hp => ?_, k.fresh, fun p hp hq => ?_, k.len.trans h.len⟩
 ·have hb : p ∉ b := fun hb => (h.took p hb).elim h1 h2
  rw [k.cont p hb (by rw [h.same p h1 hb]; exact h2), h.cont p h1 h2]
 ·by_cases hb : p ∈ b
  ·rw [k.left p hb h2, (h.took p hb).resolve_left h1]
  ·rw [k.same p hb h2, h.same p h1 hb]
 ·rcases k.took p hp with h3 | h3
  ·exact h.took p h3
  ·by_cases ha : p ∈ a
   ·exact .inl ha
   ·by_cases hb : p ∈ b
    ·rw [h.fresh p hb] at h3; cases h3
    ·exact .inr ((h.same p ha hb).symm.trans h3)
 ·by_cases hb : p ∈ b
  ·exact k.left p hb hq
  ·exact (k.same p hb hq).trans (h.left p hp hb)
theorem Moves.perm {S S' : PS} {a b a' b' : List Nat} (h : Moves S S' a b) (ha : a'.Perm a) (hb : b'.Perm b) : Moves S S' a' b' :=
 ⟨hb.nodup_iff.2 h.nd, fun p h1 h2 => h.cont p (fun e => h1 (ha.mem_iff.2 e)) h2, fun p h1 h2 => h.same p (fun e => h1 (ha.mem_iff.2 e)) (fun e => h2 (hb.mem_iff.2 e)), fun p hp => (h.took p (hb.mem_iff.1 hp)).imp (fun e => ha.mem_iff.2 e) id, fun p hp => h.fresh p (hb.mem_iff.1 hp), fun p hp hq => h.left p (ha.mem_iff.1 hp) (fun e => hq (hb.mem_iff.2 e)), h.len⟩
theorem Moves.sits {S S' : PS} {old new : List Nat} (h : Moves S S' old new) {g : Nat} {x : Tree g} (hs : sitsT (contP S) g x) (hd : ∀ p ∈ pagesT g x, p ∉ old) (hf : ∀ p ∈ pagesT g x, S.is[p]? = some 2) : sitsT (contP S') g x :=
 sits_same g (fun p hp => (h.other (hd p hp) (hf p hp)).2.1) hs
def freeP (S : PS) : Nat := S.is.countP fun s => s == 0
end Go.Proofs.YtafilaiinbggoaaGreat
namespace Go.Proofs.YtafilaiinbggoaaGreat
structure Only (S : PS) (l : List Nat) : Prop where
 nd : l.Nodup
 fresh : ∀ p ∈ l, S.is[p]? = some 2
 rest : ∀ p s, S.is[p]? = some s -> p ∉ l -> s = 0
theorem Only.moves {S S' : PS} {old new : List Nat} (h : Only S old) (k : Moves S S' old new) : Only S' new :=
 ⟨k.nd, k.fresh, fun p s hp hn => by
  by_cases ho : p ∈ old
  ·rw [k.left p ho hn] at hp
   exact (Option.some.inj hp).symm
  ·rw [k.same p ho hn] at hp
   exact h.rest p s hp ho⟩
theorem Only.free {S : PS} {l : List Nat} (h : Only S l) : freeP S + l.length = S.is.length := by
 have hp : l.Perm ((List.range S.is.length).filter fun p => S.is[p]? == some 2) := by
  refine (List.perm_ext_iff_of_nodup h.nd (List.nodup_range.filter _)).2 fun p => ?_
  rw [List.mem_filter, List.mem_range, beq_iff_eq]
  refine ⟨fun hp => ⟨(List.getElem?_eq_some_iff.1 (h.fresh p hp)).1, h.fresh p hp⟩, fun ⟨_, h2⟩ => ?_⟩
  by_cases hl : p ∈ l
  ·exact hl
  ·exact absurd (h.rest p 2 h2 hl) (by decide)
 have e1 : S.is = (List.range S.is.length).map fun p => (S.is[p]?).getD 0 := by
  refine List.ext_getElem (by simp) fun i h1 h2 => ?_
  rw [List.getElem_map, List.getElem_range, List.getElem?_eq_getElem h1]
  rfl
 have e2 : freeP S = (List.range S.is.length).countP fun p => !(S.is[p]? == some 2) := by
  unfold freeP
  conv => lhs; rw [e1]
  rw [List.countP_map]
  refine List.countP_congr fun p hp => ?_
  have hl := List.mem_range.1 hp
  have hs : S.is[p]? = some (S.is[p]'hl) := List.getElem?_eq_getElem hl
  show (((S.is[p]?).getD 0 == 0) = true) ↔ ((!(S.is[p]? == some 2)) = true)
  rw [hs]
  by_cases hm : p ∈ l
  ·have := h.fresh p hm
   rw [hs] at this
   rw [Option.some.inj this]
   decide
  ·have := h.rest p _ hs hm
   rw [this]
   decide
 have e3 : l.length = (List.range S.is.length).countP fun p => S.is[p]? == some 2 := by
  rw [hp.length_eq, List.countP_eq_length_filter]
 have e4 := List.length_eq_countP_add_countP (l := List.range S.is.length) (p := fun p => S.is[p]? == some 2)
 rw [List.length_range] at e4
 have e5 : (List.range S.is.length).countP (fun p => !(S.is[p]? == some 2)) = (List.range S.is.length).countP (fun a => ¬ ((fun p => S.is[p]? == some 2) a) = true) := List.countP_congr fun p _ => by simp
 rw [e2, e3, e5, Nat.add_comm]
 exact e4.symm
theorem nodup_one (n : Nat) : [n].Nodup := List.pairwise_singleton _ _
theorem put_moves {pool n : Nat} {b : Bts} {S : PS} (hp : 1 <= pool) (h : PInv pool S) (hb : b.length = 1024) (hn : S.is[n]? = some 2) : PInv pool (putP pool n b true S) /\ Moves S (putP pool n b true S) [n] [n] /\ contP (putP pool n b true S) n = b := by
 obtain ⟨h1, h2, h3⟩ := put_pool hp h hb (d := true) (fun e => by cases e)
 refine ⟨h1, ⟨nodup_one n, fun p hp _ => ?_, fun p _ _ => by rw [h3], fun p hp => .inl hp, fun p hp => ?_, fun p hp hq => absurd hp hq, by rw [h3]⟩, by rw [h2, if_pos rfl]⟩
 ·rw [h2, if_neg (by simpa using hp)]
 ·obtain rfl := List.mem_singleton.1 hp
  rw [h3]; exact hn
def allocP (pool n : Nat) (S : PS) : PS := { putP pool n (List.replicate 1024 0) true S with is := S.is.set n 2 }
theorem alloc_moves {pool n : Nat} {S : PS} (hp : 1 <= pool) (h : PInv pool S) (hn : S.is[n]? = some 0) : PInv pool (allocP pool n S) /\ Moves S (allocP pool n S) [] [n] := by
 obtain ⟨h1, h2, _⟩ := put_pool (n := n) hp h (b := List.replicate 1024 0) List.length_replicate (d := true) (fun e => by cases e)
 have hl := (List.getElem?_eq_some_iff.1 hn).1
 have hi : ∀ p, (allocP pool n S).is[p]? = if n = p then some 2 else S.is[p]? := fun p => by
  show (S.is.set n 2)[p]? = _
  rw [List.getElem?_set]
  split
  all_goals rfl
 refine ⟨⟨h1.nd, h1.mem, h1.few, h1.len, h1.clean, h1.sec⟩, ⟨nodup_one n, fun p _ hp => ?_, fun p _ hp => ?_, fun p hp => ?_, fun p hp => ?_, fun p hp => by simp at hp, by show (S.is.set n 2).length = _; rw [List.length_set]⟩⟩
 ·show contP (putP pool n (List.replicate 1024 0) true S) p = contP S p
  rw [h2, if_neg (fun e => by subst e; exact hp hn)]
 ·rw [hi, if_neg (fun e => by subst e; simp at hp)]
 ·obtain rfl := List.mem_singleton.1 hp
  exact .inr hn
 ·obtain rfl := List.mem_singleton.1 hp
  rw [hi, if_pos rfl]
end Go.Proofs.YtafilaiinbggoaaGreat
