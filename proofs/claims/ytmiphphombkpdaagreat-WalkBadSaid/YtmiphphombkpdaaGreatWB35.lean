import Derived.Test.YtmiphphombkpdaaGreatWB32
import Derived.Test.YtmiphphombkpdaaGreatWB33
import Derived.Test.YtmiphphombkpdaaGreatWB34
namespace Go.Proofs.YtmiphphombkpdaaGreat
def restT : (h : Nat) -> Tree h -> List Nat
 | 0, _ => []
 | h + 1, t => t.2.1.flatMap (pagesT h)
theorem pages_rest : ∀ (h : Nat) (t : Tree h), pagesT h t = pgT h t :: restT h t
 | 0, _ => rfl
 | _ + 1, _ => rfl
theorem rest_join : ∀ (h : Nat) (a : Tree h) (s : Bts) (b : Tree h), restT h (joinT h a s b) = restT h a ++ restT h b
 | 0, _, _, _ => rfl
 | h + 1, a, s, b => by
  show (a.2.1 ++ b.2.1).flatMap (pagesT h) = _
  rw [List.flatMap_append]; rfl
theorem pg_join : ∀ (h : Nat) (a : Tree h) (s : Bts) (b : Tree h), pgT h (joinT h a s b) = pgT h a
 | 0, _, _, _ => rfl
 | _ + 1, _, _, _ => rfl
structure KidsIn (S : PS) (h : Nat) (ks : List (Tree h)) : Prop where
 sits : ∀ x ∈ ks, sitsT (contP S) h x
 nd : (ks.flatMap (pagesT h)).Nodup
 fresh : ∀ p ∈ ks.flatMap (pagesT h), S.is[p]? = some 2
theorem KidsIn.same {S S' : PS} {h : Nat} {ks : List (Tree h)} (hk : KidsIn S h ks) (hs : SameP S S') : KidsIn S' h ks :=
 ⟨fun x hx => sits_same h (fun p _ => hs.2 p) (hk.sits x hx), hk.nd, fun p hp => by rw [hs.1]; exact hk.fresh p hp⟩
theorem KidsIn.of {S : PS} {h : Nat} {t : Tree (h + 1)} (ht : TreeIn S (h + 1) t) : KidsIn S h t.2.1 :=
 ⟨ht.sits.2, (List.nodup_cons.1 (show (t.1 :: t.2.1.flatMap (pagesT h)).Nodup from ht.nd)).2, fun p hp => ht.fresh p (List.mem_cons_of_mem _ hp)⟩
theorem KidsIn.moves {S S' : PS} {h : Nat} {ks : List (Tree h)} {old new : List Nat} (hk : KidsIn S h ks) (hM : Moves S S' old new) (hd : ∀ p ∈ ks.flatMap (pagesT h), p ∉ old) : KidsIn S' h ks :=
 ⟨fun x hx => hM.sits (hk.sits x hx) (fun p hp => hd p (List.mem_flatMap.2 ⟨x, hx, hp⟩)) (fun p hp => hk.fresh p (List.mem_flatMap.2 ⟨x, hx, hp⟩)), hk.nd, fun p hp => (hM.other (hd p hp) (hk.fresh p hp)).2.2⟩
theorem kid_in {h : Nat} {ks : List (Tree h)} {i : Nat} {x : Tree h} (hx : ks[i]? = some x) {p : Nat} (hp : p ∈ pagesT h x) : p ∈ ks.flatMap (pagesT h) := List.mem_flatMap.2 ⟨x, List.mem_of_getElem? hx, hp⟩
def aroundP (h : Nat) (ks : List (Tree h)) (i : Nat) (a b : Tree h) : List Nat := (ks.take i).flatMap (pagesT h) ++ (restT h a ++ (restT h b ++ (ks.drop (i + 2)).flatMap (pagesT h)))
theorem around_perm {h : Nat} {ks : List (Tree h)} {i : Nat} {a b : Tree h} (ha : ks[i]? = some a) (hb : ks[i + 1]? = some b) : (ks.flatMap (pagesT h)).Perm (aroundP h ks i a b ++ [pgT h a, pgT h b]) := by
 conv => lhs; rw [two_list ha hb]
 rw [List.flatMap_append, List.flatMap_cons, List.flatMap_cons, pages_rest h a, pages_rest h b]
 refine List.Perm.trans ?_ (List.perm_append_comm (l₁ := [pgT h a, pgT h b]))
 unfold aroundP
 generalize (ks.take i).flatMap (pagesT h) = A
 generalize (ks.drop (i + 2)).flatMap (pagesT h) = C
 generalize restT h a = X
 generalize restT h b = Y
 generalize pgT h a = p
 generalize pgT h b = q
 show (A ++ (p :: (X ++ (q :: (Y ++ C))))).Perm (p :: q :: (A ++ (X ++ (Y ++ C))))
 refine List.perm_middle.trans (List.Perm.cons _ ?_)
 rw [<- List.append_assoc, <- List.append_assoc A X]
 exact List.perm_middle
theorem around_one {h : Nat} {ks : List (Tree h)} {i : Nat} {a b : Tree h} {s : Bts} : ((ks.take i ++ joinT h a s b :: ks.drop (i + 2)).flatMap (pagesT h)).Perm (aroundP h ks i a b ++ [pgT h a]) := by
 rw [List.flatMap_append, List.flatMap_cons, pages_rest h (joinT h a s b), rest_join, pg_join]
 refine List.Perm.trans ?_ (List.perm_append_comm (l₁ := [pgT h a]))
 unfold aroundP
 generalize (ks.take i).flatMap (pagesT h) = A
 generalize (ks.drop (i + 2)).flatMap (pagesT h) = C
 show (A ++ (pgT h a :: (restT h a ++ restT h b ++ C))).Perm (pgT h a :: (A ++ (restT h a ++ (restT h b ++ C))))
 rw [List.append_assoc]
 exact List.perm_middle
theorem KidsIn.around {S : PS} {h : Nat} {ks : List (Tree h)} {i : Nat} {a b : Tree h} (hk : KidsIn S h ks) (ha : ks[i]? = some a) (hb : ks[i + 1]? = some b) : (aroundP h ks i a b).Nodup /\ (∀ p ∈ aroundP h ks i a b, p ∉ [pgT h a, pgT h b] /\ S.is[p]? = some 2) /\ pgT h a ≠ pgT h b /\ S.is[pgT h a]? = some 2 /\ S.is[pgT h b]? = some 2 := by
 have hp := around_perm ha hb
 obtain ⟨n1, n2, n3⟩ := List.nodup_append.1 (hp.nodup_iff.1 hk.nd)
 refine ⟨n1, fun p hpp => ⟨fun e => n3 p hpp p e rfl, hk.fresh p (hp.mem_iff.2 (List.mem_append_left _ hpp))⟩, ?_, hk.fresh _ (kid_in ha (pg_mem h a)), hk.fresh _ (kid_in hb (pg_mem h b))⟩
 intro e
 have := (List.nodup_cons.1 n2).1
 exact this (by rw [e]; exact List.mem_singleton.2 rfl)
theorem sits_node {C : Nat -> Bts} {h n : Nat} {K : List (Tree h)} {L : List Bts} (hc : C n = encN (nodeN (K.map (pgT h)) L)) (hl : K.length = L.length + 1) (hx : ∀ x ∈ K, sitsT C h x) : sitsT C (h + 1) (mkT h n K L) := ⟨hc.trans (enc_node (by rw [List.length_map]; exact hl)), hx⟩
theorem merge_pages {S S1 S2 : PS} {h : Nat} {ks : List (Tree h)} {i : Nat} {a b : Tree h} {s : Bts} (hk : KidsIn S h ks) (ha : ks[i]? = some a) (hb : ks[i + 1]? = some b) (wa : WFS h a) (wb : WFS h b) (hM : Moves S S1 [pgT h a] [pgT h a]) (hc : contP S1 (pgT h a) = encN (ndT h (joinT h a s b))) (hM2 : Moves S1 S2 [pgT h b] []) :
  KidsIn S2 h (ks.take i ++ joinT h a s b :: ks.drop (i + 2)) /\ Moves S S2 (ks.flatMap (pagesT h)) ((ks.take i ++ joinT h a s b :: ks.drop (i + 2)).flatMap (pagesT h)) := by
 obtain ⟨n1, n2, n3, f1, f2⟩ := hk.around ha hb
 have hM12 : Moves S S2 [pgT h a, pgT h b] [pgT h a] := by
  have h1 : Moves S S1 ([pgT h b] ++ [pgT h a]) ([pgT h b] ++ [pgT h a]) := hM.wide (nodup_one _) (fun p hp => by rw [List.mem_singleton.1 hp]; simpa using fun e => n3 e.symm) (fun p hp => by rw [List.mem_singleton.1 hp]; exact f2)
  have h2 : Moves S1 S2 ([pgT h a] ++ [pgT h b]) ([pgT h a] ++ []) := hM2.wide (nodup_one _) (fun p hp => by rw [List.mem_singleton.1 hp]; simpa using n3) (fun p hp => hM.fresh p hp)
  exact (h1.trans (h2.perm (List.Perm.swap ..) (List.Perm.refl _))).perm (List.Perm.swap ..) (List.Perm.refl _)
 have hMM : Moves S S2 (ks.flatMap (pagesT h)) ((ks.take i ++ joinT h a s b :: ks.drop (i + 2)).flatMap (pagesT h)) :=
  (hM12.wide n1 (fun p hp => (n2 p hp).1) (fun p hp => (n2 p hp).2)).perm (around_perm ha hb) around_one
 have hcs : contP S2 (pgT h a) = encN (ndT h (joinT h a s b)) := (hM2.cont _ (by simpa using n3) (by rw [hM.fresh _ (List.mem_singleton.2 rfl)]; decide)).trans hc
 have hoth : ∀ {g : Nat} {x : Tree g}, sitsT (contP S) g x -> (∀ p ∈ pagesT g x, p ∈ aroundP h ks i a b) -> sitsT (contP S2) g x := fun hs hp => hM12.sits hs (fun p hpp => (n2 p (hp p hpp)).1) (fun p hpp => (n2 p (hp p hpp)).2)
 refine ⟨⟨fun x hx => ?_, hMM.nd, hMM.fresh⟩, hMM⟩
 rcases List.mem_append.1 hx with hx | hx
 ·exact hoth (hk.sits x (List.mem_of_mem_take hx)) fun p hp => List.mem_append_left _ (List.mem_flatMap.2 ⟨x, hx, hp⟩)
 ·rcases List.mem_cons.1 hx with rfl | hx
  ·cases h with
   | zero => exact hcs.trans (enc_leaf _)
   | succ h =>
    refine sits_node hcs ?_ fun y hy => ?_
    ·have h1 : a.2.1.length = a.2.2.length + 1 := wa.1
     have h2 : b.2.1.length = b.2.2.length + 1 := wb.1
     simp only [List.length_append, List.length_cons]; omega
    ·rcases List.mem_append.1 hy with hy | hy
     ·exact hoth ((hk.sits a (List.mem_of_getElem? ha)).2 y hy) fun p hp => List.mem_append_right _ (List.mem_append_left _ (List.mem_flatMap.2 ⟨y, hy, hp⟩))
     ·exact hoth ((hk.sits b (List.mem_of_getElem? hb)).2 y hy) fun p hp => List.mem_append_right _ (List.mem_append_right _ (List.mem_append_left _ (List.mem_flatMap.2 ⟨y, hy, hp⟩)))
  ·exact hoth (hk.sits x (List.mem_of_mem_drop hx)) fun p hp => List.mem_append_right _ (List.mem_append_right _ (List.mem_append_right _ (List.mem_flatMap.2 ⟨x, hx, hp⟩)))
theorem even_pages {S S1 S2 : PS} {h : Nat} {ks : List (Tree (h + 1))} {i : Nat} {a b : Tree (h + 1)} {KA KB : List (Tree h)} {LA LB : List Bts} (hk : KidsIn S (h + 1) ks) (ha : ks[i]? = some a) (hb : ks[i + 1]? = some b) (hK : KA ++ KB = a.2.1 ++ b.2.1) (la : KA.length = LA.length + 1) (lb : KB.length = LB.length + 1) (hM : Moves S S1 [a.1] [a.1]) (hc : contP S1 a.1 = encN (nodeN (KA.map (pgT h)) LA)) (hM2 : Moves S1 S2 [b.1] [b.1]) (hc2 : contP S2 b.1 = encN (nodeN (KB.map (pgT h)) LB)) :
  KidsIn S2 (h + 1) (ks.take i ++ mkT h a.1 KA LA :: mkT h b.1 KB LB :: ks.drop (i + 2)) /\ Moves S S2 (ks.flatMap (pagesT (h + 1))) ((ks.take i ++ mkT h a.1 KA LA :: mkT h b.1 KB LB :: ks.drop (i + 2)).flatMap (pagesT (h + 1))) := by
 obtain ⟨n1, n2, n3', f1, f2⟩ := hk.around ha hb
 have n3 : a.1 ≠ b.1 := n3'
 have hM12 : Moves S S2 [a.1, b.1] [a.1, b.1] := by
  have h1 : Moves S S1 ([b.1] ++ [a.1]) ([b.1] ++ [a.1]) := hM.wide (nodup_one _) (fun p hp => by rw [List.mem_singleton.1 hp]; simpa using fun e => n3 e.symm) (fun p hp => by rw [List.mem_singleton.1 hp]; exact f2)
  have h2 : Moves S1 S2 ([a.1] ++ [b.1]) ([a.1] ++ [b.1]) := hM2.wide (nodup_one _) (fun p hp => by rw [List.mem_singleton.1 hp]; simpa using n3) (fun p hp => hM.fresh p hp)
  exact (h1.trans (h2.perm (List.Perm.swap ..) (List.Perm.refl _))).perm (List.Perm.swap ..) (List.Perm.refl _)
 have hrr : KA.flatMap (pagesT h) ++ KB.flatMap (pagesT h) = restT (h + 1) a ++ restT (h + 1) b := by
  rw [<- List.flatMap_append, hK, List.flatMap_append]; rfl
 have hpm : ((ks.take i ++ mkT h a.1 KA LA :: mkT h b.1 KB LB :: ks.drop (i + 2)).flatMap (pagesT (h + 1))).Perm (aroundP (h + 1) ks i a b ++ [a.1, b.1]) := by
  rw [List.flatMap_append, List.flatMap_cons, List.flatMap_cons]
  refine List.Perm.trans ?_ (List.perm_append_comm (l₁ := [a.1, b.1]))
  unfold aroundP
  rw [<- List.append_assoc (restT (h + 1) a), <- hrr]
  generalize (ks.take i).flatMap (pagesT (h + 1)) = A
  generalize (ks.drop (i + 2)).flatMap (pagesT (h + 1)) = C
  show (A ++ (a.1 :: (KA.flatMap (pagesT h) ++ (b.1 :: (KB.flatMap (pagesT h) ++ C))))).Perm (a.1 :: b.1 :: (A ++ (KA.flatMap (pagesT h) ++ KB.flatMap (pagesT h) ++ C)))
  generalize KA.flatMap (pagesT h) = X
  generalize KB.flatMap (pagesT h) = Y
  refine List.perm_middle.trans (List.Perm.cons _ ?_)
  rw [<- List.append_assoc, List.append_assoc X Y C, <- List.append_assoc A X]
  exact List.perm_middle
 have hMM := (hM12.wide n1 (fun p hp => (n2 p hp).1) (fun p hp => (n2 p hp).2)).perm (around_perm ha hb) hpm
 have hcs : contP S2 a.1 = encN (nodeN (KA.map (pgT h)) LA) := (hM2.cont _ (by simpa using n3) (by rw [hM.fresh _ (List.mem_singleton.2 rfl)]; decide)).trans hc
 have hoth : ∀ {g : Nat} {x : Tree g}, sitsT (contP S) g x -> (∀ p ∈ pagesT g x, p ∈ aroundP (h + 1) ks i a b) -> sitsT (contP S2) g x := fun hs hp => hM12.sits hs (fun p hpp => (n2 p (hp p hpp)).1) (fun p hpp => (n2 p (hp p hpp)).2)
 have hsub : ∀ y ∈ KA ++ KB, sitsT (contP S2) h y := fun y hy => by
  rw [hK] at hy
  rcases List.mem_append.1 hy with hy | hy
  ·exact hoth ((hk.sits a (List.mem_of_getElem? ha)).2 y hy) fun p hp => List.mem_append_right _ (List.mem_append_left _ (List.mem_flatMap.2 ⟨y, hy, hp⟩))
  ·exact hoth ((hk.sits b (List.mem_of_getElem? hb)).2 y hy) fun p hp => List.mem_append_right _ (List.mem_append_right _ (List.mem_append_left _ (List.mem_flatMap.2 ⟨y, hy, hp⟩)))
 refine ⟨⟨fun x hx => ?_, hMM.nd, hMM.fresh⟩, hMM⟩
 rcases List.mem_append.1 hx with hx | hx
 ·exact hoth (hk.sits x (List.mem_of_mem_take hx)) fun p hp => List.mem_append_left _ (List.mem_flatMap.2 ⟨x, hx, hp⟩)
 ·rcases List.mem_cons.1 hx with rfl | hx
  ·exact sits_node hcs la fun y hy => hsub y (List.mem_append_left _ hy)
  ·rcases List.mem_cons.1 hx with rfl | hx
   ·exact sits_node hc2 lb fun y hy => hsub y (List.mem_append_right _ hy)
   ·exact hoth (hk.sits x (List.mem_of_mem_drop hx)) fun p hp => List.mem_append_right _ (List.mem_append_right _ (List.mem_append_right _ (List.mem_flatMap.2 ⟨x, hx, hp⟩)))
theorem one_perm {h : Nat} {ks : List (Tree h)} {i : Nat} {x : Tree h} (hx : ks[i]? = some x) : (ks.flatMap (pagesT h)).Perm ((ks.take i).flatMap (pagesT h) ++ (ks.drop (i + 1)).flatMap (pagesT h) ++ pagesT h x) := by
 rw [flat_at hx, List.append_assoc]
 exact List.Perm.append_left _ List.perm_append_comm
theorem kid_pages {S S' : PS} {h : Nat} {ks : List (Tree h)} {i : Nat} {x : Tree h} (hk : KidsIn S h ks) (hx : ks[i]? = some x) (c : Option (Tree h)) (hM : Moves S S' (pagesT h x) (match c with | none => [] | some y => pagesT h y)) (hs : ∀ y, c = some y -> sitsT (contP S') h y) :
  let ks' := match c with | none => delAt i ks | some y => ks.set i y
  KidsIn S' h ks' /\ Moves S S' (ks.flatMap (pagesT h)) (ks'.flatMap (pagesT h)) := by
 have hp := one_perm hx
 obtain ⟨n1, n2, n3⟩ := List.nodup_append.1 (hp.nodup_iff.1 hk.nd)
 have hlt := (List.getElem?_eq_some_iff.1 hx).1
 have hMM := (hM.wide n1 (fun p hpp e => n3 p hpp p e rfl) (fun p hpp => hk.fresh p (hp.mem_iff.2 (List.mem_append_left _ hpp)))).perm hp (List.Perm.refl _)
 have hoth : ∀ y : Tree h, y ∈ ks.take i \/ y ∈ ks.drop (i + 1) -> sitsT (contP S') h y := fun y hy => by
  have hin : y ∈ ks := hy.elim List.mem_of_mem_take List.mem_of_mem_drop
  refine hM.sits (hk.sits y hin) (fun p hpp e => n3 p ?_ p e rfl) (fun p hpp => hk.fresh p (List.mem_flatMap.2 ⟨y, hin, hpp⟩))
  exact hy.elim (fun hy => List.mem_append_left _ (List.mem_flatMap.2 ⟨y, hy, hpp⟩)) (fun hy => List.mem_append_right _ (List.mem_flatMap.2 ⟨y, hy, hpp⟩))
 cases c with
 | none =>
  have hM2 : Moves S S' (ks.flatMap (pagesT h)) ((delAt i ks).flatMap (pagesT h)) := hMM.perm (List.Perm.refl _) (by unfold delAt; rw [List.flatMap_append]; simp)
  exact ⟨⟨fun y hy => hoth y (List.mem_append.1 hy), hM2.nd, hM2.fresh⟩, hM2⟩
 | some y =>
  have hM2 : Moves S S' (ks.flatMap (pagesT h)) ((ks.set i y).flatMap (pagesT h)) := hMM.perm (List.Perm.refl _) (by
   show ((ks.set i y).flatMap (pagesT h)).Perm _
   rw [flat_set hlt, List.append_assoc]
   exact List.Perm.append_left _ List.perm_append_comm)
  refine ⟨⟨fun z hz => ?_, hM2.nd, hM2.fresh⟩, hM2⟩
  replace hz : z ∈ ks.set i y := hz
  rw [set_list hlt] at hz
  rcases List.mem_append.1 hz with hz | hz
  ·exact hoth z (.inl hz)
  ·rcases List.mem_cons.1 hz with rfl | hz
   ·exact hs _ rfl
   ·exact hoth z (.inr hz)
end Go.Proofs.YtmiphphombkpdaaGreat
namespace Go.Proofs.YtmiphphombkpdaaGreat
open Go.RowKit Go.Maps
structure TurnB (B : Nat) (H : BS) (w : World) (H' : BS) (w' : World) : Prop where
 os : w'.os = w.os
 tape : w'.tape = w.tape
 output : w'.output = w.output
 size : w.heap.size <= w'.heap.size
 out : ∀ b, b < B -> ¬ H b -> w'.heap[b]? = w.heap[b]? /\ ¬ H' b
theorem TurnB.refl (B : Nat) (H : BS) (w : World) : TurnB B H w H w := ⟨rfl, rfl, rfl, Nat.le_refl _, fun _ _ h => ⟨rfl, h⟩⟩
theorem TurnB.trans {B : Nat} {H H1 H2 : BS} {w w1 w2 : World} (h : TurnB B H w H1 w1) (k : TurnB B H1 w1 H2 w2) : TurnB B H w H2 w2 :=
 ⟨k.os.trans h.os, k.tape.trans h.tape, k.output.trans h.output, Nat.le_trans h.size k.size, fun b hb hn => by
  obtain ⟨h1, h2⟩ := h.out b hb hn
  obtain ⟨k1, k2⟩ := k.out b hb h2
  exact ⟨k1.trans h1, k2⟩⟩
theorem TurnS.toB {B : Nat} {H H' : BS} {w w' : World} (h : TurnS H w H' w') (hB : B <= w.heap.size) : TurnB B H w H' w' := ⟨h.os, h.tape, h.output, h.size, fun b hb hn => h.out b (Nat.lt_of_lt_of_le hb hB) hn⟩
theorem TurnB.grown {B : Nat} {H : BS} {w w' : World} {r : Option Nat} (hg : w.grownBy w' r) (hr : ∀ b, r = some b -> B <= b) (hB : B <= w.heap.size) : TurnB B H w H w' :=
 ⟨hg.os, hg.tape, hg.output, hg.size, fun b hb hn => ⟨hg.block b (Nat.lt_of_lt_of_le hb hB) (fun e => by have := hr b e.symm; omega), hn⟩⟩
theorem TurnB.quiet {B : Nat} {H : BS} {w w' : World} (hb : Below w.heap.size w w') (hB : B <= w.heap.size) : TurnB B H w H w' := (TurnS.quiet hb).toB hB
theorem TurnS.thenB {B : Nat} {H H1 H2 : BS} {w w1 w2 : World} (h : TurnS H w H1 w1) (k : TurnB B H1 w1 H2 w2) (hB : w.heap.size <= B) : TurnS H w H2 w2 :=
 ⟨k.os.trans h.os, k.tape.trans h.tape, k.output.trans h.output, Nat.le_trans h.size k.size, fun b hb hn => by
  obtain ⟨h1, h2⟩ := h.out b hb hn
  obtain ⟨k1, k2⟩ := k.out b (Nat.lt_of_lt_of_le hb hB) h2
  exact ⟨k1.trans h1, k2⟩⟩
structure KX (Q : PQ) (R : Int -> Option Bts) (H : HS) (S : PS) (p tb : Nat) (root : Int) (r B h : Nat) (ks : List (Tree h)) (keys : List Bts) (w : World) (kv vv iv : Value) : Prop where
 pg : PG Q R H S p w
 tbx : TB H w tb Q.pb root
 kin : KidsIn S h ks
 nt : NT H B w (nodeN (ks.map (pgT h)) keys) kv vv iv
 box : w.heap[r]? = some (.cells #[.bool false, kv, vv, iv] 104 (0, 0))
 boxH : ¬ H.all r
 low : B <= r
 tbB : tb < B
theorem KX.base {Q : PQ} {R : Int -> Option Bts} {H : HS} {S : PS} {p tb : Nat} {root : Int} {r B h : Nat} {ks : List (Tree h)} {keys : List Bts} {w : World} {kv vv iv : Value} (k : KX Q R H S p tb root r B h ks keys w kv vv iv) : B <= w.heap.size := Nat.le_trans k.low (Nat.le_of_lt (heap_lt k.box))
theorem KX.below {Q : PQ} {R : Int -> Option Bts} {H : HS} {S : PS} {p tb : Nat} {root : Int} {r B h : Nat} {ks : List (Tree h)} {keys : List Bts} {w w' : World} {kv vv iv : Value} (k : KX Q R H S p tb root r B h ks keys w kv vv iv) (hb : Below w.heap.size w w') : KX Q R H S p tb root r B h ks keys w' kv vv iv :=
 ⟨k.pg.below hb, k.tbx.below hb, k.kin, k.nt.below hb, kept k.box hb, k.boxH, k.low, k.tbB⟩
theorem KX.beside {Q : PQ} {R : Int -> Option Bts} {H : HS} {S : PS} {p tb : Nat} {root : Int} {r B h : Nat} {ks : List (Tree h)} {keys : List Bts} {w w' : World} {kv vv iv : Value} (k : KX Q R H S p tb root r B h ks keys w kv vv iv) {q : Nat} {cur : Array Value} (hq : w.heap[q]? = some (.cells cur 104 (0, 0))) (hqH : ¬ H.all q) (hqr : q ≠ r) (hg : w.grownBy w' (some q)) : KX Q R H S p tb root r B h ks keys w' kv vv iv := by
 have htb : tb ≠ q := fun e => by
  have h1 := k.tbx.box
  rw [e, hq] at h1
  cases h1
 refine ⟨k.pg.beside hg (fun b e => by cases e; exact ⟨hqH, fun ⟨_, _, e2⟩ => by rw [hq] at e2; cases e2⟩), ⟨(hg.block tb (heap_lt k.tbx.box) (fun e => htb (Option.some.inj e))).trans k.tbx.box, k.tbx.off⟩, k.kin, ⟨(k.nt.own.grown hq hg).1, k.nt.off⟩, (hg.block r (heap_lt k.box) (fun e => hqr (Option.some.inj e).symm)).trans k.box, k.boxH, k.low, k.tbB⟩
theorem KX.turn {Q : PQ} {R : Int -> Option Bts} {H H' : HS} {S S' : PS} {p p' tb : Nat} {root : Int} {r B h : Nat} {ks ks' : List (Tree h)} {keys : List Bts} {w w' : World} {kv vv iv : Value} (k : KX Q R H S p tb root r B h ks keys w kv vv iv) (hG : PG Q R H' S' p' w') (hT : TurnS H.all w H'.all w') (hk : KidsIn S' h ks') (hm : ks'.map (pgT h) = ks.map (pgT h)) : KX Q R H' S' p' tb root r B h ks' keys w' kv vv iv := by
 have hb := hT.kept k.box k.boxH
 refine ⟨hG, k.tbx.turn hT, hk, ?_, hb.1, hb.2, k.low, k.tbB⟩
 rw [hm]
 exact k.nt.turn hT k.pg.noU
theorem sz_treeS {h : Nat} {t : Tree h} (hw : WFS h t) : sizeN (ndT h t) <= 1024 := by
 cases h with
 | zero => rw [show ndT 0 t = leafN t.2 from rfl, size_leaf]; exact hw.2.2.2
 | succ h => rw [show ndT (h + 1) t = nodeN (t.2.1.map (pgT h)) t.2.2 from rfl, size_node]; exact hw.2.2.2.1
theorem size_T : ∀ (h : Nat) (t : Tree h), sizeN (ndT h t) = szT h t
 | 0, t => size_leaf t.2
 | _ + 1, t => size_node _ t.2.2
theorem shTS {h : Nat} {t : Tree h} (hw : WFS h t) (hp : ∀ p ∈ pagesT h t, p <= 2147483647) : ShN (ndT h t) := by
 cases h with
 | zero =>
  obtain ⟨h1, h2, h3, h4⟩ := hw
  exact shLeaf h2 h3 (by have := len_leaf t.2; omega)
 | succ h =>
  obtain ⟨h2, h3, h4, h5, h6, h7⟩ := hw
  exact shNode (by rw [List.length_map]; exact h2) h3 h4 (fun p hpp => by
   obtain ⟨x, hx, rfl⟩ := List.mem_map.1 hpp
   exact hp _ (pages_kid (t := t) hx (pg_mem h x))) (by have := len_node t.2.2; omega)
theorem sitsNS {C : Nat -> Bts} {h : Nat} {t : Tree h} (hw : WFS h t) (hs : sitsT C h t) : C (pgT h t) = encN (ndT h t) := by
 cases h with
 | zero => exact hs.trans (enc_leaf _).symm
 | succ h => exact hs.1.trans (enc_node (by rw [List.length_map]; exact hw.1)).symm
theorem nd_join : ∀ (h : Nat) (a : Tree h) (s : Bts) (b : Tree h), joinN (ndT h a) s (ndT h b) = ndT h (joinT h a s b)
 | 0, a, s, b => by
  show (⟨true, (if true = true then a.2.map (·.1) else a.2.map (·.1) ++ [s]) ++ b.2.map (·.1), a.2.map (·.2) ++ b.2.map (·.2), []⟩ : ND) = ⟨true, (a.2 ++ b.2).map (·.1), (a.2 ++ b.2).map (·.2), []⟩
  rw [List.map_append, List.map_append, if_pos rfl]
 | h + 1, a, s, b => by
  show (⟨false, (if false = true then a.2.2 else a.2.2 ++ [s]) ++ b.2.2, [], a.2.1.map (pgT h) ++ b.2.1.map (pgT h)⟩ : ND) = ⟨false, a.2.2 ++ s :: b.2.2, [], (a.2.1 ++ b.2.1).map (pgT h)⟩
  rw [List.map_append, if_neg (by decide), List.append_assoc]
  rfl
theorem leaf_T : ∀ (h : Nat) (a b : Tree h), (ndT h a).leaf = (ndT h b).leaf
 | 0, _, _ => rfl
 | _ + 1, _, _ => rfl
theorem thin_T {h : Nat} {t : Tree h} (hw : WFS h t) : (ndT h t).keys.length = 0 ↔ thinT h t := by
 cases h with
 | zero =>
  show (t.2.map (·.1)).length = 0 ↔ False
  rw [List.length_map]
  exact ⟨fun e => hw.1 (List.length_eq_zero_iff.1 e), fun e => e.elim⟩
 | succ h => exact List.length_eq_zero_iff
theorem sh_join {h : Nat} {a b : Tree h} {s : Bts} (ha : WFS h a) (hb : WFS h b) (hs : keyOk s) (h1 : ∀ e ∈ esT h a, ltB e.1 s = true) (h2 : ∀ e ∈ esT h b, ltB e.1 s = false) (pa : ∀ p ∈ pagesT h a, p <= 2147483647) (pb : ∀ p ∈ pagesT h b, p <= 2147483647) : ShN (ndT h (joinT h a s b)) := by
 cases h with
 | zero =>
  obtain ⟨a1, a2, a3, a4⟩ := ha
  obtain ⟨b1, b2, b3, b4⟩ := hb
  refine shLeaf (es := a.2 ++ b.2) ?_ (fun e he => ?_) ?_
  ·rw [List.map_append]
   refine List.pairwise_append.2 ⟨a2, b2, fun p hp q hq => ?_⟩
   obtain ⟨x, hx, rfl⟩ := List.mem_map.1 hp
   obtain ⟨y, hy, rfl⟩ := List.mem_map.1 hq
   exact ltB_le_trans (h1 x hx) (h2 y hy)
  ·rcases List.mem_append.1 he with he | he
   ·exact a3 e he
   ·exact b3 e he
  ·have := len_leaf a.2
   have := len_leaf b.2
   rw [List.length_append]; omega
 | succ h =>
  have ho := join_node ha hb hs h1 h2
  have la := len_node a.2.2
  have lb := len_node b.2.2
  have sa : szNode a.2.2 <= 1024 := ha.2.2.2.1
  have sb : szNode b.2.2 <= 1024 := hb.2.2.2.1
  refine shNode (kids := (a.2.1 ++ b.2.1).map (pgT h)) (keys := a.2.2 ++ s :: b.2.2) (by rw [List.length_map]; exact ho.len) ho.up ho.ok (fun p hp => ?_) ?_
  ·obtain ⟨x, hx, rfl⟩ := List.mem_map.1 hp
   rcases List.mem_append.1 hx with hx | hx
   ·exact pa _ (pages_kid (t := a) hx (pg_mem h x))
   ·exact pb _ (pages_kid (t := b) hx (pg_mem h x))
  ·rw [List.length_append, List.length_cons]; omega
def KReadPost (Q : PQ) (R : Int -> Option Bts) (H : HS) (S : PS) (p tb : Nat) (root : Int) (r B h : Nat) (ks : List (Tree h)) (keys : List Bts) (kv vv iv : Value) (x : Tree h) (w : World) (e : Ending) (w' : World) : Prop :=
 ∃ ka kc va vc ia ic H' S' p', e = .returned (.tuple #[.agg #[.bool (ndT h x).leaf, .slice ka (ndT h x).keys.length kc, .slice va (ndT h x).vals.length vc, .slice ia (ndT h x).kids.length ic], .int .i64 0]) /\ NT H' w.heap.size w' (ndT h x) (.slice ka (ndT h x).keys.length kc) (.slice va (ndT h x).vals.length vc) (.slice ia (ndT h x).kids.length ic) /\ KX Q R H' S' p' tb root r B h ks keys w' kv vv iv /\ SameP S S' /\ TurnS H.all w H'.all w' /\ p' <= p + 4
theorem KX.small {Q : PQ} {R : Int -> Option Bts} {H : HS} {S : PS} {p tb : Nat} {root : Int} {r B h : Nat} {ks : List (Tree h)} {keys : List Bts} {w : World} {kv vv iv : Value} (k : KX Q R H S p tb root r B h ks keys w kv vv iv) {i : Nat} {x : Tree h} (hx : ks[i]? = some x) : ∀ q ∈ pagesT h x, q <= 2147483647 := fun q hq => low_page k.pg (k.kin.fresh q (kid_in hx hq))
theorem kid_read {Q : PQ} {R : Int -> Option Bts} {H : HS} {S : PS} {p tb : Nat} {root : Int} {r B h deep : Nat} {ks : List (Tree h)} {keys : List Bts} {w : World} {kv vv iv : Value} (k : KX Q R H S p tb root r B h ks keys w kv vv iv) {i : Nat} {x : Tree h} (hx : ks[i]? = some x) (hw : WFS h x) (hd : deep <= 20) (hp : p <= 999999980) :
  Calls Tryz.prog 40 #[.pointer (some ⟨tb, 0, none⟩), .int .i64 (pgT h x : Int), .int .i64 (deep : Int)] w (KReadPost Q R H S p tb root r B h ks keys kv vv iv x w) := by
 refine (tree_read k.pg k.tbx hp (k.kin.fresh _ (kid_in hx (pg_mem h x))) (.inr rfl) hd (shTS hw (k.small hx)) (sz_treeS hw) (sitsNS hw (k.kin.sits x (List.mem_of_getElem? hx)))).mono ?_
 rintro e w' ⟨kv', vv', iv', H', S', p', rfl, hN, hG, hS, hT, hp'⟩
 obtain ⟨ka, kc, rfl⟩ := hN.own.nat.keys.form
 obtain ⟨va, vc, rfl⟩ := hN.own.nat.vals.form
 obtain ⟨ia, ic, rfl⟩ := hN.own.nat.kids.form
 rw [List.length_map] at hN |-
 exact ⟨ka, kc, va, vc, ia, ic, H', S', p', rfl, hN, k.turn hG hT (k.kin.same hS) rfl, hS, hT, hp'⟩
end Go.Proofs.YtmiphphombkpdaaGreat
