import Derived.Test.YtafilaiinbggoaaGreatQS27
namespace Go.Proofs.YtafilaiinbggoaaGreat
theorem putE_hit {k v : Bts} : ∀ {es : EL}, (es.map (·.1))[placeB k (es.map (·.1))]? = some k -> (putE k v es).map (·.1) = es.map (·.1) /\ (putE k v es).map (·.2) = (es.map (·.2)).set (placeB k (es.map (·.1))) v
 | [], h => by simp at h
 | (x, y) :: l, h => by
  simp only [List.map_cons] at h |-
  by_cases e : ltB x k = true
  ·have p1 : placeB k (x :: l.map (·.1)) = placeB k (l.map (·.1)) + 1 := by show (if ltB x k = true then _ else _) = _; rw [if_pos e]
   rw [p1, List.getElem?_cons_succ] at h
   obtain ⟨h1, h2⟩ := putE_hit (v := v) h
   rw [p1, show putE k v ((x, y) :: l) = (x, y) :: putE k v l by show (if ltB x k = true then _ else _) = _; rw [if_pos e]]
   simp only [List.map_cons, List.set_cons_succ, h1, h2, and_self]
  ·have p1 : placeB k (x :: l.map (·.1)) = 0 := by show (if ltB x k = true then _ else _) = _; rw [if_neg e]
   rw [p1] at h
   obtain rfl : x = k := by simpa using h
   rw [p1, show putE x v ((x, y) :: l) = (x, v) :: l by show (if ltB x x = true then _ else _) = _; rw [if_neg e, if_pos rfl]]
   simp
theorem putE_miss {k v : Bts} : ∀ {es : EL}, (es.map (·.1))[placeB k (es.map (·.1))]? ≠ some k -> (putE k v es).map (·.1) = insAt (placeB k (es.map (·.1))) k (es.map (·.1)) /\ (putE k v es).map (·.2) = insAt (placeB k (es.map (·.1))) v (es.map (·.2))
 | [], _ => by simp [putE, insAt, placeB]
 | (x, y) :: l, h => by
  simp only [List.map_cons] at h |-
  by_cases e : ltB x k = true
  ·have p1 : placeB k (x :: l.map (·.1)) = placeB k (l.map (·.1)) + 1 := by show (if ltB x k = true then _ else _) = _; rw [if_pos e]
   rw [p1, List.getElem?_cons_succ] at h
   obtain ⟨h1, h2⟩ := putE_miss (v := v) h
   rw [p1, show putE k v ((x, y) :: l) = (x, y) :: putE k v l by show (if ltB x k = true then _ else _) = _; rw [if_pos e]]
   simp only [List.map_cons, h1, h2]
   unfold insAt
   simp
  ·have p1 : placeB k (x :: l.map (·.1)) = 0 := by show (if ltB x k = true then _ else _) = _; rw [if_neg e]
   rw [p1] at h
   have hx : x ≠ k := fun e2 => h (by rw [e2]; rfl)
   rw [p1, show putE k v ((x, y) :: l) = (k, v) :: (x, y) :: l by show (if ltB x k = true then _ else _) = _; rw [if_neg e, if_neg hx]]
   simp [insAt]
theorem part_leafA (es : EL) (j : Nat) : partA (leafN es) j = leafN (es.take j) := by
 show (⟨true, (es.map (·.1)).take j, (es.map (·.2)).take j, []⟩ : ND) = ⟨true, (es.take j).map (·.1), (es.take j).map (·.2), []⟩
 rw [List.map_take, List.map_take]
theorem part_leafB (es : EL) (j : Nat) : partB (leafN es) j = leafN (es.drop j) := by
 show (⟨true, (es.map (·.1)).drop j, (es.map (·.2)).drop j, []⟩ : ND) = ⟨true, (es.drop j).map (·.1), (es.drop j).map (·.2), []⟩
 rw [List.map_drop, List.map_drop]
theorem part_nodeA (kids : List Nat) (keys : List Bts) (j : Nat) : partA (nodeN kids keys) j = nodeN (kids.take (j + 1)) (keys.take j) := rfl
theorem part_nodeB (kids : List Nat) (keys : List Bts) (j : Nat) : partB (nodeN kids keys) j = nodeN (kids.drop (j + 1)) (keys.drop (j + 1)) := rfl
theorem max_leaf (es : EL) : maxN (leafN es) = maxLeaf es := funext fun j => by unfold maxN maxLeaf; rw [part_leafA, part_leafB, size_leaf, size_leaf]
theorem max_node (kids : List Nat) (keys : List Bts) : maxN (nodeN kids keys) = maxNode keys := funext fun j => by unfold maxN maxNode; rw [part_nodeA, part_nodeB, size_node, size_node]
theorem last_leaf (es : EL) : lastN (leafN es) = es.length - 1 := by show (es.map _).length - 1 = _; rw [List.length_map]
theorem last_node (kids : List Nat) (keys : List Bts) : lastN (nodeN kids keys) = keys.length - 2 := rfl
theorem split_leaf {es : EL} (h2 : upB (es.map (·.1))) (h3 : ∀ e ∈ es, keyOk e.1 /\ e.2.length <= 260) (h4 : szLeaf es <= 1527) (h5 : 1024 < szLeaf es) : SplitOk (leafN es) := by
 have hlen := len_leaf es
 refine ⟨?_, fun j hj => ?_⟩
 ·rw [last_leaf]
  rcases Nat.lt_or_ge es.length 2 with hl | hl
  ·exfalso
   match es, hl with
   | [], _ => simp [szLeaf] at h5
   | [e], _ =>
    have := szE_le (h3 e (List.mem_singleton.2 rfl))
    simp [szLeaf] at h5
    omega
  ·omega
 ·rw [max_leaf, last_leaf] at hj
  obtain ⟨b1, b2⟩ := best_leaf hj (fun e he => szE_le (h3 e he)) h5 h4
  rw [part_leafA, part_leafB, size_leaf, size_leaf]
  refine ⟨shLeaf ?_ (fun e he => h3 e (List.mem_of_mem_take he)) ?_, b1, shLeaf ?_ (fun e he => h3 e (List.mem_of_mem_drop he)) ?_, b2⟩
  ·rw [List.map_take]; exact upB_take h2 j
  ·rw [List.length_take]; omega
  ·rw [List.map_drop]; exact upB_drop h2 j
  ·rw [List.length_drop]; omega
theorem split_node {kids : List Nat} {keys : List Bts} (h1 : kids.length = keys.length + 1) (h2 : upB keys) (h3 : ∀ k ∈ keys, keyOk k) (hp : ∀ p ∈ kids, p <= 2147483647) (h4 : szNode keys <= 1269) (h5 : 1024 < szNode keys) : SplitOk (nodeN kids keys) := by
 have hlen := len_node keys
 have h6 : szNode keys <= 7 + keys.length * 245 := by
  unfold szNode
  have : ∀ l : List Bts, (∀ k ∈ l, keyOk k) -> (l.map szK).sum <= l.length * 245 := fun l hl => by
   induction l with
   | nil => exact Nat.le_refl _
   | cons a l ih =>
    simp only [List.map_cons, List.sum_cons, List.length_cons]
    have h7 := szK_le (hl a (List.mem_cons_self ..))
    have h8 := ih fun k hk => hl k (List.mem_cons_of_mem _ hk)
    omega
  have := this keys h3
  omega
 refine ⟨?_, fun j hj => ?_⟩
 ·rw [last_node]; omega
 ·rw [max_node, last_node] at hj
  obtain ⟨b1, b2⟩ := best_node hj (fun k hk => szK_le (h3 k hk)) h5 h4
  obtain ⟨j1, j2, _⟩ := hj
  rw [part_nodeA, part_nodeB, size_node, size_node]
  refine ⟨shNode ?_ (upB_take h2 j) (fun k hk => h3 k (List.mem_of_mem_take hk)) (fun p hpp => hp p (List.mem_of_mem_take hpp)) ?_, b1, shNode ?_ (upB_drop h2 _) (fun k hk => h3 k (List.mem_of_mem_drop hk)) (fun p hpp => hp p (List.mem_of_mem_drop hpp)) ?_, b2⟩
  ·rw [List.length_take, List.length_take]; omega
  ·rw [List.length_take]; omega
  ·rw [List.length_drop, List.length_drop]; omega
  ·rw [List.length_drop]; omega
structure TreeIn (S : PS) (h : Nat) (t : Tree h) : Prop where
 wf : WFT h t
 sits : sitsT (contP S) h t
 nd : (pagesT h t).Nodup
 fresh : ∀ p ∈ pagesT h t, S.is[p]? = some 2
theorem TreeIn.same {S S' : PS} {h : Nat} {t : Tree h} (ht : TreeIn S h t) (hs : SameP S S') : TreeIn S' h t :=
 ⟨ht.wf, sits_same h (fun p _ => hs.2 p) ht.sits, ht.nd, fun p hp => by rw [hs.1]; exact ht.fresh p hp⟩
theorem flat_at {α β : Type} {l : List α} {i : Nat} {x : α} (h : l[i]? = some x) (f : α -> List β) : l.flatMap f = (l.take i).flatMap f ++ (f x ++ (l.drop (i + 1)).flatMap f) := by
 conv => lhs; rw [split_list h]
 rw [List.flatMap_append, List.flatMap_cons]
theorem flat_set {α β : Type} {l : List α} {i : Nat} {x : α} (h : i < l.length) (f : α -> List β) : (l.set i x).flatMap f = (l.take i).flatMap f ++ (f x ++ (l.drop (i + 1)).flatMap f) := by
 rw [set_list h, List.flatMap_append, List.flatMap_cons]
theorem flat_ins {α β : Type} {l : List α} {i : Nat} {x y : α} (h : i < l.length) (f : α -> List β) : (insAt (i + 1) y (l.set i x)).flatMap f = (l.take i).flatMap f ++ (f x ++ (f y ++ (l.drop (i + 1)).flatMap f)) := by
 rw [ins_list h, List.flatMap_append, List.flatMap_cons, List.flatMap_cons]
theorem TreeIn.kid {S : PS} {h : Nat} {t : Tree (h + 1)} (ht : TreeIn S (h + 1) t) {i : Nat} {x : Tree h} (hx : t.2.1[i]? = some x) : TreeIn S h x := by
 have hm := List.mem_of_getElem? hx
 have hnd : (t.1 :: t.2.1.flatMap (pagesT h)).Nodup := ht.nd
 rw [flat_at hx] at hnd
 exact ⟨ht.wf.2.2.2.2.2.1 x hm, ht.sits.2 x hm, ((List.nodup_append.1 ((List.nodup_append.1 (List.nodup_cons.1 hnd).2).2.1)).1), fun p hp => ht.fresh p (pages_kid hm hp)⟩
def PutM (S S' : PS) (h : Nat) (t : Tree h) (k v : Bts) (r : PRes h) : Prop := PutR h t k v r /\ pgT h r.1 = pgT h t /\ sitsT (contP S') h r.1 /\ match r.2 with
 | none => Moves S S' (pagesT h t) (pagesT h r.1)
 | some (_, y) => Moves S S' (pagesT h t) (pagesT h r.1 ++ pagesT h y) /\ sitsT (contP S') h y
def behindT {h : Nat} (r : PRes h) : Int := match r.2 with
 | none => -1
 | some (_, y) => (pgT h y : Int)
theorem Moves.before {S S1 S' : PS} {old new : List Nat} (h : Moves S1 S' old new) (hs : SameP S S1) : Moves S S' old new :=
 ⟨h.nd, fun p a b => (h.cont p a (by rw [hs.1]; exact b)).trans (hs.2 p), fun p a b => by rw [h.same p a b, hs.1], fun p hp => by rw [<- hs.1]; exact h.took p hp, h.fresh, h.left, h.len.trans (by rw [hs.1])⟩
theorem PutM.before {S S1 S' : PS} {h : Nat} {t : Tree h} {k v : Bts} {r : PRes h} (hp : PutM S1 S' h t k v r) (hs : SameP S S1) : PutM S S' h t k v r := by
 obtain ⟨h1, h2, h3, h4⟩ := hp
 obtain ⟨r1, r2⟩ := r
 refine ⟨h1, h2, h3, ?_⟩
 cases r2 with
 | none => exact Moves.before h4 hs
 | some x => exact ⟨h4.1.before hs, h4.2⟩
theorem putM_leaf {S S' : PS} {t : Tree 0} {k v : Bts} (hM : Moves S S' [t.1] [t.1]) (hc : contP S' t.1 = encN (leafN (putE k v t.2))) (hz : szLeaf (putE k v t.2) <= 1024) : PutM S S' 0 t k v ((t.1, putE k v t.2), none) :=
 ⟨.inl ⟨hz, rfl⟩, rfl, hc.trans (enc_leaf _), hM⟩
theorem putM_leaf2 {S S' : PS} {t : Tree 0} {k v : Bts} {j m2 : Nat} (hM : Moves S S' [t.1] [m2, t.1]) (hz : 1024 < szLeaf (putE k v t.2)) (hj : bestAt (maxN (leafN (putE k v t.2))) (lastN (leafN (putE k v t.2))) j) (hc : contP S' t.1 = encN (partA (leafN (putE k v t.2)) j)) (hc2 : contP S' m2 = encN (partB (leafN (putE k v t.2)) j)) :
  PutM S S' 0 t k v ((t.1, (putE k v t.2).take j), some (((putE k v t.2).map (·.1)).getD j [], (m2, (putE k v t.2).drop j))) := by
 rw [max_leaf, last_leaf] at hj
 rw [part_leafA, enc_leaf] at hc
 rw [part_leafB, enc_leaf] at hc2
 refine ⟨.inr ⟨hz, j, m2, _, hj, ?_, rfl⟩, rfl, hc, hM.perm (List.Perm.refl _) (List.Perm.swap ..), hc2⟩
 have hlt : j < ((putE k v t.2).map (·.1)).length := by
  have := hj.2.1
  have := hj.1
  rw [List.length_map]; omega
 rw [List.getD_eq_getElem?_getD, List.getElem?_eq_getElem hlt]; rfl
theorem node_pages {S : PS} {h : Nat} {t : Tree (h + 1)} (ht : TreeIn S (h + 1) t) {i : Nat} {x : Tree h} (hx : t.2.1[i]? = some x) :
  (t.1 :: ((t.2.1.take i).flatMap (pagesT h) ++ (t.2.1.drop (i + 1)).flatMap (pagesT h))).Nodup /\ (∀ p ∈ t.1 :: ((t.2.1.take i).flatMap (pagesT h) ++ (t.2.1.drop (i + 1)).flatMap (pagesT h)), p ∉ pagesT h x /\ S.is[p]? = some 2) /\ (pagesT (h + 1) t).Perm ((t.1 :: ((t.2.1.take i).flatMap (pagesT h) ++ (t.2.1.drop (i + 1)).flatMap (pagesT h))) ++ pagesT h x) := by
 have hp : (pagesT (h + 1) t).Perm ((t.1 :: ((t.2.1.take i).flatMap (pagesT h) ++ (t.2.1.drop (i + 1)).flatMap (pagesT h))) ++ pagesT h x) := by
  show (t.1 :: t.2.1.flatMap (pagesT h)).Perm _
  rw [flat_at hx, List.cons_append, List.append_assoc]
  exact List.Perm.cons _ (List.Perm.append_left _ List.perm_append_comm)
 have hn := hp.nodup_iff.1 ht.nd
 obtain ⟨n1, n2, n3⟩ := List.nodup_append.1 hn
 exact ⟨n1, fun p hpp => ⟨fun e => n3 p hpp p e rfl, ht.fresh p (hp.mem_iff.2 (List.mem_append_left _ hpp))⟩, hp⟩
theorem kid_other {S : PS} {h : Nat} {t : Tree (h + 1)} (ht : TreeIn S (h + 1) t) {i j : Nat} {x y : Tree h} (hx : t.2.1[i]? = some x) (hy : t.2.1[j]? = some y) (hij : i ≠ j) : ∀ p ∈ pagesT h y, p ∉ pagesT h x := fun p hp => by
 refine ((node_pages ht hx).2.1 p (List.mem_cons_of_mem _ ?_)).1
 rcases Nat.lt_or_ge j i with h1 | h1
 ·refine List.mem_append_left _ (List.mem_flatMap.2 ⟨y, List.mem_of_getElem? (i := j) ?_, hp⟩)
  rw [List.getElem?_take, if_pos h1]; exact hy
 ·refine List.mem_append_right _ (List.mem_flatMap.2 ⟨y, List.mem_of_getElem? (i := j - (i + 1)) ?_, hp⟩)
  rw [List.getElem?_drop, show i + 1 + (j - (i + 1)) = j by omega]; exact hy
theorem set_pg {h : Nat} {l : List (Tree h)} {i : Nat} {x c : Tree h} (hx : l[i]? = some x) (hp : pgT h c = pgT h x) : (l.set i c).map (pgT h) = l.map (pgT h) := by
 rw [List.map_set, hp]
 refine List.ext_getElem? fun j => ?_
 rw [List.getElem?_set]
 split
 ·rename_i e
  subst e
  rw [List.getElem?_map, hx, if_pos (by rw [List.length_map]; exact (List.getElem?_eq_some_iff.1 hx).1)]
  rfl
 ·rfl
theorem putM_kid {S S' : PS} {h : Nat} {t : Tree (h + 1)} {k v : Bts} {x : Tree h} {c : PRes h} (ht : TreeIn S (h + 1) t) (hx : t.2.1[kidB k t.2.2]? = some x) (hc : PutM S S' h x k v c) (hn : c.2 = none) :
  PutM S S' (h + 1) t k v ((t.1, t.2.1.set (kidB k t.2.2) c.1, t.2.2), none) := by
 obtain ⟨h1, h2, h3, h4⟩ := hc
 obtain ⟨c1, c2⟩ := c
 obtain rfl : c2 = none := hn
 obtain ⟨n1, n2, n3⟩ := node_pages ht hx
 have hlt := (List.getElem?_eq_some_iff.1 hx).1
 have hM := (Moves.wide h4 n1 (fun p hp => (n2 p hp).1) (fun p hp => (n2 p hp).2)).perm n3 (show (pagesT (h + 1) ((t.1, t.2.1.set (kidB k t.2.2) c1, t.2.2) : Tree (h + 1))).Perm _ by
  show (t.1 :: (t.2.1.set (kidB k t.2.2) c1).flatMap (pagesT h)).Perm _
  rw [flat_set hlt, List.cons_append, List.append_assoc]
  exact List.Perm.cons _ (List.Perm.append_left _ List.perm_append_comm))
 have h4' : Moves S S' (pagesT h x) (pagesT h c1) := h4
 refine ⟨⟨x, _, hx, h1, rfl⟩, rfl, ⟨?_, fun y hy => ?_⟩, hM⟩
 ·show contP S' t.1 = encNode ((t.2.1.set (kidB k t.2.2) c1).map (pgT h)) t.2.2
  rw [set_pg hx h2, h4'.cont t.1 (n2 t.1 (List.mem_cons_self ..)).1 (by rw [(n2 t.1 (List.mem_cons_self ..)).2]; decide)]
  exact ht.sits.1
 ·obtain ⟨j, hj⟩ := List.getElem?_of_mem (show y ∈ t.2.1.set (kidB k t.2.2) c1 from hy)
  rw [List.getElem?_set] at hj
  split at hj
  ·rename_i e
   cases hj
   exact h3
  ·rename_i e
   exact h4'.sits (ht.sits.2 y (List.mem_of_getElem? hj)) (kid_other ht hx hj e) (fun p hp => ht.fresh p (pages_kid (List.mem_of_getElem? hj) hp))
theorem put_keys {h : Nat} {t : Tree (h + 1)} {k v s : Bts} {x c1 y : Tree h} (hw : WFT (h + 1) t) (hk : keyOk k) (hv : v.length <= 260) (hx : t.2.1[kidB k t.2.2]? = some x) (hc : PutR h x k v (c1, some (s, y))) :
  upB (insAt (kidB k t.2.2) s t.2.2) /\ (∀ a ∈ insAt (kidB k t.2.2) s t.2.2, keyOk a) /\ (insAt (kidB k t.2.2 + 1) y (t.2.1.set (kidB k t.2.2) c1)).length = (insAt (kidB k t.2.2) s t.2.2).length + 1 /\ szNode (insAt (kidB k t.2.2) s t.2.2) <= 1269 /\ kidB k t.2.2 < t.2.1.length /\ keyOk s /\ WFT h c1 /\ WFT h y := by
 have ho := nodeOk_of hw
 have hil := (List.getElem?_eq_some_iff.1 hx).1
 obtain ⟨w1, w2, hs, e1, b1, b2⟩ : WFT h c1 /\ WFT h y /\ keyOk s /\ esT h c1 ++ esT h y = putE k v (esT h x) /\ (∀ e ∈ esT h c1, ltB e.1 s = true) /\ ∀ e ∈ esT h y, ltB e.1 s = false := put_ok h (ho.wf x (List.mem_of_getElem? hx)) hk hv hc
 have hsz : szNode t.2.2 <= 1024 := hw.2.2.2.2.1
 generalize hi : kidB k t.2.2 = i at *
 have hkl : i <= t.2.2.length := by rw [<- hi]; exact kidB_le k t.2.2
 have hbt : between i t.2.2 (putE k v (esT h x)) := by
  rw [<- hi]
  exact key_between ho.up k v (by rw [hi]; exact ho.btw i x hx)
 have hbc : between i t.2.2 (esT h c1) := fun e he => hbt e (by rw [<- e1]; exact List.mem_append_left _ he)
 have hby : between i t.2.2 (esT h y) := fun e he => hbt e (by rw [<- e1]; exact List.mem_append_right _ he)
 have hlo : ∀ a ∈ t.2.2.take i, ltB a s = true := fun a ha => by
  obtain ⟨q, hq, rfl⟩ := List.getElem_of_mem ha
  rw [List.length_take] at hq
  rw [List.getElem_take]
  obtain ⟨e, he⟩ := List.exists_mem_of_ne_nil _ (esT_ne h w1)
  have hp : t.2.2[i - 1]? = some (t.2.2[i - 1]'(by omega)) := List.getElem?_eq_getElem (by omega)
  have h3 := le_ltB_trans ((hbc e he).1 (i - 1) _ (by omega) hp) (b1 e he)
  rcases Nat.lt_or_ge q (i - 1) with h4 | h4
  ·exact ltB_trans (upB_at ho.up (List.getElem?_eq_getElem (by omega)) hp h4) h3
  ·have : q = i - 1 := by omega
   subst this; exact h3
 have hhi : ∀ a ∈ t.2.2.drop i, ltB s a = true := fun a ha => by
  obtain ⟨q, hq, rfl⟩ := List.getElem_of_mem ha
  rw [List.length_drop] at hq
  rw [List.getElem_drop]
  obtain ⟨e, he⟩ := List.exists_mem_of_ne_nil _ (esT_ne h w2)
  have hp : t.2.2[i]? = some (t.2.2[i]'(by omega)) := List.getElem?_eq_getElem (by omega)
  have h3 := le_ltB_trans (b2 e he) ((hby e he).2 _ hp)
  rcases Nat.eq_zero_or_pos q with h4 | h4
  ·subst h4; exact h3
  ·exact ltB_trans h3 (upB_at ho.up hp (List.getElem?_eq_getElem (by omega)) (by omega))
 refine ⟨?_, fun a ha => ?_, ?_, ?_, hil, hs, w1, w2⟩
 ·unfold insAt
  refine List.pairwise_append.2 ⟨upB_take ho.up i, List.pairwise_cons.2 ⟨fun a ha => hhi a ha, upB_drop ho.up i⟩, fun a ha b hb => ?_⟩
  rcases List.mem_cons.1 hb with rfl | hb
  ·exact hlo a ha
  ·exact ltB_trans (hlo a ha) (hhi b hb)
 ·unfold insAt at ha
  rcases List.mem_append.1 ha with ha | ha
  ·exact ho.ok a (List.mem_of_mem_take ha)
  ·rcases List.mem_cons.1 ha with rfl | ha
   ·exact hs
   ·exact ho.ok a (List.mem_of_mem_drop ha)
 ·have := ho.len
  rw [ins_list hil]
  unfold insAt
  simp only [List.length_append, List.length_cons, List.length_take, List.length_drop]
  omega
 ·have h5 : szK s <= 245 := szK_le hs
  have h6 : szNode (insAt i s t.2.2) = szNode t.2.2 + szK s := by
   unfold szNode insAt
   rw [List.map_append, List.map_cons, List.sum_append, List.sum_cons]
   have h7 : ((t.2.2.take i).map szK).sum + ((t.2.2.drop i).map szK).sum = (t.2.2.map szK).sum := by
    rw [<- List.sum_append, <- List.map_append, List.take_append_drop]
   omega
  omega
theorem perm_ins {a : Nat} {A X Y C : List Nat} : (A ++ (X ++ (Y ++ C)) ++ [a]).Perm ((a :: (A ++ C)) ++ (X ++ Y)) := by
 refine List.perm_append_comm.trans ?_
 show (a :: (A ++ (X ++ (Y ++ C)))).Perm (a :: ((A ++ C) ++ (X ++ Y)))
 refine List.Perm.cons _ ?_
 rw [List.append_assoc]
 refine List.Perm.append_left _ ?_
 rw [<- List.append_assoc]
 exact List.perm_append_comm
theorem perm_cut {a m : Nat} {A B : List Nat} : (a :: A ++ (m :: B)).Perm ((A ++ B) ++ [m, a]) := by
 refine List.Perm.trans ?_ (List.perm_append_comm (l₁ := [m, a]))
 show (a :: (A ++ (m :: B))).Perm (m :: a :: (A ++ B))
 exact List.Perm.trans (List.Perm.cons _ List.perm_middle) (List.Perm.swap ..)
theorem kids_split {S S' : PS} {h : Nat} {t : Tree (h + 1)} {k v s : Bts} {x c1 y : Tree h} (ht : TreeIn S (h + 1) t) (hx : t.2.1[kidB k t.2.2]? = some x) (hc : PutM S S' h x k v (c1, some (s, y))) :
  Moves S S' (pagesT (h + 1) t) ((insAt (kidB k t.2.2 + 1) y (t.2.1.set (kidB k t.2.2) c1)).flatMap (pagesT h) ++ [t.1]) /\ ∀ z ∈ insAt (kidB k t.2.2 + 1) y (t.2.1.set (kidB k t.2.2) c1), sitsT (contP S') h z := by
 obtain ⟨h1, h2, h3, h4, h5⟩ := hc
 obtain ⟨n1, n2, n3⟩ := node_pages ht hx
 have hlt := (List.getElem?_eq_some_iff.1 hx).1
 have h4' : Moves S S' (pagesT h x) (pagesT h c1 ++ pagesT h y) := h4
 refine ⟨(Moves.wide h4' n1 (fun p hp => (n2 p hp).1) (fun p hp => (n2 p hp).2)).perm n3 ?_, fun z hz => ?_⟩
 ·rw [flat_ins hlt]
  exact perm_ins ..
 ·rw [ins_list hlt] at hz
  have hoth : ∀ (j : Nat) (z : Tree h), t.2.1[j]? = some z -> kidB k t.2.2 ≠ j -> sitsT (contP S') h z := fun j z hj e => h4'.sits (ht.sits.2 z (List.mem_of_getElem? hj)) (kid_other ht hx hj e) (fun p hp => ht.fresh p (pages_kid (List.mem_of_getElem? hj) hp))
  rcases List.mem_append.1 hz with hz | hz
  ·obtain ⟨j, hj⟩ := List.getElem?_of_mem hz
   rw [List.getElem?_take] at hj
   split at hj
   ·rename_i e; exact hoth j z hj (by omega)
   ·cases hj
  ·rcases List.mem_cons.1 hz with rfl | hz
   ·exact h3
   ·rcases List.mem_cons.1 hz with rfl | hz
    ·exact h5
    ·obtain ⟨j, hj⟩ := List.getElem?_of_mem hz
     rw [List.getElem?_drop] at hj
     exact hoth _ z hj (by omega)
theorem putM_ins {S S' S'' : PS} {h : Nat} {t : Tree (h + 1)} {k v s : Bts} {x c1 y : Tree h} {K : List (Tree h)} {L : List Bts} (hK : K = insAt (kidB k t.2.2 + 1) y (t.2.1.set (kidB k t.2.2) c1)) (hL : L = insAt (kidB k t.2.2) s t.2.2) (ht : TreeIn S (h + 1) t) (hk : keyOk k) (hv : v.length <= 260) (hx : t.2.1[kidB k t.2.2]? = some x) (hc : PutM S S' h x k v (c1, some (s, y)))
  (hM : Moves S' S'' [t.1] [t.1]) (hz : szNode L <= 1024) (hcn : contP S'' t.1 = encN (nodeN (K.map (pgT h)) L)) :
  PutM S S'' (h + 1) t k v ((t.1, K, L), none) := by
 obtain ⟨q1, q2⟩ := kids_split ht hx hc
 obtain ⟨_, _, q3, _⟩ := put_keys ht.wf hk hv hx hc.1
 have hz' : szNode (insAt (kidB k t.2.2) s t.2.2) <= 1024 := hL ▸ hz
 rw [<- hK] at q1 q2
 rw [<- hK, <- hL] at q3
 obtain ⟨m1, m2, m3⟩ := List.nodup_append.1 q1.nd
 have hd : ∀ p ∈ K.flatMap (pagesT h), p ∉ [t.1] := fun p hp e => m3 p hp p e rfl
 have hf : ∀ p ∈ K.flatMap (pagesT h), S'.is[p]? = some 2 := fun p hp => q1.fresh p (List.mem_append_left _ hp)
 refine ⟨⟨x, _, hx, hc.1, .inl ⟨hz', by rw [hK, hL]; rfl⟩⟩, rfl, ⟨?_, fun z hz => ?_⟩, ?_⟩
 ·show contP S'' t.1 = encNode (K.map (pgT h)) L
  rw [hcn, enc_node (by rw [List.length_map]; exact q3)]
 ·exact hM.sits (q2 z hz) (fun p hp => hd p (List.mem_flatMap.2 ⟨z, hz, hp⟩)) (fun p hp => hf p (List.mem_flatMap.2 ⟨z, hz, hp⟩))
 ·have h1 : Moves S' S'' (K.flatMap (pagesT h) ++ [t.1]) (K.flatMap (pagesT h) ++ [t.1]) := hM.wide m1 hd hf
  exact (q1.trans h1).perm (List.Perm.refl _) (List.perm_append_comm (l₁ := [t.1]))
theorem putM_ins2 {S S' S'' : PS} {h : Nat} {t : Tree (h + 1)} {k v s : Bts} {x c1 y : Tree h} {j m2 : Nat} {K : List (Tree h)} {L : List Bts} (hK : K = insAt (kidB k t.2.2 + 1) y (t.2.1.set (kidB k t.2.2) c1)) (hL : L = insAt (kidB k t.2.2) s t.2.2) (ht : TreeIn S (h + 1) t) (hk : keyOk k) (hv : v.length <= 260) (hx : t.2.1[kidB k t.2.2]? = some x) (hc : PutM S S' h x k v (c1, some (s, y)))
  (hM : Moves S' S'' [t.1] [m2, t.1]) (hz : 1024 < szNode L)
  (hj : bestAt (maxN (nodeN (K.map (pgT h)) L)) (lastN (nodeN (K.map (pgT h)) L)) j)
  (hcn : contP S'' t.1 = encN (partA (nodeN (K.map (pgT h)) L) j)) (hcn2 : contP S'' m2 = encN (partB (nodeN (K.map (pgT h)) L) j)) :
  PutM S S'' (h + 1) t k v ((t.1, K.take (j + 1), L.take j), some (L.getD j [], (m2, K.drop (j + 1), L.drop (j + 1)))) := by
 obtain ⟨q1, q2⟩ := kids_split ht hx hc
 obtain ⟨_, _, q3, _⟩ := put_keys ht.wf hk hv hx hc.1
 have hz' : 1024 < szNode (insAt (kidB k t.2.2) s t.2.2) := hL ▸ hz
 rw [<- hK] at q1 q2
 rw [<- hK, <- hL] at q3
 rw [max_node, last_node] at hj
 rw [part_nodeA] at hcn
 rw [part_nodeB] at hcn2
 have hj1 := hj.1
 have hj2 := hj.2.1
 have hlt : j < L.length := by omega
 have hgl : L[j]? = some (L.getD j []) := by rw [List.getD_eq_getElem?_getD, List.getElem?_eq_getElem hlt]; rfl
 obtain ⟨m1, m2', m3⟩ := List.nodup_append.1 q1.nd
 have hd : ∀ p ∈ K.flatMap (pagesT h), p ∉ [t.1] := fun p hp e => m3 p hp p e rfl
 have hf : ∀ p ∈ K.flatMap (pagesT h), S'.is[p]? = some 2 := fun p hp => q1.fresh p (List.mem_append_left _ hp)
 have hsit : ∀ z ∈ K, sitsT (contP S'') h z := fun z hz => hM.sits (q2 z hz) (fun p hp => hd p (List.mem_flatMap.2 ⟨z, hz, hp⟩)) (fun p hp => hf p (List.mem_flatMap.2 ⟨z, hz, hp⟩))
 refine ⟨⟨x, _, hx, hc.1, .inr ⟨hz', j, m2, _, ?_, ?_, by rw [hK, hL]; rfl⟩⟩, rfl, ⟨?_, fun z hz => hsit z (List.mem_of_mem_take hz)⟩, ?_, ⟨?_, fun z hz => hsit z (List.mem_of_mem_drop hz)⟩⟩
 ·rw [<- hL]; exact hj
 ·rw [<- hL]; exact hgl
 ·show contP S'' t.1 = encNode ((K.take (j + 1)).map (pgT h)) (L.take j)
  rw [hcn, List.map_take, enc_node (by rw [List.length_take, List.length_take, List.length_map]; omega)]
 ·have h1 : Moves S' S'' (K.flatMap (pagesT h) ++ [t.1]) (K.flatMap (pagesT h) ++ [m2, t.1]) := hM.wide m1 hd hf
  refine (q1.trans h1).perm (List.Perm.refl _) ?_
  have e : K.flatMap (pagesT h) = (K.take (j + 1)).flatMap (pagesT h) ++ (K.drop (j + 1)).flatMap (pagesT h) := by rw [<- List.flatMap_append, List.take_append_drop]
  rw [e]
  exact perm_cut
 ·show contP S'' m2 = encNode ((K.drop (j + 1)).map (pgT h)) (L.drop (j + 1))
  rw [hcn2, List.map_drop, enc_node (by rw [List.length_drop, List.length_drop, List.length_map]; omega)]
end Go.Proofs.YtafilaiinbggoaaGreat
