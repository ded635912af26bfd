import Derived.Test.YtafilaiinbggoaaGreatQS01
namespace Go.Proofs.YtafilaiinbggoaaGreat
theorem putE_fst_mem {k v : Bts} : ∀ {l : EL} {e : Bts × Bts}, e ∈ putE k v l -> e = (k, v) \/ e ∈ l
 | [], e, h => by simp [putE] at h; exact .inl h
 | (x, y) :: l, e, h => by
  unfold putE at h
  split at h
  ·rcases List.mem_cons.1 h with rfl | h
   ·exact .inr (List.mem_cons_self ..)
   ·rcases putE_fst_mem h with h | h
    ·exact .inl h
    ·exact .inr (List.mem_cons_of_mem _ h)
  ·split at h
   ·rcases List.mem_cons.1 h with rfl | h
    ·exact .inl rfl
    ·exact .inr (List.mem_cons_of_mem _ h)
   ·rcases List.mem_cons.1 h with rfl | h
    ·exact .inl rfl
    ·exact .inr h
theorem putE_app {k v : Bts} : ∀ {A : EL} {B C : EL}, (∀ e ∈ A, ltB e.1 k = true) -> (∀ e ∈ C, ltB k e.1 = true) -> putE k v (A ++ (B ++ C)) = A ++ (putE k v B ++ C)
 | [], [], [], _, _ => rfl
 | [], [], (x, y) :: C, _, h => by
  have h1 := h (x, y) (List.mem_cons_self ..)
  simp only [List.nil_append]
  unfold putE
  rw [if_neg (by rw [ltB_asym h1]; decide), if_neg (fun e => by subst e; rw [ltB_irrefl] at h1; cases h1)]
  rfl
 | [], (x, y) :: B, C, _, h => by
  have ih := putE_app (v := v) (A := []) (B := B) (C := C) (fun e he => by simp at he) h
  simp only [List.nil_append] at ih |-
  rw [List.cons_append]
  unfold putE
  split
  ·rw [ih]; rfl
  ·split <;> rfl
 | (x, y) :: A, B, C, h, h2 => by
  have h1 := h (x, y) (List.mem_cons_self ..)
  rw [List.cons_append, List.cons_append]
  have ih := putE_app (v := v) (A := A) (B := B) (C := C) (fun e he => h e (List.mem_cons_of_mem _ he)) h2
  rw [<- ih]
  conv => lhs; unfold putE
  rw [if_pos h1]
theorem putE_ne (k v : Bts) (l : EL) : putE k v l ≠ [] := by
 cases l with
 | nil => simp [putE]
 | cons a l =>
  obtain ⟨x, y⟩ := a
  unfold putE
  repeat' split
  all_goals simp
theorem putE_up {k v : Bts} : ∀ {l : EL}, upB (l.map (·.1)) -> upB ((putE k v l).map (·.1))
 | [], _ => by simp [putE, upB]
 | (x, y) :: l, h => by
  obtain ⟨h1, h2⟩ := List.pairwise_cons.1 h
  unfold putE
  split
  ·rename_i hx
   refine List.pairwise_cons.2 ⟨fun z hz => ?_, putE_up h2⟩
   obtain ⟨e, he, rfl⟩ := List.mem_map.1 hz
   rcases putE_fst_mem he with rfl | he
   ·exact hx
   ·exact h1 _ (List.mem_map.2 ⟨e, he, rfl⟩)
  ·rename_i hx
   have hx' : ltB x k = false := by simpa using hx
   split
   ·rename_i e; subst e; exact h
   ·rename_i hne
    have hk : ltB k x = true := by
     rcases ltB_total x k with h | h | h
     ·rw [h] at hx'; cases hx'
     ·exact absurd h hne
     ·exact h
    refine List.pairwise_cons.2 ⟨fun z hz => ?_, h⟩
    rcases List.mem_cons.1 hz with rfl | hz
    ·exact hk
    ·exact ltB_trans hk (h1 z hz)
def kidB (k : Bts) : List Bts -> Nat
 | [] => 0
 | x :: l => if ltB k x = true then 0 else kidB k l + 1
theorem kidB_le (k : Bts) : ∀ l : List Bts, kidB k l <= l.length
 | [] => Nat.le_refl _
 | x :: l => by
  have := kidB_le k l
  unfold kidB; split
  ·omega
  ·simp only [List.length_cons]; omega
theorem kidB_lt {k : Bts} : ∀ {l : List Bts} {i : Nat} {x : Bts}, i < kidB k l -> l[i]? = some x -> ltB k x = false
 | [], i, x, h, _ => by unfold kidB at h; omega
 | y :: l, i, x, h, hx => by
  unfold kidB at h
  split at h
  ·omega
  ·rename_i hy
   match i, hx with
   | 0, hx => obtain rfl := Option.some.inj hx; simpa using hy
   | i + 1, hx => exact kidB_lt (l := l) (by omega) hx
theorem kidB_ge {k : Bts} : ∀ {l : List Bts} (_ : upB l) {i : Nat} {x : Bts}, kidB k l <= i -> l[i]? = some x -> ltB k x = true
 | [], _, i, x, _, hx => by simp at hx
 | y :: l, hu, i, x, h, hx => by
  obtain ⟨h1, h2⟩ := List.pairwise_cons.1 hu
  unfold kidB at h
  split at h
  ·rename_i hy
   match i, hx with
   | 0, hx => obtain rfl := Option.some.inj hx; exact hy
   | i + 1, hx => exact ltB_trans hy (h1 x (List.mem_of_getElem? hx))
  ·match i, hx with
   | 0, hx => omega
   | i + 1, hx => exact kidB_ge h2 (by omega) hx
def Tree : Nat -> Type
 | 0 => Nat × EL
 | h + 1 => Nat × List (Tree h) × List Bts
def esT : (h : Nat) -> Tree h -> EL
 | 0, t => t.2
 | h + 1, t => t.2.1.flatMap (esT h)
def pgT : (h : Nat) -> Tree h -> Nat
 | 0, t => t.1
 | _ + 1, t => t.1
def pagesT : (h : Nat) -> Tree h -> List Nat
 | 0, t => [t.1]
 | h + 1, t => t.1 :: t.2.1.flatMap (pagesT h)
def keyOk (k : Bts) : Prop := 1 <= k.length /\ k.length <= 240
def szE (e : Bts × Bts) : Nat := 3 + e.1.length + e.2.length
def szK (k : Bts) : Nat := 5 + k.length
def szLeaf (l : EL) : Nat := 3 + (l.map szE).sum
def szNode (l : List Bts) : Nat := 7 + (l.map szK).sum
def between (i : Nat) (keys : List Bts) (l : EL) : Prop := ∀ e ∈ l, (∀ j s, i = j + 1 -> keys[j]? = some s -> ltB e.1 s = false) /\ ∀ s, keys[i]? = some s -> ltB e.1 s = true
def WFT : (h : Nat) -> Tree h -> Prop
 | 0, t => t.2 ≠ [] /\ upB (t.2.map (·.1)) /\ (∀ e ∈ t.2, keyOk e.1 /\ e.2.length <= 260) /\ szLeaf t.2 <= 1024
 | h + 1, t => t.2.2 ≠ [] /\ t.2.1.length = t.2.2.length + 1 /\ upB t.2.2 /\ (∀ k ∈ t.2.2, keyOk k) /\ szNode t.2.2 <= 1024 /\ (∀ x ∈ t.2.1, WFT h x) /\ ∀ i x, t.2.1[i]? = some x -> between i t.2.2 (esT h x)
theorem esT_ne : ∀ (h : Nat) {t : Tree h}, WFT h t -> esT h t ≠ []
 | 0, _, hw => hw.1
 | h + 1, t, hw => by
  obtain ⟨h1, h2, _, _, _, h6, _⟩ := hw
  show t.2.1.flatMap (esT h) ≠ []
  cases e : t.2.1 with
  | nil => rw [e] at h2; simp at h2
  | cons x l =>
   rw [List.flatMap_cons]
   have := esT_ne h (h6 x (by rw [e]; exact List.mem_cons_self ..))
   intro h0
   exact this (List.append_eq_nil_iff.1 h0).1
theorem crossB {P : Nat -> Prop} [DecidablePred P] : ∀ n, P 0 -> ¬ P n -> ∃ j, j < n /\ P j /\ ¬ P (j + 1)
 | 0, h0, hn => absurd h0 hn
 | n + 1, h0, hn => by
  by_cases h : P n
  ·exact ⟨n, Nat.lt_succ_self n, h, hn⟩
  ·obtain ⟨j, hj, h1, h2⟩ := crossB n h0 h
   exact ⟨j, by omega, h1, h2⟩
theorem sum_take_drop (l : List Nat) (j : Nat) : (l.take j).sum + (l.drop j).sum = l.sum := by
 rw [<- List.sum_append, List.take_append_drop]
theorem sum_take_succ (l : List Nat) {j w : Nat} (h : l[j]? = some w) : (l.take (j + 1)).sum = (l.take j).sum + w := by
 rw [List.take_add_one, h, List.sum_append]; simp
theorem balance {ws : List Nat} {E : Nat} (hE : ∀ w ∈ ws, w <= E) (hT : 2 * E < ws.sum) : ∃ j, 1 <= j /\ j + 1 <= ws.length /\ 2 * (ws.take j).sum <= ws.sum + E /\ 2 * (ws.drop j).sum <= ws.sum + E := by
 obtain ⟨j, hj, h1, h2⟩ := crossB (P := fun j => 2 * (ws.take j).sum <= ws.sum + E) ws.length (by simp) (by rw [List.take_of_length_le (Nat.le_refl _)]; omega)
 have hw : ws[j]? = some ws[j] := List.getElem?_eq_getElem hj
 have hwE := hE _ (List.mem_of_getElem? hw)
 have hs := sum_take_succ ws hw
 have hd := sum_take_drop ws j
 rw [hs] at h2
 refine ⟨j, ?_, by omega, h1, by omega⟩
 rcases Nat.eq_zero_or_pos j with h0 | h0
 ·subst h0
  simp at h2
  omega
 ·exact h0
def bestAt (f : Nat -> Nat) (last j : Nat) : Prop := 1 <= j /\ j <= last /\ ∀ i, 1 <= i -> i <= last -> f j <= f i
def maxLeaf (es : EL) (j : Nat) : Nat := max (szLeaf (es.take j)) (szLeaf (es.drop j))
def maxNode (keys : List Bts) (j : Nat) : Nat := max (szNode (keys.take j)) (szNode (keys.drop (j + 1)))
theorem best_leaf {es : EL} {j : Nat} (hb : bestAt (maxLeaf es) (es.length - 1) j) (hE : ∀ e ∈ es, szE e <= 503) (h1 : 1024 < szLeaf es) (h2 : szLeaf es <= 1527) : szLeaf (es.take j) <= 1024 /\ szLeaf (es.drop j) <= 1024 := by
 have hs : szLeaf es = 3 + (es.map szE).sum := rfl
 obtain ⟨i, i1, i2, i3, i4⟩ := balance (ws := es.map szE) (E := 503) (fun w hw => by obtain ⟨e, he, rfl⟩ := List.mem_map.1 hw; exact hE e he) (by omega)
 rw [List.length_map] at i2
 have h3 := hb.2.2 i i1 (by omega)
 have h4 : maxLeaf es i <= 1018 := by
  unfold maxLeaf szLeaf
  rw [List.map_take, List.map_drop]
  omega
 have h5 : maxLeaf es j <= 1018 := Nat.le_trans h3 h4
 unfold maxLeaf at h5
 omega
theorem best_node {keys : List Bts} {j : Nat} (hb : bestAt (maxNode keys) (keys.length - 2) j) (hE : ∀ k ∈ keys, szK k <= 245) (h1 : 1024 < szNode keys) (h2 : szNode keys <= 1269) : szNode (keys.take j) <= 1024 /\ szNode (keys.drop (j + 1)) <= 1024 := by
 have hs : szNode keys = 7 + (keys.map szK).sum := rfl
 obtain ⟨i, i1, i2, i3, i4⟩ := balance (ws := keys.map szK) (E := 245) (fun w hw => by obtain ⟨e, he, rfl⟩ := List.mem_map.1 hw; exact hE e he) (by omega)
 rw [List.length_map] at i2
 have mono : ∀ (l : List Nat) (a : Nat), (l.drop (a + 1)).sum <= (l.drop a).sum := fun l a => by
  rw [<- List.drop_drop]
  have := sum_take_drop (l.drop a) 1
  omega
 have monot : ∀ (l : List Nat) (a : Nat), (l.take a).sum <= (l.take (a + 1)).sum := fun l a => by
  rw [List.take_add_one, List.sum_append]; omega
 obtain ⟨q, q1, q2, q3⟩ : ∃ q, 1 <= q /\ q <= keys.length - 2 /\ maxNode keys q <= 765 := by
  by_cases hi : i + 2 <= keys.length
  ·refine ⟨i, i1, by omega, ?_⟩
   have := mono (keys.map szK) i
   unfold maxNode szNode
   rw [List.map_take, List.map_drop]
   omega
  ·have hi2 : i + 1 = keys.length := by omega
   have hl : 3 <= keys.length := by
    rcases Nat.lt_or_ge keys.length 3 with h | h
    ·exfalso
     match keys, h with
     | [], _ => simp at hs; omega
     | [a], _ => have := hE a (by simp); simp at hs; omega
     | [a, b], _ => have := hE a (by simp); have := hE b (by simp); simp at hs; omega
    ·exact h
   obtain ⟨p, rfl⟩ : ∃ p, i = p + 1 := ⟨i - 1, by omega⟩
   refine ⟨p, by omega, by omega, ?_⟩
   have := monot (keys.map szK) p
   unfold maxNode szNode
   rw [List.map_take, List.map_drop]
   omega
 have h3 := hb.2.2 q q1 q2
 have h5 : maxNode keys j <= 765 := Nat.le_trans h3 q3
 unfold maxNode at h5
 omega
def insAt {α : Type} (i : Nat) (x : α) (l : List α) : List α := l.take i ++ x :: l.drop i
abbrev PRes (h : Nat) := Tree h × Option (Bts × Tree h)
def layLeaf (n : Nat) (es : EL) (r : PRes 0) : Prop := (szLeaf es <= 1024 /\ r = ((n, es), none)) \/ (1024 < szLeaf es /\ ∃ j m s, bestAt (maxLeaf es) (es.length - 1) j /\ (es.map (·.1))[j]? = some s /\ r = ((n, es.take j), some (s, (m, es.drop j))))
def layNode (h n : Nat) (ks : List (Tree h)) (keys : List Bts) (r : PRes (h + 1)) : Prop := (szNode keys <= 1024 /\ r = ((n, ks, keys), none)) \/ (1024 < szNode keys /\ ∃ j m s, bestAt (maxNode keys) (keys.length - 2) j /\ keys[j]? = some s /\ r = ((n, ks.take (j + 1), keys.take j), some (s, (m, ks.drop (j + 1), keys.drop (j + 1)))))
def PutR : (h : Nat) -> Tree h -> Bts -> Bts -> PRes h -> Prop
 | 0, t, k, v, r => layLeaf t.1 (putE k v t.2) r
 | h + 1, t, k, v, r => ∃ x c, t.2.1[kidB k t.2.2]? = some x /\ PutR h x k v c /\ match c.2 with
  | none => r = ((t.1, t.2.1.set (kidB k t.2.2) c.1, t.2.2), none)
  | some (s, y) => layNode h t.1 (insAt (kidB k t.2.2 + 1) y (t.2.1.set (kidB k t.2.2) c.1)) (insAt (kidB k t.2.2) s t.2.2) r
theorem szE_le {e : Bts × Bts} (h : keyOk e.1 /\ e.2.length <= 260) : szE e <= 503 := by unfold szE; have := h.1.2; omega
theorem szK_le {k : Bts} (h : keyOk k) : szK k <= 245 := by unfold szK; have := h.2; omega
theorem putE_size {k v : Bts} : ∀ l : EL, szLeaf (putE k v l) <= szLeaf l + szE (k, v)
 | [] => by simp [putE, szLeaf]
 | (x, y) :: l => by
  have ih := putE_size (k := k) (v := v) l
  unfold putE
  unfold szLeaf at ih |-
  repeat' split
  all_goals simp only [List.map_cons, List.sum_cons] at ih |-
  all_goals omega
theorem upB_take {l : List Bts} (h : upB l) (n : Nat) : upB (l.take n) := List.Pairwise.sublist (List.take_sublist n l) h
theorem upB_drop {l : List Bts} (h : upB l) (n : Nat) : upB (l.drop n) := List.Pairwise.sublist (List.drop_sublist n l) h
def PartsOk (h : Nat) (r : PRes h) (l : EL) : Prop := match r.2 with
 | none => WFT h r.1 /\ esT h r.1 = l
 | some (s, y) => WFT h r.1 /\ WFT h y /\ keyOk s /\ esT h r.1 ++ esT h y = l /\ (∀ e ∈ esT h r.1, ltB e.1 s = true) /\ ∀ e ∈ esT h y, ltB e.1 s = false
def PutOk (h : Nat) (t : Tree h) (k v : Bts) (r : PRes h) : Prop := PartsOk h r (putE k v (esT h t))
theorem lay_leaf {n : Nat} {es : EL} {r : PRes 0} (hr : layLeaf n es r) (h1 : es ≠ []) (h2 : upB (es.map (·.1))) (h3 : ∀ e ∈ es, keyOk e.1 /\ e.2.length <= 260) (h4 : szLeaf es <= 1527) :
  PartsOk 0 r es := by
 rcases hr with ⟨hs, rfl⟩ | ⟨hs, j, m, s, hb, hsj, rfl⟩
 ·exact ⟨⟨h1, h2, h3, hs⟩, rfl⟩
 ·obtain ⟨b1, b2⟩ := best_leaf hb (fun e he => szE_le (h3 e he)) hs h4
  obtain ⟨j1, j2, _⟩ := hb
  have hjl : j < es.length := by omega
  have hse : s = es[j].1 := by
   rw [List.getElem?_map, List.getElem?_eq_getElem hjl] at hsj
   exact (Option.some.inj hsj).symm
  refine ⟨⟨fun e => ?_, ?_, fun e he => h3 e (List.mem_of_mem_take he), b1⟩, ⟨fun e => ?_, ?_, fun e he => h3 e (List.mem_of_mem_drop he), b2⟩, ?_, List.take_append_drop j es, fun e he => ?_, fun e he => ?_⟩
  ·have := congrArg List.length e
   simp only [List.length_take, List.length_nil] at this
   omega
  ·show upB ((es.take j).map (·.1))
   rw [List.map_take]; exact upB_take h2 j
  ·have := congrArg List.length e
   simp only [List.length_drop, List.length_nil] at this
   omega
  ·show upB ((es.drop j).map (·.1))
   rw [List.map_drop]; exact upB_drop h2 j
  ·rw [hse]; exact (h3 _ (List.getElem_mem hjl)).1
  ·have he' : e ∈ es.take j := he
   obtain ⟨i, hi, rfl⟩ := List.getElem_of_mem he'
   rw [List.length_take] at hi
   rw [List.getElem_take, hse]
   have := List.pairwise_iff_getElem.1 h2 i j (by simp; omega) (by simpa using hjl) (by omega)
   simpa using this
  ·have he' : e ∈ es.drop j := he
   obtain ⟨i, hi, rfl⟩ := List.getElem_of_mem he'
   rw [List.length_drop] at hi
   rw [List.getElem_drop, hse]
   rcases Nat.eq_zero_or_pos i with h0 | h0
   ·subst h0
    exact ltB_irrefl _
   ·have := List.pairwise_iff_getElem.1 h2 j (j + i) (by simpa using hjl) (by simp; omega) (by omega)
    exact ltB_asym (by simpa using this)
theorem ltB_le_trans {a b c : Bts} (h : ltB a b = true) (k : ltB c b = false) : ltB a c = true := by
 rcases ltB_total b c with e | e | e
 ·exact ltB_trans h e
 ·rw [<- e]; exact h
 ·rw [e] at k; cases k
theorem le_ltB_trans {a b c : Bts} (h : ltB b a = false) (k : ltB b c = true) : ltB a c = true := by
 rcases ltB_total a b with e | e | e
 ·exact ltB_trans e k
 ·rw [e]; exact k
 ·rw [e] at h; cases h
theorem upB_at {l : List Bts} (h : upB l) {i j : Nat} {a b : Bts} (ha : l[i]? = some a) (hb : l[j]? = some b) (hij : i < j) : ltB a b = true := by
 obtain ⟨h1, rfl⟩ := List.getElem?_eq_some_iff.1 ha
 obtain ⟨h2, rfl⟩ := List.getElem?_eq_some_iff.1 hb
 exact List.pairwise_iff_getElem.1 h i j h1 h2 hij
structure NodeOk (h : Nat) (ks : List (Tree h)) (keys : List Bts) : Prop where
 ne : keys ≠ []
 len : ks.length = keys.length + 1
 up : upB keys
 ok : ∀ k ∈ keys, keyOk k
 wf : ∀ x ∈ ks, WFT h x
 btw : ∀ i x, ks[i]? = some x -> between i keys (esT h x)
theorem lay_node {h n : Nat} {ks : List (Tree h)} {keys : List Bts} {r : PRes (h + 1)} (hr : layNode h n ks keys r) (ho : NodeOk h ks keys) (hs : szNode keys <= 1269) :
  PartsOk (h + 1) r (ks.flatMap (esT h)) := by
 rcases hr with ⟨h1, rfl⟩ | ⟨h1, j, m, s, hb, hsj, rfl⟩
 ·exact ⟨⟨ho.ne, ho.len, ho.up, ho.ok, h1, ho.wf, ho.btw⟩, rfl⟩
 ·obtain ⟨b1, b2⟩ := best_node hb (fun k hk => szK_le (ho.ok k hk)) h1 hs
  obtain ⟨j1, j2, _⟩ := hb
  have hl := ho.len
  refine ⟨⟨fun e => ?_, ?_, upB_take ho.up j, fun k hk => ho.ok k (List.mem_of_mem_take hk), b1, fun x hx => ho.wf x (List.mem_of_mem_take hx), fun i x hx => ?_⟩, ⟨fun e => ?_, ?_, upB_drop ho.up (j + 1), fun k hk => ho.ok k (List.mem_of_mem_drop hk), b2, fun x hx => ho.wf x (List.mem_of_mem_drop hx), fun i x hx => ?_⟩, ho.ok s (List.mem_of_getElem? hsj), ?_, fun e he => ?_, fun e he => ?_⟩
  ·have := congrArg List.length e
   simp only [List.length_take, List.length_nil] at this
   omega
  ·simp only [List.length_take]; omega
  ·have hi : i < j + 1 := by have := (List.getElem?_eq_some_iff.1 hx).1; rw [List.length_take] at this; omega
   rw [List.getElem?_take, if_pos hi] at hx
   have hbt := ho.btw i x hx
   intro e he
   obtain ⟨c1, c2⟩ := hbt e he
   refine ⟨fun q s2 hq hs2 => ?_, fun s2 hs2 => ?_⟩
   ·have hs2' : (keys.take j)[q]? = some s2 := hs2
    rw [List.getElem?_take] at hs2'
    split at hs2'
    ·exact c1 q s2 hq hs2'
    ·cases hs2'
   ·have hs2' : (keys.take j)[i]? = some s2 := hs2
    rw [List.getElem?_take] at hs2'
    split at hs2'
    ·exact c2 s2 hs2'
    ·cases hs2'
  ·have := congrArg List.length e
   simp only [List.length_drop, List.length_nil] at this
   omega
  ·simp only [List.length_drop]; omega
  ·rw [List.getElem?_drop] at hx
   have hbt := ho.btw _ x hx
   intro e he
   obtain ⟨c1, c2⟩ := hbt e he
   refine ⟨fun q s2 hq hs2 => ?_, fun s2 hs2 => ?_⟩
   ·have hs2' : (keys.drop (j + 1))[q]? = some s2 := hs2
    rw [List.getElem?_drop] at hs2'
    exact c1 (j + 1 + q) s2 (by omega) hs2'
   ·have hs2' : (keys.drop (j + 1))[i]? = some s2 := hs2
    rw [List.getElem?_drop] at hs2'
    exact c2 s2 hs2'
  ·show (ks.take (j + 1)).flatMap (esT h) ++ (ks.drop (j + 1)).flatMap (esT h) = _
   rw [<- List.flatMap_append, List.take_append_drop]
  ·have he' : e ∈ (ks.take (j + 1)).flatMap (esT h) := he
   obtain ⟨x, hx, hex⟩ := List.mem_flatMap.1 he'
   obtain ⟨i, hi, rfl⟩ := List.getElem_of_mem hx
   rw [List.length_take] at hi
   rw [List.getElem_take] at hex
   have hbt := (ho.btw i _ (List.getElem?_eq_getElem (by omega)) e hex).2
   rcases Nat.lt_or_ge i j with hij | hij
   ·have hki : keys[i]? = some (keys[i]'(by omega)) := List.getElem?_eq_getElem (by omega)
    exact ltB_trans (hbt _ hki) (upB_at ho.up hki hsj hij)
   ·have : i = j := by omega
    subst this
    exact hbt s hsj
  ·have he' : e ∈ (ks.drop (j + 1)).flatMap (esT h) := he
   obtain ⟨x, hx, hex⟩ := List.mem_flatMap.1 he'
   obtain ⟨i, hi, rfl⟩ := List.getElem_of_mem hx
   rw [List.length_drop] at hi
   rw [List.getElem_drop] at hex
   have hbt := (ho.btw (j + 1 + i) _ (List.getElem?_eq_getElem (by omega)) e hex).1
   rcases Nat.eq_zero_or_pos i with h0 | h0
   ·subst h0
    exact hbt j s (by omega) hsj
   ·have hki : keys[j + i]? = some (keys[j + i]'(by omega)) := List.getElem?_eq_getElem (by omega)
    have h3 := hbt (j + i) _ (by omega) hki
    have h4 := upB_at ho.up hsj hki (by omega)
    cases e1 : ltB e.1 s with
    | false => rfl
    | true => rw [ltB_trans e1 h4] at h3; cases h3
theorem split_list {α : Type} {l : List α} {i : Nat} {x : α} (h : l[i]? = some x) : l = l.take i ++ x :: l.drop (i + 1) := by
 obtain ⟨hi, rfl⟩ := List.getElem?_eq_some_iff.1 h
 rw [<- List.drop_eq_getElem_cons hi, List.take_append_drop]
theorem set_list {α : Type} {l : List α} {i : Nat} {x : α} (h : i < l.length) : l.set i x = l.take i ++ x :: l.drop (i + 1) := by
 rw [List.set_eq_take_append_cons_drop, if_pos h]
theorem ins_list {α : Type} {l : List α} {i : Nat} {x y : α} (h : i < l.length) : insAt (i + 1) y (l.set i x) = l.take i ++ x :: y :: l.drop (i + 1) := by
 have hl : (l.take i ++ [x]).length = i + 1 := by rw [List.length_append, List.length_take, List.length_singleton]; omega
 have e : l.take i ++ x :: l.drop (i + 1) = (l.take i ++ [x]) ++ l.drop (i + 1) := by simp
 unfold insAt
 rw [set_list h, e, List.take_left' hl, List.drop_left' hl]
 simp
theorem kids_less {h : Nat} {ks : List (Tree h)} {keys : List Bts} (ho : NodeOk h ks keys) {k : Bts} {e : Bts × Bts} (he : e ∈ (ks.take (kidB k keys)).flatMap (esT h)) : ltB e.1 k = true := by
 obtain ⟨x, hx, hex⟩ := List.mem_flatMap.1 he
 obtain ⟨i, hi, rfl⟩ := List.getElem_of_mem hx
 have hl := ho.len
 have hk := kidB_le k keys
 rw [List.length_take] at hi
 rw [List.getElem_take] at hex
 have hki : keys[i]? = some (keys[i]'(by omega)) := List.getElem?_eq_getElem (by omega)
 exact ltB_le_trans ((ho.btw i _ (List.getElem?_eq_getElem (by omega)) e hex).2 _ hki) (kidB_lt (by omega) hki)
theorem kids_more {h : Nat} {ks : List (Tree h)} {keys : List Bts} (ho : NodeOk h ks keys) {k : Bts} {e : Bts × Bts} (he : e ∈ (ks.drop (kidB k keys + 1)).flatMap (esT h)) : ltB k e.1 = true := by
 obtain ⟨x, hx, hex⟩ := List.mem_flatMap.1 he
 obtain ⟨i, hi, rfl⟩ := List.getElem_of_mem hx
 have hl := ho.len
 rw [List.length_drop] at hi
 rw [List.getElem_drop] at hex
 have hki : keys[kidB k keys + i]? = some (keys[kidB k keys + i]'(by omega)) := List.getElem?_eq_getElem (by omega)
 have h1 := (ho.btw (kidB k keys + 1 + i) _ (List.getElem?_eq_getElem (by omega)) e hex).1 (kidB k keys + i) _ (by omega) hki
 exact ltB_le_trans (kidB_ge ho.up (by omega) hki) h1
theorem nodeOk_of {h : Nat} {t : Tree (h + 1)} (hw : WFT (h + 1) t) : NodeOk h t.2.1 t.2.2 := ⟨hw.1, hw.2.1, hw.2.2.1, hw.2.2.2.1, hw.2.2.2.2.2.1, hw.2.2.2.2.2.2⟩
theorem key_between {keys : List Bts} (hu : upB keys) (k v : Bts) {l : EL} (hb : between (kidB k keys) keys l) : between (kidB k keys) keys (putE k v l) := by
 intro e he
 rcases putE_fst_mem he with rfl | he
 ·exact ⟨fun j s hj hs => kidB_lt (k := k) (l := keys) (by omega) hs, fun s hs => kidB_ge (k := k) hu (Nat.le_refl _) hs⟩
 ·exact hb e he
theorem put_ok : ∀ (h : Nat) {t : Tree h} {k v : Bts} {r : PRes h}, WFT h t -> keyOk k -> v.length <= 260 -> PutR h t k v r -> PutOk h t k v r
 | 0, t, k, v, r, hw, hk, hv, hr => by
  obtain ⟨h1, h2, h3, h4⟩ := hw
  refine lay_leaf hr (putE_ne _ _ _) (putE_up h2) (fun e he => ?_) ?_
  ·rcases putE_fst_mem he with rfl | he
   ·exact ⟨hk, hv⟩
   ·exact h3 e he
  ·have h5 : szE (k, v) <= 503 := szE_le ⟨hk, hv⟩
   exact Nat.le_trans (putE_size _) (Nat.add_le_add h4 h5)
 | h + 1, t, k, v, r, hw, hk, hv, hr => by
  have ho := nodeOk_of hw
  have hsz : szNode t.2.2 <= 1024 := hw.2.2.2.2.1
  obtain ⟨x, c, hx, hc, hm⟩ := hr
  have hil := (List.getElem?_eq_some_iff.1 hx).1
  have ih := put_ok h (ho.wf x (List.mem_of_getElem? hx)) hk hv hc
  have hall : putE k v (esT (h + 1) t) = (t.2.1.take (kidB k t.2.2)).flatMap (esT h) ++ (putE k v (esT h x) ++ (t.2.1.drop (kidB k t.2.2 + 1)).flatMap (esT h)) := by
   show putE k v (t.2.1.flatMap (esT h)) = _
   conv => lhs; rw [split_list hx, List.flatMap_append, List.flatMap_cons]
   exact putE_app (fun e he => kids_less ho he) (fun e he => kids_more ho he)
  obtain ⟨c1, c2⟩ := c
  cases c2 with
  | none =>
   obtain ⟨w1, e1⟩ : WFT h c1 /\ esT h c1 = putE k v (esT h x) := ih
   have hm' : r = ((t.1, t.2.1.set (kidB k t.2.2) c1, t.2.2), none) := hm
   subst hm'
   refine ⟨⟨ho.ne, by rw [List.length_set]; exact ho.len, ho.up, ho.ok, hsz, fun y hy => ?_, fun i y hy => ?_⟩, ?_⟩
   ·rcases List.mem_or_eq_of_mem_set hy with hy | rfl
    ·exact ho.wf y hy
    ·exact w1
   ·by_cases hi : i = kidB k t.2.2
    ·subst hi
     have hy' : (t.2.1.set (kidB k t.2.2) c1)[kidB k t.2.2]? = some y := hy
     rw [List.getElem?_set_self hil] at hy'
     obtain rfl := Option.some.inj hy'
     rw [e1]
     exact key_between ho.up k v (ho.btw _ x hx)
    ·have hy' : (t.2.1.set (kidB k t.2.2) c1)[i]? = some y := hy
     rw [List.getElem?_set_ne (fun e => hi e.symm)] at hy'
     exact ho.btw i y hy'
   ·rw [hall]
    show (t.2.1.set (kidB k t.2.2) c1).flatMap (esT h) = _
    rw [set_list hil, List.flatMap_append, List.flatMap_cons, e1]
  | some p =>
   obtain ⟨s, y⟩ := p
   obtain ⟨w1, w2, hs, e1, b1, b2⟩ : WFT h c1 /\ WFT h y /\ keyOk s /\ esT h c1 ++ esT h y = putE k v (esT h x) /\ (∀ e ∈ esT h c1, ltB e.1 s = true) /\ ∀ e ∈ esT h y, ltB e.1 s = false := ih
   have hm' : layNode h t.1 (insAt (kidB k t.2.2 + 1) y (t.2.1.set (kidB k t.2.2) c1)) (insAt (kidB k t.2.2) s t.2.2) r := hm
   rw [ins_list hil] at hm'
   generalize hi : kidB k t.2.2 = i at *
   have hkl : i <= t.2.2.length := by rw [<- hi]; exact kidB_le k t.2.2
   have hbt : between i t.2.2 (putE k v (esT h x)) := by
    rw [<- hi]
    exact key_between ho.up k v (by rw [hi]; exact ho.btw i x hx)
   have hbc : between i t.2.2 (esT h c1) := fun e he => hbt e (by rw [<- e1]; exact List.mem_append_left _ he)
   have hby : between i t.2.2 (esT h y) := fun e he => hbt e (by rw [<- e1]; exact List.mem_append_right _ he)
   have hlo : ∀ a ∈ t.2.2.take i, ltB a s = true := fun a ha => by
    obtain ⟨q, hq, rfl⟩ := List.getElem_of_mem ha
    rw [List.length_take] at hq
    rw [List.getElem_take]
    obtain ⟨e, he⟩ := List.exists_mem_of_ne_nil _ (esT_ne h w1)
    have hp : t.2.2[i - 1]? = some (t.2.2[i - 1]'(by omega)) := List.getElem?_eq_getElem (by omega)
    have h3 := le_ltB_trans ((hbc e he).1 (i - 1) _ (by omega) hp) (b1 e he)
    rcases Nat.lt_or_ge q (i - 1) with h4 | h4
    ·exact ltB_trans (upB_at ho.up (List.getElem?_eq_getElem (by omega)) hp h4) h3
    ·have : q = i - 1 := by omega
     subst this; exact h3
   have hhi : ∀ a ∈ t.2.2.drop i, ltB s a = true := fun a ha => by
    obtain ⟨q, hq, rfl⟩ := List.getElem_of_mem ha
    rw [List.length_drop] at hq
    rw [List.getElem_drop]
    obtain ⟨e, he⟩ := List.exists_mem_of_ne_nil _ (esT_ne h w2)
    have hp : t.2.2[i]? = some (t.2.2[i]'(by omega)) := List.getElem?_eq_getElem (by omega)
    have h3 := le_ltB_trans (b2 e he) ((hby e he).2 _ hp)
    rcases Nat.eq_zero_or_pos q with h4 | h4
    ·subst h4; exact h3
    ·exact ltB_trans h3 (upB_at ho.up hp (List.getElem?_eq_getElem (by omega)) (by omega))
   have htl : (t.2.2.take i).length = i := by rw [List.length_take]; omega
   have hkt : (t.2.1.take i).length = i := by rw [List.length_take]; omega
   have hget : ∀ q a, (insAt i s t.2.2)[q]? = some a -> (q < i /\ t.2.2[q]? = some a) \/ (q = i /\ a = s) \/ (i < q /\ t.2.2[q - 1]? = some a) := fun q a ha => by
    unfold insAt at ha
    rcases Nat.lt_trichotomy q i with hq | hq | hq
    ·rw [List.getElem?_append_left (by omega), List.getElem?_take, if_pos hq] at ha
     exact .inl ⟨hq, ha⟩
    ·subst hq
     rw [List.getElem?_append_right (by omega), htl, Nat.sub_self] at ha
     exact .inr (.inl ⟨rfl, (Option.some.inj ha).symm⟩)
    ·obtain ⟨d, rfl⟩ : ∃ d, q = i + 1 + d := ⟨q - i - 1, by omega⟩
     rw [List.getElem?_append_right (by omega), htl, show i + 1 + d - i = d + 1 by omega, List.getElem?_cons_succ, List.getElem?_drop] at ha
     exact .inr (.inr ⟨hq, by rw [show i + 1 + d - 1 = i + d by omega]; exact ha⟩)
   have hno : NodeOk h (t.2.1.take i ++ c1 :: y :: t.2.1.drop (i + 1)) (insAt i s t.2.2) := by
    refine ⟨by unfold insAt; simp, ?_, ?_, fun a ha => ?_, fun z hz => ?_, fun q z hz => ?_⟩
    ·have := ho.len
     unfold insAt
     simp only [List.length_append, List.length_cons, List.length_take, List.length_drop]
     omega
    ·unfold insAt
     refine List.pairwise_append.2 ⟨upB_take ho.up i, List.pairwise_cons.2 ⟨fun a ha => hhi a ha, upB_drop ho.up i⟩, fun a ha b hb => ?_⟩
     rcases List.mem_cons.1 hb with rfl | hb
     ·exact hlo a ha
     ·exact ltB_trans (hlo a ha) (hhi b hb)
    ·unfold insAt at ha
     rcases List.mem_append.1 ha with ha | ha
     ·exact ho.ok a (List.mem_of_mem_take ha)
     ·rcases List.mem_cons.1 ha with rfl | ha
      ·exact hs
      ·exact ho.ok a (List.mem_of_mem_drop ha)
    ·rcases List.mem_append.1 hz with hz | hz
     ·exact ho.wf z (List.mem_of_mem_take hz)
     ·rcases List.mem_cons.1 hz with rfl | hz
      ·exact w1
      ·rcases List.mem_cons.1 hz with rfl | hz
       ·exact w2
       ·exact ho.wf z (List.mem_of_mem_drop hz)
    ·intro e he
     rcases Nat.lt_trichotomy q i with hq | hq | hq
     ·rw [List.getElem?_append_left (by omega), List.getElem?_take, if_pos hq] at hz
      obtain ⟨d1, d2⟩ := ho.btw q z hz e he
      refine ⟨fun p a hp ha => ?_, fun a ha => ?_⟩
      ·rcases hget p a ha with ⟨_, h5⟩ | ⟨h5, _⟩ | ⟨h5, _⟩
       ·exact d1 p a hp h5
       ·omega
       ·omega
      ·rcases hget q a ha with ⟨_, h5⟩ | ⟨h5, _⟩ | ⟨h5, _⟩
       ·exact d2 a h5
       ·omega
       ·omega
     ·subst hq
      rw [List.getElem?_append_right (by omega), hkt, Nat.sub_self] at hz
      obtain rfl := Option.some.inj hz
      refine ⟨fun p a hp ha => ?_, fun a ha => ?_⟩
      ·rcases hget p a ha with ⟨_, h5⟩ | ⟨h5, _⟩ | ⟨h5, _⟩
       ·exact (hbc e he).1 p a hp h5
       ·omega
       ·omega
      ·rcases hget q a ha with ⟨h5, _⟩ | ⟨_, rfl⟩ | ⟨h5, _⟩
       ·omega
       ·exact b1 e he
       ·omega
     ·obtain ⟨d, rfl⟩ : ∃ d, q = i + 1 + d := ⟨q - i - 1, by omega⟩
      rw [List.getElem?_append_right (by omega), hkt, show i + 1 + d - i = d + 1 by omega, List.getElem?_cons_succ] at hz
      rcases Nat.eq_zero_or_pos d with h0 | h0
      ·subst h0
       obtain rfl := Option.some.inj hz
       refine ⟨fun p a hp ha => ?_, fun a ha => ?_⟩
       ·rcases hget p a ha with ⟨h5, _⟩ | ⟨_, rfl⟩ | ⟨h5, _⟩
        ·omega
        ·exact b2 e he
        ·omega
       ·rcases hget _ a ha with ⟨h5, _⟩ | ⟨h5, _⟩ | ⟨_, h5⟩
        ·omega
        ·omega
        ·exact (hby e he).2 a (by simpa using h5)
      ·obtain ⟨f, rfl⟩ : ∃ f, d = f + 1 := ⟨d - 1, by omega⟩
       rw [List.getElem?_cons_succ, List.getElem?_drop] at hz
       obtain ⟨d1, d2⟩ := ho.btw _ z hz e he
       refine ⟨fun p a hp ha => ?_, fun a ha => ?_⟩
       ·rcases hget p a ha with ⟨h5, _⟩ | ⟨h5, _⟩ | ⟨_, h5⟩
        ·omega
        ·omega
        ·exact d1 (p - 1) a (by omega) h5
       ·rcases hget _ a ha with ⟨h5, _⟩ | ⟨h5, _⟩ | ⟨_, h5⟩
        ·omega
        ·omega
        ·exact d2 a (by rw [show i + 1 + (f + 1) - 1 = i + 1 + f by omega] at h5; exact h5)
   have hsz2 : szNode (insAt i s t.2.2) <= 1269 := by
    have h5 : szK s <= 245 := szK_le hs
    have h6 := sum_take_drop (t.2.2.map szK) i
    unfold szNode at hsz |-
    unfold insAt
    rw [List.map_append, List.map_cons, List.sum_append, List.sum_cons, List.map_take, List.map_drop]
    omega
   have hfin := lay_node hm' hno hsz2
   have hflat : (t.2.1.take i ++ c1 :: y :: t.2.1.drop (i + 1)).flatMap (esT h) = putE k v (esT (h + 1) t) := by
    rw [hall, List.flatMap_append, List.flatMap_cons, List.flatMap_cons, <- List.append_assoc (esT h c1), e1]
   rw [hflat] at hfin
   exact hfin
end Go.Proofs.YtafilaiinbggoaaGreat
