import Derived.Test.YtmiphphombkpdaaGreatWB02
namespace Go.Proofs.YtmiphphombkpdaaGreat
def lvT : (h : Nat) -> Tree h -> Nat
 | 0, _ => 1
 | h + 1, t => (t.2.1.map (lvT h)).sum
theorem sum_ge {l : List Nat} {c : Nat} (h : ∀ x ∈ l, c <= x) : l.length * c <= l.sum := by
 induction l with
 | nil => simp
 | cons a l ih =>
  have h1 := h a (List.mem_cons_self ..)
  have h2 := ih fun x hx => h x (List.mem_cons_of_mem _ hx)
  rw [List.length_cons, List.sum_cons, Nat.succ_mul]; omega
theorem lv_pow : ∀ (h : Nat) {t : Tree h}, WFT h t -> 2 ^ h <= lvT h t
 | 0, _, _ => by simp [lvT]
 | h + 1, t, hw => by
  obtain ⟨h1, h2, _, _, _, h6, _⟩ := hw
  have h3 : (t.2.1.map (lvT h)).length * 2 ^ h <= (t.2.1.map (lvT h)).sum := sum_ge fun x hx => by
   obtain ⟨y, hy, rfl⟩ := List.mem_map.1 hx
   exact lv_pow h (h6 y hy)
  have h4 : 2 <= (t.2.1.map (lvT h)).length := by
   rw [List.length_map, h2]
   have : t.2.2.length ≠ 0 := fun e => h1 (List.length_eq_zero_iff.1 e)
   omega
  show 2 ^ (h + 1) <= (t.2.1.map (lvT h)).sum
  have := Nat.mul_le_mul_right (2 ^ h) h4
  rw [Nat.pow_succ]; omega
theorem sum_le {α : Type} {l : List α} {f g : α -> Nat} (h : ∀ x ∈ l, f x <= g x) : (l.map f).sum <= (l.map g).sum := by
 induction l with
 | nil => simp
 | cons a l ih =>
  have h1 := h a (List.mem_cons_self ..)
  have h2 := ih fun x hx => h x (List.mem_cons_of_mem _ hx)
  simp only [List.map_cons, List.sum_cons]; omega
theorem pages_lv : ∀ (h : Nat) {t : Tree h}, WFT h t -> (pagesT h t).length + 1 <= 2 * lvT h t
 | 0, _, _ => by simp [pagesT, lvT]
 | h + 1, t, hw => by
  obtain ⟨h1, h2, _, _, _, h6, _⟩ := hw
  have h3 : ((t.2.1.map fun x => (pagesT h x).length + 1)).sum <= (t.2.1.map fun x => 2 * lvT h x).sum := sum_le fun x hx => pages_lv h (h6 x hx)
  have e1 : ∀ l : List (Tree h), (l.map fun x => (pagesT h x).length + 1).sum = (l.flatMap (pagesT h)).length + l.length := fun l => by
   induction l with
   | nil => rfl
   | cons a l ih => simp only [List.map_cons, List.sum_cons, List.flatMap_cons, List.length_append, List.length_cons, ih]; omega
  have e2 : ∀ l : List (Tree h), (l.map fun x => 2 * lvT h x).sum = 2 * (l.map (lvT h)).sum := fun l => by
   induction l with
   | nil => rfl
   | cons a l ih => simp only [List.map_cons, List.sum_cons, ih]; omega
  rw [e1, e2] at h3
  have h4 : t.2.2.length ≠ 0 := fun e => h1 (List.length_eq_zero_iff.1 e)
  show (t.1 :: t.2.1.flatMap (pagesT h)).length + 1 <= 2 * (t.2.1.map (lvT h)).sum
  rw [List.length_cons]; omega
theorem es_up : ∀ (h : Nat) {t : Tree h}, WFT h t -> upB ((esT h t).map (·.1))
 | 0, _, hw => hw.2.1
 | h + 1, t, hw => by
  have ho := nodeOk_of hw
  have key : ∀ (n : Nat), upB (((t.2.1.take n).flatMap (esT h)).map (·.1)) := by
   intro n
   induction n with
   | zero => simp [upB]
   | succ n ih =>
    rw [List.take_add_one]
    cases e : t.2.1[n]? with
    | none => simpa using ih
    | some x =>
     rw [Option.toList_some, List.flatMap_append, List.map_append]
     refine List.pairwise_append.2 ⟨ih, ?_, fun a ha b hb => ?_⟩
     ·have := es_up h (ho.wf x (List.mem_of_getElem? e))
      unfold upB at this
      simpa using this
     ·obtain ⟨p, hp, rfl⟩ := List.mem_map.1 ha
      obtain ⟨q, hq, rfl⟩ := List.mem_map.1 hb
      have hq' : q ∈ esT h x := by simpa using hq
      obtain ⟨y, hy, hpy⟩ := List.mem_flatMap.1 hp
      obtain ⟨i, hi, rfl⟩ := List.getElem_of_mem hy
      rw [List.length_take] at hi
      rw [List.getElem_take] at hpy
      have hl := ho.len
      have hnl := (List.getElem?_eq_some_iff.1 e).1
      have hki : t.2.2[i]? = some (t.2.2[i]'(by omega)) := List.getElem?_eq_getElem (by omega)
      have h1 := (ho.btw i _ (List.getElem?_eq_getElem (by omega)) p hpy).2 _ hki
      have hkn : t.2.2[n - 1]? = some (t.2.2[n - 1]'(by omega)) := List.getElem?_eq_getElem (by omega)
      have h2 := (ho.btw n x e q hq').1 (n - 1) _ (by omega) hkn
      rcases Nat.lt_or_ge i (n - 1) with h3 | h3
      ·exact ltB_le_trans (ltB_trans h1 (upB_at ho.up hki hkn h3)) h2
      ·have : i = n - 1 := by omega
       subst this
       exact ltB_le_trans h1 h2
  have := key t.2.1.length
  rw [List.take_of_length_le (Nat.le_refl _)] at this
  exact this
theorem getE_app {k : Bts} : ∀ {A B : EL}, (∀ e ∈ A, ltB e.1 k = true) -> getE k (A ++ B) = getE k B
 | [], _, _ => rfl
 | (x, y) :: A, B, h => by
  rw [List.cons_append]
  conv => lhs; unfold getE
  rw [if_pos (h (x, y) (List.mem_cons_self ..))]
  exact getE_app fun e he => h e (List.mem_cons_of_mem _ he)
theorem getE_behind {k : Bts} : ∀ {B C : EL}, (∀ e ∈ C, ltB k e.1 = true) -> getE k (B ++ C) = getE k B
 | [], [], _ => rfl
 | [], (x, y) :: C, h => by
  have h1 := h (x, y) (List.mem_cons_self ..)
  rw [List.nil_append]
  unfold getE
  rw [if_neg (by rw [ltB_asym h1]; decide), if_neg (fun e => by subst e; rw [ltB_irrefl] at h1; cases h1)]
 | (x, y) :: B, C, h => by
  rw [List.cons_append]
  unfold getE
  rw [getE_behind h]
theorem get_kid {h : Nat} {t : Tree (h + 1)} {k : Bts} {x : Tree h} (hw : WFT (h + 1) t) (hx : t.2.1[kidB k t.2.2]? = some x) : getE k (esT (h + 1) t) = getE k (esT h x) := by
 have ho := nodeOk_of hw
 show getE k (t.2.1.flatMap (esT h)) = _
 conv => lhs; rw [split_list hx, List.flatMap_append, List.flatMap_cons]
 rw [getE_app fun e he => kids_less ho he, getE_behind fun e he => kids_more ho he]
end Go.Proofs.YtmiphphombkpdaaGreat
namespace Go.Proofs.YtmiphphombkpdaaGreat
theorem delE_mem {k : Bts} : ∀ {l : EL} {e : Bts × Bts}, e ∈ delE k l -> e ∈ l
 | [], e, h => by simp [delE] at h
 | (x, y) :: l, e, h => by
  unfold delE at h
  split at h
  ·rcases List.mem_cons.1 h with rfl | h
   ·exact List.mem_cons_self ..
   ·exact List.mem_cons_of_mem _ (delE_mem h)
  ·split at h
   ·exact List.mem_cons_of_mem _ h
   ·exact h
theorem delE_app {k : Bts} : ∀ {A B C : EL}, (∀ e ∈ A, ltB e.1 k = true) -> (∀ e ∈ C, ltB k e.1 = true) -> delE k (A ++ (B ++ C)) = A ++ (delE k B ++ C)
 | [], [], [], _, _ => rfl
 | [], [], (x, y) :: C, _, h => by
  have h1 := h (x, y) (List.mem_cons_self ..)
  simp only [List.nil_append]
  unfold delE
  rw [if_neg (by rw [ltB_asym h1]; decide), if_neg (fun e => by subst e; rw [ltB_irrefl] at h1; cases h1)]
  rfl
 | [], (x, y) :: B, C, _, h => by
  have ih := delE_app (A := []) (B := B) (C := C) (fun e he => by simp at he) h
  simp only [List.nil_append] at ih |-
  rw [List.cons_append]
  unfold delE
  split
  ·rw [ih]; rfl
  ·split <;> rfl
 | (x, y) :: A, B, C, h, h2 => by
  have h1 := h (x, y) (List.mem_cons_self ..)
  rw [List.cons_append, List.cons_append]
  have ih := delE_app (A := A) (B := B) (C := C) (fun e he => h e (List.mem_cons_of_mem _ he)) h2
  rw [<- ih]
  conv => lhs; unfold delE
  rw [if_pos h1]
theorem delE_sub (k : Bts) : ∀ l : EL, (delE k l).Sublist l
 | [] => List.Sublist.refl _
 | (x, y) :: l => by
  unfold delE
  split
  ·exact (delE_sub k l).cons_cons _
  ·split
   ·exact List.sublist_cons_self _ _
   ·exact List.Sublist.refl _
theorem delE_up {k : Bts} {l : EL} (h : upB (l.map (·.1))) : upB ((delE k l).map (·.1)) := List.Pairwise.sublist ((delE_sub k l).map _) h
theorem sum_sub {l m : List Nat} (h : l.Sublist m) : l.sum <= m.sum := by
 induction h with
 | slnil => exact Nat.le_refl _
 | cons a _ ih => rw [List.sum_cons]; omega
 | cons_cons a _ ih => rw [List.sum_cons, List.sum_cons]; omega
theorem delE_size (k : Bts) (l : EL) : szLeaf (delE k l) <= szLeaf l := by
 unfold szLeaf
 have := sum_sub ((delE_sub k l).map szE)
 omega
def WFS : (h : Nat) -> Tree h -> Prop
 | 0, t => WFT 0 t
 | h + 1, t => t.2.1.length = t.2.2.length + 1 /\ upB t.2.2 /\ (∀ k ∈ t.2.2, keyOk k) /\ szNode t.2.2 <= 1024 /\ (∀ x ∈ t.2.1, WFT h x) /\ ∀ i x, t.2.1[i]? = some x -> between i t.2.2 (esT h x)
theorem wfs_of : ∀ (h : Nat) {t : Tree h}, WFT h t -> WFS h t
 | 0, _, hw => hw
 | _ + 1, _, hw => hw.2
def thinT : (h : Nat) -> Tree h -> Prop
 | 0, _ => False
 | _ + 1, t => t.2.2 = []
theorem wft_of : ∀ (h : Nat) {t : Tree h}, WFS h t -> ¬ thinT h t -> WFT h t
 | 0, _, hw, _ => hw
 | _ + 1, _, hw, hn => ⟨hn, hw⟩
def szT : (h : Nat) -> Tree h -> Nat
 | 0, t => szLeaf t.2
 | _ + 1, t => szNode t.2.2
def joinT : (h : Nat) -> Tree h -> Bts -> Tree h -> Tree h
 | 0, a, _, b => (a.1, a.2 ++ b.2)
 | _ + 1, a, s, b => (a.1, a.2.1 ++ b.2.1, a.2.2 ++ s :: b.2.2)
theorem es_join : ∀ (h : Nat) (a : Tree h) (s : Bts) (b : Tree h), esT h (joinT h a s b) = esT h a ++ esT h b
 | 0, _, _, _ => rfl
 | h + 1, a, s, b => by
  show (a.2.1 ++ b.2.1).flatMap (esT h) = a.2.1.flatMap (esT h) ++ b.2.1.flatMap (esT h)
  rw [List.flatMap_append]
theorem keys_below : ∀ (h : Nat) {a : Tree (h + 1)} {s : Bts}, WFS (h + 1) a -> (∀ e ∈ esT (h + 1) a, ltB e.1 s = true) -> ∀ k ∈ a.2.2, ltB k s = true := fun h a s hw hs k hk => by
 obtain ⟨h2, h3, _, _, h6, h7⟩ := hw
 obtain ⟨i, hi, rfl⟩ := List.getElem_of_mem hk
 have hx : a.2.1[i + 1]? = some (a.2.1[i + 1]'(by omega)) := List.getElem?_eq_getElem (by omega)
 obtain ⟨e, he⟩ := List.exists_mem_of_ne_nil _ (esT_ne h (h6 _ (List.mem_of_getElem? hx)))
 have h8 := (h7 (i + 1) _ hx e he).1 i _ rfl (List.getElem?_eq_getElem hi)
 exact le_ltB_trans h8 (hs e (List.mem_flatMap.2 ⟨_, List.mem_of_getElem? hx, he⟩))
theorem keys_above : ∀ (h : Nat) {b : Tree (h + 1)} {s : Bts}, WFS (h + 1) b -> (∀ e ∈ esT (h + 1) b, ltB e.1 s = false) -> ∀ k ∈ b.2.2, ltB s k = true := fun h b s hw hs k hk => by
 obtain ⟨h2, h3, _, _, h6, h7⟩ := hw
 obtain ⟨i, hi, rfl⟩ := List.getElem_of_mem hk
 have hx : b.2.1[i]? = some (b.2.1[i]'(by omega)) := List.getElem?_eq_getElem (by omega)
 obtain ⟨e, he⟩ := List.exists_mem_of_ne_nil _ (esT_ne h (h6 _ (List.mem_of_getElem? hx)))
 have h8 := (h7 i _ hx e he).2 _ (List.getElem?_eq_getElem hi)
 exact le_ltB_trans (hs e (List.mem_flatMap.2 ⟨_, List.mem_of_getElem? hx, he⟩)) h8
theorem join_node {h : Nat} {a b : Tree (h + 1)} {s : Bts} (ha : WFS (h + 1) a) (hb : WFS (h + 1) b) (hs : keyOk s) (h1 : ∀ e ∈ esT (h + 1) a, ltB e.1 s = true) (h2 : ∀ e ∈ esT (h + 1) b, ltB e.1 s = false) :
  NodeOk h (a.2.1 ++ b.2.1) (a.2.2 ++ s :: b.2.2) := by
 have ka := keys_below h ha h1
 have kb := keys_above h hb h2
 obtain ⟨a2, a3, a4, a5, a6, a7⟩ := ha
 obtain ⟨b2, b3, b4, b5, b6, b7⟩ := hb
 refine ⟨by simp, by simp only [List.length_append, List.length_cons]; omega, ?_, fun k hk => ?_, fun x hx => ?_, fun i x hx e he => ?_⟩
 ·refine List.pairwise_append.2 ⟨a3, List.pairwise_cons.2 ⟨fun k hk => kb k hk, b3⟩, fun p hp q hq => ?_⟩
  rcases List.mem_cons.1 hq with rfl | hq
  ·exact ka p hp
  ·exact ltB_trans (ka p hp) (kb q hq)
 ·rcases List.mem_append.1 hk with hk | hk
  ·exact a4 k hk
  ·rcases List.mem_cons.1 hk with rfl | hk
   ·exact hs
   ·exact b4 k hk
 ·rcases List.mem_append.1 hx with hx | hx
  ·exact a6 x hx
  ·exact b6 x hx
 ·have hget : ∀ (q : Nat) (p : Bts), (a.2.2 ++ s :: b.2.2)[q]? = some p -> (q < a.2.2.length /\ a.2.2[q]? = some p) \/ (q = a.2.2.length /\ p = s) \/ (a.2.2.length < q /\ b.2.2[q - a.2.2.length - 1]? = some p) := fun q p hp => by
   rcases Nat.lt_trichotomy q a.2.2.length with hq | hq | hq
   ·rw [List.getElem?_append_left hq] at hp
    exact .inl ⟨hq, hp⟩
   ·subst hq
    rw [List.getElem?_append_right (Nat.le_refl _), Nat.sub_self] at hp
    exact .inr (.inl ⟨rfl, (Option.some.inj hp).symm⟩)
   ·obtain ⟨d, rfl⟩ : ∃ d, q = a.2.2.length + 1 + d := ⟨q - a.2.2.length - 1, by omega⟩
    rw [List.getElem?_append_right (by omega), show a.2.2.length + 1 + d - a.2.2.length = d + 1 by omega, List.getElem?_cons_succ] at hp
    exact .inr (.inr ⟨hq, by rw [show a.2.2.length + 1 + d - a.2.2.length - 1 = d by omega]; exact hp⟩)
  rcases Nat.lt_or_ge i a.2.1.length with hi | hi
  ·rw [List.getElem?_append_left hi] at hx
   obtain ⟨c1, c2⟩ := a7 i x hx e he
   have hes := h1 e (List.mem_flatMap.2 ⟨x, List.mem_of_getElem? hx, he⟩)
   refine ⟨fun j p hj hp => ?_, fun p hp => ?_⟩
   ·rcases hget j p hp with ⟨_, h5⟩ | ⟨h5, _⟩ | ⟨h5, _⟩
    ·exact c1 j p hj h5
    ·omega
    ·omega
   ·rcases hget i p hp with ⟨_, h5⟩ | ⟨_, rfl⟩ | ⟨h5, _⟩
    ·exact c2 p h5
    ·exact hes
    ·omega
  ·rw [List.getElem?_append_right hi] at hx
   obtain ⟨c1, c2⟩ := b7 _ x hx e he
   have hes := h2 e (List.mem_flatMap.2 ⟨x, List.mem_of_getElem? hx, he⟩)
   refine ⟨fun j p hj hp => ?_, fun p hp => ?_⟩
   ·rcases hget j p hp with ⟨h5, _⟩ | ⟨h5, rfl⟩ | ⟨h4, h5⟩
    ·omega
    ·exact hes
    ·exact c1 (j - a.2.2.length - 1) p (by omega) h5
   ·rcases hget i p hp with ⟨h5, _⟩ | ⟨h5, _⟩ | ⟨h4, h5⟩
    ·omega
    ·omega
    ·exact c2 p (by rw [show i - a.2.1.length = i - a.2.2.length - 1 by omega]; exact h5)
theorem join_wf : ∀ (h : Nat) {a b : Tree h} {s : Bts}, WFS h a -> WFS h b -> keyOk s -> (∀ e ∈ esT h a, ltB e.1 s = true) -> (∀ e ∈ esT h b, ltB e.1 s = false) -> szT h (joinT h a s b) <= 1024 -> WFT h (joinT h a s b)
 | 0, a, b, s, ha, hb, _, h1, h2, hz => by
  obtain ⟨a1, a2, a3, _⟩ := ha
  obtain ⟨b1, b2, b3, _⟩ := hb
  refine ⟨fun e => a1 (List.append_eq_nil_iff.1 e).1, ?_, fun e he => ?_, hz⟩
  ·show upB ((a.2 ++ b.2).map (·.1))
   rw [List.map_append]
   refine List.pairwise_append.2 ⟨a2, b2, fun p hp q hq => ?_⟩
   obtain ⟨x, hx, rfl⟩ := List.mem_map.1 hp
   obtain ⟨y, hy, rfl⟩ := List.mem_map.1 hq
   exact ltB_le_trans (h1 x hx) (h2 y hy)
  ·have he' : e ∈ a.2 ++ b.2 := he
   rcases List.mem_append.1 he' with he' | he'
   ·exact a3 e he'
   ·exact b3 e he'
 | h + 1, a, b, s, ha, hb, hs, h1, h2, hz => by
  have ho := join_node ha hb hs h1 h2
  exact ⟨ho.ne, ho.len, ho.up, ho.ok, hz, ho.wf, ho.btw⟩
end Go.Proofs.YtmiphphombkpdaaGreat
namespace Go.Proofs.YtmiphphombkpdaaGreat
structure Kids (h : Nat) (ks : List (Tree h)) (keys : List Bts) (k : Nat) : Prop where
 len : ks.length = keys.length + 1
 up : upB keys
 ok : ∀ s ∈ keys, keyOk s
 wfs : ∀ i x, ks[i]? = some x -> WFS h x /\ (i ≠ k -> WFT h x)
 btw : ∀ i x, ks[i]? = some x -> between i keys (esT h x)
def canJ (h : Nat) (a : Tree h) (s : Bts) (b : Tree h) : Prop := szT h (joinT h a s b) <= 1024 /\ (thinT h a \/ thinT h b \/ szT h (joinT h a s b) <= 768)
def mergeR (h : Nat) (ks : List (Tree h)) (keys : List Bts) (i : Nat) (r : List (Tree h) × List Bts) : Prop := ∃ a b s, ks[i]? = some a /\ ks[i + 1]? = some b /\ keys[i]? = some s /\ canJ h a s b /\ r = (ks.take i ++ joinT h a s b :: ks.drop (i + 2), keys.take i ++ keys.drop (i + 1))
def cannotJ (h : Nat) (ks : List (Tree h)) (keys : List Bts) (i : Nat) : Prop := ∀ a b s, ks[i]? = some a -> ks[i + 1]? = some b -> keys[i]? = some s -> ¬ canJ h a s b
def mkT (h n : Nat) (ks : List (Tree h)) (keys : List Bts) : Tree (h + 1) := (n, ks, keys)
def evenR : (h : Nat) -> List (Tree h) -> List Bts -> Nat -> List (Tree h) × List Bts -> Prop
 | 0, ks, keys, _, r => r = (ks, keys)
 | h + 1, ks, keys, k, r => ∃ c, ks[k]? = some c /\ (((c.2.2 ≠ [] \/ ks.length < 2) /\ r = (ks, keys)) \/ (c.2.2 = [] /\ 2 <= ks.length /\ ∃ a b s j q, ks[k - 1]? = some a /\ ks[k - 1 + 1]? = some b /\ keys[k - 1]? = some s /\ bestAt (maxNode (a.2.2 ++ s :: b.2.2)) ((a.2.2 ++ s :: b.2.2).length - 2) j /\ (a.2.2 ++ s :: b.2.2)[j]? = some q /\
   r = (ks.take (k - 1) ++ mkT h a.1 ((a.2.1 ++ b.2.1).take (j + 1)) ((a.2.2 ++ s :: b.2.2).take j) :: mkT h b.1 ((a.2.1 ++ b.2.1).drop (j + 1)) ((a.2.2 ++ s :: b.2.2).drop (j + 1)) :: ks.drop (k - 1 + 2), keys.set (k - 1) q)))
def JoinR (h : Nat) (ks : List (Tree h)) (keys : List Bts) (k : Nat) (r : List (Tree h) × List Bts) : Prop :=
 (∃ i, k = i + 1 /\ mergeR h ks keys i r) \/ ((∀ i, k = i + 1 -> cannotJ h ks keys i) /\ mergeR h ks keys k r) \/ ((∀ i, k = i + 1 -> cannotJ h ks keys i) /\ cannotJ h ks keys k /\ evenR h ks keys k r)
structure Parts (h : Nat) (ks : List (Tree h)) (keys : List Bts) (r : List (Tree h) × List Bts) : Prop where
 len : r.1.length = r.2.length + 1
 up : upB r.2
 ok : ∀ s ∈ r.2, keyOk s
 wf : ∀ x ∈ r.1, WFT h x
 btw : ∀ i x, r.1[i]? = some x -> between i r.2 (esT h x)
 es : r.1.flatMap (esT h) = ks.flatMap (esT h)
theorem two_list {α : Type} {l : List α} {i : Nat} {x y : α} (hx : l[i]? = some x) (hy : l[i + 1]? = some y) : l = l.take i ++ x :: y :: l.drop (i + 2) := by
 have h1 := split_list hx
 obtain ⟨hi, hy'⟩ := List.getElem?_eq_some_iff.1 hy
 rw [List.drop_eq_getElem_cons hi, hy'] at h1
 exact h1
theorem Kids.around {h : Nat} {ks : List (Tree h)} {keys : List Bts} {k i : Nat} {a b : Tree h} {s : Bts} (hk : Kids h ks keys k) (ha : ks[i]? = some a) (hb : ks[i + 1]? = some b) (hs : keys[i]? = some s) :
  (∀ e ∈ esT h a, ltB e.1 s = true) /\ ∀ e ∈ esT h b, ltB e.1 s = false :=
 ⟨fun e he => (hk.btw i a ha e he).2 s hs, fun e he => (hk.btw (i + 1) b hb e he).1 i s rfl hs⟩
theorem merge_ok {h : Nat} {ks : List (Tree h)} {keys : List Bts} {k i : Nat} {r : List (Tree h) × List Bts} (hk : Kids h ks keys k) (hi : i = k \/ i + 1 = k) (hr : mergeR h ks keys i r) : Parts h ks keys r := by
 obtain ⟨a, b, s, ha, hb, hs, hc, rfl⟩ := hr
 obtain ⟨h1, h2⟩ := hk.around ha hb hs
 have hso := hk.ok s (List.mem_of_getElem? hs)
 have hj := join_wf h (hk.wfs i a ha).1 (hk.wfs (i + 1) b hb).1 hso h1 h2 hc.1
 have hil := (List.getElem?_eq_some_iff.1 hs).1
 have hbl := (List.getElem?_eq_some_iff.1 hb).1
 have hl := hk.len
 have hkt : (ks.take i).length = i := by rw [List.length_take]; omega
 have hst : (keys.take i).length = i := by rw [List.length_take]; omega
 have hget : ∀ (q : Nat) (p : Bts), (keys.take i ++ keys.drop (i + 1))[q]? = some p -> (q < i /\ keys[q]? = some p) \/ (i <= q /\ keys[q + 1]? = some p) := fun q p hp => by
  rcases Nat.lt_or_ge q i with hq | hq
  ·rw [List.getElem?_append_left (by omega), List.getElem?_take, if_pos hq] at hp
   exact .inl ⟨hq, hp⟩
  ·rw [List.getElem?_append_right (by omega), hst, List.getElem?_drop] at hp
   exact .inr ⟨hq, by rw [show i + 1 + (q - i) = q + 1 by omega] at hp; exact hp⟩
 refine ⟨?_, ?_, fun p hp => ?_, fun x hx => ?_, fun q x hx e he => ?_, ?_⟩
 ·simp only [List.length_append, List.length_cons, List.length_take, List.length_drop]; omega
 ·refine List.pairwise_append.2 ⟨upB_take hk.up i, upB_drop hk.up (i + 1), fun p hp q hq => ?_⟩
  obtain ⟨x, hx, rfl⟩ := List.getElem_of_mem hp
  obtain ⟨y, hy, rfl⟩ := List.getElem_of_mem hq
  rw [List.length_take] at hx
  rw [List.length_drop] at hy
  rw [List.getElem_take, List.getElem_drop]
  exact upB_at hk.up (List.getElem?_eq_getElem (by omega)) (List.getElem?_eq_getElem (by omega)) (by omega)
 ·rcases List.mem_append.1 hp with hp | hp
  ·exact hk.ok p (List.mem_of_mem_take hp)
  ·exact hk.ok p (List.mem_of_mem_drop hp)
 ·rcases List.mem_append.1 hx with hx | hx
  ·obtain ⟨q, hq, rfl⟩ := List.getElem_of_mem hx
   rw [List.length_take] at hq
   rw [List.getElem_take]
   exact (hk.wfs q _ (List.getElem?_eq_getElem (by omega))).2 (by omega)
  ·rcases List.mem_cons.1 hx with rfl | hx
   ·exact hj
   ·obtain ⟨q, hq, rfl⟩ := List.getElem_of_mem hx
    rw [List.length_drop] at hq
    rw [List.getElem_drop]
    exact (hk.wfs (i + 2 + q) _ (List.getElem?_eq_getElem (by omega))).2 (by omega)
 ·rcases Nat.lt_trichotomy q i with hq | hq | hq
  ·have hx' : (ks.take i ++ joinT h a s b :: ks.drop (i + 2))[q]? = some x := hx
   rw [List.getElem?_append_left (by omega), List.getElem?_take, if_pos hq] at hx'
   obtain ⟨c1, c2⟩ := hk.btw q x hx' e he
   refine ⟨fun j p hj hp => ?_, fun p hp => ?_⟩
   ·rcases hget j p hp with ⟨_, h5⟩ | ⟨h5, _⟩
    ·exact c1 j p hj h5
    ·omega
   ·rcases hget q p hp with ⟨_, h5⟩ | ⟨h5, _⟩
    ·exact c2 p h5
    ·omega
  ·subst hq
   have hx' : (ks.take q ++ joinT h a s b :: ks.drop (q + 2))[q]? = some x := hx
   rw [List.getElem?_append_right (by omega), hkt, Nat.sub_self] at hx'
   obtain rfl := Option.some.inj hx'
   rw [es_join] at he
   refine ⟨fun j p hj hp => ?_, fun p hp => ?_⟩
   ·rcases hget j p hp with ⟨h4, h5⟩ | ⟨h5, _⟩
    ·rcases List.mem_append.1 he with he | he
     ·exact (hk.btw q a ha e he).1 j p hj h5
     ·have h6 := h2 e he
      have h7 := upB_at hk.up h5 hs (by omega)
      cases h8 : ltB e.1 p with
      | false => rfl
      | true => rw [ltB_trans h8 h7] at h6; cases h6
    ·omega
   ·rcases hget q p hp with ⟨h4, _⟩ | ⟨_, h5⟩
    ·omega
    ·rcases List.mem_append.1 he with he | he
     ·exact ltB_trans (h1 e he) (upB_at hk.up hs h5 (by omega))
     ·exact (hk.btw (q + 1) b hb e he).2 p h5
  ·obtain ⟨d, rfl⟩ : ∃ d, q = i + 1 + d := ⟨q - i - 1, by omega⟩
   have hx' : (ks.take i ++ joinT h a s b :: ks.drop (i + 2))[i + 1 + d]? = some x := hx
   rw [List.getElem?_append_right (by omega), hkt, show i + 1 + d - i = d + 1 by omega, List.getElem?_cons_succ, List.getElem?_drop] at hx'
   obtain ⟨c1, c2⟩ := hk.btw _ x hx' e he
   refine ⟨fun j p hj hp => ?_, fun p hp => ?_⟩
   ·rcases hget j p hp with ⟨h4, h5⟩ | ⟨_, h5⟩
    ·omega
    ·exact c1 (j + 1) p (by omega) h5
   ·rcases hget _ p hp with ⟨h4, h5⟩ | ⟨_, h5⟩
    ·omega
    ·exact c2 p (by rw [show i + 1 + d + 1 = i + 2 + d by omega] at h5; exact h5)
 ·show (ks.take i ++ joinT h a s b :: ks.drop (i + 2)).flatMap (esT h) = ks.flatMap (esT h)
  conv => rhs; rw [two_list ha hb]
  rw [List.flatMap_append, List.flatMap_append, List.flatMap_cons, List.flatMap_cons, List.flatMap_cons, es_join, List.append_assoc]
end Go.Proofs.YtmiphphombkpdaaGreat
namespace Go.Proofs.YtmiphphombkpdaaGreat
theorem Kids.low {h : Nat} {ks : List (Tree h)} {keys : List Bts} {k i : Nat} {a b : Tree h} {s : Bts} (hk : Kids h ks keys k) (ha : ks[i]? = some a) (hb : ks[i + 1]? = some b) (hs : keys[i]? = some s) {e : Bts × Bts} (he : e ∈ esT h a ++ esT h b) {j : Nat} {p : Bts} (hj : j < i) (hp : keys[j]? = some p) : ltB e.1 p = false := by
 have h7 := upB_at hk.up hp hs hj
 have hle : ∀ c : Bts, ltB e.1 c = false -> ltB p c = true \/ p = c -> ltB e.1 p = false := fun c h1 h2 => by
  rcases h2 with h2 | rfl
  ·cases h8 : ltB e.1 p with
   | false => rfl
   | true => rw [ltB_trans h8 h2] at h1; cases h1
  ·exact h1
 rcases List.mem_append.1 he with he | he
 ·obtain ⟨d, rfl⟩ : ∃ d, i = d + 1 := ⟨i - 1, by omega⟩
  obtain ⟨hl, hs'⟩ := List.getElem?_eq_some_iff.1 hs
  have hd : keys[d]? = some (keys[d]'(by omega)) := List.getElem?_eq_getElem (by omega)
  refine hle _ ((hk.btw (d + 1) a ha e he).1 d _ rfl hd) ?_
  rcases Nat.lt_or_ge j d with hjd | hjd
  ·exact .inl (upB_at hk.up hp hd hjd)
  ·obtain rfl : j = d := by omega
   rw [hd] at hp
   exact .inr (Option.some.inj hp).symm
 ·exact hle s ((hk.btw (i + 1) b hb e he).1 i s rfl hs) (.inl h7)
theorem Kids.high {h : Nat} {ks : List (Tree h)} {keys : List Bts} {k i : Nat} {a b : Tree h} {s : Bts} (hk : Kids h ks keys k) (ha : ks[i]? = some a) (hb : ks[i + 1]? = some b) (hs : keys[i]? = some s) {e : Bts × Bts} (he : e ∈ esT h a ++ esT h b) {j : Nat} {p : Bts} (hj : i < j) (hp : keys[j]? = some p) : ltB e.1 p = true := by
 rcases List.mem_append.1 he with he | he
 ·exact ltB_trans ((hk.btw i a ha e he).2 s hs) (upB_at hk.up hs hp hj)
 ·have hl := (List.getElem?_eq_some_iff.1 hp).1
  have hd : keys[i + 1]? = some (keys[i + 1]'(by omega)) := List.getElem?_eq_getElem (by omega)
  have h1 := (hk.btw (i + 1) b hb e he).2 _ hd
  rcases Nat.lt_or_ge (i + 1) j with hj' | hj'
  ·exact ltB_trans h1 (upB_at hk.up hd hp hj')
  ·obtain rfl : j = i + 1 := by omega
   rw [hd] at hp
   exact (Option.some.inj hp) ▸ h1
theorem two_ok {h : Nat} {ks : List (Tree h)} {keys : List Bts} {k i : Nat} {a b x y : Tree h} {s q : Bts} (hk : Kids h ks keys k) (hi : i = k \/ i + 1 = k) (ha : ks[i]? = some a) (hb : ks[i + 1]? = some b) (hs : keys[i]? = some s)
  (hp : PartsOk h (x, some (q, y)) (esT h a ++ esT h b)) : Parts h ks keys (ks.take i ++ x :: y :: ks.drop (i + 2), keys.set i q) := by
 obtain ⟨wx, wy, hq, hes, hx, hy⟩ : WFT h x /\ WFT h y /\ keyOk q /\ esT h x ++ esT h y = esT h a ++ esT h b /\ (∀ e ∈ esT h x, ltB e.1 q = true) /\ ∀ e ∈ esT h y, ltB e.1 q = false := hp
 have hil := (List.getElem?_eq_some_iff.1 hs).1
 have hbl := (List.getElem?_eq_some_iff.1 hb).1
 have hl := hk.len
 have hkt : (ks.take i).length = i := by rw [List.length_take]; omega
 obtain ⟨e1, he1⟩ := List.exists_mem_of_ne_nil _ (esT_ne h wx)
 obtain ⟨e2, he2⟩ := List.exists_mem_of_ne_nil _ (esT_ne h wy)
 have inx : ∀ e ∈ esT h x, e ∈ esT h a ++ esT h b := fun e he => by rw [<- hes]; exact List.mem_append_left _ he
 have iny : ∀ e ∈ esT h y, e ∈ esT h a ++ esT h b := fun e he => by rw [<- hes]; exact List.mem_append_right _ he
 have hget : ∀ (n : Nat) (p : Bts), (keys.set i q)[n]? = some p -> (n = i /\ p = q) \/ (n ≠ i /\ keys[n]? = some p) := fun n p h => by
  rw [List.getElem?_set] at h
  split at h
  ·rename_i hin
   exact .inl ⟨hin.symm, (Option.some.inj h).symm⟩
  ·rename_i hin
   exact .inr ⟨fun e => hin e.symm, h⟩
 have hin : ∀ e ∈ esT h a ++ esT h b, ∀ n p, n ≠ i -> keys[n]? = some p -> (n < i /\ ltB e.1 p = false) \/ (i < n /\ ltB e.1 p = true) := fun e he n p hn hp => by
  rcases Nat.lt_or_ge n i with h1 | h1
  ·exact .inl ⟨h1, hk.low ha hb hs he h1 hp⟩
  ·exact .inr ⟨by omega, hk.high ha hb hs he (by omega) hp⟩
 refine ⟨?_, ?_, fun p hp => ?_, fun z hz => ?_, fun n z hz e he => ?_, ?_⟩
 ·simp only [List.length_append, List.length_cons, List.length_take, List.length_drop, List.length_set]; omega
 ·show upB (keys.set i q)
  rw [set_list hil]
  refine List.pairwise_append.2 ⟨upB_take hk.up i, List.pairwise_cons.2 ⟨fun p hp => ?_, upB_drop hk.up (i + 1)⟩, fun p hp r hr => ?_⟩
  ·obtain ⟨n, hn, rfl⟩ := List.getElem_of_mem hp
   rw [List.length_drop] at hn
   rw [List.getElem_drop]
   exact le_ltB_trans (hy e2 he2) (hk.high ha hb hs (iny e2 he2) (j := i + 1 + n) (by omega) (List.getElem?_eq_getElem (by omega)))
  ·obtain ⟨n, hn, rfl⟩ := List.getElem_of_mem hp
   rw [List.length_take] at hn
   rw [List.getElem_take]
   have hnk : keys[n]? = some (keys[n]'(by omega)) := List.getElem?_eq_getElem (by omega)
   rcases List.mem_cons.1 hr with rfl | hr
   ·exact le_ltB_trans (hk.low ha hb hs (inx e1 he1) (by omega) hnk) (hx e1 he1)
   ·obtain ⟨m, hm, rfl⟩ := List.getElem_of_mem hr
    rw [List.length_drop] at hm
    rw [List.getElem_drop]
    exact upB_at hk.up hnk (List.getElem?_eq_getElem (by omega)) (by omega)
 ·rcases List.mem_or_eq_of_mem_set hp with hp | rfl
  ·exact hk.ok p hp
  ·exact hq
 ·rcases List.mem_append.1 hz with hz | hz
  ·obtain ⟨n, hn, rfl⟩ := List.getElem_of_mem hz
   rw [List.length_take] at hn
   rw [List.getElem_take]
   exact (hk.wfs n _ (List.getElem?_eq_getElem (by omega))).2 (by omega)
  ·rcases List.mem_cons.1 hz with rfl | hz
   ·exact wx
   ·rcases List.mem_cons.1 hz with rfl | hz
    ·exact wy
    ·obtain ⟨n, hn, rfl⟩ := List.getElem_of_mem hz
     rw [List.length_drop] at hn
     rw [List.getElem_drop]
     exact (hk.wfs (i + 2 + n) _ (List.getElem?_eq_getElem (by omega))).2 (by omega)
 ·have hz' : (ks.take i ++ x :: y :: ks.drop (i + 2))[n]? = some z := hz
  rcases Nat.lt_trichotomy n i with hn | hn | hn
  ·rw [List.getElem?_append_left (by omega), List.getElem?_take, if_pos hn] at hz'
   obtain ⟨c1, c2⟩ := hk.btw n z hz' e he
   refine ⟨fun j p hj hp => ?_, fun p hp => ?_⟩
   ·rcases hget j p hp with ⟨h5, _⟩ | ⟨_, h5⟩
    ·omega
    ·exact c1 j p hj h5
   ·rcases hget n p hp with ⟨h5, _⟩ | ⟨_, h5⟩
    ·omega
    ·exact c2 p h5
  ·subst hn
   rw [List.getElem?_append_right (by omega), hkt, Nat.sub_self] at hz'
   obtain rfl := Option.some.inj hz'
   refine ⟨fun j p hj hp => ?_, fun p hp => ?_⟩
   ·rcases hget j p hp with ⟨h5, _⟩ | ⟨h4, h5⟩
    ·omega
    ·rcases hin e (inx e he) j p h4 h5 with ⟨_, h6⟩ | ⟨h6, _⟩
     ·exact h6
     ·omega
   ·rcases hget n p hp with ⟨_, rfl⟩ | ⟨h4, _⟩
    ·exact hx e he
    ·exact absurd rfl h4
  ·rcases Nat.lt_or_ge (i + 1) n with h0 | h0
   ·obtain ⟨d, rfl⟩ : ∃ d, n = i + 2 + d := ⟨n - i - 2, by omega⟩
    rw [List.getElem?_append_right (by omega), hkt, show i + 2 + d - i = d + 1 + 1 by omega, List.getElem?_cons_succ, List.getElem?_cons_succ, List.getElem?_drop] at hz'
    obtain ⟨c1, c2⟩ := hk.btw _ z hz' e he
    refine ⟨fun j p hj hp => ?_, fun p hp => ?_⟩
    ·rcases hget j p hp with ⟨h5, _⟩ | ⟨_, h5⟩
     ·omega
     ·exact c1 j p hj h5
    ·rcases hget _ p hp with ⟨h5, _⟩ | ⟨_, h5⟩
     ·omega
     ·exact c2 p h5
   ·obtain rfl : n = i + 1 := by omega
    rw [List.getElem?_append_right (by omega), hkt, show i + 1 - i = 0 + 1 by omega, List.getElem?_cons_succ] at hz'
    obtain rfl := Option.some.inj hz'
    refine ⟨fun j p hj hp => ?_, fun p hp => ?_⟩
    ·rcases hget j p hp with ⟨_, rfl⟩ | ⟨h4, _⟩
     ·exact hy e he
     ·omega
    ·rcases hget _ p hp with ⟨h5, _⟩ | ⟨h4, h5⟩
     ·omega
     ·rcases hin e (iny e he) _ p h4 h5 with ⟨h6, _⟩ | ⟨_, h6⟩
      ·omega
      ·exact h6
 ·show (ks.take i ++ x :: y :: ks.drop (i + 2)).flatMap (esT h) = ks.flatMap (esT h)
  conv => rhs; rw [two_list ha hb]
  rw [List.flatMap_append, List.flatMap_append, List.flatMap_cons, List.flatMap_cons, List.flatMap_cons, List.flatMap_cons, <- List.append_assoc (esT h x), hes, List.append_assoc]
theorem Kids.parts {h : Nat} {ks : List (Tree h)} {keys : List Bts} {k : Nat} (hk : Kids h ks keys k) (hw : ∀ x, ks[k]? = some x -> WFT h x) : Parts h ks keys (ks, keys) :=
 ⟨hk.len, hk.up, hk.ok, fun x hx => by
  obtain ⟨i, hi, rfl⟩ := List.getElem_of_mem hx
  rcases Nat.decEq i k with h1 | rfl
  ·exact (hk.wfs i _ (List.getElem?_eq_getElem hi)).2 h1
  ·exact hw _ (List.getElem?_eq_getElem hi), hk.btw, rfl⟩
end Go.Proofs.YtmiphphombkpdaaGreat
