import Derived.Test.YtafilaiinbggoaaGreatQT04
namespace Go.Proofs.YtafilaiinbggoaaGreat
def lvT : (h : Nat) -> Tree h -> Nat
 | 0, _ => 1
 | h + 1, t => (t.2.1.map (lvT h)).sum
theorem sum_ge {l : List Nat} {c : Nat} (h : ∀ x ∈ l, c <= x) : l.length * c <= l.sum := by
 induction l with
 | nil => simp
 | cons a l ih =>
  have h1 := h a (List.mem_cons_self ..)
  have h2 := ih fun x hx => h x (List.mem_cons_of_mem _ hx)
  rw [List.length_cons, List.sum_cons, Nat.succ_mul]; omega
theorem lv_pow : ∀ (h : Nat) {t : Tree h}, WFT h t -> 2 ^ h <= lvT h t
 | 0, _, _ => by simp [lvT]
 | h + 1, t, hw => by
  obtain ⟨h1, h2, _, _, _, h6, _⟩ := hw
  have h3 : (t.2.1.map (lvT h)).length * 2 ^ h <= (t.2.1.map (lvT h)).sum := sum_ge fun x hx => by
   obtain ⟨y, hy, rfl⟩ := List.mem_map.1 hx
   exact lv_pow h (h6 y hy)
  have h4 : 2 <= (t.2.1.map (lvT h)).length := by
   rw [List.length_map, h2]
   have : t.2.2.length ≠ 0 := fun e => h1 (List.length_eq_zero_iff.1 e)
   omega
  show 2 ^ (h + 1) <= (t.2.1.map (lvT h)).sum
  have := Nat.mul_le_mul_right (2 ^ h) h4
  rw [Nat.pow_succ]; omega
theorem sum_le {α : Type} {l : List α} {f g : α -> Nat} (h : ∀ x ∈ l, f x <= g x) : (l.map f).sum <= (l.map g).sum := by
 induction l with
 | nil => simp
 | cons a l ih =>
  have h1 := h a (List.mem_cons_self ..)
  have h2 := ih fun x hx => h x (List.mem_cons_of_mem _ hx)
  simp only [List.map_cons, List.sum_cons]; omega
theorem pages_lv : ∀ (h : Nat) {t : Tree h}, WFT h t -> (pagesT h t).length + 1 <= 2 * lvT h t
 | 0, _, _ => by simp [pagesT, lvT]
 | h + 1, t, hw => by
  obtain ⟨h1, h2, _, _, _, h6, _⟩ := hw
  have h3 : ((t.2.1.map fun x => (pagesT h x).length + 1)).sum <= (t.2.1.map fun x => 2 * lvT h x).sum := sum_le fun x hx => pages_lv h (h6 x hx)
  have e1 : ∀ l : List (Tree h), (l.map fun x => (pagesT h x).length + 1).sum = (l.flatMap (pagesT h)).length + l.length := fun l => by
   induction l with
   | nil => rfl
   | cons a l ih => simp only [List.map_cons, List.sum_cons, List.flatMap_cons, List.length_append, List.length_cons, ih]; omega
  have e2 : ∀ l : List (Tree h), (l.map fun x => 2 * lvT h x).sum = 2 * (l.map (lvT h)).sum := fun l => by
   induction l with
   | nil => rfl
   | cons a l ih => simp only [List.map_cons, List.sum_cons, ih]; omega
  rw [e1, e2] at h3
  have h4 : t.2.2.length ≠ 0 := fun e => h1 (List.length_eq_zero_iff.1 e)
  show (t.1 :: t.2.1.flatMap (pagesT h)).length + 1 <= 2 * (t.2.1.map (lvT h)).sum
  rw [List.length_cons]; omega
theorem getE_app {k : Bts} : ∀ {A B : EL}, (∀ e ∈ A, ltB e.1 k = true) -> getE k (A ++ B) = getE k B
 | [], _, _ => rfl
 | (x, y) :: A, B, h => by
  rw [List.cons_append]
  conv => lhs; unfold getE
  rw [if_pos (h (x, y) (List.mem_cons_self ..))]
  exact getE_app fun e he => h e (List.mem_cons_of_mem _ he)
theorem getE_behind {k : Bts} : ∀ {B C : EL}, (∀ e ∈ C, ltB k e.1 = true) -> getE k (B ++ C) = getE k B
 | [], [], _ => rfl
 | [], (x, y) :: C, h => by
  have h1 := h (x, y) (List.mem_cons_self ..)
  rw [List.nil_append]
  unfold getE
  rw [if_neg (by rw [ltB_asym h1]; decide), if_neg (fun e => by subst e; rw [ltB_irrefl] at h1; cases h1)]
 | (x, y) :: B, C, h => by
  rw [List.cons_append]
  unfold getE
  rw [getE_behind h]
theorem get_kid {h : Nat} {t : Tree (h + 1)} {k : Bts} {x : Tree h} (hw : WFT (h + 1) t) (hx : t.2.1[kidB k t.2.2]? = some x) : getE k (esT (h + 1) t) = getE k (esT h x) := by
 have ho := nodeOk_of hw
 show getE k (t.2.1.flatMap (esT h)) = _
 conv => lhs; rw [split_list hx, List.flatMap_append, List.flatMap_cons]
 rw [getE_app fun e he => kids_less ho he, getE_behind fun e he => kids_more ho he]
end Go.Proofs.YtafilaiinbggoaaGreat
namespace Go.Proofs.YtafilaiinbggoaaGreat
def WFS : (h : Nat) -> Tree h -> Prop
 | 0, t => WFT 0 t
 | h + 1, t => t.2.1.length = t.2.2.length + 1 /\ upB t.2.2 /\ (∀ k ∈ t.2.2, keyOk k) /\ szNode t.2.2 <= 1024 /\ (∀ x ∈ t.2.1, WFT h x) /\ ∀ i x, t.2.1[i]? = some x -> between i t.2.2 (esT h x)
def thinT : (h : Nat) -> Tree h -> Prop
 | 0, _ => False
 | _ + 1, t => t.2.2 = []
theorem wft_of : ∀ (h : Nat) {t : Tree h}, WFS h t -> ¬ thinT h t -> WFT h t
 | 0, _, hw, _ => hw
 | _ + 1, _, hw, hn => ⟨hn, hw⟩
def szT : (h : Nat) -> Tree h -> Nat
 | 0, t => szLeaf t.2
 | _ + 1, t => szNode t.2.2
def joinT : (h : Nat) -> Tree h -> Bts -> Tree h -> Tree h
 | 0, a, _, b => (a.1, a.2 ++ b.2)
 | _ + 1, a, s, b => (a.1, a.2.1 ++ b.2.1, a.2.2 ++ s :: b.2.2)
end Go.Proofs.YtafilaiinbggoaaGreat
namespace Go.Proofs.YtafilaiinbggoaaGreat
structure Kids (h : Nat) (ks : List (Tree h)) (keys : List Bts) (k : Nat) : Prop where
 len : ks.length = keys.length + 1
 up : upB keys
 ok : ∀ s ∈ keys, keyOk s
 wfs : ∀ i x, ks[i]? = some x -> WFS h x /\ (i ≠ k -> WFT h x)
 btw : ∀ i x, ks[i]? = some x -> between i keys (esT h x)
def canJ (h : Nat) (a : Tree h) (s : Bts) (b : Tree h) : Prop := szT h (joinT h a s b) <= 1024 /\ (thinT h a \/ thinT h b \/ szT h (joinT h a s b) <= 768)
def mergeR (h : Nat) (ks : List (Tree h)) (keys : List Bts) (i : Nat) (r : List (Tree h) × List Bts) : Prop := ∃ a b s, ks[i]? = some a /\ ks[i + 1]? = some b /\ keys[i]? = some s /\ canJ h a s b /\ r = (ks.take i ++ joinT h a s b :: ks.drop (i + 2), keys.take i ++ keys.drop (i + 1))
def cannotJ (h : Nat) (ks : List (Tree h)) (keys : List Bts) (i : Nat) : Prop := ∀ a b s, ks[i]? = some a -> ks[i + 1]? = some b -> keys[i]? = some s -> ¬ canJ h a s b
def mkT (h n : Nat) (ks : List (Tree h)) (keys : List Bts) : Tree (h + 1) := (n, ks, keys)
def evenR : (h : Nat) -> List (Tree h) -> List Bts -> Nat -> List (Tree h) × List Bts -> Prop
 | 0, ks, keys, _, r => r = (ks, keys)
 | h + 1, ks, keys, k, r => ∃ c, ks[k]? = some c /\ (((c.2.2 ≠ [] \/ ks.length < 2) /\ r = (ks, keys)) \/ (c.2.2 = [] /\ 2 <= ks.length /\ ∃ a b s j q, ks[k - 1]? = some a /\ ks[k - 1 + 1]? = some b /\ keys[k - 1]? = some s /\ bestAt (maxNode (a.2.2 ++ s :: b.2.2)) ((a.2.2 ++ s :: b.2.2).length - 2) j /\ (a.2.2 ++ s :: b.2.2)[j]? = some q /\
   r = (ks.take (k - 1) ++ mkT h a.1 ((a.2.1 ++ b.2.1).take (j + 1)) ((a.2.2 ++ s :: b.2.2).take j) :: mkT h b.1 ((a.2.1 ++ b.2.1).drop (j + 1)) ((a.2.2 ++ s :: b.2.2).drop (j + 1)) :: ks.drop (k - 1 + 2), keys.set (k - 1) q)))
def JoinR (h : Nat) (ks : List (Tree h)) (keys : List Bts) (k : Nat) (r : List (Tree h) × List Bts) : Prop :=
 (∃ i, k = i + 1 /\ mergeR h ks keys i r) \/ ((∀ i, k = i + 1 -> cannotJ h ks keys i) /\ mergeR h ks keys k r) \/ ((∀ i, k = i + 1 -> cannotJ h ks keys i) /\ cannotJ h ks keys k /\ evenR h ks keys k r)
structure Parts (h : Nat) (ks : List (Tree h)) (keys : List Bts) (r : List (Tree h) × List Bts) : Prop where
 len : r.1.length = r.2.length + 1
 up : upB r.2
 ok : ∀ s ∈ r.2, keyOk s
 wf : ∀ x ∈ r.1, WFT h x
 btw : ∀ i x, r.1[i]? = some x -> between i r.2 (esT h x)
 es : r.1.flatMap (esT h) = ks.flatMap (esT h)
end Go.Proofs.YtafilaiinbggoaaGreat
namespace Go.Proofs.YtafilaiinbggoaaGreat
theorem Kids.low {h : Nat} {ks : List (Tree h)} {keys : List Bts} {k i : Nat} {a b : Tree h} {s : Bts} (hk : Kids h ks keys k) (ha : ks[i]? = some a) (hb : ks[i + 1]? = some b) (hs : keys[i]? = some s) {e : Bts × Bts} (he : e ∈ esT h a ++ esT h b) {j : Nat} {p : Bts} (hj : j < i) (hp : keys[j]? = some p) : ltB e.1 p = false := by
 have h7 := upB_at hk.up hp hs hj
 have hle : ∀ c : Bts, ltB e.1 c = false -> ltB p c = true \/ p = c -> ltB e.1 p = false := fun c h1 h2 => by
  rcases h2 with h2 | rfl
  ·cases h8 : ltB e.1 p with
   | false => rfl
   | true => rw [ltB_trans h8 h2] at h1; cases h1
  ·exact h1
 rcases List.mem_append.1 he with he | he
 ·obtain ⟨d, rfl⟩ : ∃ d, i = d + 1 := ⟨i - 1, by omega⟩
  obtain ⟨hl, hs'⟩ := List.getElem?_eq_some_iff.1 hs
  have hd : keys[d]? = some (keys[d]'(by omega)) := List.getElem?_eq_getElem (by omega)
  refine hle _ ((hk.btw (d + 1) a ha e he).1 d _ rfl hd) ?_
  rcases Nat.lt_or_ge j d with hjd | hjd
  ·exact .inl (upB_at hk.up hp hd hjd)
  ·obtain rfl : j = d := by omega
   rw [hd] at hp
   exact .inr (Option.some.inj hp).symm
 ·exact hle s ((hk.btw (i + 1) b hb e he).1 i s rfl hs) (.inl h7)
theorem Kids.parts {h : Nat} {ks : List (Tree h)} {keys : List Bts} {k : Nat} (hk : Kids h ks keys k) (hw : ∀ x, ks[k]? = some x -> WFT h x) : Parts h ks keys (ks, keys) :=
 ⟨hk.len, hk.up, hk.ok, fun x hx => by
  obtain ⟨i, hi, rfl⟩ := List.getElem_of_mem hx
  rcases Nat.decEq i k with h1 | rfl
  ·exact (hk.wfs i _ (List.getElem?_eq_getElem hi)).2 h1
  ·exact hw _ (List.getElem?_eq_getElem hi), hk.btw, rfl⟩
end Go.Proofs.YtafilaiinbggoaaGreat
namespace Go.Proofs.YtafilaiinbggoaaGreat
def delAt {α : Type} (i : Nat) (l : List α) : List α := l.take i ++ l.drop (i + 1)
def CutR : (h : Nat) -> Tree h -> Bts -> Option (Tree h) -> Prop
 | 0, t, k, r => (delE k t.2 = [] /\ r = none) \/ (delE k t.2 ≠ [] /\ r = some (t.1, delE k t.2))
 | h + 1, t, k, r => ∃ x c, t.2.1[kidB k t.2.2]? = some x /\ CutR h x k c /\ match c with
  | none => (delAt (kidB k t.2.2) t.2.1 = [] /\ r = none) \/ (delAt (kidB k t.2.2) t.2.1 ≠ [] /\ ∃ p, JoinR h (delAt (kidB k t.2.2) t.2.1) (delAt (kidB k t.2.2 - 1) t.2.2) (min (kidB k t.2.2 - 1) ((delAt (kidB k t.2.2) t.2.1).length - 1)) p /\ r = some (mkT h t.1 p.1 p.2))
  | some y => ∃ p, JoinR h (t.2.1.set (kidB k t.2.2) y) t.2.2 (min (kidB k t.2.2) ((t.2.1.set (kidB k t.2.2) y).length - 1)) p /\ r = some (mkT h t.1 p.1 p.2)
end Go.Proofs.YtafilaiinbggoaaGreat
namespace Go.Proofs.YtafilaiinbggoaaGreat
abbrev Top := Option (Σ h, Tree h)
def esO : Top -> EL
 | none => []
 | some ⟨h, t⟩ => esT h t
def PutTop (o : Top) (k v : Bts) (o' : Top) : Prop := match o with
 | none => ∃ m, o' = some ⟨0, (m, [(k, v)])⟩
 | some ⟨h, t⟩ => ∃ r, PutR h t k v r /\ match r.2 with
  | none => o' = some ⟨h, r.1⟩
  | some (s, y) => ∃ m, o' = some ⟨h + 1, mkT h m [r.1, y] [s]⟩
def CutTop (o : Top) (k : Bts) (o' : Top) : Prop := match o with
 | none => o' = none
 | some ⟨h, t⟩ => ∃ c, CutR h t k c /\ match c with
  | none => o' = none
  | some u => (¬ thinT h u /\ o' = some ⟨h, u⟩) \/ ∃ (g : Nat) (e : h = g + 1) (z : Tree g), ((e ▸ u : Tree (g + 1)).2.2 = [] /\ (e ▸ u : Tree (g + 1)).2.1[0]? = some z /\ o' = some ⟨g, z⟩)
end Go.Proofs.YtafilaiinbggoaaGreat
namespace Go.Proofs.YtafilaiinbggoaaGreat
def inR (f t k : Bts) : Bool := !ltB k f && (decide (t = []) || ltB k t)
def ordE {α : Type} (back : Bool) (l : List α) : List α := if back = true then l.reverse else l
def visit (f t : Bts) (most : Nat) : EL -> EL -> EL × Bool
 | out, [] => (out, true)
 | out, e :: l => if inR f t e.1 = true then if (out ++ [e]).length < most then visit f t most (out ++ [e]) l else (out ++ [e], false) else visit f t most out l
theorem visit_cons (f t : Bts) (most : Nat) (out : EL) (e : Bts × Bts) (l : EL) : visit f t most out (e :: l) = if inR f t e.1 = true then if (out ++ [e]).length < most then visit f t most (out ++ [e]) l else (out ++ [e], false) else visit f t most out l := rfl
theorem visit_app (f t : Bts) (most : Nat) : ∀ (a out b : EL), visit f t most out (a ++ b) = if (visit f t most out a).2 = true then visit f t most (visit f t most out a).1 b else ((visit f t most out a).1, false)
 | [], out, b => by simp [visit]
 | e :: a, out, b => by
  rw [List.cons_append, visit_cons, visit_cons]
  split
  ·split
   ·exact visit_app f t most a _ b
   ·simp
  ·exact visit_app f t most a _ b
theorem visit_on {f t : Bts} {most : Nat} : ∀ {a out : EL}, out.length < most -> (visit f t most out a).2 = true -> (visit f t most out a).1.length < most
 | [], out, h, _ => h
 | e :: a, out, h, h2 => by
  unfold visit at h2 |-
  split
  ·rename_i h3
   rw [if_pos h3] at h2
   split
   ·rename_i h4
    rw [if_pos h4] at h2
    exact visit_on h4 h2
   ·rename_i h4
    rw [if_neg h4] at h2
    cases h2
  ·rename_i h3
   rw [if_neg h3] at h2
   exact visit_on h h2
theorem ord_flat {h : Nat} (b : Bool) (ks : List (Tree h)) : ordE b (ks.flatMap (esT h)) = (ordE b ks).flatMap fun x => ordE b (esT h x) := by
 cases b with
 | false => rfl
 | true =>
  show (ks.flatMap (esT h)).reverse = ks.reverse.flatMap fun x => (esT h x).reverse
  exact List.reverse_flatMap ..
theorem visit_next {f t : Bts} {most : Nat} {h : Nat} {b : Bool} {ks : List (Tree h)} {i : Nat} {x : Tree h} (out : EL) (hx : (ordE b ks)[i]? = some x) (hon : (visit f t most out (((ordE b ks).take i).flatMap fun x => ordE b (esT h x))).2 = true) :
  visit f t most out (((ordE b ks).take (i + 1)).flatMap fun x => ordE b (esT h x)) = visit f t most (visit f t most out (((ordE b ks).take i).flatMap fun x => ordE b (esT h x))).1 (ordE b (esT h x)) := by
 have hl := (List.getElem?_eq_some_iff.1 hx).1
 rw [List.take_add_one, hx, List.flatMap_append, visit_app, if_pos hon]
 simp
end Go.Proofs.YtafilaiinbggoaaGreat
