import Derived.Test.YtafilaiinbggoaaGreatQS04
namespace Go.Proofs.YtafilaiinbggoaaGreat
def lvT : (h : Nat) -> Tree h -> Nat
 | 0, _ => 1
 | h + 1, t => (t.2.1.map (lvT h)).sum
theorem sum_ge {l : List Nat} {c : Nat} (h : ∀ x ∈ l, c <= x) : l.length * c <= l.sum := by
 induction l with
 | nil => simp
 | cons a l ih =>
  have h1 := h a (List.mem_cons_self ..)
  have h2 := ih fun x hx => h x (List.mem_cons_of_mem _ hx)
  rw [List.length_cons, List.sum_cons, Nat.succ_mul]; omega
theorem lv_pow : ∀ (h : Nat) {t : Tree h}, WFT h t -> 2 ^ h <= lvT h t
 | 0, _, _ => by simp [lvT]
 | h + 1, t, hw => by
  obtain ⟨h1, h2, _, _, _, h6, _⟩ := hw
  have h3 : (t.2.1.map (lvT h)).length * 2 ^ h <= (t.2.1.map (lvT h)).sum := sum_ge fun x hx => by
   obtain ⟨y, hy, rfl⟩ := List.mem_map.1 hx
   exact lv_pow h (h6 y hy)
  have h4 : 2 <= (t.2.1.map (lvT h)).length := by
   rw [List.length_map, h2]
   have : t.2.2.length ≠ 0 := fun e => h1 (List.length_eq_zero_iff.1 e)
   omega
  show 2 ^ (h + 1) <= (t.2.1.map (lvT h)).sum
  have := Nat.mul_le_mul_right (2 ^ h) h4
  rw [Nat.pow_succ]; omega
theorem sum_le {α : Type} {l : List α} {f g : α -> Nat} (h : ∀ x ∈ l, f x <= g x) : (l.map f).sum <= (l.map g).sum := by
 induction l with
 | nil => simp
 | cons a l ih =>
  have h1 := h a (List.mem_cons_self ..)
  have h2 := ih fun x hx => h x (List.mem_cons_of_mem _ hx)
  simp only [List.map_cons, List.sum_cons]; omega
theorem pages_lv : ∀ (h : Nat) {t : Tree h}, WFT h t -> (pagesT h t).length + 1 <= 2 * lvT h t
 | 0, _, _ => by simp [pagesT, lvT]
 | h + 1, t, hw => by
  obtain ⟨h1, h2, _, _, _, h6, _⟩ := hw
  have h3 : ((t.2.1.map fun x => (pagesT h x).length + 1)).sum <= (t.2.1.map fun x => 2 * lvT h x).sum := sum_le fun x hx => pages_lv h (h6 x hx)
  have e1 : ∀ l : List (Tree h), (l.map fun x => (pagesT h x).length + 1).sum = (l.flatMap (pagesT h)).length + l.length := fun l => by
   induction l with
   | nil => rfl
   | cons a l ih => simp only [List.map_cons, List.sum_cons, List.flatMap_cons, List.length_append, List.length_cons, ih]; omega
  have e2 : ∀ l : List (Tree h), (l.map fun x => 2 * lvT h x).sum = 2 * (l.map (lvT h)).sum := fun l => by
   induction l with
   | nil => rfl
   | cons a l ih => simp only [List.map_cons, List.sum_cons, ih]; omega
  rw [e1, e2] at h3
  have h4 : t.2.2.length ≠ 0 := fun e => h1 (List.length_eq_zero_iff.1 e)
  show (t.1 :: t.2.1.flatMap (pagesT h)).length + 1 <= 2 * (t.2.1.map (lvT h)).sum
  rw [List.length_cons]; omega
end Go.Proofs.YtafilaiinbggoaaGreat
namespace Go.Proofs.YtafilaiinbggoaaGreat
def WFS : (h : Nat) -> Tree h -> Prop
 | 0, t => WFT 0 t
 | h + 1, t => t.2.1.length = t.2.2.length + 1 /\ upB t.2.2 /\ (∀ k ∈ t.2.2, keyOk k) /\ szNode t.2.2 <= 1024 /\ (∀ x ∈ t.2.1, WFT h x) /\ ∀ i x, t.2.1[i]? = some x -> between i t.2.2 (esT h x)
def thinT : (h : Nat) -> Tree h -> Prop
 | 0, _ => False
 | _ + 1, t => t.2.2 = []
theorem wft_of : ∀ (h : Nat) {t : Tree h}, WFS h t -> ¬ thinT h t -> WFT h t
 | 0, _, hw, _ => hw
 | _ + 1, _, hw, hn => ⟨hn, hw⟩
def szT : (h : Nat) -> Tree h -> Nat
 | 0, t => szLeaf t.2
 | _ + 1, t => szNode t.2.2
def joinT : (h : Nat) -> Tree h -> Bts -> Tree h -> Tree h
 | 0, a, _, b => (a.1, a.2 ++ b.2)
 | _ + 1, a, s, b => (a.1, a.2.1 ++ b.2.1, a.2.2 ++ s :: b.2.2)
end Go.Proofs.YtafilaiinbggoaaGreat
namespace Go.Proofs.YtafilaiinbggoaaGreat
structure Kids (h : Nat) (ks : List (Tree h)) (keys : List Bts) (k : Nat) : Prop where
 len : ks.length = keys.length + 1
 up : upB keys
 ok : ∀ s ∈ keys, keyOk s
 wfs : ∀ i x, ks[i]? = some x -> WFS h x /\ (i ≠ k -> WFT h x)
 btw : ∀ i x, ks[i]? = some x -> between i keys (esT h x)
def canJ (h : Nat) (a : Tree h) (s : Bts) (b : Tree h) : Prop := szT h (joinT h a s b) <= 1024 /\ (thinT h a \/ thinT h b \/ szT h (joinT h a s b) <= 768)
def mergeR (h : Nat) (ks : List (Tree h)) (keys : List Bts) (i : Nat) (r : List (Tree h) × List Bts) : Prop := ∃ a b s, ks[i]? = some a /\ ks[i + 1]? = some b /\ keys[i]? = some s /\ canJ h a s b /\ r = (ks.take i ++ joinT h a s b :: ks.drop (i + 2), keys.take i ++ keys.drop (i + 1))
def cannotJ (h : Nat) (ks : List (Tree h)) (keys : List Bts) (i : Nat) : Prop := ∀ a b s, ks[i]? = some a -> ks[i + 1]? = some b -> keys[i]? = some s -> ¬ canJ h a s b
def mkT (h n : Nat) (ks : List (Tree h)) (keys : List Bts) : Tree (h + 1) := (n, ks, keys)
def evenR : (h : Nat) -> List (Tree h) -> List Bts -> Nat -> List (Tree h) × List Bts -> Prop
 | 0, ks, keys, _, r => r = (ks, keys)
 | h + 1, ks, keys, k, r => ∃ c, ks[k]? = some c /\ (((c.2.2 ≠ [] \/ ks.length < 2) /\ r = (ks, keys)) \/ (c.2.2 = [] /\ 2 <= ks.length /\ ∃ a b s j q, ks[k - 1]? = some a /\ ks[k - 1 + 1]? = some b /\ keys[k - 1]? = some s /\ bestAt (maxNode (a.2.2 ++ s :: b.2.2)) ((a.2.2 ++ s :: b.2.2).length - 2) j /\ (a.2.2 ++ s :: b.2.2)[j]? = some q /\
   r = (ks.take (k - 1) ++ mkT h a.1 ((a.2.1 ++ b.2.1).take (j + 1)) ((a.2.2 ++ s :: b.2.2).take j) :: mkT h b.1 ((a.2.1 ++ b.2.1).drop (j + 1)) ((a.2.2 ++ s :: b.2.2).drop (j + 1)) :: ks.drop (k - 1 + 2), keys.set (k - 1) q)))
def JoinR (h : Nat) (ks : List (Tree h)) (keys : List Bts) (k : Nat) (r : List (Tree h) × List Bts) : Prop :=
 (∃ i, k = i + 1 /\ mergeR h ks keys i r) \/ ((∀ i, k = i + 1 -> cannotJ h ks keys i) /\ mergeR h ks keys k r) \/ ((∀ i, k = i + 1 -> cannotJ h ks keys i) /\ cannotJ h ks keys k /\ evenR h ks keys k r)
structure Parts (h : Nat) (ks : List (Tree h)) (keys : List Bts) (r : List (Tree h) × List Bts) : Prop where
 len : r.1.length = r.2.length + 1
 up : upB r.2
 ok : ∀ s ∈ r.2, keyOk s
 wf : ∀ x ∈ r.1, WFT h x
 btw : ∀ i x, r.1[i]? = some x -> between i r.2 (esT h x)
 es : r.1.flatMap (esT h) = ks.flatMap (esT h)
end Go.Proofs.YtafilaiinbggoaaGreat
namespace Go.Proofs.YtafilaiinbggoaaGreat
theorem Kids.low {h : Nat} {ks : List (Tree h)} {keys : List Bts} {k i : Nat} {a b : Tree h} {s : Bts} (hk : Kids h ks keys k) (ha : ks[i]? = some a) (hb : ks[i + 1]? = some b) (hs : keys[i]? = some s) {e : Bts × Bts} (he : e ∈ esT h a ++ esT h b) {j : Nat} {p : Bts} (hj : j < i) (hp : keys[j]? = some p) : ltB e.1 p = false := by
 have h7 := upB_at hk.up hp hs hj
 have hle : ∀ c : Bts, ltB e.1 c = false -> ltB p c = true \/ p = c -> ltB e.1 p = false := fun c h1 h2 => by
  rcases h2 with h2 | rfl
  ·cases h8 : ltB e.1 p with
   | false => rfl
   | true => rw [ltB_trans h8 h2] at h1; cases h1
  ·exact h1
 rcases List.mem_append.1 he with he | he
 ·obtain ⟨d, rfl⟩ : ∃ d, i = d + 1 := ⟨i - 1, by omega⟩
  obtain ⟨hl, hs'⟩ := List.getElem?_eq_some_iff.1 hs
  have hd : keys[d]? = some (keys[d]'(by omega)) := List.getElem?_eq_getElem (by omega)
  refine hle _ ((hk.btw (d + 1) a ha e he).1 d _ rfl hd) ?_
  rcases Nat.lt_or_ge j d with hjd | hjd
  ·exact .inl (upB_at hk.up hp hd hjd)
  ·obtain rfl : j = d := by omega
   rw [hd] at hp
   exact .inr (Option.some.inj hp).symm
 ·exact hle s ((hk.btw (i + 1) b hb e he).1 i s rfl hs) (.inl h7)
theorem Kids.parts {h : Nat} {ks : List (Tree h)} {keys : List Bts} {k : Nat} (hk : Kids h ks keys k) (hw : ∀ x, ks[k]? = some x -> WFT h x) : Parts h ks keys (ks, keys) :=
 ⟨hk.len, hk.up, hk.ok, fun x hx => by
  obtain ⟨i, hi, rfl⟩ := List.getElem_of_mem hx
  rcases Nat.decEq i k with h1 | rfl
  ·exact (hk.wfs i _ (List.getElem?_eq_getElem hi)).2 h1
  ·exact hw _ (List.getElem?_eq_getElem hi), hk.btw, rfl⟩
end Go.Proofs.YtafilaiinbggoaaGreat
namespace Go.Proofs.YtafilaiinbggoaaGreat
def delAt {α : Type} (i : Nat) (l : List α) : List α := l.take i ++ l.drop (i + 1)
def CutR : (h : Nat) -> Tree h -> Bts -> Option (Tree h) -> Prop
 | 0, t, k, r => (delE k t.2 = [] /\ r = none) \/ (delE k t.2 ≠ [] /\ r = some (t.1, delE k t.2))
 | h + 1, t, k, r => ∃ x c, t.2.1[kidB k t.2.2]? = some x /\ CutR h x k c /\ match c with
  | none => (delAt (kidB k t.2.2) t.2.1 = [] /\ r = none) \/ (delAt (kidB k t.2.2) t.2.1 ≠ [] /\ ∃ p, JoinR h (delAt (kidB k t.2.2) t.2.1) (delAt (kidB k t.2.2 - 1) t.2.2) (min (kidB k t.2.2 - 1) ((delAt (kidB k t.2.2) t.2.1).length - 1)) p /\ r = some (mkT h t.1 p.1 p.2))
  | some y => ∃ p, JoinR h (t.2.1.set (kidB k t.2.2) y) t.2.2 (min (kidB k t.2.2) ((t.2.1.set (kidB k t.2.2) y).length - 1)) p /\ r = some (mkT h t.1 p.1 p.2)
end Go.Proofs.YtafilaiinbggoaaGreat
namespace Go.Proofs.YtafilaiinbggoaaGreat
abbrev Top := Option (Σ h, Tree h)
def esO : Top -> EL
 | none => []
 | some ⟨h, t⟩ => esT h t
def PutTop (o : Top) (k v : Bts) (o' : Top) : Prop := match o with
 | none => ∃ m, o' = some ⟨0, (m, [(k, v)])⟩
 | some ⟨h, t⟩ => ∃ r, PutR h t k v r /\ match r.2 with
  | none => o' = some ⟨h, r.1⟩
  | some (s, y) => ∃ m, o' = some ⟨h + 1, mkT h m [r.1, y] [s]⟩
def CutTop (o : Top) (k : Bts) (o' : Top) : Prop := match o with
 | none => o' = none
 | some ⟨h, t⟩ => ∃ c, CutR h t k c /\ match c with
  | none => o' = none
  | some u => (¬ thinT h u /\ o' = some ⟨h, u⟩) \/ ∃ (g : Nat) (e : h = g + 1) (z : Tree g), ((e ▸ u : Tree (g + 1)).2.2 = [] /\ (e ▸ u : Tree (g + 1)).2.1[0]? = some z /\ o' = some ⟨g, z⟩)
end Go.Proofs.YtafilaiinbggoaaGreat
namespace Go.Proofs.YtafilaiinbggoaaGreat
def inR (f t k : Bts) : Bool := !ltB k f && (decide (t = []) || ltB k t)
def rngE (f t : Bts) (l : EL) : EL := l.filter fun e => inR f t e.1
def ordE {α : Type} (back : Bool) (l : List α) : List α := if back = true then l.reverse else l
theorem rng_ord (f t : Bts) (b : Bool) (l : EL) : rngE f t (ordE b l) = ordE b (rngE f t l) := by
 cases b with
 | false => rfl
 | true => exact List.filter_reverse ..
theorem rng_nil {f t : Bts} {l : EL} (h : ∀ e ∈ l, inR f t e.1 = false) : rngE f t l = [] := List.filter_eq_nil_iff.2 fun e he => by rw [h e he]; decide
def visit (f t : Bts) (most : Nat) : EL -> EL -> EL × Bool
 | out, [] => (out, true)
 | out, e :: l => if inR f t e.1 = true then if (out ++ [e]).length < most then visit f t most (out ++ [e]) l else (out ++ [e], false) else visit f t most out l
theorem visit_cons (f t : Bts) (most : Nat) (out : EL) (e : Bts × Bts) (l : EL) : visit f t most out (e :: l) = if inR f t e.1 = true then if (out ++ [e]).length < most then visit f t most (out ++ [e]) l else (out ++ [e], false) else visit f t most out l := rfl
theorem visit_app (f t : Bts) (most : Nat) : ∀ (a out b : EL), visit f t most out (a ++ b) = if (visit f t most out a).2 = true then visit f t most (visit f t most out a).1 b else ((visit f t most out a).1, false)
 | [], out, b => by simp [visit]
 | e :: a, out, b => by
  rw [List.cons_append, visit_cons, visit_cons]
  split
  ·split
   ·exact visit_app f t most a _ b
   ·simp
  ·exact visit_app f t most a _ b
theorem visit_on {f t : Bts} {most : Nat} : ∀ {a out : EL}, out.length < most -> (visit f t most out a).2 = true -> (visit f t most out a).1.length < most
 | [], out, h, _ => h
 | e :: a, out, h, h2 => by
  unfold visit at h2 |-
  split
  ·rename_i h3
   rw [if_pos h3] at h2
   split
   ·rename_i h4
    rw [if_pos h4] at h2
    exact visit_on h4 h2
   ·rename_i h4
    rw [if_neg h4] at h2
    cases h2
  ·rename_i h3
   rw [if_neg h3] at h2
   exact visit_on h h2
theorem visit_all {f t : Bts} {most : Nat} : ∀ (a out : EL), out.length < most -> visit f t most out a = ((out ++ rngE f t a).take most, decide ((out ++ rngE f t a).length < most))
 | [], out, h => by
  have e : rngE f t [] = [] := rfl
  rw [e, List.append_nil, List.take_of_length_le (by omega), decide_eq_true h]
  rfl
 | e :: a, out, h => by
  unfold visit
  have hr : rngE f t (e :: a) = if inR f t e.1 = true then e :: rngE f t a else rngE f t a := List.filter_cons
  rw [hr]
  split
  ·have e2 : out ++ e :: rngE f t a = (out ++ [e]) ++ rngE f t a := by simp
   rw [e2]
   split
   ·rename_i h4
    exact visit_all a _ h4
   ·rename_i h4
    have h5 : (out ++ [e]).length = most := by rw [List.length_append, List.length_singleton] at h4 |-; omega
    rw [List.take_left' h5, decide_eq_false (by rw [List.length_append]; omega)]
  ·exact visit_all a out h
def within (lo hi : Option Bts) (l : EL) : Prop := ∀ e ∈ l, (∀ a, lo = some a -> ltB e.1 a = false) /\ ∀ c, hi = some c -> ltB e.1 c = true
def meetsB (f t : Bts) (lo hi : Option Bts) : Bool := (match hi with | none => true | some c => ltB f c) && (match lo with | none => true | some a => decide (t = []) || ltB a t)
theorem skip_part {f t : Bts} {lo hi : Option Bts} {l : EL} (hw : within lo hi l) (hm : meetsB f t lo hi = false) : rngE f t l = [] := by
 refine rng_nil fun e he => ?_
 obtain ⟨h1, h2⟩ := hw e he
 unfold meetsB at hm
 unfold inR
 rcases Bool.and_eq_false_iff.1 hm with hm | hm
 ·cases hi with
  | none => cases hm
  | some c =>
   have h3 : ltB e.1 f = true := ltB_le_trans (h2 c rfl) hm
   rw [h3]; rfl
 ·cases lo with
  | none => cases hm
  | some a =>
   obtain ⟨h4, h5⟩ := Bool.or_eq_false_iff.1 hm
   have h3 : ltB e.1 t = false := by
    cases h6 : ltB e.1 t with
    | false => rfl
    | true => rw [le_ltB_trans (h1 a rfl) h6] at h5; cases h5
   rw [h4, h3, Bool.or_self, Bool.and_false]
theorem visit_skip {f t : Bts} {most : Nat} : ∀ {l : EL} (out : EL), rngE f t l = [] -> visit f t most out l = (out, true)
 | [], _, _ => rfl
 | e :: l, out, h => by
  have hr : rngE f t (e :: l) = if inR f t e.1 = true then e :: rngE f t l else rngE f t l := List.filter_cons
  rw [hr] at h
  unfold visit
  split at h
  ·cases h
  ·rename_i h1
   rw [if_neg h1]
   exact visit_skip out h
def lowAt (keys : List Bts) (lo : Option Bts) : Nat -> Option Bts
 | 0 => lo
 | i + 1 => keys[i]?
def highAt (keys : List Bts) (hi : Option Bts) (i : Nat) : Option Bts := match keys[i]? with
 | none => hi
 | some c => some c
theorem kid_within {h : Nat} {t : Tree (h + 1)} {lo hi : Option Bts} {i : Nat} {x : Tree h} (hw : WFT (h + 1) t) (hb : within lo hi (esT (h + 1) t)) (hx : t.2.1[i]? = some x) : within (lowAt t.2.2 lo i) (highAt t.2.2 hi i) (esT h x) := by
 have ho := nodeOk_of hw
 intro e he
 obtain ⟨b1, b2⟩ := ho.btw i x hx e he
 obtain ⟨c1, c2⟩ := hb e (List.mem_flatMap.2 ⟨x, List.mem_of_getElem? hx, he⟩)
 refine ⟨fun a ha => ?_, fun c hc => ?_⟩
 ·cases i with
  | zero => exact c1 a ha
  | succ i => exact b1 i a rfl ha
 ·unfold highAt at hc
  split at hc
  ·exact c2 c hc
  ·rename_i h1
   exact b2 c (by rw [h1]; exact hc)
theorem ord_flat {h : Nat} (b : Bool) (ks : List (Tree h)) : ordE b (ks.flatMap (esT h)) = (ordE b ks).flatMap fun x => ordE b (esT h x) := by
 cases b with
 | false => rfl
 | true =>
  show (ks.flatMap (esT h)).reverse = ks.reverse.flatMap fun x => (esT h x).reverse
  exact List.reverse_flatMap ..
def ordI (b : Bool) (n i : Nat) : Nat := if b = true then n - 1 - i else i
theorem ord_get {α : Type} (b : Bool) (l : List α) {i : Nat} (h : i < l.length) : (ordE b l)[i]? = l[ordI b l.length i]? := by
 cases b with
 | false => rfl
 | true => exact List.getElem?_reverse h
theorem visit_next {f t : Bts} {most : Nat} {h : Nat} {b : Bool} {ks : List (Tree h)} {i : Nat} {x : Tree h} (out : EL) (hx : (ordE b ks)[i]? = some x) (hon : (visit f t most out (((ordE b ks).take i).flatMap fun x => ordE b (esT h x))).2 = true) :
  visit f t most out (((ordE b ks).take (i + 1)).flatMap fun x => ordE b (esT h x)) = visit f t most (visit f t most out (((ordE b ks).take i).flatMap fun x => ordE b (esT h x))).1 (ordE b (esT h x)) := by
 have hl := (List.getElem?_eq_some_iff.1 hx).1
 rw [List.take_add_one, hx, List.flatMap_append, visit_app, if_pos hon]
 simp
theorem visit_last {f t : Bts} {most : Nat} {h : Nat} {b : Bool} {ks : List (Tree h)} {i : Nat} {x : Tree h} (out : EL) (hx : (ordE b ks)[i]? = some x) (hon : (visit f t most out (((ordE b ks).take i).flatMap fun x => ordE b (esT h x))).2 = true)
  (hoff : (visit f t most (visit f t most out (((ordE b ks).take i).flatMap fun x => ordE b (esT h x))).1 (ordE b (esT h x))).2 = false) :
  visit f t most out (ordE b (ks.flatMap (esT h))) = ((visit f t most (visit f t most out (((ordE b ks).take i).flatMap fun x => ordE b (esT h x))).1 (ordE b (esT h x))).1, false) := by
 have h1 := visit_next out hx hon
 rw [ord_flat]
 have h2 : ordE b ks = (ordE b ks).take (i + 1) ++ (ordE b ks).drop (i + 1) := (List.take_append_drop ..).symm
 rw [<- h1] at hoff |-
 conv => lhs; rw [h2, List.flatMap_append, visit_app]
 rw [if_neg (by rw [hoff]; decide)]
theorem rng_none {f t : Bts} (ht : t ≠ []) (h : ltB f t = false) (l : EL) : rngE f t l = [] := rng_nil fun e _ => by
 unfold inR
 rw [decide_eq_false ht, Bool.false_or]
 cases h1 : ltB e.1 f with
 | true => rfl
 | false =>
  cases h2 : ltB e.1 t with
  | false => rfl
  | true => rw [le_ltB_trans h1 h2] at h; cases h
end Go.Proofs.YtafilaiinbggoaaGreat
namespace Go.Proofs.YtafilaiinbggoaaGreat
def escB : Bts -> Bts
 | [] => []
 | c :: l => if c = 0 then 0 :: 255 :: escB l else c :: escB l
def frontB (s : UInt8) (name : Bts) (mark : UInt8) : Bts := s :: (escB name ++ [0, mark])
def u64B (x : Nat) : Bts := [UInt8.ofNat (x / 72057594037927936), UInt8.ofNat (x / 281474976710656), UInt8.ofNat (x / 1099511627776), UInt8.ofNat (x / 4294967296), UInt8.ofNat (x / 16777216), UInt8.ofNat (x / 65536), UInt8.ofNat (x / 256), UInt8.ofNat x]
def stampB (s : UInt8) (name : Bts) (t : Nat) : Bts := frontB s name 0 ++ u64B (18446744073709551615 - t)
theorem escB_len (l : Bts) : (escB l).length <= 2 * l.length := by
 induction l with
 | nil => exact Nat.le_refl _
 | cons c l ih =>
  unfold escB
  split <;> simp only [List.length_cons] <;> omega
theorem stampB_len (s : UInt8) (name : Bts) (t : Nat) : (stampB s name t).length = (escB name).length + 11 := by
 unfold stampB frontB u64B
 simp only [List.length_append, List.length_cons, List.length_nil]
theorem lex_app (a b c : Bts) : lexC (a ++ b) (a ++ c) = lexC b c := by
 induction a with
 | nil => rfl
 | cons x a ih =>
  rw [List.cons_append, List.cons_append, lexC, if_neg (by omega), if_neg (by omega)]
  exact ih
theorem lex_prefix (a b : Bts) : 0 <= lexC (a ++ b) a := by
 have h := lex_app a b []
 rw [List.append_nil] at h
 rw [h]
 cases b with
 | nil => exact Int.le_refl _
 | cons x b => unfold lexC; omega
theorem small_time {t : Nat} (h : t <= 200) : u64B (18446744073709551615 - t) = [255, 255, 255, 255, 255, 255, 255] ++ [UInt8.ofNat (255 - t)] := by
 have e : ∀ a b : Nat, a % 256 = b % 256 -> UInt8.ofNat a = UInt8.ofNat b := fun a b h => UInt8.toNat_inj.1 (by rw [UInt8.toNat_ofNat', UInt8.toNat_ofNat']; exact h)
 unfold u64B
 rw [e ((18446744073709551615 - t) / 72057594037927936) 255 (by omega), e ((18446744073709551615 - t) / 281474976710656) 255 (by omega), e ((18446744073709551615 - t) / 1099511627776) 255 (by omega), e ((18446744073709551615 - t) / 4294967296) 255 (by omega), e ((18446744073709551615 - t) / 16777216) 255 (by omega), e ((18446744073709551615 - t) / 65536) 255 (by omega), e ((18446744073709551615 - t) / 256) 255 (by omega), e (18446744073709551615 - t) (255 - t) (by omega)]
 rfl
theorem stamp_less {s : UInt8} {name : Bts} {t u : Nat} (h : t < u) (hu : u <= 200) : ltB (stampB s name u) (stampB s name t) = true := by
 unfold ltB stampB
 rw [lex_app, small_time hu, small_time (by omega), lex_app]
 refine decide_eq_true ?_
 rw [lexC, if_pos]
 ·omega
 ·rw [UInt8.toNat_ofNat', UInt8.toNat_ofNat']
  omega
theorem stamp_from (s : UInt8) (name : Bts) (t : Nat) : ltB (stampB s name t) (frontB s name 0) = false := by
 unfold ltB stampB
 exact decide_eq_false (by have := lex_prefix (frontB s name 0) (u64B (18446744073709551615 - t)); omega)
theorem stamp_to (s : UInt8) (name : Bts) (t : Nat) : ltB (stampB s name t) (frontB s name 1) = true := by
 unfold ltB stampB frontB
 refine decide_eq_true ?_
 rw [List.cons_append, List.append_assoc, lexC, if_neg (by omega), if_neg (by omega), lex_app]
 unfold u64B
 simp [lexC]
theorem stamp_home (s : UInt8) (name : Bts) (t : Nat) : ltB (stampB s name t) (frontB s [] 0) = false := by
 unfold ltB stampB frontB
 refine decide_eq_false ?_
 rw [List.cons_append, lexC, if_neg (by omega), if_neg (by omega)]
 cases name with
 | nil =>
  have h := lex_prefix ([0, 0] : Bts) (u64B (18446744073709551615 - t))
  show ¬ lexC (escB [] ++ [0, 0] ++ u64B (18446744073709551615 - t)) (escB [] ++ [0, 0]) < 0
  unfold escB
  simp only [List.nil_append]
  omega
 | cons c l =>
  have e0 : escB ([] : Bts) = [] := rfl
  rw [e0]
  unfold escB
  split
  ·simp [lexC]
  ·rename_i hc
   have hc2 : ¬ c.toNat < (0 : UInt8).toNat := by simp
   have hc3 : (0 : UInt8).toNat < c.toNat := by
    have : c.toNat ≠ 0 := fun e => hc (UInt8.toNat_inj.1 e)
    simpa using Nat.pos_of_ne_zero this
   simp only [List.cons_append, List.nil_append]
   rw [lexC, if_neg hc2, if_pos hc3]
   omega
theorem stamp_next {s u : UInt8} (h : s.toNat < u.toNat) (name : Bts) (t : Nat) : ltB (stampB s name t) [u] = true := by
 unfold ltB stampB frontB
 refine decide_eq_true ?_
 rw [List.cons_append, lexC, if_pos h]
 omega
def stE (s : UInt8) (name : Bts) : List Bts -> EL
 | [] => []
 | v :: vs => (stampB s name (vs.length + 1), v) :: stE s name vs
theorem stE_put {s : UInt8} {name v : Bts} {vs : List Bts} (h : vs.length + 1 <= 200) : putE (stampB s name (vs.length + 1)) v (stE s name vs) = stE s name (v :: vs) := by
 cases vs with
 | nil => rfl
 | cons u us =>
  have hl : ltB (stampB s name (us.length + 1 + 1)) (stampB s name (us.length + 1)) = true := stamp_less (by omega) (by simpa using h)
  show putE _ v ((stampB s name (us.length + 1), u) :: stE s name us) = _
  unfold putE
  have e1 : ltB (stampB s name (us.length + 1)) (stampB s name ((u :: us).length + 1)) = false := ltB_asym hl
  rw [if_neg (by rw [e1]; decide), if_neg]
  ·rfl
  ·intro e
   have e2 : stampB s name (us.length + 1) = stampB s name (us.length + 1 + 1) := e
   rw [e2, ltB_irrefl] at hl
   cases hl
theorem stE_len (s : UInt8) (name : Bts) : ∀ vs : List Bts, (stE s name vs).length = vs.length
 | [] => rfl
 | v :: vs => by
  show (stE s name vs).length + 1 = vs.length + 1
  rw [stE_len s name vs]
theorem stE_keys {s : UInt8} {name : Bts} : ∀ {vs : List Bts} {e : Bts × Bts}, e ∈ stE s name vs -> ∃ t, e.1 = stampB s name t
 | [], e, h => by cases h
 | v :: vs, e, h => by
  rcases List.mem_cons.1 (show e ∈ (stampB s name (vs.length + 1), v) :: stE s name vs from h) with rfl | h
  ·exact ⟨_, rfl⟩
  ·exact stE_keys h
theorem stE_one (s : UInt8) (name : Bts) (vs : List Bts) : rngE (frontB s name 0) (frontB s name 1) (stE s name vs) = stE s name vs := by
 refine List.filter_eq_self.2 fun e he => ?_
 obtain ⟨t, ht⟩ := stE_keys he
 unfold inR
 rw [ht, stamp_from, stamp_to]
 simp
theorem stE_all {s u : UInt8} (h : s.toNat < u.toNat) (name : Bts) (vs : List Bts) : rngE (frontB s [] 0) [u] (stE s name vs) = stE s name vs := by
 refine List.filter_eq_self.2 fun e he => ?_
 obtain ⟨t, ht⟩ := stE_keys he
 unfold inR
 rw [ht, stamp_home, stamp_next h]
 simp
end Go.Proofs.YtafilaiinbggoaaGreat
