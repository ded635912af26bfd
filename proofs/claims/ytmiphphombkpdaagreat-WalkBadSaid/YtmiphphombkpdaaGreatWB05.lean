import Derived.Test.YtmiphphombkpdaaGreatWB04
namespace Go.Proofs.YtmiphphombkpdaaGreat
theorem even_ok {h : Nat} {ks : List (Tree h)} {keys : List Bts} {k : Nat} {r : List (Tree h) × List Bts} (hk : Kids h ks keys k) (ht : ∀ x, ks[k]? = some x -> thinT h x -> 2 <= ks.length)
  (hc : ∀ i, i = k \/ i + 1 = k -> cannotJ h ks keys i) (hr : evenR h ks keys k r) : Parts h ks keys r := by
 cases h with
 | zero =>
  obtain rfl : r = (ks, keys) := hr
  exact hk.parts fun x hx => (hk.wfs k x hx).1
 | succ h =>
  obtain ⟨c, hx, hr⟩ := hr
  rcases hr with ⟨h1, rfl⟩ | ⟨h1, h2, a, b, s, j, q, ha, hb, hs, hj, hq, rfl⟩
  ·refine hk.parts fun x hx' => ?_
   rw [hx] at hx'
   obtain rfl := Option.some.inj hx'
   refine wft_of (h + 1) (hk.wfs k c hx).1 fun hth => ?_
   have h3 := ht c hx hth
   rcases h1 with h1 | h1
   ·exact h1 hth
   ·omega
  ·have hi : k - 1 = k \/ k - 1 + 1 = k := by omega
   have hcan := hc _ hi a b s ha hb hs
   obtain ⟨e1, e2⟩ := hk.around ha hb hs
   have wa := (hk.wfs _ a ha).1
   have wb := (hk.wfs _ b hb).1
   have hso := hk.ok s (List.mem_of_getElem? hs)
   have hth : a.2.2 = [] \/ b.2.2 = [] := by
    rcases hi with h3 | h3
    ·rw [h3, hx] at ha
     exact .inl (Option.some.inj ha ▸ h1)
    ·rw [h3, hx] at hb
     exact .inr (Option.some.inj hb ▸ h1)
   have hbig : 1024 < szNode (a.2.2 ++ s :: b.2.2) := by
    refine Nat.lt_of_not_le fun hle => hcan ⟨hle, ?_⟩
    rcases hth with h3 | h3
    ·exact .inl h3
    ·exact .inr (.inl h3)
   have hle : szNode (a.2.2 ++ s :: b.2.2) <= 1269 := by
    have h3 := szK_le hso
    have h4 : szNode a.2.2 <= 1024 := wa.2.2.2.1
    have h5 : szNode b.2.2 <= 1024 := wb.2.2.2.1
    unfold szNode at h4 h5 |-
    rcases hth with h6 | h6 <;> rw [h6] <;> simp only [List.nil_append, List.map_append, List.map_cons, List.map_nil, List.sum_append, List.sum_cons, List.sum_nil] <;> omega
   have hl : layNode h a.1 (a.2.1 ++ b.2.1) (a.2.2 ++ s :: b.2.2) (mkT h a.1 ((a.2.1 ++ b.2.1).take (j + 1)) ((a.2.2 ++ s :: b.2.2).take j), some (q, mkT h b.1 ((a.2.1 ++ b.2.1).drop (j + 1)) ((a.2.2 ++ s :: b.2.2).drop (j + 1)))) :=
    .inr ⟨hbig, j, b.1, q, hj, hq, rfl⟩
   have hp := lay_node hl (join_node wa wb hso e1 e2) hle
   refine two_ok hk hi ha hb hs (x := mkT h a.1 _ _) (y := mkT h b.1 _ _) ?_
   have hfl : (a.2.1 ++ b.2.1).flatMap (esT h) = esT (h + 1) a ++ esT (h + 1) b := List.flatMap_append
   rw [hfl] at hp
   exact hp
theorem join_ok {h : Nat} {ks : List (Tree h)} {keys : List Bts} {k : Nat} {r : List (Tree h) × List Bts} (hk : Kids h ks keys k) (ht : ∀ x, ks[k]? = some x -> thinT h x -> 2 <= ks.length) (hr : JoinR h ks keys k r) : Parts h ks keys r := by
 rcases hr with ⟨i, rfl, hm⟩ | ⟨_, hm⟩ | ⟨h1, h2, he⟩
 ·exact merge_ok hk (.inr rfl) hm
 ·exact merge_ok hk (.inl rfl) hm
 ·refine even_ok hk ht (fun i hi => ?_) he
  rcases hi with rfl | hi
  ·exact h2
  ·exact h1 i hi.symm
def shortT : (h : Nat) -> Tree h -> Prop
 | 0, t => ∀ e ∈ t.2, e.1.length <= 40 /\ e.2.length <= 260
 | h + 1, t => (∀ k ∈ t.2.2, k.length <= 40) /\ ∀ x ∈ t.2.1, shortT h x
def phiT : (h : Nat) -> Tree h -> Nat
 | 0, t => max t.2.length 2
 | h + 1, t => (t.2.1.map (phiT h)).sum
def Lite (h : Nat) (ks : List (Tree h)) (keys : List Bts) : Prop := (∀ k ∈ keys, k.length <= 40) /\ ∀ x ∈ ks, shortT h x
theorem short_join : ∀ (h : Nat) {a b : Tree h} {s : Bts}, shortT h a -> shortT h b -> s.length <= 40 -> shortT h (joinT h a s b)
 | 0, _, _, _, ha, hb, _ => fun e he => by
  rcases List.mem_append.1 he with he | he
  ·exact ha e he
  ·exact hb e he
 | _ + 1, _, _, _, ha, hb, hs => ⟨fun k hk => by
   rcases List.mem_append.1 hk with hk | hk
   ·exact ha.1 k hk
   ·rcases List.mem_cons.1 hk with rfl | hk
    ·exact hs
    ·exact hb.1 k hk, fun x hx => by
   rcases List.mem_append.1 hx with hx | hx
   ·exact ha.2 x hx
   ·exact hb.2 x hx⟩
theorem phi_join : ∀ (h : Nat) (a : Tree h) (s : Bts) (b : Tree h), phiT h (joinT h a s b) <= phiT h a + phiT h b
 | 0, a, _, b => by
  show max (a.2 ++ b.2).length 2 <= max a.2.length 2 + max b.2.length 2
  rw [List.length_append]
  omega
 | h + 1, a, s, b => by
  show ((a.2.1 ++ b.2.1).map (phiT h)).sum <= (a.2.1.map (phiT h)).sum + (b.2.1.map (phiT h)).sum
  rw [List.map_append, List.sum_append]
  exact Nat.le_refl _
theorem merge_lite {h : Nat} {ks : List (Tree h)} {keys : List Bts} {i : Nat} {r : List (Tree h) × List Bts} (hl : Lite h ks keys) (hr : mergeR h ks keys i r) :
  Lite h r.1 r.2 /\ (r.1.map (phiT h)).sum <= (ks.map (phiT h)).sum /\ (szNode keys <= 1024 -> szNode r.2 <= 1024) := by
 obtain ⟨a, b, s, ha, hb, hs, _, rfl⟩ := hr
 refine ⟨⟨fun k hk => ?_, fun x hx => ?_⟩, ?_, fun hz => ?_⟩
 ·rcases List.mem_append.1 hk with hk | hk
  ·exact hl.1 k (List.mem_of_mem_take hk)
  ·exact hl.1 k (List.mem_of_mem_drop hk)
 ·rcases List.mem_append.1 hx with hx | hx
  ·exact hl.2 x (List.mem_of_mem_take hx)
  ·rcases List.mem_cons.1 hx with rfl | hx
   ·exact short_join h (hl.2 a (List.mem_of_getElem? ha)) (hl.2 b (List.mem_of_getElem? hb)) (hl.1 s (List.mem_of_getElem? hs))
   ·exact hl.2 x (List.mem_of_mem_drop hx)
 ·conv => rhs; rw [two_list ha hb]
  have := phi_join h a s b
  simp only [List.map_append, List.map_cons, List.sum_append, List.sum_cons]
  omega
 ·have h1 : (keys.take i ++ keys.drop (i + 1)).Sublist keys := by
   conv => rhs; rw [<- List.take_append_drop i keys]
   exact (List.Sublist.refl _).append (List.drop_sublist_drop_left _ (Nat.le_succ i))
  have := sum_sub (h1.map szK)
  show szNode (keys.take i ++ keys.drop (i + 1)) <= 1024
  unfold szNode at hz |-
  omega
theorem short_size {keys : List Bts} (h1 : ∀ k ∈ keys, k.length <= 40) (h2 : keys.length <= 22) : szNode keys <= 1024 := by
 have h3 : (keys.map szK).sum <= (keys.map fun _ => 45).sum := sum_le fun x hx => by
  have := h1 x hx
  unfold szK
  omega
 rw [List.map_const', List.sum_replicate_nat] at h3
 unfold szNode
 omega
theorem even_lite {h : Nat} {ks : List (Tree h)} {keys : List Bts} {k : Nat} {r : List (Tree h) × List Bts} (hl : Lite h ks keys) (hz : szNode keys <= 1024) (hn : 1 <= h -> keys.length <= 22) (hr : evenR h ks keys k r) :
  Lite h r.1 r.2 /\ (r.1.map (phiT h)).sum <= (ks.map (phiT h)).sum /\ szNode r.2 <= 1024 := by
 cases h with
 | zero =>
  obtain rfl : r = (ks, keys) := hr
  exact ⟨hl, Nat.le_refl _, hz⟩
 | succ h =>
  obtain ⟨c, hx, hr⟩ := hr
  rcases hr with ⟨_, rfl⟩ | ⟨_, _, a, b, s, j, q, ha, hb, hs, _, hq, rfl⟩
  ·exact ⟨hl, Nat.le_refl _, hz⟩
  ·have la := hl.2 a (List.mem_of_getElem? ha)
   have lb := hl.2 b (List.mem_of_getElem? hb)
   obtain ⟨k1, k2⟩ : shortT (h + 1) (joinT (h + 1) a s b) := short_join (h + 1) la lb (hl.1 s (List.mem_of_getElem? hs))
   have k1' : ∀ p ∈ a.2.2 ++ s :: b.2.2, p.length <= 40 := k1
   have k2' : ∀ x ∈ a.2.1 ++ b.2.1, shortT h x := k2
   have hks : ∀ p ∈ keys.set (k - 1) q, p.length <= 40 := fun p hp => by
    rcases List.mem_or_eq_of_mem_set hp with hp | rfl
    ·exact hl.1 p hp
    ·exact k1' _ (List.mem_of_getElem? hq)
   refine ⟨⟨hks, fun x hx => ?_⟩, ?_, short_size hks (by rw [List.length_set]; exact hn (by omega))⟩
   ·rcases List.mem_append.1 hx with hx | hx
    ·exact hl.2 x (List.mem_of_mem_take hx)
    ·rcases List.mem_cons.1 hx with rfl | hx
     ·exact ⟨fun p hp => k1' p (List.mem_of_mem_take hp), fun x hx => k2' x (List.mem_of_mem_take hx)⟩
     ·rcases List.mem_cons.1 hx with rfl | hx
      ·exact ⟨fun p hp => k1' p (List.mem_of_mem_drop hp), fun x hx => k2' x (List.mem_of_mem_drop hx)⟩
      ·exact hl.2 x (List.mem_of_mem_drop hx)
   ·conv => rhs; rw [two_list ha hb]
    have h3 : ((a.2.1 ++ b.2.1).map (phiT h)).sum = phiT (h + 1) a + phiT (h + 1) b := by rw [List.map_append, List.sum_append]; rfl
    have h4 := sum_take_drop ((a.2.1 ++ b.2.1).map (phiT h)) (j + 1)
    rw [<- List.map_take, <- List.map_drop] at h4
    have h5 : phiT (h + 1) (mkT h a.1 ((a.2.1 ++ b.2.1).take (j + 1)) ((a.2.2 ++ s :: b.2.2).take j)) = (((a.2.1 ++ b.2.1).take (j + 1)).map (phiT h)).sum := rfl
    have h6 : phiT (h + 1) (mkT h b.1 ((a.2.1 ++ b.2.1).drop (j + 1)) ((a.2.2 ++ s :: b.2.2).drop (j + 1))) = (((a.2.1 ++ b.2.1).drop (j + 1)).map (phiT h)).sum := rfl
    simp only [List.map_append, List.map_cons, List.sum_append, List.sum_cons, h5, h6] at h3 h4 |-
    omega
theorem join_lite {h : Nat} {ks : List (Tree h)} {keys : List Bts} {k : Nat} {r : List (Tree h) × List Bts} (hl : Lite h ks keys) (hz : szNode keys <= 1024) (hn : 1 <= h -> keys.length <= 22) (hr : JoinR h ks keys k r) :
  Lite h r.1 r.2 /\ (r.1.map (phiT h)).sum <= (ks.map (phiT h)).sum /\ szNode r.2 <= 1024 := by
 rcases hr with ⟨_, _, hm⟩ | ⟨_, hm⟩ | ⟨_, _, he⟩
 ·obtain ⟨h1, h2, h3⟩ := merge_lite hl hm
  exact ⟨h1, h2, h3 hz⟩
 ·obtain ⟨h1, h2, h3⟩ := merge_lite hl hm
  exact ⟨h1, h2, h3 hz⟩
 ·exact even_lite hl hz hn he
end Go.Proofs.YtmiphphombkpdaaGreat
namespace Go.Proofs.YtmiphphombkpdaaGreat
def delAt {α : Type} (i : Nat) (l : List α) : List α := l.take i ++ l.drop (i + 1)
theorem delAt_get {α : Type} {l : List α} {i n : Nat} {x : α} (h : (delAt i l)[n]? = some x) : (n < i /\ l[n]? = some x) \/ (i <= n /\ l[n + 1]? = some x) := by
 unfold delAt at h
 rcases Nat.lt_or_ge n (l.take i).length with hn | hn
 ·have hni : n < i := by rw [List.length_take] at hn; omega
  rw [List.getElem?_append_left hn, List.getElem?_take, if_pos hni] at h
  exact .inl ⟨hni, h⟩
 ·rw [List.getElem?_append_right hn, List.getElem?_drop] at h
  rw [List.length_take] at hn h
  have hl := (List.getElem?_eq_some_iff.1 h).1
  have hil : min i l.length = i := by omega
  rw [hil] at hn h
  rw [show i + 1 + (n - i) = n + 1 by omega] at h
  exact .inr ⟨hn, h⟩
theorem delAt_sub {α : Type} (i : Nat) (l : List α) : (delAt i l).Sublist l := by
 unfold delAt
 conv => rhs; rw [<- List.take_append_drop i l]
 exact (List.Sublist.refl _).append (List.drop_sublist_drop_left _ (Nat.le_succ i))
theorem delAt_len {α : Type} {i : Nat} {l : List α} (h : i < l.length) : (delAt i l).length = l.length - 1 := by
 unfold delAt
 rw [List.length_append, List.length_take, List.length_drop]
 omega
theorem wft_thin : ∀ (h : Nat) {t : Tree h}, WFT h t -> ¬ thinT h t
 | 0, _, _, ht => ht
 | _ + 1, _, hw, ht => hw.1 ht
def CutR : (h : Nat) -> Tree h -> Bts -> Option (Tree h) -> Prop
 | 0, t, k, r => (delE k t.2 = [] /\ r = none) \/ (delE k t.2 ≠ [] /\ r = some (t.1, delE k t.2))
 | h + 1, t, k, r => ∃ x c, t.2.1[kidB k t.2.2]? = some x /\ CutR h x k c /\ match c with
  | none => (delAt (kidB k t.2.2) t.2.1 = [] /\ r = none) \/ (delAt (kidB k t.2.2) t.2.1 ≠ [] /\ ∃ p, JoinR h (delAt (kidB k t.2.2) t.2.1) (delAt (kidB k t.2.2 - 1) t.2.2) (min (kidB k t.2.2 - 1) ((delAt (kidB k t.2.2) t.2.1).length - 1)) p /\ r = some (mkT h t.1 p.1 p.2))
  | some y => ∃ p, JoinR h (t.2.1.set (kidB k t.2.2) y) t.2.2 (min (kidB k t.2.2) ((t.2.1.set (kidB k t.2.2) y).length - 1)) p /\ r = some (mkT h t.1 p.1 p.2)
theorem phi_pow : ∀ (h : Nat) {t : Tree h}, WFT h t -> 2 ^ (h + 1) <= phiT h t
 | 0, t, _ => by
  show 2 <= max t.2.length 2
  omega
 | h + 1, t, hw => by
  obtain ⟨h1, h2, _, _, _, h6, _⟩ := hw
  have h7 := sum_ge (l := t.2.1.map (phiT h)) (c := 2 ^ (h + 1)) fun x hx => by
   obtain ⟨y, hy, rfl⟩ := List.mem_map.1 hx
   exact phi_pow h (h6 y hy)
  rw [List.length_map] at h7
  have h8 : 2 <= t.2.1.length := by
   have := List.length_pos_iff.2 h1
   omega
  have h9 := Nat.mul_le_mul_right (2 ^ (h + 1)) h8
  show 2 ^ (h + 1 + 1) <= (t.2.1.map (phiT h)).sum
  rw [Nat.pow_succ]
  omega
theorem few_kids {h : Nat} {t : Tree (h + 1)} (hw : WFT (h + 1) t) (hp : phiT (h + 1) t <= 81) (hh : 1 <= h) : t.2.1.length <= 20 := by
 obtain ⟨_, _, _, _, _, h6, _⟩ := hw
 have h7 := sum_ge (l := t.2.1.map (phiT h)) (c := 4) fun x hx => by
  obtain ⟨y, hy, rfl⟩ := List.mem_map.1 hx
  have h8 := phi_pow h (h6 y hy)
  have h9 : 2 ^ 2 <= 2 ^ (h + 1) := Nat.pow_le_pow_right (by omega) (by omega)
  omega
 rw [List.length_map] at h7
 have : (t.2.1.map (phiT h)).sum <= 81 := hp
 omega
def CutOk (h : Nat) (t : Tree h) (k : Bts) (r : Option (Tree h)) : Prop := match r with
 | none => delE k (esT h t) = []
 | some u => WFS h u /\ esT h u = delE k (esT h t) /\ shortT h u /\ phiT h u <= phiT h t
theorem delE_len (k : Bts) (l : EL) : (delE k l).length <= l.length := (delE_sub k l).length_le
theorem cut_ok : ∀ (h : Nat) {t : Tree h} {k : Bts} {r : Option (Tree h)}, WFT h t -> shortT h t -> phiT h t <= 81 -> CutR h t k r -> CutOk h t k r
 | 0, t, k, r, hw, hsh, hp, hr => by
  rcases hr with ⟨h1, rfl⟩ | ⟨h1, rfl⟩
  ·exact h1
  ·obtain ⟨w1, w2, w3, w4⟩ := hw
   refine ⟨⟨h1, delE_up w2, fun e he => w3 e (delE_mem he), Nat.le_trans (delE_size k t.2) w4⟩, rfl, fun e he => hsh e (delE_mem he), ?_⟩
   show max (delE k t.2).length 2 <= max t.2.length 2
   have := delE_len k t.2
   omega
 | h + 1, t, k, r, hw, hsh, hp, hr => by
  obtain ⟨x, c, hx, hc, hr⟩ := hr
  have ho := nodeOk_of hw
  have hil := (List.getElem?_eq_some_iff.1 hx).1
  have hlen := ho.len
  have hne := List.length_pos_iff.2 ho.ne
  have hsz : szNode t.2.2 <= 1024 := hw.2.2.2.2.1
  have hA : ∀ e ∈ (t.2.1.take (kidB k t.2.2)).flatMap (esT h), ltB e.1 k = true := fun e he => kids_less ho he
  have hC : ∀ e ∈ (t.2.1.drop (kidB k t.2.2 + 1)).flatMap (esT h), ltB k e.1 = true := fun e he => kids_more ho he
  have hkle := kidB_le k t.2.2
  have hn : 1 <= h -> t.2.2.length <= 22 := fun hh => by
   have := few_kids hw hp hh
   omega
  generalize hi : kidB k t.2.2 = i at *
  have hall := split_list hx
  have hes : esT (h + 1) t = (t.2.1.take i).flatMap (esT h) ++ (esT h x ++ (t.2.1.drop (i + 1)).flatMap (esT h)) := by
   show t.2.1.flatMap (esT h) = _
   conv => lhs; rw [hall]
   rw [List.flatMap_append, List.flatMap_cons]
  have hdel : delE k (esT (h + 1) t) = (t.2.1.take i).flatMap (esT h) ++ (delE k (esT h x) ++ (t.2.1.drop (i + 1)).flatMap (esT h)) := by
   rw [hes]
   exact delE_app hA hC
  have hphi : phiT (h + 1) t = ((t.2.1.take i).map (phiT h)).sum + (phiT h x + ((t.2.1.drop (i + 1)).map (phiT h)).sum) := by
   show (t.2.1.map (phiT h)).sum = _
   conv => lhs; rw [hall]
   rw [List.map_append, List.map_cons, List.sum_append, List.sum_cons]
  have wx := ho.wf x (List.mem_of_getElem? hx)
  have ih := cut_ok h wx (hsh.2 x (List.mem_of_getElem? hx)) (by omega) hc
  have fin : ∀ {ks : List (Tree h)} {keys : List Bts} {n : Nat} {p : List (Tree h) × List Bts}, Parts h ks keys p -> Lite h p.1 p.2 -> szNode p.2 <= 1024 -> (p.1.map (phiT h)).sum <= (ks.map (phiT h)).sum -> ks.flatMap (esT h) = delE k (esT (h + 1) t) -> (ks.map (phiT h)).sum <= phiT (h + 1) t -> CutOk (h + 1) t k (some (mkT h t.1 p.1 p.2)) := fun hP hL hZ h1 h2 h3 =>
   ⟨⟨hP.len, hP.up, hP.ok, hZ, hP.wf, hP.btw⟩, hP.es.trans h2, hL, Nat.le_trans h1 h3⟩
  cases c with
  | none =>
   have ih' : delE k (esT h x) = [] := ih
   have hfl : (delAt i t.2.1).flatMap (esT h) = delE k (esT (h + 1) t) := by
    rw [hdel, ih', List.nil_append]
    unfold delAt
    rw [List.flatMap_append]
   rcases hr with ⟨h1, rfl⟩ | ⟨h1, p, hj, rfl⟩
   ·have := congrArg List.length h1
    rw [delAt_len hil] at this
    simp only [List.length_nil] at this
    omega
   ·have hk : Kids h (delAt i t.2.1) (delAt (i - 1) t.2.2) (min (i - 1) ((delAt i t.2.1).length - 1)) := by
     refine ⟨by rw [delAt_len hil, delAt_len (by omega)]; omega, List.Pairwise.sublist (delAt_sub _ _) ho.up, fun s hs => ho.ok s ((delAt_sub _ _).subset hs), fun q y hy => ?_, fun q y hy e he => ?_⟩
     ·have := ho.wf y ((delAt_sub _ _).subset (List.mem_of_getElem? hy))
      exact ⟨wfs_of h this, fun _ => this⟩
     ·rcases delAt_get hy with ⟨hq, hy⟩ | ⟨hq, hy⟩
      ·obtain ⟨c1, c2⟩ := ho.btw q y hy e he
       refine ⟨fun j s hj hs => ?_, fun s hs => ?_⟩
       ·rcases delAt_get hs with ⟨h3, h4⟩ | ⟨h3, h4⟩
        ·exact c1 j s hj h4
        ·omega
       ·rcases delAt_get hs with ⟨h3, h4⟩ | ⟨h3, h4⟩
        ·exact c2 s h4
        ·have hl4 := (List.getElem?_eq_some_iff.1 h4).1
         have h5 : t.2.2[q]? = some (t.2.2[q]'(by omega)) := List.getElem?_eq_getElem (by omega)
         exact ltB_trans (c2 _ h5) (upB_at ho.up h5 h4 (by omega))
      ·obtain ⟨c1, c2⟩ := ho.btw (q + 1) y hy e he
       refine ⟨fun j s hj hs => ?_, fun s hs => ?_⟩
       ·rcases delAt_get hs with ⟨h3, h4⟩ | ⟨h3, h4⟩
        ·omega
        ·exact c1 (j + 1) s (by omega) h4
       ·rcases delAt_get hs with ⟨h3, h4⟩ | ⟨h3, h4⟩
        ·omega
        ·exact c2 s h4
    have hL : Lite h (delAt i t.2.1) (delAt (i - 1) t.2.2) := ⟨fun s hs => hsh.1 s ((delAt_sub _ _).subset hs), fun y hy => hsh.2 y ((delAt_sub _ _).subset hy)⟩
    have hz : szNode (delAt (i - 1) t.2.2) <= 1024 := by
     have := sum_sub ((delAt_sub (i - 1) t.2.2).map szK)
     unfold szNode at hsz |-
     omega
    obtain ⟨l1, l2, l3⟩ := join_lite hL hz (fun hh => by have := hn hh; rw [delAt_len (by omega)]; omega) hj
    refine fin (n := 0) (join_ok hk (fun y hy hth => absurd hth (wft_thin h (ho.wf y ((delAt_sub _ _).subset (List.mem_of_getElem? hy))))) hj) l1 l3 l2 hfl ?_
    rw [hphi]
    unfold delAt
    rw [List.map_append, List.sum_append]
    omega
  | some y =>
   obtain ⟨y1, y2, y3, y4⟩ : WFS h y /\ esT h y = delE k (esT h x) /\ shortT h y /\ phiT h y <= phiT h x := ih
   obtain ⟨p, hj, rfl⟩ := hr
   have hset := set_list (x := y) hil
   have hfl : (t.2.1.set i y).flatMap (esT h) = delE k (esT (h + 1) t) := by
    rw [hdel, hset, List.flatMap_append, List.flatMap_cons, y2]
   have hmin : min i ((t.2.1.set i y).length - 1) = i := by rw [List.length_set]; omega
   rw [hmin] at hj
   have hget : ∀ q z, (t.2.1.set i y)[q]? = some z -> (q = i /\ z = y) \/ (q ≠ i /\ t.2.1[q]? = some z) := fun q z hz => by
    rw [List.getElem?_set] at hz
    split at hz
    ·rename_i hq
     first | rw [if_pos hil] at hz | skip
     exact .inl ⟨hq.symm, (Option.some.inj hz).symm⟩
    ·rename_i hq
     exact .inr ⟨fun e => hq e.symm, hz⟩
   have hk : Kids h (t.2.1.set i y) t.2.2 i := by
    refine ⟨by rw [List.length_set]; exact hlen, ho.up, ho.ok, fun q z hz => ?_, fun q z hz => ?_⟩
    ·rcases hget q z hz with ⟨rfl, rfl⟩ | ⟨hq, hz⟩
     ·exact ⟨y1, fun hne => absurd rfl hne⟩
     ·have := ho.wf z (List.mem_of_getElem? hz)
      exact ⟨wfs_of h this, fun _ => this⟩
    ·rcases hget q z hz with ⟨rfl, rfl⟩ | ⟨hq, hz⟩
     ·intro e he
      rw [y2] at he
      exact ho.btw q x hx e (delE_mem he)
     ·exact ho.btw q z hz
   have hL : Lite h (t.2.1.set i y) t.2.2 := ⟨hsh.1, fun z hz => by
    rcases List.mem_or_eq_of_mem_set hz with hz | rfl
    ·exact hsh.2 z hz
    ·exact y3⟩
   obtain ⟨l1, l2, l3⟩ := join_lite hL hsz hn hj
   refine fin (n := 0) (join_ok hk (fun _ _ _ => by rw [List.length_set]; omega) hj) l1 l3 l2 hfl ?_
   rw [hphi, hset, List.map_append, List.map_cons, List.sum_append, List.sum_cons]
   omega
end Go.Proofs.YtmiphphombkpdaaGreat
namespace Go.Proofs.YtmiphphombkpdaaGreat
theorem best_two {es : EL} {j : Nat} (hb : bestAt (maxLeaf es) (es.length - 1) j) (hE : ∀ e ∈ es, szE e <= 303) (h1 : 1024 < szLeaf es) : 2 <= j /\ j + 2 <= es.length := by
 have hs : szLeaf es = 3 + (es.map szE).sum := rfl
 have hle : ∀ l : EL, (∀ e ∈ l, szE e <= 303) -> (l.map szE).sum <= l.length * 303 := fun l hl => by
  have := sum_le (l := l) (f := szE) (g := fun _ => 303) hl
  rwa [List.map_const', List.sum_replicate_nat] at this
 have hn : 4 <= es.length := by
  have := hle es hE
  omega
 have td : ∀ i, ((es.take i).map szE).sum + ((es.drop i).map szE).sum = (es.map szE).sum := fun i => by
  have := sum_take_drop (es.map szE) i
  rwa [<- List.map_take, <- List.map_drop] at this
 have ts : ∀ i (hi : i < es.length), ((es.take (i + 1)).map szE).sum = ((es.take i).map szE).sum + szE es[i] := fun i hi => by
  have := sum_take_succ (es.map szE) (j := i) (w := szE es[i]) (by rw [List.getElem?_map, List.getElem?_eq_getElem hi]; rfl)
  rwa [<- List.map_take, <- List.map_take] at this
 have pos : ∀ e : Bts × Bts, 3 <= szE e := fun e => by unfold szE; omega
 have bd : ∀ i (hi : i < es.length), szE es[i] <= 303 := fun i hi => hE _ (List.getElem_mem hi)
 have ml : ∀ i, maxLeaf es i = max (3 + ((es.take i).map szE).sum) (3 + ((es.drop i).map szE).sum) := fun i => rfl
 obtain ⟨j1, j2, hbest⟩ := hb
 refine ⟨Nat.lt_of_not_le fun hj => ?_, Nat.lt_of_not_le fun hj => ?_⟩
 ·obtain rfl : j = 1 := by omega
  have h2 := hbest 2 (by omega) (by omega)
  rw [ml, ml] at h2
  have a0 : ((es.take 0).map szE).sum = 0 := rfl
  have a1 := ts 0 (by omega)
  have a2 := ts 1 (by omega)
  have b1 := bd 0 (by omega)
  have b2 := bd 1 (by omega)
  have p2 := pos (es[1]'(by omega))
  have t1 := td 1
  have t2 := td 2
  simp only [Nat.zero_add, Nat.reduceAdd] at a1 a2
  omega
 ·obtain ⟨m, hm⟩ : ∃ m, es.length = m + 2 := ⟨es.length - 2, by omega⟩
  obtain rfl : j = m + 1 := by omega
  have h2 := hbest m (by omega) (by omega)
  rw [ml, ml] at h2
  have a1 := ts m (by omega)
  have a2 := ts (m + 1) (by omega)
  have b1 := bd m (by omega)
  have b2 := bd (m + 1) (by omega)
  have p1 := pos (es[m]'(by omega))
  have t1 := td m
  have t2 := td (m + 1)
  have t3 : ((es.take (m + 1 + 1)).map szE).sum = (es.map szE).sum := by rw [List.take_of_length_le (by omega)]
  omega
theorem putE_len {k v : Bts} : ∀ l : EL, (putE k v l).length <= l.length + 1
 | [] => by simp [putE]
 | (x, y) :: l => by
  have ih := putE_len (k := k) (v := v) l
  unfold putE
  repeat' split
  all_goals simp only [List.length_cons]
  all_goals omega
def PutLite (h : Nat) (t : Tree h) (r : PRes h) : Prop := match r.2 with
 | none => shortT h r.1 /\ phiT h r.1 <= phiT h t + 1
 | some (s, y) => shortT h r.1 /\ shortT h y /\ s.length <= 40 /\ phiT h r.1 + phiT h y <= phiT h t + 1
theorem put_lite : ∀ (h : Nat) {t : Tree h} {k v : Bts} {r : PRes h}, shortT h t -> k.length <= 40 -> v.length <= 260 -> PutR h t k v r -> PutLite h t r
 | 0, t, k, v, r, hs, hk, hv, hr => by
  have hall : ∀ e ∈ putE k v t.2, e.1.length <= 40 /\ e.2.length <= 260 := fun e he => by
   rcases putE_fst_mem he with rfl | he
   ·exact ⟨hk, hv⟩
   ·exact hs e he
  have hlen := putE_len (k := k) (v := v) t.2
  rcases hr with ⟨h1, rfl⟩ | ⟨h1, j, m, s, hb, hsj, rfl⟩
  ·refine ⟨hall, ?_⟩
   show max (putE k v t.2).length 2 <= max t.2.length 2 + 1
   omega
  ·obtain ⟨j1, j2⟩ := best_two hb (fun e he => by have := hall e he; unfold szE; omega) h1
   refine ⟨fun e he => hall e (List.mem_of_mem_take he), fun e he => hall e (List.mem_of_mem_drop he), ?_, ?_⟩
   ·obtain ⟨e, he, rfl⟩ := List.mem_map.1 (List.mem_of_getElem? hsj)
    exact (hall e he).1
   ·show max ((putE k v t.2).take j).length 2 + max ((putE k v t.2).drop j).length 2 <= max t.2.length 2 + 1
    rw [List.length_take, List.length_drop]
    omega
 | h + 1, t, k, v, r, hs, hk, hv, hr => by
  obtain ⟨x, c, hx, hc, hr⟩ := hr
  have ih := put_lite h (hs.2 x (List.mem_of_getElem? hx)) hk hv hc
  have hil := (List.getElem?_eq_some_iff.1 hx).1
  have hall := split_list hx
  generalize kidB k t.2.2 = i at *
  have hphi : phiT (h + 1) t = ((t.2.1.take i).map (phiT h)).sum + (phiT h x + ((t.2.1.drop (i + 1)).map (phiT h)).sum) := by
   show (t.2.1.map (phiT h)).sum = _
   conv => lhs; rw [hall]
   rw [List.map_append, List.map_cons, List.sum_append, List.sum_cons]
  obtain ⟨c1, c2⟩ := c
  cases c2 with
  | none =>
   obtain ⟨i1, i2⟩ : shortT h c1 /\ phiT h c1 <= phiT h x + 1 := ih
   obtain rfl : r = ((t.1, t.2.1.set i c1, t.2.2), none) := hr
   refine ⟨⟨hs.1, fun z hz => ?_⟩, ?_⟩
   ·rcases List.mem_or_eq_of_mem_set hz with hz | rfl
    ·exact hs.2 z hz
    ·exact i1
   ·rw [hphi]
    show ((t.2.1.set i c1).map (phiT h)).sum <= _
    rw [set_list hil, List.map_append, List.map_cons, List.sum_append, List.sum_cons]
    omega
  | some sy =>
   obtain ⟨s, y⟩ := sy
   obtain ⟨i1, i2, i3, i4⟩ : shortT h c1 /\ shortT h y /\ s.length <= 40 /\ phiT h c1 + phiT h y <= phiT h x + 1 := ih
   have hr' : layNode h t.1 (insAt (i + 1) y (t.2.1.set i c1)) (insAt i s t.2.2) r := hr
   rw [ins_list hil] at hr'
   have hks : ∀ z ∈ t.2.1.take i ++ c1 :: y :: t.2.1.drop (i + 1), shortT h z := fun z hz => by
    rcases List.mem_append.1 hz with hz | hz
    ·exact hs.2 z (List.mem_of_mem_take hz)
    ·rcases List.mem_cons.1 hz with rfl | hz
     ·exact i1
     ·rcases List.mem_cons.1 hz with rfl | hz
      ·exact i2
      ·exact hs.2 z (List.mem_of_mem_drop hz)
   have hss : ∀ p ∈ insAt i s t.2.2, p.length <= 40 := fun p hp => by
    rcases List.mem_append.1 hp with hp | hp
    ·exact hs.1 p (List.mem_of_mem_take hp)
    ·rcases List.mem_cons.1 hp with rfl | hp
     ·exact i3
     ·exact hs.1 p (List.mem_of_mem_drop hp)
   have hsum : ((t.2.1.take i ++ c1 :: y :: t.2.1.drop (i + 1)).map (phiT h)).sum <= phiT (h + 1) t + 1 := by
    rw [hphi, List.map_append, List.map_cons, List.map_cons, List.sum_append, List.sum_cons, List.sum_cons]
    omega
   generalize t.2.1.take i ++ c1 :: y :: t.2.1.drop (i + 1) = ks at *
   generalize insAt i s t.2.2 = keys at *
   rcases hr' with ⟨_, rfl⟩ | ⟨_, j, m, q, _, hq, rfl⟩
   ·exact ⟨⟨hss, hks⟩, hsum⟩
   ·refine ⟨⟨fun p hp => hss p (List.mem_of_mem_take hp), fun z hz => hks z (List.mem_of_mem_take hz)⟩, ⟨fun p hp => hss p (List.mem_of_mem_drop hp), fun z hz => hks z (List.mem_of_mem_drop hz)⟩, hss q (List.mem_of_getElem? hq), ?_⟩
    have h4 := sum_take_drop (ks.map (phiT h)) (j + 1)
    rw [<- List.map_take, <- List.map_drop] at h4
    show ((ks.take (j + 1)).map (phiT h)).sum + ((ks.drop (j + 1)).map (phiT h)).sum <= _
    omega
abbrev Top := Option (Σ h, Tree h)
def esO : Top -> EL
 | none => []
 | some ⟨h, t⟩ => esT h t
def okO (n : Nat) : Top -> Prop
 | none => True
 | some ⟨h, t⟩ => WFT h t /\ shortT h t /\ phiT h t <= n + 1
def PutTop (o : Top) (k v : Bts) (o' : Top) : Prop := match o with
 | none => ∃ m, o' = some ⟨0, (m, [(k, v)])⟩
 | some ⟨h, t⟩ => ∃ r, PutR h t k v r /\ match r.2 with
  | none => o' = some ⟨h, r.1⟩
  | some (s, y) => ∃ m, o' = some ⟨h + 1, mkT h m [r.1, y] [s]⟩
theorem put_top {n : Nat} {o o' : Top} {k v : Bts} (ho : okO n o) (hk : keyOk k) (hk4 : k.length <= 40) (hv : v.length <= 260) (hr : PutTop o k v o') : okO (n + 1) o' /\ esO o' = putE k v (esO o) := by
 cases o with
 | none =>
  obtain ⟨m, rfl⟩ := hr
  refine ⟨⟨⟨by simp, List.pairwise_singleton _ _, fun e he => ?_, ?_⟩, fun e he => ?_, ?_⟩, rfl⟩
  ·obtain rfl := List.mem_singleton.1 he
   exact ⟨hk, hv⟩
  ·show 3 + ([(k, v)].map szE).sum <= 1024
   have := szE_le (e := (k, v)) ⟨hk, hv⟩
   simp only [List.map_cons, List.map_nil, List.sum_cons, List.sum_nil]
   omega
  ·obtain rfl := List.mem_singleton.1 he
   exact ⟨hk4, hv⟩
  ·show 2 <= n + 1 + 1
   omega
 | some ht =>
  obtain ⟨h, t⟩ := ht
  obtain ⟨w, hs, hp⟩ := ho
  obtain ⟨r, hr, ho'⟩ := hr
  have h1 := put_ok h w hk hv hr
  have h2 := put_lite h hs hk4 hv hr
  obtain ⟨a, b⟩ := r
  cases b with
  | none =>
   obtain rfl : o' = some ⟨h, a⟩ := ho'
   obtain ⟨w1, e1⟩ : WFT h a /\ esT h a = putE k v (esT h t) := h1
   obtain ⟨s1, p1⟩ : shortT h a /\ phiT h a <= phiT h t + 1 := h2
   exact ⟨⟨w1, s1, by omega⟩, e1⟩
  | some sy =>
   obtain ⟨s, y⟩ := sy
   obtain ⟨m, rfl⟩ : ∃ m, o' = some ⟨h + 1, mkT h m [a, y] [s]⟩ := ho'
   obtain ⟨wa, wy, hso, hes, ha, hy⟩ : WFT h a /\ WFT h y /\ keyOk s /\ esT h a ++ esT h y = putE k v (esT h t) /\ (∀ e ∈ esT h a, ltB e.1 s = true) /\ ∀ e ∈ esT h y, ltB e.1 s = false := h1
   obtain ⟨sa, sy, s4, hph⟩ : shortT h a /\ shortT h y /\ s.length <= 40 /\ phiT h a + phiT h y <= phiT h t + 1 := h2
   have hes2 : esT (h + 1) (mkT h m [a, y] [s]) = putE k v (esT h t) := by
    show [a, y].flatMap (esT h) = _
    rw [List.flatMap_cons, List.flatMap_cons, List.flatMap_nil, List.append_nil]
    exact hes
   refine ⟨⟨⟨by simp [mkT], rfl, List.pairwise_singleton _ _, fun p hp => ?_, ?_, fun z hz => ?_, fun i z hz e he => ?_⟩, ⟨fun p hp => ?_, fun z hz => ?_⟩, ?_⟩, hes2⟩
   ·obtain rfl := List.mem_singleton.1 hp
    exact hso
   ·show 7 + ([s].map szK).sum <= 1024
    have := szK_le hso
    simp only [List.map_cons, List.map_nil, List.sum_cons, List.sum_nil]
    omega
   ·rcases List.mem_cons.1 hz with rfl | hz
    ·exact wa
    ·obtain rfl := List.mem_singleton.1 hz
     exact wy
   ·have hz' : [a, y][i]? = some z := hz
    rcases i with _ | _ | i
    ·obtain rfl := Option.some.inj hz'
     refine ⟨fun j p hj _ => by omega, fun p hp => ?_⟩
     obtain rfl := Option.some.inj hp
     exact ha e he
    ·obtain rfl := Option.some.inj hz'
     refine ⟨fun j p hj hp => ?_, fun p hp => ?_⟩
     ·obtain rfl : j = 0 := by omega
      obtain rfl := Option.some.inj hp
      exact hy e he
     ·simp [mkT] at hp
    ·simp at hz'
   ·obtain rfl := List.mem_singleton.1 hp
    exact s4
   ·rcases List.mem_cons.1 hz with rfl | hz
    ·exact sa
    ·obtain rfl := List.mem_singleton.1 hz
     exact sy
   ·show ([a, y].map (phiT h)).sum <= n + 1 + 1
    simp only [List.map_cons, List.map_nil, List.sum_cons, List.sum_nil]
    omega
def CutTop (o : Top) (k : Bts) (o' : Top) : Prop := match o with
 | none => o' = none
 | some ⟨h, t⟩ => ∃ c, CutR h t k c /\ match c with
  | none => o' = none
  | some u => (¬ thinT h u /\ o' = some ⟨h, u⟩) \/ ∃ (g : Nat) (e : h = g + 1) (z : Tree g), ((e ▸ u : Tree (g + 1)).2.2 = [] /\ (e ▸ u : Tree (g + 1)).2.1[0]? = some z /\ o' = some ⟨g, z⟩)
theorem cut_top {n : Nat} {o o' : Top} {k : Bts} (hn : n <= 80) (ho : okO n o) (hr : CutTop o k o') : okO n o' /\ esO o' = delE k (esO o) := by
 cases o with
 | none =>
  obtain rfl : o' = none := hr
  exact ⟨trivial, rfl⟩
 | some ht =>
  obtain ⟨h, t⟩ := ht
  obtain ⟨w, hs, hp⟩ := ho
  obtain ⟨c, hc, hr⟩ := hr
  have h1 := cut_ok h w hs (by omega) hc
  cases c with
  | none =>
   obtain rfl : o' = none := hr
   have h1' : delE k (esT h t) = [] := h1
   exact ⟨trivial, h1'.symm⟩
  | some u =>
   obtain ⟨wu, eu, su, pu⟩ : WFS h u /\ esT h u = delE k (esT h t) /\ shortT h u /\ phiT h u <= phiT h t := h1
   rcases hr with ⟨hth, rfl⟩ | ⟨g, rfl, z, hth, hz, rfl⟩
   ·exact ⟨⟨wft_of h wu hth, su, by omega⟩, eu⟩
   ·have hth' : u.2.2 = [] := hth
    have hz' : u.2.1[0]? = some z := hz
    obtain ⟨l1, l2, l3, l4, l5, l6⟩ := wu
    have hone : u.2.1 = [z] := by
     rw [hth'] at l1
     match e : u.2.1, l1, hz' with
     | [y], _, hy => exact congrArg (fun a => [a]) (Option.some.inj hy)
    refine ⟨⟨l5 z (List.mem_of_getElem? hz'), su.2 z (List.mem_of_getElem? hz'), ?_⟩, ?_⟩
    ·have h3 : phiT (g + 1) u = phiT g z := by
      show (u.2.1.map (phiT g)).sum = phiT g z
      rw [hone]
      simp
     omega
    ·show esT g z = delE k (esT (g + 1) t)
     rw [<- eu]
     show esT g z = u.2.1.flatMap (esT g)
     rw [hone]
     simp
end Go.Proofs.YtmiphphombkpdaaGreat
