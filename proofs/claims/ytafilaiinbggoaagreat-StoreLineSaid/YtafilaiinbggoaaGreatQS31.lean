import Derived.Test.YtafilaiinbggoaaGreatQS29
namespace Go.Proofs.YtafilaiinbggoaaGreat
open Go.RowKit Go.Maps
def TPutPost (Q : PQ) (R : Int -> Option Bts) (H : HS) (S : PS) (p c : Nat) (h : Nat) (t : Tree h) (k v : Bts) (w : World) (e : Ending) (w' : World) : Prop :=
 ∃ (r : PRes h) (ka : Option Addr) (kn kc : Nat) (H' : HS) (S' : PS) (p' : Nat), PutM S S' h t k v r /\ e = .returned (.tuple #[.agg #[.int .i64 (pgT h r.1 : Int), .slice ka kn kc, .int .i64 (behindT r)], .int .i64 0]) /\ (∀ s y, r.2 = some (s, y) -> YAt (cfU w') (.slice ka kn kc) s) /\ PG Q R H' S' p' w' /\ TurnS H.all w H'.all w' /\ p' <= p + c /\ freeP S <= freeP S' + (h + 1)
theorem lay_post_leaf {Q : PQ} {R : Int -> Option Bts} {H : HS} {S : PS} {p : Nat} {t : Tree 0} {k v : Bts} {w w' : World} {e : Ending} (hfr : S.is[t.1]? = some 2) (h : LayPost Q R H S p (leafN (putE k v t.2)) [t.1] w e w') : TPutPost Q R H S p 16 0 t k v w e w' := by
 obtain ⟨m, H', S', p', hG, hm, hT, hp, h⟩ := h
 have hm' : t.1 = m := by have := hm (by simp); simpa using this
 subst hm'
 rcases h with ⟨hz, he, hM, hc⟩ | ⟨hz, j, m2, ks, hj, he, hy, hM, hc, hc2⟩
 ·exact ⟨_, none, 0, 0, H', S', p', putM_leaf hM hc (by rw [<- size_leaf]; exact hz), he, fun s y e2 => (by cases e2), hG, hT, hp, by have := hM.free2 (nodup_one _) (fun p hp => by rw [List.mem_singleton.1 hp]; exact hfr); simp at this; omega⟩
 ·obtain ⟨ka, kc, rfl⟩ := hy.form
  exact ⟨_, ka, _, kc, H', S', p', putM_leaf2 hM (by rw [<- size_leaf]; exact hz) hj hc hc2, he, fun s y e2 => (by cases e2; exact hy), hG, hT, hp, by have := hM.free2 (nodup_one _) (fun p hp => by rw [List.mem_singleton.1 hp]; exact hfr); simp at this; omega⟩
theorem TPutPost.outer {Q : PQ} {R : Int -> Option Bts} {H H1 : HS} {S S1 : PS} {p p1 c c1 q : Nat} {h : Nat} {t : Tree h} {k v : Bts} {w w4 w5 : World} {e : Ending} (hp : TPutPost Q R H1 S1 p1 c1 h t k v w4 e w5) (hs : SameP S S1) (hT : TurnS H.all w H1.all w4) (hpp : p1 + c1 <= p + c) {x0 x1 x2 : Value} (hq : w4.heap[q]? = some (.cells #[x0, x1, x2] 103 (0, 0))) (hq1 : ¬ H1.all q) (hwq : w.heap.size <= q) :
  ∃ (m : Nat) (ka : Option Addr) (kn kc : Nat) (b : Int), e = .returned (.tuple #[.agg #[.int .i64 (m : Int), .slice ka kn kc, .int .i64 b], .int .i64 0]) /\ w5.heap[q]? = some (.cells #[x0, x1, x2] 103 (0, 0)) /\ TPutPost Q R H S p c h t k v w e (set3 w5 q (.int .i64 (m : Int)) (.slice ka kn kc) (.int .i64 b)) := by
 obtain ⟨r, ka, kn, kc, H', S', p', hM, he, hy, hG, hT2, hp', hf'⟩ := hp
 obtain ⟨k1, k2⟩ := hT2.kept hq hq1
 have hg : w5.grownBy (set3 w5 q (.int .i64 (pgT h r.1 : Int)) (.slice ka kn kc) (.int .i64 (behindT r))) (some q) := set3_grown _ _ _ _ _
 have hnu : ∀ b, some q = some b -> ¬ IsU w5 b := fun b e => by cases e; exact fun ⟨_, _, e2⟩ => by rw [k1] at e2; cases e2
 exact ⟨pgT h r.1, ka, kn, kc, behindT r, he, k1, r, ka, kn, kc, H', S', p', hM.before hs, he, fun s y e2 => (hy s y e2).mono RY_mono (cfU_grown hg hnu), hG.beside hg (fun b e => ⟨by cases e; exact k2, hnu b e⟩), (hT.trans hT2).own hg hwq, by omega, by rw [<- free_same hs]; exact hf'⟩
set_option maxHeartbeats 8000000 in
set_option maxRecDepth 100000 in
theorem tree_put_leaf {Q : PQ} {R : Int -> Option Bts} {H : HS} {S : PS} {p : Nat} {tb deep : Nat} {root : Int} {t : Tree 0} {k v : Bts} {ks vs : Value} {w : World} (h : PG Q R H S p w) (ht : TB H w tb Q.pb root) (hp : p <= 999999900) (hd : deep <= 20) (hin : TreeIn S 0 t) (hk : keyOk k) (hv : v.length <= 260) (hyk : YAt (cfU w) ks k) (hyv : YAt (cfU w) vs v) (hf : 2 <= freeP S) :
  Calls Tryz.prog 31 #[.pointer (some ⟨tb, 0, none⟩), .int .i64 (t.1 : Int), .int .i64 (deep : Int), ks, vs] w (TPutPost Q R H S p 20 0 t k v w) := by
 obtain ⟨xa, xc, rfl⟩ := hyk.form
 obtain ⟨va, vc, rfl⟩ := hyv.form
 obtain ⟨xl, hxl⟩ : ∃ x, x = k.length := ⟨_, rfl⟩
 obtain ⟨vl, hvl⟩ : ∃ x, x = v.length := ⟨_, rfl⟩
 rw [<- hxl] at hyk |-
 rw [<- hvl] at hyv |-
 obtain ⟨q, hq⟩ : ∃ q, q = w.heap.size := ⟨_, rfl⟩
 obtain ⟨w1, hw1⟩ : ∃ w1, w1 = w.alloc (.cells #[.int .i64 0, .slice none 0 0, .int .i64 0] 103) := ⟨_, rfl⟩
 have hb1 : Below w.heap.size w w1 := by rw [hw1]; exact (Below.refl _ w).alloc (Nat.le_refl _) _
 have hbq : w1.heap[q]? = some (.cells #[.int .i64 0, .slice none 0 0, .int .i64 0] 103 (0, 0)) := by rw [hw1, hq]; exact heap_alloc_new w _
 have hpg : ∀ n, S.is[n]? = some 2 -> n <= 2147483647 := fun n hn => by
  have h1 := (List.getElem?_eq_some_iff.1 hn).1
  have h2 := h.len
  have h3 := h.small.1
  omega
 have hfr := hin.fresh t.1 (List.mem_singleton.2 rfl)
 have hsh : ShN (leafN t.2) := shT (h := 0) hin.wf fun n hn => hpg n (hin.fresh n hn)
 have hz : sizeN (leafN t.2) <= 1024 := sz_tree (h := 0) hin.wf
 have HRD := HoldT.mk (tree_read (deep := deep) (h.below hb1) (ht.below hb1) (by omega) hfr (.inr rfl) hd hsh hz (sitsN (h := 0) hin.wf hin.sits))
 have hqH : ¬ H.all q := fun e => by have := h.lt q e; omega
 have HH := HoldT.mk (And.intro h (And.intro ht (And.intro hp (And.intro hin (And.intro hk (And.intro hv (And.intro hyk (And.intro hyv (And.intro hf (And.intro hb1 (And.intro hbq (And.intro hq (And.intro hqH (And.intro hxl (And.intro hvl (And.intro hfr (And.intro hsh hz)))))))))))))))))
 have HW := HoldT.mk hw1
 clear h ht hp hd hin hk hv hyk hyv hf hb1 hbq hxl hvl hpg hfr hsh hz hqH hw1
 go_enter Tryz.func31, Tryz.ntmps31
 go_upto_region 1 with (fail)
 rw [<- HW.out, <- hq]
 clear hq
 go_wp2_with fail
 refine HRD.out.mono ?_
 rintro e w2 ⟨kv, vv, iv, H1, S1, p1, rfl, hN, hG1, hS1, hT1, hp1⟩
 have hbq1 := hT1.kept HH.out.2.2.2.2.2.2.2.2.2.2.1 HH.out.2.2.2.2.2.2.2.2.2.2.2.2.1
 obtain ⟨ka, kc, rfl⟩ := hN.own.nat.keys.form
 obtain ⟨wa, wc, rfl⟩ := hN.own.nat.vals.form
 obtain ⟨ia, ic, rfl⟩ := hN.own.nat.kids.form
 have hl1 : (leafN t.2).vals.length = (leafN t.2).keys.length := by show (t.2.map _).length = (t.2.map _).length; simp
 have hl3 : ((leafN t.2).kids.map Int.ofNat).length = 0 := rfl
 rw [hl1, hl3] at hN |-
 obtain ⟨nd, hnd⟩ : ∃ nd, nd = leafN t.2 := ⟨_, rfl⟩
 rw [<- hnd] at hN hl1 hl3 |-
 obtain ⟨m1, hm1⟩ : ∃ m, m = nd.keys.length := ⟨_, rfl⟩
 rw [<- hm1] at hN hl1 |-
 have hlf : nd.leaf = true := by rw [hnd]; rfl
 unfold nodeV
 rw [hlf]
 have hm9 : m1 <= 9000 := by rw [hm1, hnd]; exact HH.out.2.2.2.2.2.2.2.2.2.2.2.2.2.2.2.2.1.few
 have HN := HoldT.mk (And.intro hnd (And.intro hm1 (And.intro hl1 (And.intro hlf hN))))
 have HP := HoldT.mk (And.intro hG1 (And.intro hS1 (And.intro hT1 (And.intro hp1 hbq1))))
 clear hnd hm1 hl1 hl3 hlf hN hG1 hS1 hT1 hp1 hbq1
 go_upto_region 4 with (fail)
 obtain ⟨w3, hw3⟩ : ∃ w3, w3 = w2.alloc (.cells #[.bool true, .slice ka m1 kc, .slice wa m1 wc, .slice ia 0 ic] 107) := ⟨_, rfl⟩
 obtain ⟨r, hr⟩ : ∃ r, r = w2.heap.size := ⟨_, rfl⟩
 rw [<- hw3, <- hr]
 have hb3 : Below w2.heap.size w2 w3 := by rw [hw3]; exact (Below.refl _ w2).alloc (Nat.le_refl _) _
 have hbr : w3.heap[r]? = some (.cells #[.bool true, .slice ka m1 kc, .slice wa m1 wc, .slice ia 0 ic] 107 (0, 0)) := by rw [hw3, hr]; exact heap_alloc_new w2 _
 have hN3 := HN.out.2.2.2.2.below hb3
 have hu3 := (((cfU_below HH.out.2.2.2.2.2.2.2.2.2.1).trans (cfU_turn HP.out.2.2.1 (HH.out.1.below HH.out.2.2.2.2.2.2.2.2.2.1).noU)).trans (cfU_below hb3))
 have hup : upB nd.keys := by rw [HN.out.1]; exact HH.out.2.2.2.1.wf.2.1
 have HF := node_find hN3.own.nat hup (by rw [<- HN.out.2.1]; exact hm9) (HH.out.2.2.2.2.2.2.1.mono RY_mono hu3)
 unfold nodeV at HF
 rw [HN.out.2.2.2.1] at HF
 unfold FindPost at HF
 obtain ⟨pl, hpl⟩ : ∃ x, x = placeB k nd.keys := ⟨_, rfl⟩
 obtain ⟨fd, hfd⟩ : ∃ fd, fd = decide (nd.keys[placeB k nd.keys]? = some k) := ⟨_, rfl⟩
 rw [<- hfd, <- hpl] at HF
 have HF := HoldT.mk HF
 have hplm : pl <= m1 := by rw [hpl, HN.out.2.1]; exact placeB_le ..
 have hG3 := HP.out.1.below hb3
 have hrH : ¬ H1.all r := fun e => by have := HP.out.1.lt r e; omega
 have H3 := HoldT.mk (And.intro hb3 (And.intro hbr (And.intro hN3 (And.intro hu3 (And.intro hpl (And.intro hfd (And.intro hG3 (And.intro hrH hr))))))))
 have y0 : w3.cell? ⟨r, 0, none⟩ = some (.bool true) := by simp [World.cell?, hbr]
 have y1 : w3.cell? ⟨r, 1, none⟩ = some (.slice ka m1 kc) := by simp [World.cell?, hbr]
 have y2 : w3.cell? ⟨r, 2, none⟩ = some (.slice wa m1 wc) := by simp [World.cell?, hbr]
 have y3 : w3.cell? ⟨r, 3, none⟩ = some (.slice ia 0 ic) := by simp [World.cell?, hbr]
 clear hw3 hb3 hbr hN3 hu3 hup hpl hfd hG3 hrH hr
 go_wp2_with fail
 refine HF.out.mono ?_
 rintro e w4 ⟨rfl, hb4⟩
 clear y0 y1 y2 y3
 have hbr4 := kept H3.out.2.1 hb4
 have y0 : w4.cell? ⟨r, 0, none⟩ = some (.bool true) := by simp [World.cell?, hbr4]
 have y1 : w4.cell? ⟨r, 1, none⟩ = some (.slice ka m1 kc) := by simp [World.cell?, hbr4]
 have y2 : w4.cell? ⟨r, 2, none⟩ = some (.slice wa m1 wc) := by simp [World.cell?, hbr4]
 have y3 : w4.cell? ⟨r, 3, none⟩ = some (.slice ia 0 ic) := by simp [World.cell?, hbr4]
 have hN4 := H3.out.2.2.1.below hb4
 have H4 := HoldT.mk (And.intro hb4 (And.intro hbr4 hN4))
 have hfdc := H3.out.2.2.2.2.2.1
 cases fd with
 | true =>
  have hhit : nd.keys[placeB k nd.keys]? = some k := of_decide_eq_true hfdc.symm
  have hlt : pl < m1 := by rw [H3.out.2.2.2.2.1, HN.out.2.1]; exact (List.getElem?_eq_some_iff.1 hhit).1
  obtain ⟨cs, hov⟩ := hN4.own.vals
  rw [HN.out.2.2.1] at hov
  obtain ⟨g, cap, cur, hwv, hgc, hpc, hcap, hcz⟩ := own_slice hov (by omega)
  simp only [Value.slice.injEq] at hwv
  obtain ⟨rfl, _, rfl⟩ := hwv
  have hyv4 := HH.out.2.2.2.2.2.2.2.1.mono RY_mono (H3.out.2.2.2.1.trans (cfU_below hb4))
  have hop := OwnS.put (fun _ _ _ _ h => h) (k := pl) (u := .slice va vl vc) hov ⟨_, rfl, hyv4⟩
  obtain ⟨w5, hw5⟩ : ∃ w5, w5 = w4.setCell ⟨g, pl, none⟩ (.slice va vl vc) := ⟨_, rfl⟩
  have hg5 : w4.grownBy w5 (some g) := by rw [hw5]; exact set6_grown _ _
  have hbr5 : w5.heap[r]? = some (.cells #[.bool true, .slice ka m1 kc, .slice (some ⟨g, 0, none⟩) m1 wc, .slice ia 0 ic] 107 (0, 0)) := by rw [hw5, Below.heap_setCell _ _ _ _ (kind_ne hbr4 hgc (by decide))]; exact hbr4
  have hfz : w4.frozen? ⟨g, pl, none⟩ = false := by simp [World.frozen?, hgc]
  have hcx : ∃ u, w4.cell? ⟨g, pl, none⟩ = some u := by
   refine ⟨cur[pl]'(by omega), ?_⟩
   simp only [World.cell?, hgc]
   simp [show pl < cur.size by omega]
  obtain ⟨cu, hcu⟩ := hcx
  have hI : (pl : Int) < (m1 : Int) := by omega
  have hed := hN4.edV (vv' := .slice (some ⟨g, 0, none⟩) m1 wc) (ks := nd.vals.set pl v) ⟨hg5, fun _ h => .inl h⟩ (fun b hb => Nat.lt_of_lt_of_le (H3.out.2.2.2.2.2.2.1.lt b hb) hb4.size) (by rw [List.length_set, HN.out.2.2.1, hw5]; exact hop)
  have hnd' : { nd with vals := nd.vals.set pl v } = leafN (putE k v t.2) := by
   have hh := putE_hit (v := v) (es := t.2) (k := k) (by have := hhit; rw [HN.out.1] at this; exact this)
   rw [H3.out.2.2.2.2.1, HN.out.1]
   unfold leafN
   simp only
   rw [hh.1, hh.2]
  rw [hnd'] at hed
  have hG5 := (H3.out.2.2.2.2.2.2.1.below hb4).beside hg5 (fun b e => by
   cases e
   exact ⟨hN4.off g (.inr (.inl rfl)), fun ⟨_, _, e2⟩ => by rw [hgc] at e2; cases e2⟩)
  have hT5 : TurnS H.all w H1.all w5 := ((((TurnS.quiet HH.out.2.2.2.2.2.2.2.2.2.1).trans HP.out.2.2.1).then H3.out.1).then hb4).own hg5 (by have h1 := (hN4.own.low (g := g) (.inr (.inl rfl))).1; have := HH.out.2.2.2.2.2.2.2.2.2.1.size; omega)
  have htb5 : TB H1 w5 tb Q.pb root := HH.out.2.1.turn hT5
  have hbq5 : w5.heap[q]? = some (.cells #[.int .i64 0, .slice none 0 0, .int .i64 0] 103 (0, 0)) := (hg5.block q (by have := heap_lt HP.out.2.2.2.2.1; have := H3.out.1.size; have := hb4.size; omega) (fun e => by
   obtain rfl := Option.some.inj e
   have := kept (kept HP.out.2.2.2.2.1 H3.out.1) hb4
   rw [hgc] at this
   cases this)).trans (kept (kept HP.out.2.2.2.2.1 H3.out.1) hb4)
  have HED := HoldT.mk (And.intro hed.1 (And.intro hG5 (And.intro hT5 (And.intro htb5 (And.intro hbq5 (And.intro hbr5 hw5))))))
  clear hed hnd' hG5 hT5 htb5 hbq5 hbr5 hop hyv4 hov hg5 hgc hpc hcap hcz hhit hfdc hbr4 hN4 hb4
  go_upto_region 9 with (fail)
  rw [<- HED.out.2.2.2.2.2.2]
  have HED := HoldT.mk (And.intro HED.out.1 (And.intro HED.out.2.1 (And.intro HED.out.2.2.1 (And.intro HED.out.2.2.2.1 (And.intro HED.out.2.2.2.2.1 HED.out.2.2.2.2.2.1)))))
  clear hw5
  have hszE : szLeaf (putE k v t.2) <= 1527 := by
   have h1 := putE_size (k := k) (v := v) t.2
   have h2 := HH.out.2.2.2.1.wf.2.2.2
   have h3 := szE_le (e := (k, v)) ⟨HH.out.2.2.2.2.1, HH.out.2.2.2.2.2.1⟩
   exact Nat.le_trans h1 (Nat.add_le_add h2 h3)
  have hupE := putE_up (k := k) (v := v) HH.out.2.2.2.1.wf.2.1
  have hokE : ∀ e ∈ putE k v t.2, keyOk e.1 /\ e.2.length <= 260 := fun e he => by
   rcases putE_fst_mem he with rfl | he
   ·exact ⟨HH.out.2.2.2.2.1, HH.out.2.2.2.2.2.1⟩
   ·exact HH.out.2.2.2.1.wf.2.2.1 e he
  have hfr1 : S1.is[t.1]? = some 2 := by rw [HP.out.2.1.1]; exact HH.out.2.2.2.2.2.2.2.2.2.2.2.2.2.2.2.1
  have hfree : 2 <= freeP S1 := by have := HH.out.2.2.2.2.2.2.2.2.1; unfold freeP at this |-; rw [HP.out.2.1.1]; exact this
  have HLY := tree_lay HED.out.2.1 HED.out.2.2.2.1 (by have := HH.out.2.2.1; have := HP.out.2.2.2.1; omega) HED.out.1.own.nat (shLeaf hupE hokE (by have := len_leaf (putE k v t.2); omega)) (fun hb => split_leaf hupE hokE hszE (by rw [<- size_leaf]; exact hb)) (.inl ⟨t.1, rfl, hfr1, rfl⟩) hfree
  unfold nodeV at HLY
  rw [show (leafN (putE k v t.2)).leaf = true from rfl] at HLY
  have HLY := HoldT.mk HLY
  clear hszE hupE hokE hfr1 hfree
  have hbr5 := HED.out.2.2.2.2.2
  have y0 : w5.cell? ⟨r, 0, none⟩ = some (.bool true) := by simp [World.cell?, hbr5]
  have y1 : w5.cell? ⟨r, 1, none⟩ = some (.slice ka m1 kc) := by simp [World.cell?, hbr5]
  have y2 : w5.cell? ⟨r, 2, none⟩ = some (.slice (some ⟨g, 0, none⟩) m1 wc) := by simp [World.cell?, hbr5]
  have y3 : w5.cell? ⟨r, 3, none⟩ = some (.slice ia 0 ic) := by simp [World.cell?, hbr5]
  clear hbr5
  go_wp2_with fail
  refine HLY.out.mono ?_
  intro e w6 hlay
  have hpo := lay_post_leaf (by rw [HP.out.2.1.1]; exact HH.out.2.2.2.2.2.2.2.2.2.2.2.2.2.2.2.1) hlay
  obtain ⟨m, ka6, kn6, kc6, b6, rfl, hq6, hpo⟩ := hpo.outer (H := H) (w := w) (S := S) (p := p) (c := 20) HP.out.2.1 HED.out.2.2.1 (by have := HP.out.2.2.2.1; omega) HED.out.2.2.2.2.1 HP.out.2.2.2.2.2 (by have := HH.out.2.2.2.2.2.2.2.2.2.2.2.1; omega)
  have HPO := HoldT.mk (And.intro hpo hq6)
  have z0 : w6.cell? ⟨q, 0, none⟩ = some (.int .i64 0) := by simp [World.cell?, hq6]
  have z1 : w6.cell? ⟨q, 1, none⟩ = some (.slice none 0 0) := by simp [World.cell?, hq6]
  have z2 : w6.cell? ⟨q, 2, none⟩ = some (.int .i64 0) := by simp [World.cell?, hq6]
  have f0 : w6.frozen? ⟨q, 0, none⟩ = false := by simp [World.frozen?, hq6]
  have f1 : w6.frozen? ⟨q, 1, none⟩ = false := by simp [World.frozen?, hq6]
  have f2 : w6.frozen? ⟨q, 2, none⟩ = false := by simp [World.frozen?, hq6]
  clear hpo hq6 hlay y0 y1 y2 y3
  go_wp2_with fail
  obtain ⟨u7, hu7⟩ : ∃ u, u = set3 w6 q (.int .i64 (m : Int)) (.slice ka6 kn6 kc6) (.int .i64 b6) := ⟨_, rfl⟩
  have hu7' := hu7
  unfold set3 at hu7'
  rw [<- hu7']
  obtain ⟨hpo, hq6⟩ := HPO.out
  rw [<- hu7] at hpo
  have h77 : u7.heap[q]? = some (.cells #[.int .i64 (m : Int), .slice ka6 kn6 kc6, .int .i64 b6] 103 (0, 0)) := by rw [hu7]; exact set3_heap hq6
  have c0 : u7.cell? ⟨q, 0, none⟩ = some (.int .i64 (m : Int)) := by simp [World.cell?, h77]
  have c1 : u7.cell? ⟨q, 1, none⟩ = some (.slice ka6 kn6 kc6) := by simp [World.cell?, h77]
  have c2 : u7.cell? ⟨q, 2, none⟩ = some (.int .i64 b6) := by simp [World.cell?, h77]
  exact bodyPost_ret (v := .tuple #[.agg #[.int .i64 (m : Int), .slice ka6 kn6 kc6, .int .i64 b6], .int .i64 0]) (by simp [results, Tryz.results31, go_sem, c0, c1, c2]) rfl hpo
 | false =>
  have hmiss : nd.keys[placeB k nd.keys]? ≠ some k := of_decide_eq_false hfdc.symm
  have hES := ES.start (H3.out.2.2.2.2.2.2.1.below hb4) hN4
  have hB4 : w1.heap.size <= w4.heap.size := by have h1 := HP.out.2.2.1.size; have h2 := H3.out.1.size; have h3 := hb4.size; omega
  have hu4 : CLe (cfU w) (cfU w4) := H3.out.2.2.2.1.trans (cfU_below hb4)
  have HM := HoldT.mk (And.intro hmiss (And.intro hES (And.intro hB4 hu4)))
  clear hmiss hfdc hES hB4 hu4 hbr4 hN4 hb4
  go_upto_region 8 with (fail)
  have g1 := KeepS.cell (P := fun b => b = r) y1 rfl
  have g2 := KeepS.cell (P := fun b => b = r) y2 rfl
  clear y0 y1 y2 y3
  refine wp_region_mixL (KeepL (fun b => b = r) w4 [13]) 16 rfl (by kernel_rfl) ?_
  have HDR := HoldT.mk ((Below.refl w4.heap.size w4).drew)
  have HST : HoldT (∀ q : Nat, w4.drew.heap[q]? = w4.heap[q]?) := ⟨fun _ => rfl⟩
  generalize w4.drew = v5 at HDR HST |-
  refine mixL_seg (by kernel_rfl) (fun _ _ d _ _ h => by cases d <;> exact h) (KeepSC (fun _ => False) w4) keepL_base [0, 2, 3, 6, 8, 9] (keepL_back rfl) [_, _, _, _, _, _] 10 16 rfl _ _ _ rfl (by kernel_rfl) ?_
  repeat (go_big_quiet_step (fail))
  refine wpQuiet_nil ?_
  refine mixL_one (by kernel_rfl) (fun _ _ d _ _ h => by cases d <;> exact h) (KeepSC (fun b => b = r) w4) 13 (keepL_in (by decide)) 1 (fun l w => keepL_back (is := [1]) rfl 1 (by simp) l w) _ 9 _ _ _ rfl (by kernel_rfl) (by kernel_rfl) (by kernel_rfl) ?_
  repeat (go_big_quiet_step (fail))
  refine wpQuiet_nil ?_
  refine mixL_one (by kernel_rfl) (fun _ _ d _ _ h => by cases d <;> exact h) (KeepSC (fun b => b = r) w4) 13 (keepL_in (by decide)) 7 (fun l w => keepL_back (is := [7]) rfl 7 (by simp) l w) _ 8 _ _ _ rfl (by kernel_rfl) (by kernel_rfl) (by kernel_rfl) ?_
  repeat (go_big_quiet_step (fail))
  refine wpQuiet_nil ?_
  clear g1 g2
  have hE5 := HM.out.2.1.below HDR.out HM.out.2.2.1
  have HE5 := HoldT.mk hE5
  clear hE5
  refine mixL_two (i := 4) (j := 10) rfl rfl (by kernel_rfl) (keepL_on fun q _ => HST.out q) rfl rfl (fun K hK => ?_) (fun K hK => ?_)
  case' refine_1 =>
   go_wp2_with fail
   obtain ⟨v6, hv6⟩ : ∃ x, x = v5.alloc (.cells #[.slice xa xl xc] 23) := ⟨_, rfl⟩
   obtain ⟨sA, hsA⟩ : ∃ x, x = v5.heap.size := ⟨_, rfl⟩
   rw [<- hv6, <- hsA]
   have hb : Below v5.heap.size v5 v6 := by rw [hv6]; exact (Below.refl _ v5).alloc (Nat.le_refl _) _
   have ha : v6.heap[sA]? = some (.cells [.slice xa xl xc].toArray 23 (0, 0)) := by rw [hv6, hsA]; exact heap_alloc_new v5 _
   have H6 := HoldT.mk (And.intro hb (And.intro ha hsA))
   clear hv6 hsA hb ha
   have HE6 := HoldT.mk (HE5.out.below H6.out.1 HM.out.2.2.1)
   refine mixL_two (i := 5) (j := 10) rfl rfl (by kernel_rfl) (keepL_on fun b hb => by rw [hb]; exact ((HE6.out).box r _ _ H4.out.2.1 (by decide) (by decide)).trans H4.out.2.1.symm) rfl rfl (fun K hK => ?_) (fun K hK => ?_)
   case' refine_1.refine_1 =>
    have hES' := HE6.out
    have hs' := (And.intro H6.out.2.1 (show w4.heap.size <= sA by rw [H6.out.2.2]; exact HE5.out.size))
    have HIK := HoldT.mk (node_insK (k := pl) hES'.nt hES'.pg.lt (by rw [<- HN.out.2.1]; exact hplm) (by rw [<- HN.out.2.1]; omega) hs'.1 (fun e => by have h1 := (HM.out.2.1.nt.own.low (g := sA) (.inl e)).2.1; have h2 := hs'.2; omega) (HH.out.2.2.2.2.2.2.1.mono RY_mono (fun _ _ _ hu => hES'.le _ _ _ (HM.out.2.2.2 _ _ _ hu))))
    have HES' := HoldT.mk (And.intro hES' hs')
    clear hES' hs'
    go_wp2_with fail
    refine HIK.out.mono ?_
    rintro e v7 ⟨kv', rfl, hh⟩
    obtain ⟨k'a, k'c, rfl⟩ := hh.shape
    rw [<- HN.out.2.1] at hh |-
    have HE8 := HoldT.mk (And.intro (HES'.out.1.hand hh (.inl rfl) HM.out.2.2.1) hh)
    clear hh
    simp only
    go_wp2_with fail
    refine mixL_seg (by kernel_rfl) (fun _ _ d _ _ h => by cases d <;> exact h) (KeepSC (fun _ => False) w4) keepL_base [12] (keepL_back rfl) [_] 5 6 rfl _ _ _ rfl (by kernel_rfl) ?_
    repeat (go_big_quiet_step (fail))
    refine wpQuiet_nil ?_
    refine mixL_act (i := 10) rfl (by kernel_rfl) (keepL_on fun b hb => by rw [hb]; exact ((HE8.out.1).box r _ _ H4.out.2.1 (by decide) (by decide)).trans H4.out.2.1.symm) rfl (fun K hK => ?_)
    go_wp2_with fail
    obtain ⟨v8, hv8⟩ : ∃ x, x = v7.alloc (.cells #[.slice va vl vc] 23) := ⟨_, rfl⟩
    obtain ⟨sB, hsB⟩ : ∃ x, x = v7.heap.size := ⟨_, rfl⟩
    rw [<- hv8, <- hsB]
    have hb : Below v7.heap.size v7 v8 := by rw [hv8]; exact (Below.refl _ v7).alloc (Nat.le_refl _) _
    have ha : v8.heap[sB]? = some (.cells [.slice va vl vc].toArray 23 (0, 0)) := by rw [hv8, hsB]; exact heap_alloc_new v7 _
    have H8 := HoldT.mk (And.intro hb (And.intro ha hsB))
    clear hv8 hsB hb ha
    have HX := HoldT.mk (And.intro (HE8.out.1.below H8.out.1 HM.out.2.2.1) (And.intro H8.out.2.1 (show w4.heap.size <= sB by rw [H8.out.2.2]; exact HE8.out.1.size)))
    go_wp2_with fail
    clear H8
   case' refine_1.refine_2 =>
    go_wp2_with fail
    obtain ⟨v7, hv7⟩ : ∃ x, x = v6.alloc (.cells #[.slice va vl vc] 23) := ⟨_, rfl⟩
    obtain ⟨sB, hsB⟩ : ∃ x, x = v6.heap.size := ⟨_, rfl⟩
    rw [<- hv7, <- hsB]
    have hb : Below v6.heap.size v6 v7 := by rw [hv7]; exact (Below.refl _ v6).alloc (Nat.le_refl _) _
    have ha : v7.heap[sB]? = some (.cells [.slice va vl vc].toArray 23 (0, 0)) := by rw [hv7, hsB]; exact heap_alloc_new v6 _
    have H7 := HoldT.mk (And.intro hb (And.intro ha hsB))
    clear hv7 hsB hb ha
    have hES' := (HE6.out.below H7.out.1 HM.out.2.2.1)
    have hs' := (And.intro (kept H6.out.2.1 H7.out.1) (show w4.heap.size <= sA by rw [H6.out.2.2]; exact HE5.out.size))
    have HIK := HoldT.mk (node_insK (k := pl) hES'.nt hES'.pg.lt (by rw [<- HN.out.2.1]; exact hplm) (by rw [<- HN.out.2.1]; omega) hs'.1 (fun e => by have h1 := (HM.out.2.1.nt.own.low (g := sA) (.inl e)).2.1; have h2 := hs'.2; omega) (HH.out.2.2.2.2.2.2.1.mono RY_mono (fun _ _ _ hu => hES'.le _ _ _ (HM.out.2.2.2 _ _ _ hu))))
    have HES' := HoldT.mk (And.intro hES' hs')
    clear hES' hs'
    refine mixL_act (i := 5) rfl (by kernel_rfl) (keepL_on fun b hb => by rw [hb]; exact (HES'.out.1.box r _ _ H4.out.2.1 (by decide) (by decide)).trans H4.out.2.1.symm) rfl (fun K hK => ?_)
    go_wp2_with fail
    refine HIK.out.mono ?_
    rintro e v8 ⟨kv', rfl, hh⟩
    obtain ⟨k'a, k'c, rfl⟩ := hh.shape
    rw [<- HN.out.2.1] at hh |-
    have HE8 := HoldT.mk (And.intro (HES'.out.1.hand hh (.inl rfl) HM.out.2.2.1) hh)
    clear hh
    simp only
    go_wp2_with fail
    refine mixL_seg (by kernel_rfl) (fun _ _ d _ _ h => by cases d <;> exact h) (KeepSC (fun _ => False) w4) keepL_base [12] (keepL_back rfl) [_] 4 5 rfl _ _ _ rfl (by kernel_rfl) ?_
    repeat (go_big_quiet_step (fail))
    refine wpQuiet_nil ?_
    have hsb : w4.heap.size <= sB := by rw [H7.out.2.2]; exact HE6.out.size
    have HX := HoldT.mk (And.intro HE8.out.1 (And.intro (Eq.trans (HE8.out.2.by_.block sB (heap_lt H7.out.2.1) (fun e => by have h1 := (HM.out.2.1.nt.own.low (g := sB) (.inl e.symm)).2.1; omega)) H7.out.2.1) hsb))
    clear hsb H7
  case' refine_2 =>
   go_wp2_with fail
   obtain ⟨v6, hv6⟩ : ∃ x, x = v5.alloc (.cells #[.slice va vl vc] 23) := ⟨_, rfl⟩
   obtain ⟨sB, hsB⟩ : ∃ x, x = v5.heap.size := ⟨_, rfl⟩
   rw [<- hv6, <- hsB]
   have hb : Below v5.heap.size v5 v6 := by rw [hv6]; exact (Below.refl _ v5).alloc (Nat.le_refl _) _
   have ha : v6.heap[sB]? = some (.cells [.slice va vl vc].toArray 23 (0, 0)) := by rw [hv6, hsB]; exact heap_alloc_new v5 _
   have H6 := HoldT.mk (And.intro hb (And.intro ha hsB))
   clear hv6 hsB hb ha
   have HE6 := HoldT.mk (HE5.out.below H6.out.1 HM.out.2.2.1)
   refine mixL_act (i := 4) rfl (by kernel_rfl) (keepL_on fun b hb => by rw [hb]; exact ((HE6.out).box r _ _ H4.out.2.1 (by decide) (by decide)).trans H4.out.2.1.symm) rfl (fun K hK => ?_)
   go_wp2_with fail
   obtain ⟨v7, hv7⟩ : ∃ x, x = v6.alloc (.cells #[.slice xa xl xc] 23) := ⟨_, rfl⟩
   obtain ⟨sA, hsA⟩ : ∃ x, x = v6.heap.size := ⟨_, rfl⟩
   rw [<- hv7, <- hsA]
   have hb : Below v6.heap.size v6 v7 := by rw [hv7]; exact (Below.refl _ v6).alloc (Nat.le_refl _) _
   have ha : v7.heap[sA]? = some (.cells [.slice xa xl xc].toArray 23 (0, 0)) := by rw [hv7, hsA]; exact heap_alloc_new v6 _
   have H7 := HoldT.mk (And.intro hb (And.intro ha hsA))
   clear hv7 hsA hb ha
   have hES' := (HE6.out.below H7.out.1 HM.out.2.2.1)
   have hs' := (And.intro H7.out.2.1 (show w4.heap.size <= sA by rw [H7.out.2.2]; exact HE6.out.size))
   have HIK := HoldT.mk (node_insK (k := pl) hES'.nt hES'.pg.lt (by rw [<- HN.out.2.1]; exact hplm) (by rw [<- HN.out.2.1]; omega) hs'.1 (fun e => by have h1 := (HM.out.2.1.nt.own.low (g := sA) (.inl e)).2.1; have h2 := hs'.2; omega) (HH.out.2.2.2.2.2.2.1.mono RY_mono (fun _ _ _ hu => hES'.le _ _ _ (HM.out.2.2.2 _ _ _ hu))))
   have HES' := HoldT.mk (And.intro hES' hs')
   clear hES' hs'
   refine mixL_act (i := 5) rfl (by kernel_rfl) (keepL_on fun b hb => by rw [hb]; exact (HES'.out.1.box r _ _ H4.out.2.1 (by decide) (by decide)).trans H4.out.2.1.symm) rfl (fun K hK => ?_)
   go_wp2_with fail
   refine HIK.out.mono ?_
   rintro e v8 ⟨kv', rfl, hh⟩
   obtain ⟨k'a, k'c, rfl⟩ := hh.shape
   rw [<- HN.out.2.1] at hh |-
   have HE8 := HoldT.mk (And.intro (HES'.out.1.hand hh (.inl rfl) HM.out.2.2.1) hh)
   clear hh
   simp only
   go_wp2_with fail
   refine mixL_seg (by kernel_rfl) (fun _ _ d _ _ h => by cases d <;> exact h) (KeepSC (fun _ => False) w4) keepL_base [12] (keepL_back rfl) [_] 4 5 rfl _ _ _ rfl (by kernel_rfl) ?_
   repeat (go_big_quiet_step (fail))
   refine wpQuiet_nil ?_
   have hsb : w4.heap.size <= sB := by rw [H6.out.2.2]; exact HE5.out.size
   have HX := HoldT.mk (And.intro HE8.out.1 (And.intro (Eq.trans (HE8.out.2.by_.block sB (heap_lt (kept H6.out.2.1 H7.out.1)) (fun e => by have h1 := (HM.out.2.1.nt.own.low (g := sB) (.inl e.symm)).2.1; omega)) (kept H6.out.2.1 H7.out.1)) hsb))
   clear hsb H7
  all_goals
   clear H6 HE5 HE6 HE8 HDR HST
   have HIV := HoldT.mk (node_insV (k := pl) HX.out.1.nt HX.out.1.pg.lt (show pl <= nd.vals.length by rw [HN.out.2.2.1]; exact hplm) (show nd.vals.length <= 1000000 by rw [HN.out.2.2.1]; omega) HX.out.2.1 (fun e => by have h1 := (HM.out.2.1.nt.own.low (g := sB) (.inr (.inl e))).2.1; have h2 := HX.out.2.2; omega) (HH.out.2.2.2.2.2.2.2.1.mono RY_mono (fun _ _ _ hu => HX.out.1.le _ _ _ (HM.out.2.2.2 _ _ _ hu))))
   refine mixL_act (i := 11) rfl (by kernel_rfl) (keepL_on fun b hb => by rw [hb]; exact (HX.out.1.box r _ _ H4.out.2.1 (by decide) (by decide)).trans H4.out.2.1.symm) rfl (fun K hK => ?_)
   go_wp2_with fail
   refine HIV.out.mono ?_
   rintro e v9 ⟨vv', rfl, hh⟩
   obtain ⟨v'a, v'c, rfl⟩ := hh.shape
   have hlv : ({ nd with keys := insAt pl k nd.keys } : ND).vals.length = m1 := HN.out.2.2.1
   rw [hlv] at hh |-
   have HE9 := HoldT.mk (HX.out.1.hand hh (.inr (.inl rfl)) HM.out.2.2.1)
   have hbr9 := HE9.out.box r _ _ H4.out.2.1 (by decide) (by decide)
   have HR9 := HoldT.mk hbr9
   have z1 : v9.cell? ⟨r, 1, none⟩ = some (.slice ka m1 kc) := by simp [World.cell?, hbr9]
   have f1 : v9.frozen? ⟨r, 1, none⟩ = false := by simp [World.frozen?, hbr9]
   clear hh hlv
   simp only
   go_wp2_with fail
   refine mixL_act (i := 13) rfl (by kernel_rfl) (keepL_on fun b hb => by rw [hb]; exact HR9.out.trans H4.out.2.1.symm) rfl (fun K hK => ?_)
   go_wp2_with fail
   clear z1 f1
   obtain ⟨u1, hu1⟩ : ∃ u, u = v9.setCell ⟨r, 1, none⟩ (.slice k'a (m1 + 1) k'c) := ⟨_, rfl⟩
   rw [<- hu1]
   have hbu1 : u1.heap[r]? = some (.cells #[.bool true, .slice k'a (m1 + 1) k'c, .slice wa m1 wc, .slice ia 0 ic] 107 (0, 0)) := by rw [hu1, set_selfT hbr9]; rfl
   have hgu1 : v9.grownBy u1 (some r) := by rw [hu1]; exact set6_grown _ _
   have HU1 := HoldT.mk (And.intro hbu1 hgu1)
   have z2 : u1.cell? ⟨r, 2, none⟩ = some (.slice wa m1 wc) := by simp [World.cell?, hbu1]
   have f2 : u1.frozen? ⟨r, 2, none⟩ = false := by simp [World.frozen?, hbu1]
   clear hu1 hbr9 hgu1
   go_wp2_with fail
   refine mixL_seg (by kernel_rfl) (fun _ _ d _ _ h => by cases d <;> exact h) (KeepSC (fun _ => False) w4) keepL_base [14] (keepL_back rfl) [_] 1 2 rfl _ _ _ rfl (by kernel_rfl) ?_
   repeat (go_big_quiet_step (fail))
   refine wpQuiet_nil ?_
   refine mixL_act (i := 15) rfl (by kernel_rfl) (keepL_off (by kernel_rfl)) rfl (fun K hK => ?_)
   go_wp2_with fail
   clear z2 f2
   obtain ⟨w5, hw5⟩ : ∃ u, u = u1.setCell ⟨r, 2, none⟩ (.slice v'a (m1 + 1) v'c) := ⟨_, rfl⟩
   rw [<- hw5]
   have hbr5 : w5.heap[r]? = some (.cells #[.bool true, .slice k'a (m1 + 1) k'c, .slice v'a (m1 + 1) v'c, .slice ia 0 ic] 107 (0, 0)) := by rw [hw5, set_selfT hbu1]; rfl
   have hg2 : u1.grownBy w5 (some r) := by rw [hw5]; exact set6_grown _ _
   have hg5 : v9.grownBy w5 (some r) := HU1.out.2.trans hg2
   obtain ⟨c1, c2, _⟩ := HE9.out.cell HR9.out H3.out.2.2.2.2.2.2.2.1 hg5
   have hnd' : ({ ({ nd with keys := insAt pl k nd.keys } : ND) with vals := insAt pl v nd.vals } : ND) = leafN (putE k v t.2) := by
    have hh := putE_miss (v := v) (es := t.2) (k := k) (by have := HM.out.1; rw [HN.out.1] at this; exact this)
    rw [H3.out.2.2.2.2.1, HN.out.1]
    unfold leafN
    simp only
    rw [hh.1, hh.2]
   have c1' : NT H1 w1.heap.size w5 (leafN (putE k v t.2)) (.slice k'a (m1 + 1) k'c) (.slice v'a (m1 + 1) v'c) (.slice ia 0 ic) := hnd' ▸ c1
   have hT4 : TurnS H.all w H1.all w4 := (((TurnS.quiet HH.out.2.2.2.2.2.2.2.2.2.1).trans HP.out.2.2.1).then H3.out.1).then H4.out.1
   have hsz := HH.out.2.2.2.2.2.2.2.2.2.1.size
   have hT5 : TurnS H.all w H1.all w5 := (HE9.out.turn hT4 hsz).own hg5 (by have h1 := HP.out.2.2.1.size; have h3 := H3.out.2.2.2.2.2.2.2.2; omega)
   have htb5 : TB H1 w5 tb Q.pb root := HH.out.2.1.turn hT5
   have hq4 := kept (kept HP.out.2.2.2.2.1 H3.out.1) H4.out.1
   have hbq5 : w5.heap[q]? = some (.cells #[.int .i64 0, .slice none 0 0, .int .i64 0] 103 (0, 0)) := (hg5.block q (by have h1 := heap_lt hq4; have h2 := HE9.out.size; omega) (fun e => by
    obtain rfl := Option.some.inj e
    have := H4.out.2.1
    rw [hq4] at this
    cases this)).trans (HE9.out.box q _ _ hq4 (by decide) (by decide))
   have HED := HoldT.mk (And.intro c1' (And.intro c2 (And.intro hT5 (And.intro htb5 (And.intro hbq5 hbr5)))))
   clear c1 c1' c2 hnd' hT4 hsz hT5 htb5 hq4 hbq5 hbr5 hg2 hg5 hw5 hbu1
   go_wp2_with fail
   refine mixL_done (by kernel_rfl) (keepL_off (by kernel_rfl)) ?_
   go_upto_region 9 with (fail)
   have hszE : szLeaf (putE k v t.2) <= 1527 := by
    have h1 := putE_size (k := k) (v := v) t.2
    have h2 := HH.out.2.2.2.1.wf.2.2.2
    have h3 := szE_le (e := (k, v)) ⟨HH.out.2.2.2.2.1, HH.out.2.2.2.2.2.1⟩
    exact Nat.le_trans h1 (Nat.add_le_add h2 h3)
   have hupE := putE_up (k := k) (v := v) HH.out.2.2.2.1.wf.2.1
   have hokE : ∀ e ∈ putE k v t.2, keyOk e.1 /\ e.2.length <= 260 := fun e he => by
    rcases putE_fst_mem he with rfl | he
    ·exact ⟨HH.out.2.2.2.2.1, HH.out.2.2.2.2.2.1⟩
    ·exact HH.out.2.2.2.1.wf.2.2.1 e he
   have hfr1 : S1.is[t.1]? = some 2 := by rw [HP.out.2.1.1]; exact HH.out.2.2.2.2.2.2.2.2.2.2.2.2.2.2.2.1
   have hfree : 2 <= freeP S1 := by have := HH.out.2.2.2.2.2.2.2.2.1; unfold freeP at this |-; rw [HP.out.2.1.1]; exact this
   have HLY := tree_lay HED.out.2.1 HED.out.2.2.2.1 (by have := HH.out.2.2.1; have := HP.out.2.2.2.1; omega) HED.out.1.own.nat (shLeaf hupE hokE (by have := len_leaf (putE k v t.2); omega)) (fun hb => split_leaf hupE hokE hszE (by rw [<- size_leaf]; exact hb)) (.inl ⟨t.1, rfl, hfr1, rfl⟩) hfree
   unfold nodeV at HLY
   rw [show (leafN (putE k v t.2)).leaf = true from rfl] at HLY
   have HLY := HoldT.mk HLY
   clear hszE hupE hokE hfr1 hfree
   have hbr5 := HED.out.2.2.2.2.2
   have y0 : w5.cell? ⟨r, 0, none⟩ = some (.bool true) := by simp [World.cell?, hbr5]
   have y1 : w5.cell? ⟨r, 1, none⟩ = some (.slice k'a (m1 + 1) k'c) := by simp [World.cell?, hbr5]
   have y2 : w5.cell? ⟨r, 2, none⟩ = some (.slice v'a (m1 + 1) v'c) := by simp [World.cell?, hbr5]
   have y3 : w5.cell? ⟨r, 3, none⟩ = some (.slice ia 0 ic) := by simp [World.cell?, hbr5]
   clear hbr5
   go_wp2_with fail
   refine HLY.out.mono ?_
   intro e w6 hlay
   have hpo := lay_post_leaf (by rw [HP.out.2.1.1]; exact HH.out.2.2.2.2.2.2.2.2.2.2.2.2.2.2.2.1) hlay
   obtain ⟨m, ka6, kn6, kc6, b6, rfl, hq6, hpo⟩ := hpo.outer (H := H) (w := w) (S := S) (p := p) (c := 20) HP.out.2.1 HED.out.2.2.1 (by have := HP.out.2.2.2.1; omega) HED.out.2.2.2.2.1 HP.out.2.2.2.2.2 (by have := HH.out.2.2.2.2.2.2.2.2.2.2.2.1; omega)
   have HPO := HoldT.mk (And.intro hpo hq6)
   have z0 : w6.cell? ⟨q, 0, none⟩ = some (.int .i64 0) := by simp [World.cell?, hq6]
   have z1 : w6.cell? ⟨q, 1, none⟩ = some (.slice none 0 0) := by simp [World.cell?, hq6]
   have z2 : w6.cell? ⟨q, 2, none⟩ = some (.int .i64 0) := by simp [World.cell?, hq6]
   have f0 : w6.frozen? ⟨q, 0, none⟩ = false := by simp [World.frozen?, hq6]
   have f1 : w6.frozen? ⟨q, 1, none⟩ = false := by simp [World.frozen?, hq6]
   have f2 : w6.frozen? ⟨q, 2, none⟩ = false := by simp [World.frozen?, hq6]
   clear hpo hq6 hlay y0 y1 y2 y3
   go_wp2_with fail
   obtain ⟨u7, hu7⟩ : ∃ u, u = set3 w6 q (.int .i64 (m : Int)) (.slice ka6 kn6 kc6) (.int .i64 b6) := ⟨_, rfl⟩
   have hu7' := hu7
   unfold set3 at hu7'
   rw [<- hu7']
   obtain ⟨hpo, hq6⟩ := HPO.out
   rw [<- hu7] at hpo
   have h77 : u7.heap[q]? = some (.cells #[.int .i64 (m : Int), .slice ka6 kn6 kc6, .int .i64 b6] 103 (0, 0)) := by rw [hu7]; exact set3_heap hq6
   have c0 : u7.cell? ⟨q, 0, none⟩ = some (.int .i64 (m : Int)) := by simp [World.cell?, h77]
   have c1 : u7.cell? ⟨q, 1, none⟩ = some (.slice ka6 kn6 kc6) := by simp [World.cell?, h77]
   have c2 : u7.cell? ⟨q, 2, none⟩ = some (.int .i64 b6) := by simp [World.cell?, h77]
   exact bodyPost_ret (v := .tuple #[.agg #[.int .i64 (m : Int), .slice ka6 kn6 kc6, .int .i64 b6], .int .i64 0]) (by simp [results, Tryz.results31, go_sem, c0, c1, c2]) rfl hpo
end Go.Proofs.YtafilaiinbggoaaGreat
