import Derived.Test.YtafilaiinbggoaaGreatQS31
namespace Go.Proofs.YtafilaiinbggoaaGreat
open Go.RowKit Go.Maps
theorem TPutPost.wide {Q : PQ} {R : Int -> Option Bts} {H : HS} {S : PS} {p c c' h : Nat} {t : Tree h} {k v : Bts} {w w' : World} {e : Ending} (hp : TPutPost Q R H S p c h t k v w e w') (hc : c <= c') : TPutPost Q R H S p c' h t k v w e w' := by
 obtain ⟨r, ka, kn, kc, H', S', p', h1, h2, h3, h4, h5, h6, h7⟩ := hp
 exact ⟨r, ka, kn, kc, H', S', p', h1, h2, h3, h4, h5, by omega, h7⟩
theorem lay_post_node {Q : PQ} {R : Int -> Option Bts} {H : HS} {S S' : PS} {p h : Nat} {t : Tree (h + 1)} {k v s : Bts} {x c1 y : Tree h} {K : List (Tree h)} {L : List Bts} {w w' : World} {e : Ending} (hK : K = insAt (kidB k t.2.2 + 1) y (t.2.1.set (kidB k t.2.2) c1)) (hL : L = insAt (kidB k t.2.2) s t.2.2) (ht : TreeIn S (h + 1) t) (hk : keyOk k) (hv : v.length <= 260) (hx : t.2.1[kidB k t.2.2]? = some x) (hc : PutM S S' h x k v (c1, some (s, y))) (hf : freeP S <= freeP S' + (h + 1)) (hlay : LayPost Q R H S' p (nodeN (K.map (pgT h)) L) [t.1] w e w') : TPutPost Q R H S p 16 (h + 1) t k v w e w' := by
 obtain ⟨m, H', S2, p', hG, hm, hT, hp, hlay⟩ := hlay
 have hm' : t.1 = m := by have := hm (by simp); simpa using this
 subst hm'
 have hfr : S'.is[t.1]? = some 2 := (kids_split ht hx hc).1.fresh _ (List.mem_append_right _ (List.mem_singleton.2 rfl))
 rcases hlay with ⟨hz, he, hM, hcn⟩ | ⟨hz, j, m2, ks, hj, he, hy, hM, hcn, hcn2⟩
 ·refine ⟨_, none, 0, 0, H', S2, p', putM_ins hK hL ht hk hv hx hc hM (by rw [<- size_node]; exact hz) hcn, he, fun s y e2 => (by cases e2), hG, hT, hp, ?_⟩
  have := hM.free2 (nodup_one _) (fun p hp => by rw [List.mem_singleton.1 hp]; exact hfr)
  simp at this
  omega
 ·obtain ⟨ka, kc, rfl⟩ := hy.form
  refine ⟨_, ka, _, kc, H', S2, p', putM_ins2 hK hL ht hk hv hx hc hM (by rw [<- size_node]; exact hz) hj hcn hcn2, he, fun s y e2 => (by cases e2; exact hy), hG, hT, hp, ?_⟩
  have := hM.free2 (nodup_one _) (fun p hp => by rw [List.mem_singleton.1 hp]; exact hfr)
  simp at this
  omega
def KeepM (P P2 : BS) (w : World) (ds : List Nat) : Array Bool -> World -> Prop := fun l w' => KeepL P w ds l w' /\ ∀ b, P2 b -> w'.heap[b]? = w.heap[b]?
theorem keepM_back {P P2 : BS} {w : World} {ds is : List Nat} (h : (is.all fun i => !ds.contains i) = true) : ∀ i ∈ is, ∀ l w', KeepM P P2 w ds (l.setIfInBounds i true) w' -> KeepM P P2 w ds l w' := fun i hi l w' h2 => ⟨keepL_back h i hi l w' h2.1, h2.2⟩
theorem keepM_in {P P2 : BS} {w : World} {ds : List Nat} {d : Nat} (hd : d ∈ ds) : ∀ l w', l.getD d true = false -> KeepM P P2 w ds l w' -> KeepSC P w w' := fun l w' h1 h2 => keepL_in hd l w' h1 h2.1
theorem keepM_base {P P2 : BS} {w : World} {ds : List Nat} : ∀ l w', KeepM P P2 w ds l w' -> KeepSC P2 w w' := fun _ _ h => keepSC h.2
structure PutIn (Q : PQ) (R : Int -> Option Bts) (H : HS) (S : PS) (p tb : Nat) (root : Int) (deep h : Nat) (t : Tree h) (k v : Bts) (ks vs : Value) (w : World) : Prop where
 pg : PG Q R H S p w
 tb : TB H w tb Q.pb root
 few : p + 20 * (h + 1) <= 999999900
 deep : deep + h <= 20
 tree : TreeIn S h t
 key : keyOk k
 val : v.length <= 260
 yk : YAt (cfU w) ks k
 yv : YAt (cfU w) vs v
 free : 2 * (h + 1) <= freeP S
theorem PutIn.pages {Q : PQ} {R : Int -> Option Bts} {H : HS} {S : PS} {p tb : Nat} {root : Int} {deep h : Nat} {t : Tree h} {k v : Bts} {ks vs : Value} {w : World} (hi : PutIn Q R H S p tb root deep h t k v ks vs w) : ∀ n ∈ pagesT h t, n <= 2147483647 := fun n hn => by
 have h1 := (List.getElem?_eq_some_iff.1 (hi.tree.fresh n hn)).1
 have h2 := hi.pg.len
 have h3 := hi.pg.small.1
 omega
theorem kid_at {h : Nat} {t : Tree (h + 1)} (hw : WFT (h + 1) t) (k : Bts) : ∃ x, t.2.1[kidB k t.2.2]? = some x /\ kidB k t.2.2 <= t.2.2.length := by
 have h1 := kidB_le k t.2.2
 have h2 : t.2.1.length = t.2.2.length + 1 := hw.2.1
 exact ⟨_, List.getElem?_eq_getElem (by omega), h1⟩
set_option maxHeartbeats 16000000 in
set_option maxRecDepth 100000 in
theorem tree_put_node {Q : PQ} {R : Int -> Option Bts} {h tb : Nat} {root : Int} {k v : Bts} (IH : ∀ {H : HS} {S : PS} {p deep : Nat} {t : Tree h} {ks vs : Value} {w : World}, PutIn Q R H S p tb root deep h t k v ks vs w -> Calls Tryz.prog 31 #[.pointer (some ⟨tb, 0, none⟩), .int .i64 (pgT h t : Int), .int .i64 (deep : Int), ks, vs] w (TPutPost Q R H S p (20 * (h + 1)) h t k v w))
  {H : HS} {S : PS} {p deep : Nat} {t : Tree (h + 1)} {ks vs : Value} {w : World} (hi : PutIn Q R H S p tb root deep (h + 1) t k v ks vs w) :
  Calls Tryz.prog 31 #[.pointer (some ⟨tb, 0, none⟩), .int .i64 (t.1 : Int), .int .i64 (deep : Int), ks, vs] w (TPutPost Q R H S p (20 * (h + 1 + 1)) (h + 1) t k v w) := by
 obtain ⟨xa, xc, rfl⟩ := hi.yk.form
 obtain ⟨va, vc, rfl⟩ := hi.yv.form
 obtain ⟨xl, hxl⟩ : ∃ x, x = k.length := ⟨_, rfl⟩
 obtain ⟨vl, hvl⟩ : ∃ x, x = v.length := ⟨_, rfl⟩
 rw [<- hxl, <- hvl] at hi |-
 obtain ⟨q, hq⟩ : ∃ q, q = w.heap.size := ⟨_, rfl⟩
 obtain ⟨w1, hw1⟩ : ∃ w1, w1 = w.alloc (.cells #[.int .i64 0, .slice none 0 0, .int .i64 0] 103) := ⟨_, rfl⟩
 have hb1 : Below w.heap.size w w1 := by rw [hw1]; exact (Below.refl _ w).alloc (Nat.le_refl _) _
 have hbq : w1.heap[q]? = some (.cells #[.int .i64 0, .slice none 0 0, .int .i64 0] 103 (0, 0)) := by rw [hw1, hq]; exact heap_alloc_new w _
 have hfr := hi.tree.fresh t.1 (List.mem_cons_self ..)
 have hsh : ShN (nodeN (t.2.1.map (pgT h)) t.2.2) := shT (h := h + 1) hi.tree.wf hi.pages
 have hz : sizeN (nodeN (t.2.1.map (pgT h)) t.2.2) <= 1024 := sz_tree (h := h + 1) hi.tree.wf
 have HRD := HoldT.mk (tree_read (deep := deep) (hi.pg.below hb1) (hi.tb.below hb1) (by have := hi.few; omega) hfr (.inr rfl) (by have := hi.deep; omega) hsh hz (sitsN (h := h + 1) hi.tree.wf hi.tree.sits))
 have hqH : ¬ H.all q := fun e => by have := hi.pg.lt q e; omega
 obtain ⟨x, hx, hkl⟩ := kid_at hi.tree.wf k
 have HI := HoldT.mk hi
 have HX := HoldT.mk (And.intro hx hkl)
 have HB := HoldT.mk (And.intro hb1 (And.intro hbq (And.intro hq hqH)))
 have HS := HoldT.mk (And.intro hfr (And.intro hsh hz))
 have HW := HoldT.mk hw1
 clear hi hb1 hbq hxl hvl hfr hsh hz hqH hw1 hx hkl
 go_enter Tryz.func31, Tryz.ntmps31
 go_upto_region 1 with (fail)
 rw [<- HW.out, <- hq]
 clear hq
 go_wp2_with fail
 refine HRD.out.mono ?_
 rintro e w2 ⟨kv, vv, iv, H1, S1, p1, rfl, hN, hG1, hS1, hT1, hp1⟩
 have hbq1 := hT1.kept HB.out.2.1 HB.out.2.2.2
 obtain ⟨ka, kc, rfl⟩ := hN.own.nat.keys.form
 obtain ⟨wa, wc, rfl⟩ := hN.own.nat.vals.form
 obtain ⟨nd, hnd⟩ : ∃ nd, nd = nodeN (t.2.1.map (pgT h)) t.2.2 := ⟨_, rfl⟩
 have hl1 : (nodeN (t.2.1.map (pgT h)) t.2.2).vals.length = 0 := rfl
 rw [hl1] at hN |-
 rw [<- hnd] at hN |-
 obtain ⟨m1, hm1⟩ : ∃ m, m = nd.keys.length := ⟨_, rfl⟩
 obtain ⟨m3, hm3⟩ : ∃ m, m = nd.kids.length := ⟨_, rfl⟩
 have hm31 : m3 = m1 + 1 := by rw [hm3, hm1, hnd]; show (t.2.1.map _).length = t.2.2.length + 1; rw [List.length_map]; exact HI.out.tree.wf.2.1
 obtain ⟨csI, hoI⟩ := hN.own.kids
 rw [<- hm3] at hoI
 obtain ⟨g, ic, curI, hiv, hgI, hgc, hgm, hgz⟩ := own_slice hoI (by omega)
 subst hiv
 rw [<- hm1] at hN |-
 have hlf : nd.leaf = false := by rw [hnd]; rfl
 unfold nodeV
 rw [hlf]
 have hm9 : m1 <= 9000 := by rw [hm1, hnd]; exact HS.out.2.1.few
 have HN := HoldT.mk (And.intro hnd (And.intro hm1 (And.intro hm3 (And.intro hm31 (And.intro hlf hN)))))
 have HP := HoldT.mk (And.intro hG1 (And.intro hS1 (And.intro hT1 (And.intro hp1 hbq1))))
 have HO := HoldT.mk (And.intro hoI (And.intro hgI (And.intro hgc (And.intro hgm hgz))))
 clear hnd hm1 hm3 hm31 hl1 hlf hN hG1 hS1 hT1 hp1 hbq1 hoI hgI hgc hgm hgz
 go_upto_region 4 with (fail)
 obtain ⟨w3, hw3⟩ : ∃ w3, w3 = w2.alloc (.cells #[.bool false, .slice ka m1 kc, .slice wa 0 wc, .slice (some ⟨g, 0, none⟩) m3 ic] 107) := ⟨_, rfl⟩
 obtain ⟨r, hr⟩ : ∃ r, r = w2.heap.size := ⟨_, rfl⟩
 rw [<- hw3, <- hr]
 have hb3 : Below w2.heap.size w2 w3 := by rw [hw3]; exact (Below.refl _ w2).alloc (Nat.le_refl _) _
 have hbr : w3.heap[r]? = some (.cells #[.bool false, .slice ka m1 kc, .slice wa 0 wc, .slice (some ⟨g, 0, none⟩) m3 ic] 107 (0, 0)) := by rw [hw3, hr]; exact heap_alloc_new w2 _
 have hN3 := HN.out.2.2.2.2.2.below hb3
 have hu3 := (((cfU_below HB.out.1).trans (cfU_turn HP.out.2.2.1 (HI.out.pg.below HB.out.1).noU)).trans (cfU_below hb3))
 have hup : upB nd.keys := by rw [HN.out.1]; exact HI.out.tree.wf.2.2.1
 have hnt : (nd.kids.map Int.ofNat).length = m3 := by rw [List.length_map, HN.out.2.2.1]
 have HF := tree_kid hN3.own.nat hup (by rw [<- HN.out.2.1]; exact hm9) (HI.out.yk.mono RY_mono hu3)
 unfold nodeV at HF
 rw [HN.out.2.2.2.2.1] at HF
 obtain ⟨pl, hpl⟩ : ∃ x, x = kidB k nd.keys := ⟨_, rfl⟩
 rw [<- hpl] at HF
 have HF := HoldT.mk HF
 have hplm : pl < m3 := by rw [HN.out.2.2.2.1, hpl, HN.out.2.1]; exact Nat.lt_succ_of_le (kidB_le ..)
 have hG3 := HP.out.1.below hb3
 have hrH : ¬ H1.all r := fun e => by have := HP.out.1.lt r e; omega
 have H3 := HoldT.mk (And.intro hb3 (And.intro hbr (And.intro hN3 (And.intro hu3 (And.intro hpl (And.intro hG3 (And.intro hrH hr)))))))
 have y0 : w3.cell? ⟨r, 0, none⟩ = some (.bool false) := by simp [World.cell?, hbr]
 have y1 : w3.cell? ⟨r, 1, none⟩ = some (.slice ka m1 kc) := by simp [World.cell?, hbr]
 have y2 : w3.cell? ⟨r, 2, none⟩ = some (.slice wa 0 wc) := by simp [World.cell?, hbr]
 have y3 : w3.cell? ⟨r, 3, none⟩ = some (.slice (some ⟨g, 0, none⟩) m3 ic) := by simp [World.cell?, hbr]
 clear hw3 hb3 hbr hN3 hu3 hup hpl hG3 hrH hr hnt
 go_wp2_with fail
 refine HF.out.mono ?_
 rintro e w4 ⟨rfl, hb4⟩
 clear y0 y1 y2 y3
 have hbr4 := kept H3.out.2.1 hb4
 have hN4 := H3.out.2.2.1.below hb4
 have hkk : nd.kids[pl]? = some (pgT h x) := by
  have h1 := HX.out.1
  have h2 : pl = kidB k t.2.2 := by rw [H3.out.2.2.2.2.1, HN.out.1]; rfl
  rw [h2, HN.out.1]
  show (t.2.1.map (pgT h))[_]? = _
  rw [List.getElem?_map, h1]; rfl
 obtain ⟨jb, jo, ej, hkc⟩ := sat_cell hN4.own.nat.kids (mem_map_nat.2 hkk)
 obtain ⟨rfl, rfl⟩ : g = jb /\ 0 = jo := by
  simp only [Option.some.injEq, Addr.mk.injEq, and_true] at ej
  exact ej
 have hT4 : TurnS H.all w H1.all w4 := (((TurnS.quiet HB.out.1).trans HP.out.2.2.1).then H3.out.1).then hb4
 have hu4 : CLe (cfU w) (cfU w4) := H3.out.2.2.2.1.trans (cfU_below hb4)
 have hin4 : PutIn Q R H1 S1 p1 tb root (deep + 1) h x k v (.slice xa xl xc) (.slice va vl vc) w4 :=
  ⟨H3.out.2.2.2.2.2.1.below hb4, HI.out.tb.turn hT4, by have := HI.out.few; have := HP.out.2.2.2.1; omega, by have := HI.out.deep; omega, (HI.out.tree.kid HX.out.1).same HP.out.2.1, HI.out.key, HI.out.val, HI.out.yk.mono RY_mono hu4, HI.out.yv.mono RY_mono hu4, by have := HI.out.free; unfold freeP at this |-; rw [HP.out.2.1.1]; omega⟩
 have HIH := IH hin4
 rw [show ((deep + 1 : Nat) : Int) = (deep : Int) + 1 by omega] at HIH
 obtain ⟨px, hpx⟩ : ∃ n, n = pgT h x := ⟨_, rfl⟩
 rw [<- hpx] at hkc HIH hkk
 have HIH := HoldT.mk HIH
 replace hkc : w4.cell? ⟨g, pl, none⟩ = some (.int .i64 (px : Int)) := by have := hkc; rw [Nat.zero_add] at this; exact this
 have y0 : w4.cell? ⟨r, 0, none⟩ = some (.bool false) := by simp [World.cell?, hbr4]
 have y3 : w4.cell? ⟨r, 3, none⟩ = some (.slice (some ⟨g, 0, none⟩) m3 ic) := by simp [World.cell?, hbr4]
 have hq4 := kept (kept HP.out.2.2.2.2.1 H3.out.1) hb4
 have H4 := HoldT.mk (And.intro hb4 (And.intro hbr4 (And.intro hN4 (And.intro hkk (And.intro hpx (And.intro hT4 (And.intro hu4 hq4)))))))
 have hI : (pl : Int) < (m3 : Int) := by omega
 clear IH hb4 hbr4 hN4 hkk hpx hT4 hu4 hq4 hin4 ej
 have hdp : deep <= 20 := by have := HI.out.deep; omega
 go_wp2_with fail
 refine HIH.out.mono ?_
 rintro e w5 ⟨c, la, ln, lc, H5, S5, p5, hM5, rfl, hy5, hG5, hT5, hp5, hf5⟩
 clear y0 y3 hkc hI
 have hG4 := H3.out.2.2.2.2.2.1.below H4.out.1
 have hN5 := H4.out.2.2.1.turn hT5 hG4.noU
 have hbr5 := hT5.kept H4.out.2.1 H3.out.2.2.2.2.2.2.1
 have hq5 := hT5.kept H4.out.2.2.2.2.2.2.2 HP.out.2.2.2.2.2
 have hT15 := H4.out.2.2.2.2.2.1.trans hT5
 have htb5 : TB H5 w5 tb Q.pb root := HI.out.tb.turn hT15
 have hu5 : CLe (cfU w) (cfU w5) := fun _ _ _ hu => cfU_turn hT5 hG4.noU _ _ _ (H4.out.2.2.2.2.2.2.1 _ _ _ hu)
 obtain ⟨bh, hbh⟩ : ∃ b, b = behindT c := ⟨_, rfl⟩
 obtain ⟨pc, hpc⟩ : ∃ b, b = pgT h c.1 := ⟨_, rfl⟩
 rw [<- hbh, <- hpc]
 have hpp : pc = px := by rw [hpc, H4.out.2.2.2.2.1]; exact hM5.2.1
 subst hpp
 have HF5 := HoldT.mk hf5
 clear hf5
 have H5' := HoldT.mk (And.intro hM5 (And.intro hy5 (And.intro hG5 (And.intro hT15 (And.intro hp5 (And.intro hN5 (And.intro hbr5 (And.intro hq5 (And.intro htb5 (And.intro hu5 (And.intro hbh hpc)))))))))))
 clear hM5 hy5 hG5 hT5 hp5 hN5 hbr5 hq5 hT15 htb5 hu5 hbh hpc hG4
 go_upto_region 12 with (fail)
 obtain ⟨w6, hw6⟩ : ∃ w6, w6 = w5.alloc (.cells #[.int .i64 (pc : Int), .slice la ln lc, .int .i64 bh] 103) := ⟨_, rfl⟩
 obtain ⟨rl, hrl⟩ : ∃ r, r = w5.heap.size := ⟨_, rfl⟩
 rw [<- hw6, <- hrl]
 have hb6 : Below w5.heap.size w5 w6 := by rw [hw6]; exact (Below.refl _ w5).alloc (Nat.le_refl _) _
 have hbl : w6.heap[rl]? = some (.cells #[.int .i64 (pc : Int), .slice la ln lc, .int .i64 bh] 103 (0, 0)) := by rw [hw6, hrl]; exact heap_alloc_new w5 _
 have hbr6 := kept H5'.out.2.2.2.2.2.2.1.1 hb6
 have hq6 := kept H5'.out.2.2.2.2.2.2.2.1.1 hb6
 have hN6 := H5'.out.2.2.2.2.2.1.below hb6
 have hkc6 : w6.cell? ⟨g, pl, none⟩ = some (.int .i64 (pc : Int)) := by
  obtain ⟨jb, jo, ej, hkc⟩ := sat_cell hN6.own.nat.kids (mem_map_nat.2 H4.out.2.2.2.1)
  obtain ⟨rfl, rfl⟩ : g = jb /\ 0 = jo := by
   simp only [Option.some.injEq, Addr.mk.injEq, and_true] at ej
   exact ej
  rw [Nat.zero_add] at hkc
  exact hkc
 have hrlH : ¬ H5.all rl := fun e => by have := H5'.out.2.2.1.lt rl e; omega
 have H6 := HoldT.mk (And.intro hb6 (And.intro hbl (And.intro hbr6 (And.intro hq6 (And.intro hN6 (And.intro hkc6 (And.intro hrl hrlH)))))))
 have y3 : w6.cell? ⟨r, 3, none⟩ = some (.slice (some ⟨g, 0, none⟩) m3 ic) := by simp [World.cell?, hbr6]
 have l0 : w6.cell? ⟨rl, 0, none⟩ = some (.int .i64 (pc : Int)) := by simp [World.cell?, hbl]
 have l2 : w6.cell? ⟨rl, 2, none⟩ = some (.int .i64 bh) := by simp [World.cell?, hbl]
 have g0 := KeepS.cell (P := fun _ => True) y3 trivial
 have g1 := KeepS.cell (P := fun _ => True) l0 trivial
 have g2 := KeepS.cell (P := fun _ => True) l2 trivial
 have g3 := KeepS.cell (P := fun _ => True) hkc6 trivial
 clear hw6 hb6 hbl hbr6 hq6 hN6 hrlH hrl y3 l0 l2 hkc6
 go_upto_region 14 with (fail)
 refine wp_region_mixC (KeepSC (fun _ => True) w6) 13 rfl (by kernel_rfl) ?_
 have HDR := HoldT.mk ((Below.refl w6.heap.size w6).drew)
 have HST : HoldT (∀ q : Nat, w6.drew.heap[q]? = w6.heap[q]?) := ⟨fun _ => rfl⟩
 generalize w6.drew = v7 at HDR HST |-
 have hI : (pl : Int) < (m3 : Int) := by omega
 obtain ⟨c1, c2⟩ := c
 cases c2 with
 | none =>
  obtain rfl : bh = -1 := H5'.out.2.2.2.2.2.2.2.2.2.2.1
  refine mixl_seg (by kernel_rfl) (fun _ _ d _ _ h => by cases d <;> exact h) [0, 1, 2, 3, 4, 5, 6, 7, 8, 9, 10, 11, 12] [_, _, _, _, _, _, _, _, _, _, _, _, _] 0 13 rfl _ _ _ rfl (by kernel_rfl) (keepSC fun q _ => HST.out q) ?_
  repeat (go_big_quiet_step (fail))
  refine wpQuiet_nil ?_
  refine mix_done (by kernel_rfl) (keepSC fun q _ => HST.out q) ?_
  clear g0 g1 g2 g3
  have hq7 : v7.heap[q]? = some (.cells #[.int .i64 0, .slice none 0 0, .int .i64 0] 103 (0, 0)) := (HST.out q).trans H6.out.2.2.2.1
  have z0 : v7.cell? ⟨q, 0, none⟩ = some (.int .i64 0) := by simp [World.cell?, hq7]
  have z1 : v7.cell? ⟨q, 1, none⟩ = some (.slice none 0 0) := by simp [World.cell?, hq7]
  have z2 : v7.cell? ⟨q, 2, none⟩ = some (.int .i64 0) := by simp [World.cell?, hq7]
  have f0 : v7.frozen? ⟨q, 0, none⟩ = false := by simp [World.frozen?, hq7]
  have f1 : v7.frozen? ⟨q, 1, none⟩ = false := by simp [World.frozen?, hq7]
  have f2 : v7.frozen? ⟨q, 2, none⟩ = false := by simp [World.frozen?, hq7]
  have HQ7 := HoldT.mk hq7
  clear hq7
  go_wp2_with fail
  obtain ⟨u8, hu8⟩ : ∃ u, u = set3 v7 q (.int .i64 (t.1 : Int)) (.slice none 0 0) (.int .i64 (-1)) := ⟨_, rfl⟩
  have hu8' := hu8
  unfold set3 at hu8'
  rw [<- hu8']
  have hg8 : v7.grownBy u8 (some q) := by rw [hu8]; exact set3_grown _ _ _ _ _
  have h88 : u8.heap[q]? = some (.cells #[.int .i64 (t.1 : Int), .slice none 0 0, .int .i64 (-1)] 103 (0, 0)) := by rw [hu8]; exact set3_heap HQ7.out
  have c0 : u8.cell? ⟨q, 0, none⟩ = some (.int .i64 (t.1 : Int)) := by simp [World.cell?, h88]
  have c1 : u8.cell? ⟨q, 1, none⟩ = some (.slice none 0 0) := by simp [World.cell?, h88]
  have c2 : u8.cell? ⟨q, 2, none⟩ = some (.int .i64 (-1)) := by simp [World.cell?, h88]
  refine bodyPost_ret (v := .tuple #[.agg #[.int .i64 (t.1 : Int), .slice none 0 0, .int .i64 (-1)], .int .i64 0]) (by simp [results, Tryz.results31, go_sem, c0, c1, c2]) rfl ?_
  have hpm := putM_kid HI.out.tree HX.out.1 (H5'.out.1.before HP.out.2.1) rfl
  refine ⟨_, none, 0, 0, H5, S5, p5, hpm, rfl, fun s y e => (by cases e), ((H5'.out.2.2.1.below H6.out.1).below HDR.out).beside hg8 (fun b e => by cases e; exact ⟨H5'.out.2.2.2.2.2.2.2.1.2, fun ⟨_, _, e2⟩ => by rw [HQ7.out] at e2; cases e2⟩), ((H5'.out.2.2.2.1.then H6.out.1).then HDR.out).own hg8 (by have := HB.out.2.2.1; omega), by have h1 := H5'.out.2.2.2.2.1; have h2 := HP.out.2.2.2.1; omega, by have := HF5.out; rw [free_same HP.out.2.1] at this; omega⟩
 | some y =>
  obtain ⟨s, y⟩ := y
  obtain ⟨py, hpy⟩ : ∃ n, n = pgT h y := ⟨_, rfl⟩
  obtain rfl : bh = (py : Int) := by rw [hpy]; exact H5'.out.2.2.2.2.2.2.2.2.2.2.1
  have bb : decide ((py : Int) = -1) = false := decide_eq_false (by omega)
  refine mixl_seg (by kernel_rfl) (fun _ _ d _ _ h => by cases d <;> exact h) [0, 1, 2, 3] [_, _, _, _] 9 13 rfl _ _ _ rfl (by kernel_rfl) (keepSC fun q _ => HST.out q) ?_
  repeat (go_big_quiet_step (fail))
  refine wpQuiet_nil ?_
  refine mixl_skip (i := 4) rfl (by kernel_rfl) (fun _ _ d _ _ h => by cases d <;> exact h) (by kernel_rfl) (by kernel_rfl) rfl ?_
  simp only [Act.put, List.setIfInBounds_toArray, List.set_cons_succ, List.set_cons_zero]
  refine mixl_skip (i := 5) rfl (by kernel_rfl) (fun _ _ d _ _ h => by cases d <;> exact h) (by kernel_rfl) (by kernel_rfl) rfl ?_
  simp only [Act.put, List.setIfInBounds_toArray, List.set_cons_succ, List.set_cons_zero]
  refine mixl_skip (i := 6) rfl (by kernel_rfl) (fun _ _ d _ _ h => by cases d <;> exact h) (by kernel_rfl) (by kernel_rfl) rfl ?_
  simp only [Act.put, List.setIfInBounds_toArray, List.set_cons_succ, List.set_cons_zero]
  refine mixl_skip (i := 7) rfl (by kernel_rfl) (fun _ _ d _ _ h => by cases d <;> exact h) (by kernel_rfl) (by kernel_rfl) rfl ?_
  simp only [Act.put, List.setIfInBounds_toArray, List.set_cons_succ, List.set_cons_zero]
  refine mixl_skip (i := 8) rfl (by kernel_rfl) (fun _ _ d _ _ h => by cases d <;> exact h) (by kernel_rfl) (by kernel_rfl) rfl ?_
  simp only [Act.put, List.setIfInBounds_toArray, List.set_cons_succ, List.set_cons_zero]
  refine mixl_skip (i := 9) rfl (by kernel_rfl) (fun _ _ d _ _ h => by cases d <;> exact h) (by kernel_rfl) (by kernel_rfl) rfl ?_
  simp only [Act.put, List.setIfInBounds_toArray, List.set_cons_succ, List.set_cons_zero]
  refine mixl_skip (i := 10) rfl (by kernel_rfl) (fun _ _ d _ _ h => by cases d <;> exact h) (by kernel_rfl) (by kernel_rfl) rfl ?_
  simp only [Act.put, List.setIfInBounds_toArray, List.set_cons_succ, List.set_cons_zero]
  refine mixl_skip (i := 11) rfl (by kernel_rfl) (fun _ _ d _ _ h => by cases d <;> exact h) (by kernel_rfl) (by kernel_rfl) rfl ?_
  simp only [Act.put, List.setIfInBounds_toArray, List.set_cons_succ, List.set_cons_zero]
  refine mixl_seg (by kernel_rfl) (fun _ _ d _ _ h => by cases d <;> exact h) [12] [_] 0 1 rfl _ _ _ rfl (by kernel_rfl) (keepSC fun q _ => HST.out q) ?_
  repeat (go_big_quiet_step (fail))
  refine wpQuiet_nil ?_
  refine mix_done (by kernel_rfl) (keepSC fun q _ => HST.out q) ?_
  clear g0 g1 g2 g3
  have hst := HST.out
  have hbr7 : v7.heap[r]? = some (.cells #[.bool false, .slice ka m1 kc, .slice wa 0 wc, .slice (some ⟨g, 0, none⟩) m3 ic] 107 (0, 0)) := (hst r).trans H6.out.2.2.1
  have hbl7 : v7.heap[rl]? = some (.cells #[.int .i64 (pc : Int), .slice la ln lc, .int .i64 (py : Int)] 103 (0, 0)) := (hst rl).trans H6.out.2.1
  have hN7 := H6.out.2.2.2.2.1.below HDR.out
  obtain ⟨csI, hoI⟩ := hN7.own.kids
  have hoI' := hoI
  rw [<- HN.out.2.2.1] at hoI'
  obtain ⟨g', ic', curI', hiv, hgI, hgc, hgm, hgz⟩ := own_slice hoI' (by have := HN.out.2.2.2.1; omega)
  simp only [Value.slice.injEq, Option.some.injEq, Addr.mk.injEq, true_and, and_true] at hiv
  obtain ⟨rfl, rfl⟩ := hiv
  have hop := OwnS.put (fun _ _ _ _ h => h) (k := pl) (x := (pc : Int)) (u := .int .i64 (pc : Int)) hoI' rfl
  obtain ⟨v8, hv8⟩ : ∃ v, v = v7.setCell ⟨g, pl, none⟩ (.int .i64 (pc : Int)) := ⟨_, rfl⟩
  rw [<- hv8] at hop
  have hg8 : v7.grownBy v8 (some g) := by rw [hv8]; exact set6_grown _ _
  have hset : (nd.kids.map Int.ofNat).set pl (pc : Int) = nd.kids.map Int.ofNat := by
   refine List.ext_getElem? fun j => ?_
   rw [List.getElem?_set]
   split
   ·rename_i e
    subst e
    rw [mem_map_nat.2 H4.out.2.2.2.1]
    rw [if_pos (by rw [List.length_map, <- HN.out.2.2.1]; exact hplm)]
   ·rfl
  rw [hset] at hop
  have hpg7 := (H5'.out.2.2.1.below H6.out.1).below HDR.out
  have hed := hN7.edI (iv' := .slice (some ⟨g, 0, none⟩) m3 ic) (ks := nd.kids) ⟨hg8, fun _ h => .inl h⟩ hpg7.lt (by rw [<- HN.out.2.2.1]; exact hop)
  have hES8 : ES Q R H5 S5 p5 w1.heap.size v7 v8 nd (.slice ka m1 kc) (.slice wa 0 wc) (.slice (some ⟨g, 0, none⟩) m3 ic) :=
   (ES.start hpg7 hN7).hand (m := m3) (n' := nd) (old := .slice (some ⟨g, 0, none⟩) m3 ic) (new := .slice (some ⟨g, 0, none⟩) m3 ic) ⟨hed.1, hg8, fun _ h => .inl h, hed.2, ⟨_, _, rfl⟩⟩ (.inr (.inr rfl)) (by have h1 := HP.out.2.2.1.size; have h2 := heap_lt hbr7; have h3 := H3.out.2.2.2.2.2.2.2; omega)
  have hbr8 := hES8.box r _ _ hbr7 (by decide) (by decide)
  have hbl8 := hES8.box rl _ _ hbl7 (by decide) (by decide)
  have y3 : v7.cell? ⟨r, 3, none⟩ = some (.slice (some ⟨g, 0, none⟩) m3 ic) := by simp [World.cell?, hbr7]
  have l0 : v7.cell? ⟨rl, 0, none⟩ = some (.int .i64 (pc : Int)) := by simp [World.cell?, hbl7]
  have hkc7 : v7.cell? ⟨g, pl, none⟩ = some (.int .i64 (pc : Int)) := by
   obtain ⟨jb, jo, ej, hkc⟩ := sat_cell hN7.own.nat.kids (mem_map_nat.2 H4.out.2.2.2.1)
   obtain ⟨rfl, rfl⟩ : g = jb /\ 0 = jo := by
    simp only [Option.some.injEq, Addr.mk.injEq, and_true] at ej
    exact ej
   rw [Nat.zero_add] at hkc
   exact hkc
  have f0 : v7.frozen? ⟨g, pl, none⟩ = false := by simp [World.frozen?, hgI]
  have l2 : v8.cell? ⟨rl, 2, none⟩ = some (.int .i64 (py : Int)) := by simp [World.cell?, hbl8]
  have H8 := HoldT.mk (And.intro hbr7 (And.intro hbl7 (And.intro hES8 (And.intro hbr8 (And.intro hbl8 (And.intro hv8 hpy))))))
  clear hst hbr7 hbl7 hN7 hoI hoI' hgI hgc hgm hgz hop hv8 hg8 hset hpg7 hed hES8 hbr8 hbl8 hpy
  go_upto_region 17 with (fail)
  rw [<- H8.out.2.2.2.2.2.1]
  clear y3 l0 hkc7 f0
  go_upto_region 18 with (fail)
  have hys := H5'.out.2.1 s y rfl
  have HYS := HoldT.mk ((((hys.mono RY_mono (cfU_below H6.out.1)).mono RY_mono (cfU_below HDR.out))).mono RY_mono H8.out.2.2.1.le)
  have HB7 : HoldT (w1.heap.size <= v8.heap.size) := ⟨by have h1 := HP.out.2.2.1.size; have h2 := heap_lt H8.out.2.2.2.1; have h3 := H3.out.2.2.2.2.2.2.2; omega⟩
  have HES0 := HoldT.mk (ES.start H8.out.2.2.1.pg H8.out.2.2.1.nt)
  have HKO : HoldT (∀ (l : Array Bool) (vz : World) (nz : ND) (k1 k2 k3 : Value), ES Q R H5 S5 p5 w1.heap.size v8 vz nz k1 k2 k3 -> KeepM (fun b => b = r) (fun b => b = rl) v8 [16] l vz) := ⟨fun _ _ _ _ _ _ hz =>
   ⟨keepL_on fun b hb => by rw [hb]; exact (hz.box r _ _ H8.out.2.2.2.1 (by decide) (by decide)).trans H8.out.2.2.2.1.symm, fun b hb => by rw [hb]; exact (hz.box rl _ _ H8.out.2.2.2.2.1 (by decide) (by decide)).trans H8.out.2.2.2.2.1.symm⟩⟩
  have hbr8 := H8.out.2.2.2.1
  have hbl8 := H8.out.2.2.2.2.1
  have y1 : v8.cell? ⟨r, 1, none⟩ = some (.slice ka m1 kc) := by simp [World.cell?, hbr8]
  have y3 : v8.cell? ⟨r, 3, none⟩ = some (.slice (some ⟨g, 0, none⟩) m3 ic) := by simp [World.cell?, hbr8]
  have l1 : v8.cell? ⟨rl, 1, none⟩ = some (.slice la ln lc) := by simp [World.cell?, hbl8]
  have g1 := KeepS.cell (P := fun b => b = r) y1 rfl
  have g3 := KeepS.cell (P := fun b => b = r) y3 rfl
  have k1 := KeepS.cell (P := fun b => b = rl) l1 rfl
  have k2 := KeepS.cell (P := fun b => b = rl) l2 rfl
  have hpl9 : pl <= 9001 := by have := HN.out.2.2.2.1; omega
  clear hys hbr8 hbl8 y1 y3 l1 l2
  refine wp_region_mixL (KeepM (fun b => b = r) (fun b => b = rl) v8 [16]) 19 rfl (by kernel_rfl) ?_
  have HDR8 := HoldT.mk ((Below.refl v8.heap.size v8).drew)
  generalize v8.drew = v9 at HDR8 |-
  refine mixL_seg (by kernel_rfl) (fun _ _ d _ _ h => by cases d <;> exact h) (KeepSC (fun b => b = rl) v8) keepM_base [0, 2, 3, 4, 7, 9, 10, 11, 12] (keepM_back rfl) [_, _, _, _, _, _, _, _, _] 10 19 rfl _ _ _ rfl (by kernel_rfl) ?_
  repeat (go_big_quiet_step (fail))
  refine wpQuiet_nil ?_
  refine mixL_one (by kernel_rfl) (fun _ _ d _ _ h => by cases d <;> exact h) (KeepSC (fun b => b = r) v8) 16 (keepM_in (by decide)) 1 (fun l w => keepM_back (is := [1]) rfl 1 (by simp) l w) _ 9 _ _ _ rfl (by kernel_rfl) (by kernel_rfl) (by kernel_rfl) ?_
  repeat (go_big_quiet_step (fail))
  refine wpQuiet_nil ?_
  refine mixL_one (by kernel_rfl) (fun _ _ d _ _ h => by cases d <;> exact h) (KeepSC (fun b => b = r) v8) 16 (keepM_in (by decide)) 8 (fun l w => keepM_back (is := [8]) rfl 8 (by simp) l w) _ 8 _ _ _ rfl (by kernel_rfl) (by kernel_rfl) (by kernel_rfl) ?_
  repeat (go_big_quiet_step (fail))
  refine wpQuiet_nil ?_
  clear g1 g3 k1 k2
  have HE9 := HoldT.mk (HES0.out.below HDR8.out HB7.out)
  refine mixL_two (i := 5) (j := 13) rfl rfl (by kernel_rfl) (HKO.out _ _ _ _ _ _ (HE9.out)) rfl rfl (fun K hK => ?_) (fun K hK => ?_)
  case' refine_1 =>
   go_wp2_with fail
   obtain ⟨v10, hv10⟩ : ∃ x, x = v9.alloc (.cells #[.slice la ln lc] 23) := ⟨_, rfl⟩
   obtain ⟨sA, hsA⟩ : ∃ x, x = v9.heap.size := ⟨_, rfl⟩
   rw [<- hv10, <- hsA]
   have hb : Below v9.heap.size v9 v10 := by rw [hv10]; exact (Below.refl _ v9).alloc (Nat.le_refl _) _
   have ha : v10.heap[sA]? = some (.cells [.slice la ln lc].toArray 23 (0, 0)) := by rw [hv10, hsA]; exact heap_alloc_new v9 _
   have H10 := HoldT.mk (And.intro hb (And.intro ha hsA))
   clear hv10 hsA hb ha
   have HE10 := HoldT.mk (HE9.out.below H10.out.1 HB7.out)
   refine mixL_two (i := 6) (j := 13) rfl rfl (by kernel_rfl) (HKO.out _ _ _ _ _ _ (HE10.out)) rfl rfl (fun K hK => ?_) (fun K hK => ?_)
   case' refine_1.refine_1 =>
    have hES' := HE10.out
    have hs' := (And.intro H10.out.2.1 (show v8.heap.size <= sA by rw [H10.out.2.2]; exact HE9.out.size))
    have HIK := HoldT.mk (node_insK (k := pl) hES'.nt hES'.pg.lt (by rw [<- HN.out.2.1]; have := HN.out.2.2.2.1; omega) (by rw [<- HN.out.2.1]; omega) hs'.1 (fun e => by have h1 := (H8.out.2.2.1.nt.own.low (g := sA) (.inl e)).2.1; have h2 := hs'.2; omega) (HYS.out.mono RY_mono hES'.le))
    have HES' := HoldT.mk (And.intro hES' hs')
    clear hES' hs'
    go_wp2_with fail
    refine HIK.out.mono ?_
    rintro e v11 ⟨kv', rfl, hh⟩
    obtain ⟨k'a, k'c, rfl⟩ := hh.shape
    rw [<- HN.out.2.1] at hh |-
    have HE8 := HoldT.mk (And.intro (HES'.out.1.hand hh (.inl rfl) HB7.out) hh)
    clear hh
    simp only
    go_wp2_with fail
    refine mixL_seg (by kernel_rfl) (fun _ _ d _ _ h => by cases d <;> exact h) (KeepSC (fun b => b = rl) v8) keepM_base [15] (keepM_back rfl) [_] 5 6 rfl _ _ _ rfl (by kernel_rfl) ?_
    repeat (go_big_quiet_step (fail))
    refine wpQuiet_nil ?_
    refine mixL_act (i := 13) rfl (by kernel_rfl) (HKO.out _ _ _ _ _ _ (HE8.out.1)) rfl (fun K hK => ?_)
    go_wp2_with fail
    obtain ⟨v12, hv12⟩ : ∃ x, x = v11.alloc (.cells #[.int .i64 (py : Int)] 3) := ⟨_, rfl⟩
    obtain ⟨sB, hsB⟩ : ∃ x, x = v11.heap.size := ⟨_, rfl⟩
    rw [<- hv12, <- hsB]
    have hb : Below v11.heap.size v11 v12 := by rw [hv12]; exact (Below.refl _ v11).alloc (Nat.le_refl _) _
    have ha : v12.heap[sB]? = some (.cells [.int .i64 (py : Int)].toArray 3 (0, 0)) := by rw [hv12, hsB]; exact heap_alloc_new v11 _
    have H12 := HoldT.mk (And.intro hb (And.intro ha hsB))
    clear hv12 hsB hb ha
    have HXX := HoldT.mk (And.intro (HE8.out.1.below H12.out.1 HB7.out) (And.intro H12.out.2.1 (show v8.heap.size <= sB by rw [H12.out.2.2]; exact HE8.out.1.size)))
    go_wp2_with fail
    clear H12 HE10 H10
   case' refine_1.refine_2 =>
    go_wp2_with fail
    obtain ⟨v11, hv11⟩ : ∃ x, x = v10.alloc (.cells #[.int .i64 (py : Int)] 3) := ⟨_, rfl⟩
    obtain ⟨sB, hsB⟩ : ∃ x, x = v10.heap.size := ⟨_, rfl⟩
    rw [<- hv11, <- hsB]
    have hb : Below v10.heap.size v10 v11 := by rw [hv11]; exact (Below.refl _ v10).alloc (Nat.le_refl _) _
    have ha : v11.heap[sB]? = some (.cells [.int .i64 (py : Int)].toArray 3 (0, 0)) := by rw [hv11, hsB]; exact heap_alloc_new v10 _
    have H11 := HoldT.mk (And.intro hb (And.intro ha hsB))
    clear hv11 hsB hb ha
    have hES' := (HE10.out.below H11.out.1 HB7.out)
    have hs' := (And.intro (kept H10.out.2.1 H11.out.1) (show v8.heap.size <= sA by rw [H10.out.2.2]; exact HE9.out.size))
    have HIK := HoldT.mk (node_insK (k := pl) hES'.nt hES'.pg.lt (by rw [<- HN.out.2.1]; have := HN.out.2.2.2.1; omega) (by rw [<- HN.out.2.1]; omega) hs'.1 (fun e => by have h1 := (H8.out.2.2.1.nt.own.low (g := sA) (.inl e)).2.1; have h2 := hs'.2; omega) (HYS.out.mono RY_mono hES'.le))
    have HES' := HoldT.mk (And.intro hES' hs')
    clear hES' hs'
    refine mixL_act (i := 6) rfl (by kernel_rfl) (HKO.out _ _ _ _ _ _ (HES'.out.1)) rfl (fun K hK => ?_)
    go_wp2_with fail
    refine HIK.out.mono ?_
    rintro e v12 ⟨kv', rfl, hh⟩
    obtain ⟨k'a, k'c, rfl⟩ := hh.shape
    rw [<- HN.out.2.1] at hh |-
    have HE8 := HoldT.mk (And.intro (HES'.out.1.hand hh (.inl rfl) HB7.out) hh)
    clear hh
    simp only
    go_wp2_with fail
    refine mixL_seg (by kernel_rfl) (fun _ _ d _ _ h => by cases d <;> exact h) (KeepSC (fun b => b = rl) v8) keepM_base [15] (keepM_back rfl) [_] 4 5 rfl _ _ _ rfl (by kernel_rfl) ?_
    repeat (go_big_quiet_step (fail))
    refine wpQuiet_nil ?_
    have hsb : v8.heap.size <= sB := by rw [H11.out.2.2]; exact HE10.out.size
    have HXX := HoldT.mk (And.intro HE8.out.1 (And.intro (Eq.trans (HE8.out.2.by_.block sB (heap_lt H11.out.2.1) (fun e => by have h1 := (H8.out.2.2.1.nt.own.low (g := sB) (.inl e.symm)).2.1; omega)) H11.out.2.1) hsb))
    clear hsb H11 HE10 H10
  case' refine_2 =>
   go_wp2_with fail
   obtain ⟨v10, hv10⟩ : ∃ x, x = v9.alloc (.cells #[.int .i64 (py : Int)] 3) := ⟨_, rfl⟩
   obtain ⟨sB, hsB⟩ : ∃ x, x = v9.heap.size := ⟨_, rfl⟩
   rw [<- hv10, <- hsB]
   have hb : Below v9.heap.size v9 v10 := by rw [hv10]; exact (Below.refl _ v9).alloc (Nat.le_refl _) _
   have ha : v10.heap[sB]? = some (.cells [.int .i64 (py : Int)].toArray 3 (0, 0)) := by rw [hv10, hsB]; exact heap_alloc_new v9 _
   have H10 := HoldT.mk (And.intro hb (And.intro ha hsB))
   clear hv10 hsB hb ha
   have HE10 := HoldT.mk (HE9.out.below H10.out.1 HB7.out)
   refine mixL_act (i := 5) rfl (by kernel_rfl) (HKO.out _ _ _ _ _ _ (HE10.out)) rfl (fun K hK => ?_)
   go_wp2_with fail
   obtain ⟨v11, hv11⟩ : ∃ x, x = v10.alloc (.cells #[.slice la ln lc] 23) := ⟨_, rfl⟩
   obtain ⟨sA, hsA⟩ : ∃ x, x = v10.heap.size := ⟨_, rfl⟩
   rw [<- hv11, <- hsA]
   have hb : Below v10.heap.size v10 v11 := by rw [hv11]; exact (Below.refl _ v10).alloc (Nat.le_refl _) _
   have ha : v11.heap[sA]? = some (.cells [.slice la ln lc].toArray 23 (0, 0)) := by rw [hv11, hsA]; exact heap_alloc_new v10 _
   have H11 := HoldT.mk (And.intro hb (And.intro ha hsA))
   clear hv11 hsA hb ha
   have hES' := (HE10.out.below H11.out.1 HB7.out)
   have hs' := (And.intro H11.out.2.1 (show v8.heap.size <= sA by rw [H11.out.2.2]; exact HE10.out.size))
   have HIK := HoldT.mk (node_insK (k := pl) hES'.nt hES'.pg.lt (by rw [<- HN.out.2.1]; have := HN.out.2.2.2.1; omega) (by rw [<- HN.out.2.1]; omega) hs'.1 (fun e => by have h1 := (H8.out.2.2.1.nt.own.low (g := sA) (.inl e)).2.1; have h2 := hs'.2; omega) (HYS.out.mono RY_mono hES'.le))
   have HES' := HoldT.mk (And.intro hES' hs')
   clear hES' hs'
   refine mixL_act (i := 6) rfl (by kernel_rfl) (HKO.out _ _ _ _ _ _ (HES'.out.1)) rfl (fun K hK => ?_)
   go_wp2_with fail
   refine HIK.out.mono ?_
   rintro e v12 ⟨kv', rfl, hh⟩
   obtain ⟨k'a, k'c, rfl⟩ := hh.shape
   rw [<- HN.out.2.1] at hh |-
   have HE8 := HoldT.mk (And.intro (HES'.out.1.hand hh (.inl rfl) HB7.out) hh)
   clear hh
   simp only
   go_wp2_with fail
   refine mixL_seg (by kernel_rfl) (fun _ _ d _ _ h => by cases d <;> exact h) (KeepSC (fun b => b = rl) v8) keepM_base [15] (keepM_back rfl) [_] 4 5 rfl _ _ _ rfl (by kernel_rfl) ?_
   repeat (go_big_quiet_step (fail))
   refine wpQuiet_nil ?_
   have hsb : v8.heap.size <= sB := by rw [H10.out.2.2]; exact HE9.out.size
   have HXX := HoldT.mk (And.intro HE8.out.1 (And.intro (Eq.trans (HE8.out.2.by_.block sB (heap_lt (kept H10.out.2.1 H11.out.1)) (fun e => by have h1 := (H8.out.2.2.1.nt.own.low (g := sB) (.inl e.symm)).2.1; omega)) (kept H10.out.2.1 H11.out.1)) hsb))
   clear hsb H11 HE10 H10
  all_goals
   clear HE8 HE9 HDR8
   have hk1 : ({ nd with keys := insAt pl s nd.keys } : ND).kids = nd.kids := rfl
   have HII := HoldT.mk (node_insI (k := pl + 1) HXX.out.1.nt HXX.out.1.pg.lt (by rw [hk1, <- HN.out.2.2.1]; omega) (by rw [hk1, <- HN.out.2.2.1]; have := HN.out.2.2.2.1; omega) HXX.out.2.1 (fun e => by have h1 := (H8.out.2.2.1.nt.own.low (g := sB) (.inr (.inr e))).2.1; have h2 := HXX.out.2.2; omega))
   rw [show ((pl + 1 : Nat) : Int) = (pl : Int) + 1 by omega] at HII
   clear hk1
   refine mixL_act (i := 14) rfl (by kernel_rfl) (HKO.out _ _ _ _ _ _ HXX.out.1) rfl (fun K hK => ?_)
   go_wp2_with fail
   refine HII.out.mono ?_
   rintro e v13 ⟨iv', rfl, hh⟩
   obtain ⟨i'a, i'c, rfl⟩ := hh.shape
   have hlv : ({ nd with keys := insAt pl s nd.keys } : ND).kids.length = m3 := HN.out.2.2.1.symm
   rw [hlv] at hh |-
   have HE13 := HoldT.mk (HXX.out.1.hand hh (.inr (.inr rfl)) HB7.out)
   have hbr13 := HE13.out.box r _ _ H8.out.2.2.2.1 (by decide) (by decide)
   have HR13 := HoldT.mk hbr13
   have z1 : v13.cell? ⟨r, 1, none⟩ = some (.slice ka m1 kc) := by simp [World.cell?, hbr13]
   have f1 : v13.frozen? ⟨r, 1, none⟩ = false := by simp [World.frozen?, hbr13]
   clear hh hlv
   simp only
   go_wp2_with fail
   refine mixL_act (i := 16) rfl (by kernel_rfl) (HKO.out _ _ _ _ _ _ HE13.out) rfl (fun K hK => ?_)
   go_wp2_with fail
   clear z1 f1
   obtain ⟨u1, hu1⟩ : ∃ u, u = v13.setCell ⟨r, 1, none⟩ (.slice k'a (m1 + 1) k'c) := ⟨_, rfl⟩
   rw [<- hu1]
   have hbu1 : u1.heap[r]? = some (.cells #[.bool false, .slice k'a (m1 + 1) k'c, .slice wa 0 wc, .slice (some ⟨g, 0, none⟩) m3 ic] 107 (0, 0)) := by rw [hu1, set_selfT hbr13]; rfl
   have hgu1 : v13.grownBy u1 (some r) := by rw [hu1]; exact set6_grown _ _
   have hrlr : rl ≠ r := fun e => by
    have h1 := H8.out.2.2.2.2.1
    rw [e, H8.out.2.2.2.1] at h1
    cases h1
   have hrl13 := HE13.out.box rl _ _ H8.out.2.2.2.2.1 (by decide) (by decide)
   have hrl1 : ∀ b, b = rl -> u1.heap[b]? = v8.heap[b]? := fun b hb => by
    rw [hb, H8.out.2.2.2.2.1]
    exact (hgu1.block rl (heap_lt hrl13) (fun e => hrlr (Option.some.inj e))).trans hrl13
   have HU1 := HoldT.mk (And.intro hbu1 (And.intro hgu1 hrl1))
   have z2 : u1.cell? ⟨r, 3, none⟩ = some (.slice (some ⟨g, 0, none⟩) m3 ic) := by simp [World.cell?, hbu1]
   have f2 : u1.frozen? ⟨r, 3, none⟩ = false := by simp [World.frozen?, hbu1]
   clear hu1 hbr13 hgu1 hrl1 hrl13
   go_wp2_with fail
   refine mixL_seg (by kernel_rfl) (fun _ _ d _ _ h => by cases d <;> exact h) (KeepSC (fun b => b = rl) v8) keepM_base [17] (keepM_back rfl) [_] 1 2 rfl _ _ _ rfl (by kernel_rfl) ?_
   repeat (go_big_quiet_step (fail))
   refine wpQuiet_nil ?_
   refine mixL_act (i := 18) rfl (by kernel_rfl) ⟨keepL_off (by kernel_rfl), HU1.out.2.2⟩ rfl (fun K hK => ?_)
   go_wp2_with fail
   clear z2 f2
   obtain ⟨wF, hwF⟩ : ∃ u, u = u1.setCell ⟨r, 3, none⟩ (.slice i'a (m3 + 1) i'c) := ⟨_, rfl⟩
   rw [<- hwF]
   have hbrF : wF.heap[r]? = some (.cells #[.bool false, .slice k'a (m1 + 1) k'c, .slice wa 0 wc, .slice i'a (m3 + 1) i'c] 107 (0, 0)) := by rw [hwF, set_selfT hbu1]; rfl
   have hg2 : u1.grownBy wF (some r) := by rw [hwF]; exact set6_grown _ _
   have hgF : v13.grownBy wF (some r) := HU1.out.2.1.trans hg2
   have hrlF : ∀ b, b = rl -> wF.heap[b]? = v8.heap[b]? := fun b hb => by
    rw [hg2.block b (by rw [hb]; have h1 := HU1.out.2.2 rl rfl; rw [H8.out.2.2.2.2.1] at h1; exact heap_lt h1) (fun e => hrlr (by rw [<- hb]; exact Option.some.inj e))]
    exact HU1.out.2.2 b hb
   obtain ⟨c1', c2', _⟩ := HE13.out.cell HR13.out H5'.out.2.2.2.2.2.2.1.2 hgF
   obtain ⟨K9, hK9⟩ : ∃ K, K = insAt (kidB k t.2.2 + 1) y (t.2.1.set (kidB k t.2.2) c1) := ⟨_, rfl⟩
   obtain ⟨L9, hL9⟩ : ∃ L, L = insAt (kidB k t.2.2) s t.2.2 := ⟨_, rfl⟩
   have hplk : pl = kidB k t.2.2 := by rw [H3.out.2.2.2.2.1, HN.out.1]; rfl
   have hnd' : ({ ({ nd with keys := insAt pl s nd.keys } : ND) with kids := insAt (pl + 1) py nd.kids } : ND) = nodeN (K9.map (pgT h)) L9 := by
    have e1 : K9.map (pgT h) = insAt (pl + 1) py (t.2.1.map (pgT h)) := by
     rw [hK9, <- insAt_map, <- H8.out.2.2.2.2.2.2, hplk]
     congr 1
     exact set_pg HX.out.1 H5'.out.1.2.1
    rw [e1, hL9, hplk, HN.out.1]
    rfl
   have c1F : NT H5 w1.heap.size wF (nodeN (K9.map (pgT h)) L9) (.slice k'a (m1 + 1) k'c) (.slice wa 0 wc) (.slice i'a (m3 + 1) i'c) := hnd' ▸ c1'
   have hT8 : TurnS H.all w H5.all v8 := ((H5'.out.2.2.2.1.then H6.out.1).then HDR.out).own (by rw [H8.out.2.2.2.2.2.1]; exact set6_grown _ _) (by have h1 := (H8.out.2.2.1.nt.own.low (g := g) (.inr (.inr rfl))).1; have h2 := HB.out.1.size; omega)
   have hTF : TurnS H.all w H5.all wF := (HE13.out.turn hT8 HB.out.1.size).own hgF (by have h1 := HP.out.2.2.1.size; have h2 := HB.out.1.size; have h3 := H3.out.2.2.2.2.2.2.2; omega)
   have htbF : TB H5 wF tb Q.pb root := HI.out.tb.turn hTF
   have hq7 : v7.heap[q]? = _ := kept H6.out.2.2.2.1 HDR.out
   have hq8 := H8.out.2.2.1.box q _ _ hq7 (by decide) (by decide)
   have hqF : wF.heap[q]? = some (.cells #[.int .i64 0, .slice none 0 0, .int .i64 0] 103 (0, 0)) := (hgF.block q (by have h1 := heap_lt hq8; have h2 := HE13.out.size; omega) (fun e => by
    obtain rfl := Option.some.inj e
    have := H8.out.2.2.2.1
    rw [hq8] at this
    cases this)).trans (HE13.out.box q _ _ hq8 (by decide) (by decide))
   have HED := HoldT.mk (And.intro c1F (And.intro c2' (And.intro hTF (And.intro htbF (And.intro hqF (And.intro hbrF (And.intro hK9 (And.intro hL9 hrlF))))))))
   clear c1F c1' c2' hnd' hplk hT8 hTF htbF hq7 hq8 hqF hbrF hg2 hgF hwF hbu1 hrlr hK9 hL9 hrlF
   go_wp2_with fail
   refine mixL_done (by kernel_rfl) ⟨keepL_off (by kernel_rfl), HED.out.2.2.2.2.2.2.2.2⟩ ?_
   go_upto_region 19 with (fail)
   obtain ⟨k1u, k2u, k3u, k4u, _, _, _, _⟩ := put_keys HI.out.tree.wf HI.out.key HI.out.val HX.out.1 H5'.out.1.1
   rw [<- HED.out.2.2.2.2.2.2.2.1] at k1u k2u k3u k4u
   rw [<- HED.out.2.2.2.2.2.2.1] at k3u
   have hks := kids_split (HI.out.tree.same HP.out.2.1) HX.out.1 H5'.out.1
   have hfr5 : S5.is[t.1]? = some 2 := hks.1.fresh _ (List.mem_append_right _ (List.mem_singleton.2 rfl))
   have hpK : ∀ p ∈ K9.map (pgT h), p <= 2147483647 := fun p hp => by
    obtain ⟨z, hz, rfl⟩ := List.mem_map.1 hp
    have h1 := hks.1.fresh (pgT h z) (List.mem_append_left _ (List.mem_flatMap.2 ⟨z, by rw [<- HED.out.2.2.2.2.2.2.1]; exact hz, pg_mem h z⟩))
    have h2 := (List.getElem?_eq_some_iff.1 h1).1
    have h3 := H5'.out.2.2.1.len
    have h4 := H5'.out.2.2.1.small.1
    omega
   have hlenK := len_node L9
   have hfree : 2 <= freeP S5 := by have h1 := HF5.out; rw [free_same HP.out.2.1] at h1; have h2 := HI.out.free; omega
   have hk3 : (K9.map (pgT h)).length = L9.length + 1 := by rw [List.length_map]; exact k3u
   have HLY := tree_lay HED.out.2.1 HED.out.2.2.2.1 (by have h1 := HI.out.few; have h2 := HP.out.2.2.2.1; have h3 := H5'.out.2.2.2.2.1; omega) HED.out.1.own.nat (shNode hk3 k1u k2u hpK (by omega)) (fun hb => split_node hk3 k1u k2u hpK k4u (by rw [<- size_node]; exact hb)) (.inl ⟨t.1, rfl, hfr5, rfl⟩) hfree
   unfold nodeV at HLY
   rw [show (nodeN (K9.map (pgT h)) L9).leaf = false from rfl] at HLY
   have HLY := HoldT.mk HLY
   have hbr5 := HED.out.2.2.2.2.2.1
   have y0 : wF.cell? ⟨r, 0, none⟩ = some (.bool false) := by simp [World.cell?, hbr5]
   have y1 : wF.cell? ⟨r, 1, none⟩ = some (.slice k'a (m1 + 1) k'c) := by simp [World.cell?, hbr5]
   have y2 : wF.cell? ⟨r, 2, none⟩ = some (.slice wa 0 wc) := by simp [World.cell?, hbr5]
   have y3 : wF.cell? ⟨r, 3, none⟩ = some (.slice i'a (m3 + 1) i'c) := by simp [World.cell?, hbr5]
   clear hbr5 k1u k2u k3u k4u hks hfr5 hpK hlenK hfree hk3
   go_wp2_with fail
   refine HLY.out.mono ?_
   intro e w10 hlay
   have hpo := lay_post_node HED.out.2.2.2.2.2.2.1 HED.out.2.2.2.2.2.2.2.1 (HI.out.tree.same HP.out.2.1) HI.out.key HI.out.val HX.out.1 H5'.out.1 HF5.out hlay
   obtain ⟨m, ka6, kn6, kc6, b6, rfl, hq6, hpo⟩ := hpo.outer (H := H) (w := w) (S := S) (p := p) (c := 20 * (h + 1 + 1)) HP.out.2.1 HED.out.2.2.1 (by have h1 := HP.out.2.2.2.1; have h2 := H5'.out.2.2.2.2.1; omega) HED.out.2.2.2.2.1 H5'.out.2.2.2.2.2.2.2.1.2 (by have := HB.out.2.2.1; omega)
   have HPO := HoldT.mk (And.intro hpo hq6)
   have z0 : w10.cell? ⟨q, 0, none⟩ = some (.int .i64 0) := by simp [World.cell?, hq6]
   have z1 : w10.cell? ⟨q, 1, none⟩ = some (.slice none 0 0) := by simp [World.cell?, hq6]
   have z2 : w10.cell? ⟨q, 2, none⟩ = some (.int .i64 0) := by simp [World.cell?, hq6]
   have f0 : w10.frozen? ⟨q, 0, none⟩ = false := by simp [World.frozen?, hq6]
   have f1 : w10.frozen? ⟨q, 1, none⟩ = false := by simp [World.frozen?, hq6]
   have f2 : w10.frozen? ⟨q, 2, none⟩ = false := by simp [World.frozen?, hq6]
   clear hpo hq6 hlay y0 y1 y2 y3
   go_wp2_with fail
   obtain ⟨u7, hu7⟩ : ∃ u, u = set3 w10 q (.int .i64 (m : Int)) (.slice ka6 kn6 kc6) (.int .i64 b6) := ⟨_, rfl⟩
   have hu7' := hu7
   unfold set3 at hu7'
   rw [<- hu7']
   obtain ⟨hpo, hq6⟩ := HPO.out
   rw [<- hu7] at hpo
   have h77 : u7.heap[q]? = some (.cells #[.int .i64 (m : Int), .slice ka6 kn6 kc6, .int .i64 b6] 103 (0, 0)) := by rw [hu7]; exact set3_heap hq6
   have c0 : u7.cell? ⟨q, 0, none⟩ = some (.int .i64 (m : Int)) := by simp [World.cell?, h77]
   have c1 : u7.cell? ⟨q, 1, none⟩ = some (.slice ka6 kn6 kc6) := by simp [World.cell?, h77]
   have c2 : u7.cell? ⟨q, 2, none⟩ = some (.int .i64 b6) := by simp [World.cell?, h77]
   exact bodyPost_ret (v := .tuple #[.agg #[.int .i64 (m : Int), .slice ka6 kn6 kc6, .int .i64 b6], .int .i64 0]) (by simp [results, Tryz.results31, go_sem, c0, c1, c2]) rfl hpo
end Go.Proofs.YtafilaiinbggoaaGreat
