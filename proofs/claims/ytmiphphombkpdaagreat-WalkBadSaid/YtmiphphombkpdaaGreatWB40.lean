import Derived.Test.YtmiphphombkpdaaGreatWB39
namespace Go.Proofs.YtmiphphombkpdaaGreat
open Go.RowKit Go.Maps
theorem CutPost.wide {Q : PQ} {R : Int -> Option Bts} {H : HS} {S : PS} {p c c' h : Nat} {t : Tree h} {k : Bts} {w w' : World} {e : Ending} (hp : CutPost Q R H S p c h t k w e w') (hc : c <= c') : CutPost Q R H S p c' h t k w e w' := by
 obtain ⟨r, H', S', p', h1, h2, h3, h4, h5⟩ := hp
 exact ⟨r, H', S', p', h1, h2, h3, h4, by omega⟩
theorem cut_node_ok {Q : PQ} {R : Int -> Option Bts} {H : HS} {S : PS} {p h tp : Nat} {t : Tree (h + 1)} {k : Bts} {ks2 : List (Tree h)} {keys2 : List Bts} {w : World} (hw : WFT (h + 1) t) (hs : shortT (h + 1) t) (hp : phiT (h + 1) t <= 81) (hc : CutR (h + 1) t k (some (mkT h tp ks2 keys2))) (hG : PG Q R H S p w) (hk : KidsIn S h ks2) : ShN (nodeN (ks2.map (pgT h)) keys2) /\ sizeN (nodeN (ks2.map (pgT h)) keys2) <= 1024 /\ ks2.length = keys2.length + 1 := by
 obtain ⟨h1, _, _, _⟩ : WFS (h + 1) (mkT h tp ks2 keys2) /\ _ /\ _ /\ _ := cut_ok (h + 1) hw hs hp hc
 obtain ⟨a1, a2, a3, a4, a5, a6⟩ := h1
 have a1 : ks2.length = keys2.length + 1 := a1
 have a4 : szNode keys2 <= 1024 := a4
 refine ⟨shNode (by rw [List.length_map]; exact a1) a2 a3 (fun q hq => ?_) (by have := len_node keys2; omega), by rw [size_node]; exact a4, a1⟩
 obtain ⟨x, hx, rfl⟩ := List.mem_map.1 hq
 exact low_page hG (hk.fresh _ (List.mem_flatMap.2 ⟨x, hx, pg_mem h x⟩))
set_option maxHeartbeats 16000000 in
set_option maxRecDepth 100000 in
theorem tree_cut_node {Q : PQ} {R : Int -> Option Bts} {h tb : Nat} {root : Int} {k : Bts} (IH : ∀ {H : HS} {S : PS} {p deep : Nat} {t : Tree h} {ks : Value} {w : World}, CutIn Q R H S p tb root deep h t k ks w -> Calls Tryz.prog 44 #[.pointer (some ⟨tb, 0, none⟩), .int .i64 (pgT h t : Int), .int .i64 (deep : Int), ks] w (CutPost Q R H S p (150 * (h + 1)) h t k w))
  {H : HS} {S : PS} {p deep : Nat} {t : Tree (h + 1)} {ks : Value} {w : World} (hi : CutIn Q R H S p tb root deep (h + 1) t k ks w) :
  Calls Tryz.prog 44 #[.pointer (some ⟨tb, 0, none⟩), .int .i64 (t.1 : Int), .int .i64 (deep : Int), ks] w (CutPost Q R H S p (150 * (h + 1 + 1)) (h + 1) t k w) := by
 obtain ⟨xa, xc, rfl⟩ := hi.yk.form
 obtain ⟨xl, hxl⟩ : ∃ x, x = k.length := ⟨_, rfl⟩
 rw [<- hxl] at hi |-
 have hfr := hi.tree.fresh t.1 (List.mem_cons_self ..)
 have hpg : ∀ n ∈ pagesT (h + 1) t, n <= 2147483647 := fun n hn => low_page hi.pg (hi.tree.fresh n hn)
 have hsh : ShN (nodeN (t.2.1.map (pgT h)) t.2.2) := shT (h := h + 1) hi.tree.wf hpg
 have hz : sizeN (nodeN (t.2.1.map (pgT h)) t.2.2) <= 1024 := sz_tree (h := h + 1) hi.tree.wf
 have HRD := HoldT.mk (tree_read (deep := deep) hi.pg hi.tbx (by have := hi.few; omega) hfr (.inr rfl) (by have := hi.deep; omega) hsh hz (sitsN (h := h + 1) hi.tree.wf hi.tree.sits))
 obtain ⟨x, hx, hkl⟩ := kid_at hi.tree.wf k
 have HI := HoldT.mk hi
 have HX := HoldT.mk (And.intro hx hkl)
 have HS := HoldT.mk (And.intro hfr (And.intro hsh hz))
 have hdp : deep <= 20 := by have := hi.deep; omega
 clear hi hxl hfr hsh hz hx hkl hpg
 go_enter Tryz.func44, Tryz.ntmps44
 go_wp2_with fail
 refine HRD.out.mono ?_
 rintro e w2 ⟨kv, vv, iv, H1, S1, p1, rfl, hN, hG1, hS1, hT1, hp1⟩
 obtain ⟨wa, wc, rfl⟩ := hN.own.nat.vals.form
 obtain ⟨nd, hnd⟩ : ∃ nd, nd = nodeN (t.2.1.map (pgT h)) t.2.2 := ⟨_, rfl⟩
 have hl1 : (nodeN (t.2.1.map (pgT h)) t.2.2).vals.length = 0 := rfl
 rw [hl1] at hN |-
 rw [<- hnd] at hN |-
 obtain ⟨m1, hm1⟩ : ∃ m, m = nd.keys.length := ⟨_, rfl⟩
 obtain ⟨m3, hm3⟩ : ∃ m, m = nd.kids.length := ⟨_, rfl⟩
 have hm31 : m3 = m1 + 1 := by rw [hm3, hm1, hnd]; show (t.2.1.map _).length = t.2.2.length + 1; rw [List.length_map]; exact HI.out.tree.wf.2.1
 have hm1p : 1 <= m1 := by rw [hm1, hnd]; exact List.length_pos_iff.2 HI.out.tree.wf.1
 obtain ⟨csI, hoI⟩ := hN.own.kids
 rw [<- hm3] at hoI
 obtain ⟨g, ic, curI, hiv, hgI, _⟩ := own_slice hoI (by omega)
 subst hiv
 obtain ⟨csK, hoK⟩ := hN.own.keys
 rw [<- hm1] at hoK
 obtain ⟨gk, kcap, curK, hkv, hgK, _⟩ := own_slice hoK (by omega)
 subst hkv
 have hlf : nd.leaf = false := by rw [hnd]; rfl
 unfold nodeV
 rw [hlf]
 have hm9 : m1 <= 9000 := by rw [hm1, hnd]; exact HS.out.2.1.few
 have HN := HoldT.mk (And.intro hnd (And.intro hm1 (And.intro hm3 (And.intro hlf hN))))
 have HP := HoldT.mk (And.intro hG1 (And.intro hS1 (And.intro hT1 hp1)))
 have hm32 : 2 <= m3 := by omega
 have hm39 : m3 <= 9000 := by have h1 := len_node t.2.2; have h2 : szNode t.2.2 <= 1024 := HI.out.tree.wf.2.2.2.2.1; have h3 : m1 = t.2.2.length := (by rw [HN.out.2.1, HN.out.1]; rfl); omega
 have HM31 := HoldT.mk hm31
 clear hm31
 clear hnd hm1 hm3 hl1 hlf hN hG1 hS1 hT1 hp1 hoI hgI hoK hgK
 go_upto_region 4 with (fail)
 obtain ⟨w3, hw3⟩ : ∃ w3, w3 = w2.alloc (.cells #[.bool false, .slice (some ⟨gk, 0, none⟩) m1 kcap, .slice wa 0 wc, .slice (some ⟨g, 0, none⟩) m3 ic] 104) := ⟨_, rfl⟩
 obtain ⟨r, hr⟩ : ∃ r, r = w2.heap.size := ⟨_, rfl⟩
 rw [<- hw3, <- hr]
 have hb3 : Below w2.heap.size w2 w3 := by rw [hw3]; exact (Below.refl _ w2).alloc (Nat.le_refl _) _
 have hbr : w3.heap[r]? = some (.cells #[.bool false, .slice (some ⟨gk, 0, none⟩) m1 kcap, .slice wa 0 wc, .slice (some ⟨g, 0, none⟩) m3 ic] 104 (0, 0)) := by rw [hw3, hr]; exact heap_alloc_new w2 _
 have hY3 : KY Q R H1 S1 p1 tb root r w.heap.size nd w3 (.slice (some ⟨gk, 0, none⟩) m1 kcap) (.slice wa 0 wc) (.slice (some ⟨g, 0, none⟩) m3 ic) := ⟨HP.out.1.below hb3, (HI.out.tbx.turn HP.out.2.2.1).below hb3, HN.out.2.2.2.2.below hb3, hbr, fun e => by have := HP.out.1.lt r e; omega, by rw [hr]; exact HP.out.2.2.1.size, heap_lt HI.out.tbx.box⟩
 have hu3 := (cfU_turn HP.out.2.2.1 HI.out.pg.noU).trans (cfU_below hb3)
 have hup : upB nd.keys := by rw [HN.out.1]; exact HI.out.tree.wf.2.2.1
 have HF := tree_kid hY3.nt.own.nat hup (by rw [<- HN.out.2.1]; exact hm9) (HI.out.yk.mono RY_mono hu3)
 unfold nodeV at HF
 rw [HN.out.2.2.2.1] at HF
 obtain ⟨pl, hpl⟩ : ∃ x, x = kidB k nd.keys := ⟨_, rfl⟩
 rw [<- hpl] at HF
 have HF := HoldT.mk HF
 have hplm : pl <= m1 := by rw [hpl, HN.out.2.1]; exact kidB_le ..
 have H3 := HoldT.mk (And.intro hb3 (And.intro hY3 (And.intro hu3 hpl)))
 have y0 : w3.cell? ⟨r, 0, none⟩ = some (.bool false) := by simp [World.cell?, hbr]
 have y1 : w3.cell? ⟨r, 1, none⟩ = some (.slice (some ⟨gk, 0, none⟩) m1 kcap) := by simp [World.cell?, hbr]
 have y2 : w3.cell? ⟨r, 2, none⟩ = some (.slice wa 0 wc) := by simp [World.cell?, hbr]
 have y3 : w3.cell? ⟨r, 3, none⟩ = some (.slice (some ⟨g, 0, none⟩) m3 ic) := by simp [World.cell?, hbr]
 clear hw3 hb3 hbr hY3 hu3 hup hpl hr
 go_wp2_with fail
 refine HF.out.mono ?_
 rintro e w4 ⟨rfl, hb4⟩
 clear y0 y1 y2 y3
 have hY4 := H3.out.2.1.below hb4
 have hkk : nd.kids[pl]? = some (pgT h x) := by
  have h1 := HX.out.1
  have h2 : pl = kidB k t.2.2 := by rw [H3.out.2.2.2, HN.out.1]; rfl
  rw [h2, HN.out.1]
  show (t.2.1.map (pgT h))[_]? = _
  rw [List.getElem?_map, h1]; rfl
 have hkc := hY4.kc hkk
 have hT4 : TurnS H.all w H1.all w4 := (HP.out.2.2.1.then H3.out.1).then hb4
 have hu4 := H3.out.2.2.1.trans (cfU_below hb4)
 obtain ⟨hsx, hpx⟩ := kid_lite HX.out.1 HI.out.short HI.out.phi
 have HIH := IH (deep := deep + 1) (t := x) ⟨hY4.pg, hY4.tbx, by have := HI.out.few; have := HP.out.2.2.2; omega, by have := HI.out.deep; omega, (HI.out.tree.kid HX.out.1).same HP.out.2.1, hsx, hpx, HI.out.yk.mono RY_mono hu4⟩
 rw [show ((deep + 1 : Nat) : Int) = (deep : Int) + 1 by omega] at HIH
 obtain ⟨px, hpx2⟩ : ∃ n, n = pgT h x := ⟨_, rfl⟩
 rw [<- hpx2] at hkc HIH hkk
 have HIH := HoldT.mk HIH
 obtain ⟨_, _, y3⟩ := hY4.cells
 have H4 := HoldT.mk (And.intro hY4 (And.intro hkk (And.intro hpx2 hT4)))
 have hplm3 : pl < m3 := by have := HM31.out; omega
 have hI : (pl : Int) < (m3 : Int) := by omega
 clear IH hb4 hY4 hkk hpx2 hT4 hu4 hsx hpx
 go_wp2_with fail
 refine HIH.out.mono ?_
 rintro e w5 ⟨c, H5, S5, p5, rfl, hCM, hG5, hT5, hp5⟩
 clear y3 hkc
 have hY5 := H4.out.1.turn hG5 hT5
 have hTR5 := H4.out.2.2.2.trans hT5
 have H5' := HoldT.mk (And.intro hCM (And.intro hY5 (And.intro hTR5 hp5)))
 have hplk : pl = kidB k t.2.2 := by rw [H3.out.2.2.2, HN.out.1]; rfl
 have HPK := HoldT.mk hplk
 clear hCM hY5 hTR5 hG5 hT5 hp5 hplk
 cases c with
 | none =>
  have HKP := HoldT.mk (kid_pages ((KidsIn.of HI.out.tree).same HP.out.2.1) HX.out.1 none H5'.out.1.2.1 (fun y e => (H5'.out.1.2.2 y e).1))
  obtain ⟨_, _, y3⟩ := H5'.out.2.1.cells
  have hE0 := ES.start H5'.out.2.1.pg H5'.out.2.1.nt
  have HE0 := HoldT.mk hE0
  have HD1 := HoldT.mk (node_delI (k := pl) hE0.nt hE0.pg.lt (by rw [<- HN.out.2.2.1]; omega) (by rw [<- HN.out.2.2.1]; omega))
  clear hE0
  simp only [pageO]
  go_wp2_with fail
  refine HD1.out.mono ?_
  rintro e w6 ⟨iv6, rfl, hh⟩
  obtain ⟨i6a, i6c, rfl⟩ := hh.shape
  rw [<- HN.out.2.2.1] at hh |-
  have HE6 := HoldT.mk (HE0.out.hand hh (.inr (.inr rfl)) (Nat.le_trans H5'.out.2.1.low (Nat.le_of_lt (heap_lt H5'.out.2.1.box))))
  obtain ⟨m6, hm6⟩ : ∃ x, x = m3 - 1 := ⟨_, rfl⟩
  rw [<- hm6] at HE6 |-
  have HM6 := HoldT.mk hm6
  have hm6a : 1 <= m6 := by omega
  have hm6b : m6 <= 9000 := by omega
  clear hh HD1 y3 hm6
  have hbr6 := HE6.out.box r _ _ H5'.out.2.1.box (by decide) (by decide)
  have z3 : w6.cell? ⟨r, 3, none⟩ = some (.slice (some ⟨g, 0, none⟩) m3 ic) := by simp [World.cell?, hbr6]
  have f3 : w6.frozen? ⟨r, 3, none⟩ = false := by simp [World.frozen?, hbr6]
  have HB6 := HoldT.mk hbr6
  clear hbr6
  go_upto_region 18 with (fail)
  clear z3 f3
  obtain ⟨u6, hu6⟩ : ∃ u, u = w6.setCell ⟨r, 3, none⟩ (.slice i6a m6 i6c) := ⟨_, rfl⟩
  rw [<- hu6]
  have hbu6 : u6.heap[r]? = some (.cells #[.bool false, .slice (some ⟨gk, 0, none⟩) m1 kcap, .slice wa 0 wc, .slice i6a m6 i6c] 104 (0, 0)) := by rw [hu6, set_selfT HB6.out]; rfl
  have hgu6 : w6.grownBy u6 (some r) := by rw [hu6]; exact set6_grown _ _
  have HY6 := HoldT.mk (HE6.out.endX H5'.out.2.1 HB6.out hbu6 hgu6)
  clear hu6 hbu6 hgu6
  obtain ⟨y1, _, y3⟩ := HY6.out.1.cells
  have hm60 : ¬ ((m6 : Int) = 0) := by omega
  obtain ⟨pq, hpq⟩ : ∃ x, x = pl - 1 := ⟨_, rfl⟩
  have hmx : max (0 : Int) ((pl : Int) - 1) = (pq : Int) := by omega
  have hpqm : pq < m1 := by omega
  have HPQ := HoldT.mk hpq
  clear hpq
  have hE7 := ES.start HY6.out.1.pg HY6.out.1.nt
  have HE7 := HoldT.mk hE7
  have hkl6 : ({ nd with kids := delAt pl nd.kids } : ND).keys.length = m1 := HN.out.2.1.symm
  have HD2 := HoldT.mk (node_delK (k := pq) hE7.nt hE7.pg.lt (by rw [hkl6]; omega) (by rw [hkl6]; omega))
  clear hE7
  go_wp2_with fail
  refine HD2.out.mono ?_
  rintro e w7 ⟨kv7, rfl, hh⟩
  obtain ⟨k7a, k7c, rfl⟩ := hh.shape
  rw [hkl6] at hh |-
  have HE8 := HoldT.mk (HE7.out.hand hh (.inl rfl) (Nat.le_trans HY6.out.1.low (Nat.le_of_lt (heap_lt HY6.out.1.box))))
  obtain ⟨m7, hm7⟩ : ∃ x, x = m1 - 1 := ⟨_, rfl⟩
  rw [<- hm7] at HE8 |-
  have hm79 : m7 <= 9000 := by omega
  clear hh HD2 y1 y3 hmx hm7
  have hbr7 := HE8.out.box r _ _ HY6.out.1.box (by decide) (by decide)
  have z1 : w7.cell? ⟨r, 1, none⟩ = some (.slice (some ⟨gk, 0, none⟩) m1 kcap) := by simp [World.cell?, hbr7]
  have f1 : w7.frozen? ⟨r, 1, none⟩ = false := by simp [World.frozen?, hbr7]
  have HB7 := HoldT.mk hbr7
  clear hbr7
  go_upto_region 23 with (fail)
  clear z1 f1
  obtain ⟨u7, hu7⟩ : ∃ u, u = w7.setCell ⟨r, 1, none⟩ (.slice k7a m7 k7c) := ⟨_, rfl⟩
  rw [<- hu7]
  have hbu7 : u7.heap[r]? = some (.cells #[.bool false, .slice k7a m7 k7c, .slice wa 0 wc, .slice i6a m6 i6c] 104 (0, 0)) := by rw [hu7, set_selfT HB7.out]; rfl
  have hgu7 : w7.grownBy u7 (some r) := by rw [hu7]; exact set6_grown _ _
  have HY7 := HoldT.mk (HE8.out.endX HY6.out.1 HB7.out hbu7 hgu7)
  clear hu7 hbu7 hgu7
  have hdl : (delAt pl t.2.1).length = m6 := by rw [delAt_len (by rw [HPK.out]; exact (List.getElem?_eq_some_iff.1 HX.out.1).1), HM6.out, HN.out.2.2.1, HN.out.1]; show _ = (t.2.1.map _).length - 1; rw [List.length_map]
  have hkin : KidsIn S5 h (delAt pl t.2.1) := by rw [HPK.out]; exact HKP.out.1
  have hMV : Moves S1 S5 (t.2.1.flatMap (pagesT h)) ((delAt pl t.2.1).flatMap (pagesT h)) := by rw [HPK.out]; exact HKP.out.2
  have hnd7 : ({ ({ nd with kids := delAt pl nd.kids } : ND) with keys := delAt pq ({ nd with kids := delAt pl nd.kids } : ND).keys } : ND) = nodeN ((delAt pl t.2.1).map (pgT h)) (delAt pq t.2.2) := by
   rw [HN.out.1]
   show (⟨false, delAt pq t.2.2, [], delAt pl (t.2.1.map (pgT h))⟩ : ND) = ⟨false, delAt pq t.2.2, [], (delAt pl t.2.1).map (pgT h)⟩
   rw [delAt_map]
  obtain ⟨kk, hkk⟩ : ∃ x, x = min pq (m6 - 1) := ⟨_, rfl⟩
  have hmn : min (pq : Int) ((m6 : Int) - 1) = (kk : Int) := by omega
  have hKids : Kids h (delAt pl t.2.1) (delAt pq t.2.2) kk := by
   have h1 := kids_del HI.out.tree.wf HX.out.1
   rw [<- HPK.out, <- HPQ.out, hdl, <- hkk] at h1
   exact h1
  have hXX : KX Q R H5 S5 p5 tb root r w.heap.size h (delAt pl t.2.1) (delAt pq t.2.2) u7 (.slice k7a m7 k7c) (.slice wa 0 wc) (.slice i6a m6 i6c) := KY.toX (hnd7 ▸ HY7.out.1) hkin
  have HXX := HoldT.mk (And.intro hXX (And.intro hKids (And.intro hMV (HY6.out.2.trans HY7.out.2))))
  have HR : HoldT (∀ res, JoinR h (delAt pl t.2.1) (delAt pq t.2.2) kk res -> CutR (h + 1) t k (some (mkT h t.1 res.1 res.2))) := ⟨fun res hj => by
   refine ⟨x, none, HX.out.1, H5'.out.1.1, .inr ⟨?_, res, ?_, rfl⟩⟩
   ·rw [<- HPK.out]; exact fun e => by have h1 := congrArg List.length e; rw [hdl] at h1; simp at h1; omega
   ·rw [<- HPK.out, <- HPQ.out, hdl, <- hkk]; exact hj⟩
  have hkl : kk < (delAt pl t.2.1).length := by rw [hdl]; omega
  have HJN := HoldT.mk (tree_join (deep := deep) hXX hKids hkl (by rw [hdl]; omega) (by have := HI.out.deep; omega) (by have h1 := HI.out.few; have h2 := HP.out.2.2.2; have h3 := H5'.out.2.2.2; omega))
  obtain ⟨_, _, y3⟩ := hXX.toY.cells
  clear hdl hkin hMV hnd7 hKids hXX hkl hkk hkl6
  go_wp2_with fail
  refine HJN.out.mono ?_
  rintro e w8 ⟨res, kv8, vv8, iv8, H8, S8, p8, rfl, hj, hX8, hM8, hTB8, hp8⟩
  have hcr := HR.out res hj
  obtain ⟨hsh8, hsz8, hln8⟩ := cut_node_ok HI.out.tree.wf HI.out.short HI.out.phi hcr hX8.pg hX8.kin
  have hfr8 : S8.is[t.1]? = some 2 := by
   have h1 := top_stands (HI.out.tree.same HP.out.2.1) (HXX.out.2.2.1.trans hM8)
   exact h1
  obtain ⟨k8a, k8c, rfl⟩ := hX8.nt.own.nat.keys.form
  obtain ⟨v8a, v8c, rfl⟩ := hX8.nt.own.nat.vals.form
  obtain ⟨i8a, i8c, rfl⟩ := hX8.nt.own.nat.kids.form
  obtain ⟨nd8, hnd8⟩ : ∃ x, x = nodeN (res.1.map (pgT h)) res.2 := ⟨_, rfl⟩
  rw [<- hnd8] at hsh8 hsz8
  have hlf8 : nd8.leaf = false := by rw [hnd8]; rfl
  obtain ⟨l1, hl1⟩ : ∃ m, m = (nodeN (res.1.map (pgT h)) res.2).keys.length := ⟨_, rfl⟩
  obtain ⟨l2, hl2⟩ : ∃ m, m = (nodeN (res.1.map (pgT h)) res.2).vals.length := ⟨_, rfl⟩
  obtain ⟨l3, hl3⟩ : ∃ m, m = ((nodeN (res.1.map (pgT h)) res.2).kids.map Int.ofNat).length := ⟨_, rfl⟩
  rw [<- hl1, <- hl2, <- hl3] at hX8
  have hna8 : NAt w8 nd8 (.slice k8a l1 k8c) (.slice v8a l2 v8c) (.slice i8a l3 i8c) := by rw [hnd8]; exact hX8.nt.own.nat
  have HWR := tree_write hX8.pg hX8.tbx (by have h1 := HI.out.few; have h2 := HP.out.2.2.2; have h3 := H5'.out.2.2.2; omega) hna8 hsh8 hsz8 (.inl ⟨t.1, rfl, hfr8, rfl⟩)
  unfold nodeV at HWR
  rw [hlf8] at HWR
  have HWR := HoldT.mk HWR
  have hbx8 := hX8.box
  have z0 : w8.cell? ⟨r, 0, none⟩ = some (.bool false) := by simp [World.cell?, hbx8]
  have z1 : w8.cell? ⟨r, 1, none⟩ = some (.slice k8a l1 k8c) := by simp [World.cell?, hbx8]
  have z2 : w8.cell? ⟨r, 2, none⟩ = some (.slice v8a l2 v8c) := by simp [World.cell?, hbx8]
  have z3 : w8.cell? ⟨r, 3, none⟩ = some (.slice i8a l3 i8c) := by simp [World.cell?, hbx8]
  have H8' := HoldT.mk (And.intro hcr (And.intro hX8 (And.intro hM8 (And.intro hTB8 (And.intro hp8 (And.intro hnd8 hln8))))))
  clear hcr hX8 hM8 hTB8 hp8 hnd8 hln8 hsh8 hsz8 hfr8 hlf8 hna8 hbx8 hl1 hl2 hl3 hj y3
  go_wp2_with fail
  refine HWR.out.mono ?_
  rintro e w9 ⟨m, H9, S9, p9, rfl, hG9, hM9, hlm, hc9, hT9, hp9⟩
  have hmm : t.1 = m := by have := hlm (by simp); simpa using this
  subst hmm
  have hfin := cut_fin (HI.out.tree.same HP.out.2.1) HXX.out.2.2.1 H8'.out.2.2.1 H8'.out.2.1.kin hM9 (by have h1 := hc9; rw [H8'.out.2.2.2.2.2.1] at h1; exact h1) H8'.out.2.2.2.2.2.2
  have hcm : CutM S1 S9 (h + 1) t k (some (mkT h t.1 res.1 res.2)) := ⟨H8'.out.1, hfin.1, fun u e => by cases e; exact ⟨hfin.2, rfl⟩⟩
  have hTT : TurnS H.all w H9.all w9 := H5'.out.2.2.1.thenB ((HXX.out.2.2.2.trans H8'.out.2.2.2.1).trans (hT9.toB H8'.out.2.1.base)) (Nat.le_refl _)
  have HFIN : HoldT (CutPost Q R H S p (150 * (h + 1 + 1)) (h + 1) t k w (.returned (.tuple #[.int .i64 (t.1 : Int), .int .i64 0])) w9) := ⟨⟨some (mkT h t.1 res.1 res.2), H9, S9, p9, rfl, hcm.before HP.out.2.1, hG9, hTT, by have h2 := HP.out.2.2.2; have h3 := H5'.out.2.2.2; have h4 := H8'.out.2.2.2.2.1; omega⟩⟩
  clear hG9 hM9 hlm hc9 hT9 hp9 z0 z1 z2 z3 hfin hcm hTT
  go_wp2_with fail
  refine bodyPost_ret (v := .tuple #[.int .i64 (t.1 : Int), .int .i64 0]) (by simp [results, Tryz.results44, go_sem]) rfl ?_
  exact HFIN.out
 | some y =>
  have HKP := HoldT.mk (kid_pages ((KidsIn.of HI.out.tree).same HP.out.2.1) HX.out.1 (some y) H5'.out.1.2.1 (fun y e => (H5'.out.1.2.2 y e).1))
  have hpy := (H5'.out.1.2.2 y rfl).2
  have hbh : pageO (some y) = (px : Int) := by show (pgT h y : Int) = _; rw [hpy, H4.out.2.2.1]
  rw [hbh]
  have hpn : ¬ ((px : Int) = -1) := by omega
  have hsame := H5'.out.2.1.again H4.out.2.1
  obtain ⟨cg, hcg⟩ := H5'.out.2.1.krow.1
  obtain ⟨_, _, y3⟩ := H5'.out.2.1.cells
  have f0 : w5.frozen? ⟨g, pl, none⟩ = false := by simp [World.frozen?, hcg]
  have hkc := H5'.out.2.1.kc H4.out.2.1
  clear hcg
  go_upto_region 23 with (fail)
  clear hsame f0 hkc y3
  have hdl : (t.2.1.set pl y).length = m3 := by rw [List.length_set, HN.out.2.2.1, HN.out.1]; exact (List.length_map _).symm
  have hkin : KidsIn S5 h (t.2.1.set pl y) := by rw [HPK.out]; exact HKP.out.1
  have hMV : Moves S1 S5 (t.2.1.flatMap (pagesT h)) ((t.2.1.set pl y).flatMap (pagesT h)) := by rw [HPK.out]; exact HKP.out.2
  have hnd7 : nd = nodeN ((t.2.1.set pl y).map (pgT h)) t.2.2 := by
   rw [HPK.out, set_pg HX.out.1 hpy]; exact HN.out.1
  obtain ⟨kk, hkk⟩ : ∃ x, x = min pl (m3 - 1) := ⟨_, rfl⟩
  have hkp : kk = pl := by omega
  have hmn : min (pl : Int) ((m3 : Int) - 1) = (kk : Int) := by omega
  have hKids : Kids h (t.2.1.set pl y) t.2.2 kk := by
   have h1 := kids_set HI.out.tree.wf HX.out.1 HI.out.short HI.out.phi H5'.out.1.1
   rw [<- HPK.out] at h1
   rw [hkp]
   exact h1
  have hXX : KX Q R H5 S5 p5 tb root r w.heap.size h (t.2.1.set pl y) t.2.2 w5 (.slice (some ⟨gk, 0, none⟩) m1 kcap) (.slice wa 0 wc) (.slice (some ⟨g, 0, none⟩) m3 ic) := KY.toX (hnd7 ▸ H5'.out.2.1) hkin
  have HXX := HoldT.mk (And.intro hXX (And.intro hKids (And.intro hMV (TurnB.refl w.heap.size H5.all w5))))
  have HR : HoldT (∀ res, JoinR h (t.2.1.set pl y) t.2.2 kk res -> CutR (h + 1) t k (some (mkT h t.1 res.1 res.2))) := ⟨fun res hj => by
   refine ⟨x, some y, HX.out.1, H5'.out.1.1, res, ?_, rfl⟩
   rw [<- HPK.out, hdl, <- hkk]; exact hj⟩
  have hkl : kk < (t.2.1.set pl y).length := by rw [hdl]; omega
  have HJN := HoldT.mk (tree_join (deep := deep) hXX hKids hkl (by rw [hdl]; omega) (by have := HI.out.deep; omega) (by have h1 := HI.out.few; have h2 := HP.out.2.2.2; have h3 := H5'.out.2.2.2; omega))
  obtain ⟨_, _, y3⟩ := hXX.toY.cells
  clear hdl hkin hMV hnd7 hKids hXX hkl hkk hkp hpy hbh
  go_wp2_with fail
  refine HJN.out.mono ?_
  rintro e w8 ⟨res, kv8, vv8, iv8, H8, S8, p8, rfl, hj, hX8, hM8, hTB8, hp8⟩
  have hcr := HR.out res hj
  obtain ⟨hsh8, hsz8, hln8⟩ := cut_node_ok HI.out.tree.wf HI.out.short HI.out.phi hcr hX8.pg hX8.kin
  have hfr8 : S8.is[t.1]? = some 2 := by
   have h1 := top_stands (HI.out.tree.same HP.out.2.1) (HXX.out.2.2.1.trans hM8)
   exact h1
  obtain ⟨k8a, k8c, rfl⟩ := hX8.nt.own.nat.keys.form
  obtain ⟨v8a, v8c, rfl⟩ := hX8.nt.own.nat.vals.form
  obtain ⟨i8a, i8c, rfl⟩ := hX8.nt.own.nat.kids.form
  obtain ⟨nd8, hnd8⟩ : ∃ x, x = nodeN (res.1.map (pgT h)) res.2 := ⟨_, rfl⟩
  rw [<- hnd8] at hsh8 hsz8
  have hlf8 : nd8.leaf = false := by rw [hnd8]; rfl
  obtain ⟨l1, hl1⟩ : ∃ m, m = (nodeN (res.1.map (pgT h)) res.2).keys.length := ⟨_, rfl⟩
  obtain ⟨l2, hl2⟩ : ∃ m, m = (nodeN (res.1.map (pgT h)) res.2).vals.length := ⟨_, rfl⟩
  obtain ⟨l3, hl3⟩ : ∃ m, m = ((nodeN (res.1.map (pgT h)) res.2).kids.map Int.ofNat).length := ⟨_, rfl⟩
  rw [<- hl1, <- hl2, <- hl3] at hX8
  have hna8 : NAt w8 nd8 (.slice k8a l1 k8c) (.slice v8a l2 v8c) (.slice i8a l3 i8c) := by rw [hnd8]; exact hX8.nt.own.nat
  have HWR := tree_write hX8.pg hX8.tbx (by have h1 := HI.out.few; have h2 := HP.out.2.2.2; have h3 := H5'.out.2.2.2; omega) hna8 hsh8 hsz8 (.inl ⟨t.1, rfl, hfr8, rfl⟩)
  unfold nodeV at HWR
  rw [hlf8] at HWR
  have HWR := HoldT.mk HWR
  have hbx8 := hX8.box
  have z0 : w8.cell? ⟨r, 0, none⟩ = some (.bool false) := by simp [World.cell?, hbx8]
  have z1 : w8.cell? ⟨r, 1, none⟩ = some (.slice k8a l1 k8c) := by simp [World.cell?, hbx8]
  have z2 : w8.cell? ⟨r, 2, none⟩ = some (.slice v8a l2 v8c) := by simp [World.cell?, hbx8]
  have z3 : w8.cell? ⟨r, 3, none⟩ = some (.slice i8a l3 i8c) := by simp [World.cell?, hbx8]
  have H8' := HoldT.mk (And.intro hcr (And.intro hX8 (And.intro hM8 (And.intro hTB8 (And.intro hp8 (And.intro hnd8 hln8))))))
  clear hcr hX8 hM8 hTB8 hp8 hnd8 hln8 hsh8 hsz8 hfr8 hlf8 hna8 hbx8 hl1 hl2 hl3 hj y3
  go_wp2_with fail
  refine HWR.out.mono ?_
  rintro e w9 ⟨m, H9, S9, p9, rfl, hG9, hM9, hlm, hc9, hT9, hp9⟩
  have hmm : t.1 = m := by have := hlm (by simp); simpa using this
  subst hmm
  have hfin := cut_fin (HI.out.tree.same HP.out.2.1) HXX.out.2.2.1 H8'.out.2.2.1 H8'.out.2.1.kin hM9 (by have h1 := hc9; rw [H8'.out.2.2.2.2.2.1] at h1; exact h1) H8'.out.2.2.2.2.2.2
  have hcm : CutM S1 S9 (h + 1) t k (some (mkT h t.1 res.1 res.2)) := ⟨H8'.out.1, hfin.1, fun u e => by cases e; exact ⟨hfin.2, rfl⟩⟩
  have hTT : TurnS H.all w H9.all w9 := H5'.out.2.2.1.thenB ((HXX.out.2.2.2.trans H8'.out.2.2.2.1).trans (hT9.toB H8'.out.2.1.base)) (Nat.le_refl _)
  have HFIN : HoldT (CutPost Q R H S p (150 * (h + 1 + 1)) (h + 1) t k w (.returned (.tuple #[.int .i64 (t.1 : Int), .int .i64 0])) w9) := ⟨⟨some (mkT h t.1 res.1 res.2), H9, S9, p9, rfl, hcm.before HP.out.2.1, hG9, hTT, by have h2 := HP.out.2.2.2; have h3 := H5'.out.2.2.2; have h4 := H8'.out.2.2.2.2.1; omega⟩⟩
  clear hG9 hM9 hlm hc9 hT9 hp9 z0 z1 z2 z3 hfin hcm hTT
  go_wp2_with fail
  refine bodyPost_ret (v := .tuple #[.int .i64 (t.1 : Int), .int .i64 0]) (by simp [results, Tryz.results44, go_sem]) rfl ?_
  exact HFIN.out
theorem tree_cut {Q : PQ} {R : Int -> Option Bts} {tb : Nat} {root : Int} {k : Bts} : ∀ (h : Nat) {H : HS} {S : PS} {p deep : Nat} {t : Tree h} {ks : Value} {w : World}, CutIn Q R H S p tb root deep h t k ks w -> Calls Tryz.prog 44 #[.pointer (some ⟨tb, 0, none⟩), .int .i64 (pgT h t : Int), .int .i64 (deep : Int), ks] w (CutPost Q R H S p (150 * (h + 1)) h t k w)
 | 0, _, _, _, _, _, _, _, hi => tree_cut_leaf hi
 | h + 1, _, _, _, _, _, _, _, hi => tree_cut_node (tree_cut h) hi
end Go.Proofs.YtmiphphombkpdaaGreat
