import Derived.Test.YtmiphphombkpdaaGreatWB33
import Derived.Test.YtmiphphombkpdaaGreatWB37
import Derived.Test.YtmiphphombkpdaaGreatWB38
namespace Go.Proofs.YtmiphphombkpdaaGreat
theorem kids_del {h : Nat} {t : Tree (h + 1)} {k : Bts} {x : Tree h} (hw : WFT (h + 1) t) (hx : t.2.1[kidB k t.2.2]? = some x) : Kids h (delAt (kidB k t.2.2) t.2.1) (delAt (kidB k t.2.2 - 1) t.2.2) (min (kidB k t.2.2 - 1) ((delAt (kidB k t.2.2) t.2.1).length - 1)) := by
 have ho := nodeOk_of hw
 have hil := (List.getElem?_eq_some_iff.1 hx).1
 have hlen := ho.len
 have hne := List.length_pos_iff.2 ho.ne
 have hkle := kidB_le k t.2.2
 generalize kidB k t.2.2 = i at *
 refine ⟨by rw [delAt_len hil, delAt_len (by omega)]; omega, List.Pairwise.sublist (delAt_sub _ _) ho.up, fun s hs => ho.ok s ((delAt_sub _ _).subset hs), fun q y hy => ?_, fun q y hy e he => ?_⟩
 ·have := ho.wf y ((delAt_sub _ _).subset (List.mem_of_getElem? hy))
  exact ⟨wfs_of h this, fun _ => this⟩
 ·rcases delAt_get hy with ⟨hq, hy⟩ | ⟨hq, hy⟩
  ·obtain ⟨c1, c2⟩ := ho.btw q y hy e he
   refine ⟨fun j s hj hs => ?_, fun s hs => ?_⟩
   ·rcases delAt_get hs with ⟨h3, h4⟩ | ⟨h3, h4⟩
    ·exact c1 j s hj h4
    ·omega
   ·rcases delAt_get hs with ⟨h3, h4⟩ | ⟨h3, h4⟩
    ·exact c2 s h4
    ·have hl4 := (List.getElem?_eq_some_iff.1 h4).1
     have h5 : t.2.2[q]? = some (t.2.2[q]'(by omega)) := List.getElem?_eq_getElem (by omega)
     exact ltB_trans (c2 _ h5) (upB_at ho.up h5 h4 (by omega))
  ·obtain ⟨c1, c2⟩ := ho.btw (q + 1) y hy e he
   refine ⟨fun j s hj hs => ?_, fun s hs => ?_⟩
   ·rcases delAt_get hs with ⟨h3, h4⟩ | ⟨h3, h4⟩
    ·omega
    ·exact c1 (j + 1) s (by omega) h4
   ·rcases delAt_get hs with ⟨h3, h4⟩ | ⟨h3, h4⟩
    ·omega
    ·exact c2 s h4
theorem kids_set {h : Nat} {t : Tree (h + 1)} {k : Bts} {x y : Tree h} (hw : WFT (h + 1) t) (hx : t.2.1[kidB k t.2.2]? = some x) (hs : shortT (h + 1) t) (hp : phiT (h + 1) t <= 81) (hc : CutR h x k (some y)) : Kids h (t.2.1.set (kidB k t.2.2) y) t.2.2 (kidB k t.2.2) := by
 have ho := nodeOk_of hw
 have hil := (List.getElem?_eq_some_iff.1 hx).1
 have hall := split_list hx
 have hphi : phiT (h + 1) t = ((t.2.1.take (kidB k t.2.2)).map (phiT h)).sum + (phiT h x + ((t.2.1.drop (kidB k t.2.2 + 1)).map (phiT h)).sum) := by
  show (t.2.1.map (phiT h)).sum = _
  conv => lhs; rw [hall]
  rw [List.map_append, List.map_cons, List.sum_append, List.sum_cons]
 obtain ⟨y1, y2, _, _⟩ : WFS h y /\ esT h y = delE k (esT h x) /\ shortT h y /\ phiT h y <= phiT h x := cut_ok h (ho.wf x (List.mem_of_getElem? hx)) (hs.2 x (List.mem_of_getElem? hx)) (by omega) hc
 generalize kidB k t.2.2 = i at *
 have hget : ∀ q z, (t.2.1.set i y)[q]? = some z -> (q = i /\ z = y) \/ (q ≠ i /\ t.2.1[q]? = some z) := fun q z hz => by
  rw [List.getElem?_set] at hz
  split at hz
  ·rename_i hq
   first | rw [if_pos hil] at hz | skip
   exact .inl ⟨hq.symm, (Option.some.inj hz).symm⟩
  ·rename_i hq
   exact .inr ⟨fun e => hq e.symm, hz⟩
 refine ⟨by rw [List.length_set]; exact ho.len, ho.up, ho.ok, fun q z hz => ?_, fun q z hz => ?_⟩
 ·rcases hget q z hz with ⟨rfl, rfl⟩ | ⟨hq, hz⟩
  ·exact ⟨y1, fun hne => absurd rfl hne⟩
  ·have := ho.wf z (List.mem_of_getElem? hz)
   exact ⟨wfs_of h this, fun _ => this⟩
 ·rcases hget q z hz with ⟨rfl, rfl⟩ | ⟨hq, hz⟩
  ·intro e he
   rw [y2] at he
   exact ho.btw q x hx e (delE_mem he)
  ·exact ho.btw q z hz
theorem kid_lite {h : Nat} {t : Tree (h + 1)} {i : Nat} {x : Tree h} (hx : t.2.1[i]? = some x) (hs : shortT (h + 1) t) (hp : phiT (h + 1) t <= 81) : shortT h x /\ phiT h x <= 81 := by
 have hall := split_list hx
 have hphi : phiT (h + 1) t = ((t.2.1.take i).map (phiT h)).sum + (phiT h x + ((t.2.1.drop (i + 1)).map (phiT h)).sum) := by
  show (t.2.1.map (phiT h)).sum = _
  conv => lhs; rw [hall]
  rw [List.map_append, List.map_cons, List.sum_append, List.sum_cons]
 exact ⟨hs.2 x (List.mem_of_getElem? hx), by omega⟩
def CutM (S S' : PS) (h : Nat) (t : Tree h) (k : Bts) (r : Option (Tree h)) : Prop := CutR h t k r /\ Moves S S' (pagesT h t) (match r with | none => [] | some u => pagesT h u) /\ ∀ u, r = some u -> sitsT (contP S') h u /\ pgT h u = pgT h t
def pageO {h : Nat} (r : Option (Tree h)) : Int := match r with
 | none => -1
 | some u => (pgT h u : Int)
theorem cut_fin {S S1 S2 S3 : PS} {h : Nat} {t : Tree (h + 1)} {ks1 ks2 : List (Tree h)} {keys2 : List Bts} (ht : TreeIn S (h + 1) t) (hM1 : Moves S S1 (t.2.1.flatMap (pagesT h)) (ks1.flatMap (pagesT h))) (hM2 : Moves S1 S2 (ks1.flatMap (pagesT h)) (ks2.flatMap (pagesT h))) (hk2 : KidsIn S2 h ks2) (hM3 : Moves S2 S3 [t.1] [t.1]) (hc : contP S3 t.1 = encN (nodeN (ks2.map (pgT h)) keys2)) (hl : ks2.length = keys2.length + 1) :
  Moves S S3 (pagesT (h + 1) t) (pagesT (h + 1) (mkT h t.1 ks2 keys2)) /\ sitsT (contP S3) (h + 1) (mkT h t.1 ks2 keys2) := by
 have hnd : (t.1 :: t.2.1.flatMap (pagesT h)).Nodup := ht.nd
 have hn1 := (List.nodup_cons.1 hnd).1
 have hf1 : S.is[t.1]? = some 2 := ht.fresh t.1 (List.mem_cons_self ..)
 have hM12 := hM1.trans hM2
 obtain ⟨o1, o2, o3⟩ := hM12.other hn1 hf1
 have h1 : Moves S S2 ([t.1] ++ t.2.1.flatMap (pagesT h)) ([t.1] ++ ks2.flatMap (pagesT h)) := hM12.wide (nodup_one _) (fun p hp => by rw [List.mem_singleton.1 hp]; exact hn1) (fun p hp => by rw [List.mem_singleton.1 hp]; exact hf1)
 have hd : ∀ p ∈ ks2.flatMap (pagesT h), p ∉ [t.1] := fun p hp e => o1 (by rw [<- List.mem_singleton.1 e]; exact hp)
 have h2 : Moves S2 S3 (ks2.flatMap (pagesT h) ++ [t.1]) (ks2.flatMap (pagesT h) ++ [t.1]) := hM3.wide hk2.nd hd hk2.fresh
 refine ⟨(h1.trans (h2.perm List.perm_append_comm List.perm_append_comm)).perm (List.Perm.refl _) (List.Perm.refl _), ?_⟩
 exact sits_node hc hl ((hk2.moves hM3 hd).sits)
theorem top_stands {S S' : PS} {h : Nat} {t : Tree (h + 1)} {new : List Nat} (ht : TreeIn S (h + 1) t) (hM : Moves S S' (t.2.1.flatMap (pagesT h)) new) : S'.is[t.1]? = some 2 :=
 (hM.other (List.nodup_cons.1 (show (t.1 :: t.2.1.flatMap (pagesT h)).Nodup from ht.nd)).1 (ht.fresh t.1 (List.mem_cons_self ..))).2.2
theorem delE_absent {k : Bts} : ∀ {es : EL}, (es.map (·.1))[placeB k (es.map (·.1))]? ≠ some k -> delE k es = es
 | [], _ => rfl
 | (x, y) :: l, h => by
  simp only [List.map_cons] at h
  by_cases e : ltB x k = true
  ·have p1 : placeB k (x :: l.map (·.1)) = placeB k (l.map (·.1)) + 1 := by show (if ltB x k = true then _ else _) = _; rw [if_pos e]
   rw [p1, List.getElem?_cons_succ] at h
   rw [show delE k ((x, y) :: l) = (x, y) :: delE k l by show (if ltB x k = true then _ else _) = _; rw [if_pos e], delE_absent h]
  ·have p1 : placeB k (x :: l.map (·.1)) = 0 := by show (if ltB x k = true then _ else _) = _; rw [if_neg e]
   rw [p1] at h
   have hx : x ≠ k := fun e2 => h (by rw [e2]; rfl)
   show (if ltB x k = true then _ else if x = k then l else (x, y) :: l) = _
   rw [if_neg e, if_neg hx]
theorem delE_there {k : Bts} : ∀ {es : EL}, (es.map (·.1))[placeB k (es.map (·.1))]? = some k -> (delE k es).map (·.1) = delAt (placeB k (es.map (·.1))) (es.map (·.1)) /\ (delE k es).map (·.2) = delAt (placeB k (es.map (·.1))) (es.map (·.2))
 | [], h => by simp at h
 | (x, y) :: l, h => by
  simp only [List.map_cons] at h |-
  by_cases e : ltB x k = true
  ·have p1 : placeB k (x :: l.map (·.1)) = placeB k (l.map (·.1)) + 1 := by show (if ltB x k = true then _ else _) = _; rw [if_pos e]
   rw [p1, List.getElem?_cons_succ] at h
   obtain ⟨h1, h2⟩ := delE_there h
   rw [p1, show delE k ((x, y) :: l) = (x, y) :: delE k l by show (if ltB x k = true then _ else _) = _; rw [if_pos e]]
   unfold delAt at h1 h2 |-
   simp only [List.map_cons, h1, h2, List.take_succ_cons, List.drop_succ_cons, List.cons_append, and_self]
  ·have p1 : placeB k (x :: l.map (·.1)) = 0 := by show (if ltB x k = true then _ else _) = _; rw [if_neg e]
   rw [p1] at h |-
   obtain rfl : x = k := by simpa using h
   have e3 : delE x ((x, y) :: l) = l := by
    show (if ltB x x = true then _ else if x = x then l else (x, y) :: l) = l
    rw [if_neg e, if_pos rfl]
   rw [e3]
   unfold delAt
   simp
end Go.Proofs.YtmiphphombkpdaaGreat
namespace Go.Proofs.YtmiphphombkpdaaGreat
open Go.RowKit Go.Maps
structure CutIn (Q : PQ) (R : Int -> Option Bts) (H : HS) (S : PS) (p tb : Nat) (root : Int) (deep h : Nat) (t : Tree h) (k : Bts) (ks : Value) (w : World) : Prop where
 pg : PG Q R H S p w
 tbx : TB H w tb Q.pb root
 few : p + 150 * (h + 1) <= 999999000
 deep : deep + h <= 20
 tree : TreeIn S h t
 short : shortT h t
 phi : phiT h t <= 81
 yk : YAt (cfU w) ks k
def CutPost (Q : PQ) (R : Int -> Option Bts) (H : HS) (S : PS) (p c h : Nat) (t : Tree h) (k : Bts) (w : World) (e : Ending) (w' : World) : Prop :=
 ∃ (r : Option (Tree h)) (H' : HS) (S' : PS) (p' : Nat), e = .returned (.tuple #[.int .i64 (pageO r), .int .i64 0]) /\ CutM S S' h t k r /\ PG Q R H' S' p' w' /\ TurnS H.all w H'.all w' /\ p' <= p + c
theorem CutM.before {S S1 S' : PS} {h : Nat} {t : Tree h} {k : Bts} {r : Option (Tree h)} (hc : CutM S1 S' h t k r) (hs : SameP S S1) : CutM S S' h t k r := ⟨hc.1, hc.2.1.before hs, hc.2.2⟩
theorem cutM_same {S : PS} {t : Tree 0} {k : Bts} (ht : TreeIn S 0 t) (hk : (t.2.map (·.1))[placeB k (t.2.map (·.1))]? ≠ some k) : CutM S S 0 t k (some t) := by
 have he := delE_absent hk
 refine ⟨.inr ⟨by rw [he]; exact ht.wf.1, by rw [he]; rfl⟩, Moves.refl ht.nd ht.fresh, fun u e => ?_⟩
 cases e
 exact ⟨ht.sits, rfl⟩
theorem cutM_leaf {S S' : PS} {t : Tree 0} {k : Bts} (hne : delE k t.2 ≠ []) (hM : Moves S S' [t.1] [t.1]) (hc : contP S' t.1 = encN (leafN (delE k t.2))) : CutM S S' 0 t k (some (t.1, delE k t.2)) :=
 ⟨.inr ⟨hne, rfl⟩, hM, fun u e => by cases e; exact ⟨hc.trans (enc_leaf _), rfl⟩⟩
theorem cutM_gone {S S' : PS} {t : Tree 0} {k : Bts} (he : delE k t.2 = []) (hM : Moves S S' [t.1] []) : CutM S S' 0 t k none := ⟨.inl ⟨he, rfl⟩, hM, fun u e => by cases e⟩
set_option maxHeartbeats 8000000 in
set_option maxRecDepth 100000 in
theorem tree_cut_leaf {Q : PQ} {R : Int -> Option Bts} {H : HS} {S : PS} {p tb deep : Nat} {root : Int} {t : Tree 0} {k : Bts} {ks : Value} {w : World} (hi : CutIn Q R H S p tb root deep 0 t k ks w) :
  Calls Tryz.prog 44 #[.pointer (some ⟨tb, 0, none⟩), .int .i64 (t.1 : Int), .int .i64 (deep : Int), ks] w (CutPost Q R H S p 150 0 t k w) := by
 obtain ⟨xa, xc, rfl⟩ := hi.yk.form
 obtain ⟨xl, hxl⟩ : ∃ x, x = k.length := ⟨_, rfl⟩
 have hyk := hi.yk
 rw [<- hxl] at hyk |-
 have hfr := hi.tree.fresh t.1 (List.mem_singleton.2 rfl)
 have hsh : ShN (leafN t.2) := shT (h := 0) hi.tree.wf fun n hn => low_page hi.pg (hi.tree.fresh n hn)
 have hz : sizeN (leafN t.2) <= 1024 := sz_tree (h := 0) hi.tree.wf
 have HRD := HoldT.mk (tree_read (deep := deep) hi.pg hi.tbx (by have := hi.few; omega) hfr (.inr rfl) (by have := hi.deep; omega) hsh hz (sitsN (h := 0) hi.tree.wf hi.tree.sits))
 have HH := HoldT.mk (And.intro hi (And.intro hyk (And.intro hfr (And.intro hsh hz))))
 clear hi hyk hxl hfr hsh hz
 go_enter Tryz.func44, Tryz.ntmps44
 go_wp2_with fail
 refine HRD.out.mono ?_
 rintro e w2 ⟨kv, vv, iv, H1, S1, p1, rfl, hN, hG1, hS1, hT1, hp1⟩
 obtain ⟨ka, kc, rfl⟩ := hN.own.nat.keys.form
 obtain ⟨wa, wc, rfl⟩ := hN.own.nat.vals.form
 obtain ⟨ia, ic, rfl⟩ := hN.own.nat.kids.form
 have hl1 : (leafN t.2).vals.length = (leafN t.2).keys.length := by show (t.2.map _).length = (t.2.map _).length; simp
 have hl3 : ((leafN t.2).kids.map Int.ofNat).length = 0 := rfl
 rw [hl1, hl3] at hN |-
 obtain ⟨nd, hnd⟩ : ∃ nd, nd = leafN t.2 := ⟨_, rfl⟩
 rw [<- hnd] at hN hl1 hl3 |-
 obtain ⟨m1, hm1⟩ : ∃ m, m = nd.keys.length := ⟨_, rfl⟩
 rw [<- hm1] at hN hl1 |-
 have hlf : nd.leaf = true := by rw [hnd]; rfl
 unfold nodeV
 rw [hlf]
 have hm9 : m1 <= 9000 := by rw [hm1, hnd]; exact HH.out.2.2.2.1.few
 have HN := HoldT.mk (And.intro hnd (And.intro hm1 (And.intro hl1 (And.intro hlf hN))))
 have HP := HoldT.mk (And.intro hG1 (And.intro hS1 (And.intro hT1 hp1)))
 clear hnd hm1 hl1 hl3 hlf hN hG1 hS1 hT1 hp1
 go_upto_region 4 with (fail)
 obtain ⟨w3, hw3⟩ : ∃ w3, w3 = w2.alloc (.cells #[.bool true, .slice ka m1 kc, .slice wa m1 wc, .slice ia 0 ic] 104) := ⟨_, rfl⟩
 obtain ⟨r, hr⟩ : ∃ r, r = w2.heap.size := ⟨_, rfl⟩
 rw [<- hw3, <- hr]
 have hb3 : Below w2.heap.size w2 w3 := by rw [hw3]; exact (Below.refl _ w2).alloc (Nat.le_refl _) _
 have hbr : w3.heap[r]? = some (.cells #[.bool true, .slice ka m1 kc, .slice wa m1 wc, .slice ia 0 ic] 104 (0, 0)) := by rw [hw3, hr]; exact heap_alloc_new w2 _
 have hN3 := HN.out.2.2.2.2.below hb3
 have hu3 := (cfU_turn HP.out.2.2.1 HH.out.1.pg.noU).trans (cfU_below hb3)
 have hup : upB nd.keys := by rw [HN.out.1]; exact HH.out.1.tree.wf.2.1
 have HF := node_find hN3.own.nat hup (by rw [<- HN.out.2.1]; exact hm9) (HH.out.2.1.mono RY_mono hu3)
 unfold nodeV at HF
 rw [HN.out.2.2.2.1] at HF
 unfold FindPost at HF
 obtain ⟨pl, hpl⟩ : ∃ x, x = placeB k nd.keys := ⟨_, rfl⟩
 obtain ⟨fd, hfd⟩ : ∃ fd, fd = decide (nd.keys[placeB k nd.keys]? = some k) := ⟨_, rfl⟩
 rw [<- hfd, <- hpl] at HF
 have HF := HoldT.mk HF
 have hplm : pl <= m1 := by rw [hpl, HN.out.2.1]; exact placeB_le ..
 have hG3 := HP.out.1.below hb3
 have hrH : ¬ H1.all r := fun e => by have := HP.out.1.lt r e; omega
 have htb3 : TB H1 w3 tb Q.pb root := (HH.out.1.tbx.turn HP.out.2.2.1).below hb3
 have H3 := HoldT.mk (And.intro hb3 (And.intro hbr (And.intro hN3 (And.intro hpl (And.intro hfd (And.intro hG3 (And.intro hrH (And.intro htb3 hr))))))))
 have y0 : w3.cell? ⟨r, 0, none⟩ = some (.bool true) := by simp [World.cell?, hbr]
 have y1 : w3.cell? ⟨r, 1, none⟩ = some (.slice ka m1 kc) := by simp [World.cell?, hbr]
 have y2 : w3.cell? ⟨r, 2, none⟩ = some (.slice wa m1 wc) := by simp [World.cell?, hbr]
 have y3 : w3.cell? ⟨r, 3, none⟩ = some (.slice ia 0 ic) := by simp [World.cell?, hbr]
 clear hw3 hb3 hbr hN3 hu3 hup hpl hfd hG3 hrH hr htb3
 go_wp2_with fail
 refine HF.out.mono ?_
 rintro e w4 ⟨rfl, hb4⟩
 clear y0 y1 y2 y3
 have hbr4 := kept H3.out.2.1 hb4
 have hN4 := H3.out.2.2.1.below hb4
 have htb4 := H3.out.2.2.2.2.2.2.2.1.below hb4
 have hG4 := H3.out.2.2.2.2.2.1.below hb4
 have hT4 : TurnS H.all w H1.all w4 := (HP.out.2.2.1.then H3.out.1).then hb4
 have H4 := HoldT.mk (And.intro hb4 (And.intro hbr4 (And.intro hN4 (And.intro htb4 (And.intro hG4 hT4)))))
 have hfdc := H3.out.2.2.2.2.1
 cases fd with
 | false =>
  have hmiss : nd.keys[placeB k nd.keys]? ≠ some k := of_decide_eq_false hfdc.symm
  have HFIN : HoldT (CutPost Q R H S p 150 0 t k w (.returned (.tuple #[.int .i64 (t.1 : Int), .int .i64 0])) w4) := ⟨⟨some t, H1, S1, p1, rfl, (cutM_same (HH.out.1.tree.same HP.out.2.1) (by have h := hmiss; rw [HN.out.1] at h; exact h)).before HP.out.2.1, hG4, hT4, by have := HP.out.2.2.2; omega⟩⟩
  clear hmiss hfdc hbr4 hN4 htb4 hG4 hT4 hb4
  go_wp2_with fail
  refine bodyPost_ret (v := .tuple #[.int .i64 (t.1 : Int), .int .i64 0]) (by simp [results, Tryz.results44, go_sem]) rfl ?_
  exact HFIN.out
 | true =>
  have hhit : nd.keys[placeB k nd.keys]? = some k := of_decide_eq_true hfdc.symm
  have hlt : pl < m1 := by rw [H3.out.2.2.2.1, HN.out.2.1]; exact (List.getElem?_eq_some_iff.1 hhit).1
  have hES := ES.start hG4 hN4
  have hB4 : w.heap.size <= w4.heap.size := hT4.size
  have HM := HoldT.mk (And.intro hhit (And.intro hES hB4))
  have y1 : w4.cell? ⟨r, 1, none⟩ = some (.slice ka m1 kc) := by simp [World.cell?, hbr4]
  have y2 : w4.cell? ⟨r, 2, none⟩ = some (.slice wa m1 wc) := by simp [World.cell?, hbr4]
  have g1 := KeepS.cell (P := fun b => b = r) y1 rfl
  have g2 := KeepS.cell (P := fun b => b = r) y2 rfl
  clear hhit hfdc hES hB4 hbr4 hN4 htb4 hG4 hT4 hb4 y1 y2
  go_upto_region 8 with (fail)
  refine wp_region_mixL (KeepL (fun b => b = r) w4 [13]) 16 rfl (by kernel_rfl) ?_
  have HDR := HoldT.mk ((Below.refl w4.heap.size w4).drew)
  generalize w4.drew = v5 at HDR |-
  refine mixL_seg (by kernel_rfl) (fun _ _ d _ _ h => by cases d <;> exact h) (KeepSC (fun _ => False) w4) keepL_base [0, 2, 3, 4, 6, 8, 9, 10] (keepL_back rfl) [_, _, _, _, _, _, _, _] 8 16 rfl _ _ _ rfl (by kernel_rfl) ?_
  repeat (go_big_quiet_step (fail))
  refine wpQuiet_nil ?_
  refine mixL_one (by kernel_rfl) (fun _ _ d _ _ h => by cases d <;> exact h) (KeepSC (fun b => b = r) w4) 13 (keepL_in (by decide)) 1 (fun l w => keepL_back (is := [1]) rfl 1 (by simp) l w) _ 7 _ _ _ rfl (by kernel_rfl) (by kernel_rfl) (by kernel_rfl) ?_
  repeat (go_big_quiet_step (fail))
  refine wpQuiet_nil ?_
  refine mixL_one (by kernel_rfl) (fun _ _ d _ _ h => by cases d <;> exact h) (KeepSC (fun b => b = r) w4) 13 (keepL_in (by decide)) 7 (fun l w => keepL_back (is := [7]) rfl 7 (by simp) l w) _ 6 _ _ _ rfl (by kernel_rfl) (by kernel_rfl) (by kernel_rfl) ?_
  repeat (go_big_quiet_step (fail))
  refine wpQuiet_nil ?_
  clear g1 g2
  have HKO : HoldT (∀ (l : Array Bool) (vz : World) (nz : ND) (k1 k2 k3 : Value), ES Q R H1 S1 p1 w.heap.size w4 vz nz k1 k2 k3 -> KeepL (fun b => b = r) w4 [13] l vz) := ⟨fun _ _ _ _ _ _ hz => keepL_on fun b hb => by rw [hb]; exact (hz.box r _ _ H4.out.2.1 (by decide) (by decide)).trans H4.out.2.1.symm⟩
  have HE5 := HoldT.mk (HM.out.2.1.below HDR.out HM.out.2.2)
  have HD1 := HoldT.mk (node_delK (k := pl) HE5.out.nt HE5.out.pg.lt (by rw [<- HN.out.2.1]; exact hlt) (by rw [<- HN.out.2.1]; omega))
  refine mixL_act (i := 5) rfl (by kernel_rfl) (HKO.out _ _ _ _ _ _ HE5.out) rfl (fun K hK => ?_)
  go_wp2_with fail
  refine HD1.out.mono ?_
  rintro e v6 ⟨kv6, rfl, hh⟩
  obtain ⟨k6a, k6c, rfl⟩ := hh.shape
  rw [<- HN.out.2.1] at hh |-
  have HE6 := HoldT.mk (HE5.out.hand hh (.inl rfl) HM.out.2.2)
  clear hh HD1
  simp only
  go_wp2_with fail
  have hlv : ({ nd with keys := delAt pl nd.keys } : ND).vals.length = m1 := HN.out.2.2.1
  have HD2 := HoldT.mk (node_delV (k := pl) HE6.out.nt HE6.out.pg.lt (by rw [hlv]; exact hlt) (by rw [hlv]; omega))
  refine mixL_act (i := 11) rfl (by kernel_rfl) (HKO.out _ _ _ _ _ _ HE6.out) rfl (fun K hK => ?_)
  go_wp2_with fail
  refine HD2.out.mono ?_
  rintro e v7 ⟨vv7, rfl, hh⟩
  obtain ⟨w7a, w7c, rfl⟩ := hh.shape
  rw [hlv] at hh |-
  have HE7 := HoldT.mk (HE6.out.hand hh (.inr (.inl rfl)) HM.out.2.2)
  obtain ⟨m7, hm7⟩ : ∃ x, x = m1 - 1 := ⟨_, rfl⟩
  rw [<- hm7] at HE7 |-
  have HM7 := HoldT.mk hm7
  have hm79 : m7 <= 9000 := by omega
  clear hh hlv HD2 HKO hm7
  have hbr7 := HE7.out.box r _ _ H4.out.2.1 (by decide) (by decide)
  have HR7 := HoldT.mk hbr7
  have z1 : v7.cell? ⟨r, 1, none⟩ = some (.slice ka m1 kc) := by simp [World.cell?, hbr7]
  have f1 : v7.frozen? ⟨r, 1, none⟩ = false := by simp [World.frozen?, hbr7]
  clear hbr7
  simp only
  go_wp2_with fail
  refine mixL_seg (by kernel_rfl) (fun _ _ d _ _ h => by cases d <;> exact h) (KeepSC (fun _ => False) w4) keepL_base [12] (keepL_back rfl) [_] 3 4 rfl _ _ _ rfl (by kernel_rfl) ?_
  repeat (go_big_quiet_step (fail))
  refine wpQuiet_nil ?_
  refine mixL_act (i := 13) rfl (by kernel_rfl) (keepL_on fun b hb => by rw [hb]; exact HR7.out.trans H4.out.2.1.symm) rfl (fun K hK => ?_)
  go_wp2_with fail
  clear z1 f1
  obtain ⟨u1, hu1⟩ : ∃ u, u = v7.setCell ⟨r, 1, none⟩ (.slice k6a m7 k6c) := ⟨_, rfl⟩
  rw [<- hu1]
  have hbu1 : u1.heap[r]? = some (.cells #[.bool true, .slice k6a m7 k6c, .slice wa m1 wc, .slice ia 0 ic] 104 (0, 0)) := by rw [hu1, set_selfT HR7.out]; rfl
  have hgu1 : v7.grownBy u1 (some r) := by rw [hu1]; exact set6_grown _ _
  have HU1 := HoldT.mk (And.intro hbu1 hgu1)
  have z2 : u1.cell? ⟨r, 2, none⟩ = some (.slice wa m1 wc) := by simp [World.cell?, hbu1]
  have f2 : u1.frozen? ⟨r, 2, none⟩ = false := by simp [World.frozen?, hbu1]
  clear hu1 hbu1 hgu1
  go_wp2_with fail
  refine mixL_seg (by kernel_rfl) (fun _ _ d _ _ h => by cases d <;> exact h) (KeepSC (fun _ => False) w4) keepL_base [14] (keepL_back rfl) [_] 1 2 rfl _ _ _ rfl (by kernel_rfl) ?_
  repeat (go_big_quiet_step (fail))
  refine wpQuiet_nil ?_
  refine mixL_act (i := 15) rfl (by kernel_rfl) (keepL_off (by kernel_rfl)) rfl (fun K hK => ?_)
  go_wp2_with fail
  clear z2 f2
  obtain ⟨u2, hu2⟩ : ∃ u, u = u1.setCell ⟨r, 2, none⟩ (.slice w7a m7 w7c) := ⟨_, rfl⟩
  rw [<- hu2]
  have hbu2 : u2.heap[r]? = some (.cells #[.bool true, .slice k6a m7 k6c, .slice w7a m7 w7c, .slice ia 0 ic] 104 (0, 0)) := by rw [hu2, set_selfT HU1.out.1]; rfl
  have hgu2 : v7.grownBy u2 (some r) := HU1.out.2.trans (by rw [hu2]; exact set6_grown _ _)
  obtain ⟨c1, c2, _⟩ := HE7.out.cell HR7.out H3.out.2.2.2.2.2.2.1 hgu2
  have hdt := delE_there (es := t.2) (k := k) (by have h := HM.out.1; rw [HN.out.1] at h; exact h)
  have hnd' : ({ ({ nd with keys := delAt pl nd.keys } : ND) with vals := delAt pl nd.vals } : ND) = leafN (delE k t.2) := by
   rw [H3.out.2.2.2.1, HN.out.1]
   unfold leafN
   simp only
   rw [hdt.1, hdt.2]
  have hT7 : TurnS H.all w H1.all u2 := (HE7.out.turn H4.out.2.2.2.2.2 (Nat.le_refl _)).own hgu2 (by have h1 := HP.out.2.2.1.size; have h3 := H3.out.2.2.2.2.2.2.2.2; omega)
  have htbu : TB H1 u2 tb Q.pb root := HH.out.1.tbx.turn hT7
  have hlen : (delE k t.2).length = m7 := by
   have h1 : ((delE k t.2).map (·.1)).length = m7 := by
    rw [hdt.1, delAt_len (List.getElem?_eq_some_iff.1 (show (t.2.map (·.1))[placeB k (t.2.map (·.1))]? = some k by have h := HM.out.1; rw [HN.out.1] at h; exact h)).1, HM7.out, HN.out.2.1, HN.out.1]
    rfl
   rw [<- h1, List.length_map]
  rw [hnd'] at c1
  have HU := HoldT.mk (And.intro c1 (And.intro c2 (And.intro hbu2 (And.intro hT7 (And.intro htbu hlen)))))
  have y1 : u2.cell? ⟨r, 1, none⟩ = some (.slice k6a m7 k6c) := by simp [World.cell?, hbu2]
  clear hu2 hgu2 c1 c2 hdt hnd' hT7 htbu hlen
  refine mixL_done (by kernel_rfl) (keepL_off (by kernel_rfl)) ?_
  by_cases h70 : m7 = 0
  ·have hI0 : (m7 : Int) = 0 := by omega
   have htc := HU.out.2.2.2.2.1.cells.1
   have hfr1 : S1.is[t.1]? = some 2 := by rw [HP.out.2.1.1]; exact HH.out.2.2.1
   have HFR := HoldT.mk (pages_free HU.out.2.1 hfr1 (.inl ⟨rfl, rfl⟩))
   have HFQ := HoldT.mk hfr1
   clear hfr1 hbu2
   go_wp2_with fail
   refine HFR.out.mono ?_
   rintro e w9 ⟨rfl, hG9, hT9⟩
   have HFIN : HoldT (CutPost Q R H S p 150 0 t k w (.returned (.tuple #[.int .i64 (-1), .int .i64 0])) w9) := ⟨⟨none, H1, freeAt t.1 S1, p1, rfl, (cutM_gone (List.length_eq_zero_iff.1 (HU.out.2.2.2.2.2.trans h70)) (free_moves HP.out.1.inv HFQ.out).2).before HP.out.2.1, hG9, HU.out.2.2.2.1.trans hT9, by have := HP.out.2.2.2; omega⟩⟩
   clear hG9 hT9 y1 htc
   go_wp2_with fail
   refine bodyPost_ret (v := .tuple #[.int .i64 (-1), .int .i64 0]) (by simp [results, Tryz.results44, go_sem]) rfl ?_
   exact HFIN.out
  ·have hI0 : ¬ (m7 : Int) = 0 := by omega
   have hne : delE k t.2 ≠ [] := fun e => by have h := HU.out.2.2.2.2.2; rw [e] at h; exact h70 h.symm
   have hshD : ShN (leafN (delE k t.2)) := shLeaf (delE_up HH.out.1.tree.wf.2.1) (fun e he => HH.out.1.tree.wf.2.2.1 e (delE_mem he)) (by rw [HU.out.2.2.2.2.2]; exact hm79)
   have hszD : sizeN (leafN (delE k t.2)) <= 1024 := by rw [size_leaf]; exact Nat.le_trans (delE_size k t.2) HH.out.1.tree.wf.2.2.2
   have hfr1 : S1.is[t.1]? = some 2 := by rw [HP.out.2.1.1]; exact HH.out.2.2.1
   have HWR := tree_write HU.out.2.1 HU.out.2.2.2.2.1 (by have h1 := HH.out.1.few; have h2 := HP.out.2.2.2; omega) HU.out.1.own.nat hshD hszD (.inl ⟨t.1, rfl, hfr1, rfl⟩)
   have HWR := HoldT.mk HWR
   have HNE := HoldT.mk hne
   have y0 : u2.cell? ⟨r, 0, none⟩ = some (.bool true) := by simp [World.cell?, hbu2]
   have y2 : u2.cell? ⟨r, 2, none⟩ = some (.slice w7a m7 w7c) := by simp [World.cell?, hbu2]
   have y3 : u2.cell? ⟨r, 3, none⟩ = some (.slice ia 0 ic) := by simp [World.cell?, hbu2]
   clear hne hshD hszD hfr1 hbu2
   go_wp2_with fail
   refine HWR.out.mono ?_
   rintro e w9 ⟨m, H9, S9, p9, rfl, hG9, hM9, hlm, hc9, hT9, hp9⟩
   have hmm : t.1 = m := by have := hlm (by simp); simpa using this
   subst hmm
   have HFIN : HoldT (CutPost Q R H S p 150 0 t k w (.returned (.tuple #[.int .i64 (t.1 : Int), .int .i64 0])) w9) := ⟨⟨some (t.1, delE k t.2), H9, S9, p9, rfl, (cutM_leaf HNE.out hM9 hc9).before HP.out.2.1, hG9, HU.out.2.2.2.1.trans hT9, by have := HP.out.2.2.2; omega⟩⟩
   clear hG9 hM9 hlm hc9 hT9 hp9 y0 y1 y2 y3
   go_wp2_with fail
   refine bodyPost_ret (v := .tuple #[.int .i64 (t.1 : Int), .int .i64 0]) (by simp [results, Tryz.results44, go_sem]) rfl ?_
   exact HFIN.out
end Go.Proofs.YtmiphphombkpdaaGreat
