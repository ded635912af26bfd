import Derived.Test.YtafilaiinbggoaaGreatQS34
namespace Go.Proofs.YtafilaiinbggoaaGreat
open Go.RowKit Go.Maps
def TopIn (S : PS) (o : Top) (root : Int) : Prop := match o with
 | none => root = -1
 | some ⟨h, t⟩ => root = (pgT h t : Int) /\ TreeIn S h t
def heightO (o : Top) : Nat := match o with
 | none => 0
 | some ⟨h, _⟩ => h + 1
def pagesO (o : Top) : List Nat := match o with
 | none => []
 | some ⟨h, t⟩ => pagesT h t
theorem TopIn.root {S : PS} {o : Top} {root : Int} (h : TopIn S o root) : RootIn S root (heightO o) := by
 match o, h with
 | none, h => exact .inl ⟨h, rfl⟩
 | some ⟨g, t⟩, h => exact .inr ⟨g, t, h.1, rfl, h.2⟩
def PutPost (Q : PQ) (R : Int -> Option Bts) (H : HS) (S : PS) (p tb : Nat) (o : Top) (k v : Bts) (w : World) (e : Ending) (w' : World) : Prop :=
 ∃ (o' : Top) (root' : Int) (H' : HS) (S' : PS) (p' : Nat), e = .returned (.int .i64 0) /\ PG Q R H' S' p' w' /\ TB H' w' tb Q.pb root' /\ TopIn S' o' root' /\ PutTop o k v o' /\ Moves S S' (pagesO o) (pagesO o') /\ TurnS (fun b => H.all b \/ b = tb) w (fun b => H'.all b \/ b = tb) w' /\ p' <= p + (24 * heightO o + 40)
theorem one_bat {w : World} {s0 : Nat} {u : Value} {x : Bts} (hs : w.heap[s0]? = some (.cells #[u] 23 (0, 0))) (hy : YAt (cfU w) u x) : BAt w (.slice (some ⟨s0, 0, none⟩) 1 1) [x] := by
 refine ⟨some ⟨s0, 0, none⟩, 1, rfl, Nat.le_refl _, by decide, fun i y hi => ?_⟩
 match i, hi with
 | 0, hi =>
  cases hi
  refine ⟨s0, 0, [u], rfl, rfl, fun j z hj => ?_, ⟨u, rfl, hy⟩⟩
  match j, hj with
  | 0, hj =>
   cases hj
   show w.cell? ⟨s0, 0, none⟩ = _
   simp [World.cell?, hs]
theorem two_iat {w : World} {s0 a b : Nat} (hs : w.heap[s0]? = some (.cells #[.int .i64 (a : Int), .int .i64 (b : Int)] 3 (0, 0))) : IAt w (.slice (some ⟨s0, 0, none⟩) 2 2) [a, b] := by
 refine ⟨some ⟨s0, 0, none⟩, 2, rfl, Nat.le_refl _, by decide, fun i y hi => ?_⟩
 match i, hi with
 | 0, hi =>
  cases hi
  refine ⟨s0, 0, [_], rfl, rfl, fun j z hj => ?_, rfl⟩
  match j, hj with
  | 0, hj =>
   cases hj
   show w.cell? ⟨s0, 0, none⟩ = _
   simp [World.cell?, hs]
 | 1, hi =>
  cases hi
  refine ⟨s0, 0, [_], rfl, rfl, fun j z hj => ?_, rfl⟩
  match j, hj with
  | 0, hj =>
   cases hj
   show w.cell? ⟨s0, 1, none⟩ = _
   simp [World.cell?, hs]
theorem wf_two {h m : Nat} {a y : Tree h} {s : Bts} {l : EL} (hp : PartsOk h (a, some (s, y)) l) : WFT (h + 1) (mkT h m [a, y] [s]) := by
 obtain ⟨w1, w2, hs, _, b1, b2⟩ : WFT h a /\ WFT h y /\ keyOk s /\ esT h a ++ esT h y = l /\ (∀ e ∈ esT h a, ltB e.1 s = true) /\ ∀ e ∈ esT h y, ltB e.1 s = false := hp
 refine ⟨by simp [mkT], rfl, List.pairwise_singleton _ _, fun k hk => ?_, ?_, fun x hx => ?_, fun i x hx => ?_⟩
 ·obtain rfl := List.mem_singleton.1 hk; exact hs
 ·show 7 + ([s].map szK).sum <= 1024
  have := szK_le hs
  simp only [List.map_cons, List.map_nil, List.sum_cons, List.sum_nil]
  omega
 ·rcases List.mem_cons.1 hx with rfl | hx
  ·exact w1
  ·obtain rfl := List.mem_singleton.1 hx; exact w2
 ·intro e he
  have hx' : [a, y][i]? = some x := hx
  match i, hx' with
  | 0, hx' =>
   cases hx'
   exact ⟨fun j q hj => by omega, fun q hq => by cases hq; exact b1 e he⟩
  | 1, hx' =>
   cases hx'
   exact ⟨fun j q hj hq => (by obtain rfl : j = 0 := (by omega); cases hq; exact b2 e he), fun q hq => (by cases hq)⟩
theorem top_two {S S' S'' : PS} {h m : Nat} {t c1 y : Tree h} {k v s : Bts} (hw : WFT h t) (hk : keyOk k) (hv : v.length <= 260) (hc : PutM S S' h t k v (c1, some (s, y))) (hM : Moves S' S'' [] [m]) (hcn : contP S'' m = encN (nodeN [pgT h c1, pgT h y] [s])) :
  TreeIn S'' (h + 1) (mkT h m [c1, y] [s]) /\ Moves S S'' (pagesT h t) (pagesT (h + 1) (mkT h m [c1, y] [s])) := by
 obtain ⟨h1, h2, h3, h4, h5⟩ := hc
 have h4' : Moves S S' (pagesT h t) (pagesT h c1 ++ pagesT h y) := h4
 have h6 : Moves S' S'' ((pagesT h c1 ++ pagesT h y) ++ []) ((pagesT h c1 ++ pagesT h y) ++ [m]) := hM.wide h4'.nd (fun p _ => by simp) h4'.fresh
 rw [List.append_nil] at h6
 have h7 : Moves S S'' (pagesT h t) (pagesT (h + 1) (mkT h m [c1, y] [s])) := (h4'.trans h6).perm (List.Perm.refl _) (by
  show (m :: [c1, y].flatMap (pagesT h)).Perm _
  simp only [List.flatMap_cons, List.flatMap_nil, List.append_nil]
  exact List.perm_append_comm (l₁ := [m]))
 refine ⟨⟨wf_two (put_ok h hw hk hv h1), ⟨?_, fun z hz => ?_⟩, h7.nd, h7.fresh⟩, h7⟩
 ·show contP S'' m = encNode ([c1, y].map (pgT h)) [s]
  exact hcn.trans (enc_node rfl)
 ·rcases List.mem_cons.1 hz with rfl | hz
  ·exact hM.sits h3 (fun p _ => by simp) (fun p hp => h4'.fresh p (List.mem_append_left _ hp))
  ·obtain rfl := List.mem_singleton.1 hz
   exact hM.sits h5 (fun p _ => by simp) (fun p hp => h4'.fresh p (List.mem_append_right _ hp))
set_option maxHeartbeats 8000000 in
set_option maxRecDepth 100000 in
theorem tree_Put {Q : PQ} {R : Int -> Option Bts} {H : HS} {S : PS} {p tb : Nat} {root : Int} {o : Top} {k v : Bts} {ks vs : Value} {w : World} (h : PG Q R H S p w) (ht : TB H w tb Q.pb root) (ho : TopIn S o root) (hp : p <= 999990000) (hhh : heightO o <= 19) (hk : keyOk k) (hv : v.length <= 260) (hyk : YAt (cfU w) ks k) (hyv : YAt (cfU w) vs v) (hf : 2 * heightO o + 3 <= freeP S) :
  Calls Tryz.prog 14 #[.pointer (some ⟨tb, 0, none⟩), ks, vs] w (PutPost Q R H S p tb o k v w) := by
 have HRM := HoldT.mk (tree_room h ht ho.root (by omega) (by omega) hf)
 obtain ⟨xa, xc, rfl⟩ := hyk.form
 obtain ⟨va, vc, rfl⟩ := hyv.form
 obtain ⟨xl, hxl⟩ : ∃ x, x = k.length := ⟨_, rfl⟩
 obtain ⟨vl, hvl⟩ : ∃ x, x = v.length := ⟨_, rfl⟩
 rw [<- hxl] at hyk |-
 rw [<- hvl] at hyv |-
 have hx1 : decide ((xl : Int) < 1) = false := decide_eq_false (by have := hk.1; omega)
 have hx2 : decide ((240 : Int) < (xl : Int)) = false := decide_eq_false (by have := hk.2; omega)
 have hv1 : decide ((260 : Int) < (vl : Int)) = false := decide_eq_false (by omega)
 have HH := HoldT.mk (And.intro h (And.intro ht (And.intro ho (And.intro hp (And.intro hk (And.intro hv (And.intro hyk (And.intro hyv (And.intro hf (And.intro hxl hvl))))))))))
 clear h ht ho hp hk hv hyk hyv hf hxl hvl
 go_enter Tryz.func14, Tryz.ntmps14
 go_wp2_with fail
 refine HRM.out.mono ?_
 rintro e w1 ⟨rfl, H1, S1, p1, hG1, hS1, hT1, hp1⟩
 have hyk1 := HH.out.2.2.2.2.2.2.1.mono RY_mono (cfU_turn hT1 HH.out.1.noU)
 have hyv1 := HH.out.2.2.2.2.2.2.2.1.mono RY_mono (cfU_turn hT1 HH.out.1.noU)
 have HC1 := HoldT.mk (cloneY_any k (.slice xa xl xc) (cf w1) w1 (fun _ _ _ h => h) (hyk1.mono RY_mono (cfU_cf w1)) (by have := HH.out.2.2.2.2.1.2; omega))
 have H1' := HoldT.mk (And.intro hG1 (And.intro hS1 (And.intro hT1 (And.intro hp1 (And.intro hyk1 hyv1)))))
 clear hG1 hS1 hT1 hp1 hyk1 hyv1
 go_wp2_with fail
 refine HC1.out.mono ?_
 rintro e w2 ⟨sv2, ds, rfl, ho2, hgr, hb2⟩
 have hoy : OwnS 1 RY 5 w1.heap.size w2 sv2 k.length k ds := ⟨ho2, rfl, hgr, hb2.size⟩
 obtain ⟨ya, yc, hsv⟩ := hoy.shape
 subst hsv
 have hyk2 := hoy.yat
 rw [<- HH.out.2.2.2.2.2.2.2.2.2.1] at hyk2 |-
 have hyv2 := H1'.out.2.2.2.2.2.mono RY_mono (cfU_below hb2)
 have HC2 := HoldT.mk (cloneY_any v (.slice va vl vc) (cf w2) w2 (fun _ _ _ h => h) (hyv2.mono RY_mono (cfU_cf w2)) (by have := HH.out.2.2.2.2.2.1; omega))
 have H2' := HoldT.mk (And.intro hb2 hyk2)
 clear ho2 hgr hb2 hoy hyk2 hyv2
 go_wp2_with fail
 refine HC2.out.mono ?_
 rintro e w3 ⟨sv3, ds3, rfl, ho3, hgr3, hb3⟩
 have hoy : OwnS 1 RY 5 w2.heap.size w3 sv3 v.length v ds3 := ⟨ho3, rfl, hgr3, hb3.size⟩
 obtain ⟨za, zc, hsv⟩ := hoy.shape
 subst hsv
 have hyv3 := hoy.yat
 rw [<- HH.out.2.2.2.2.2.2.2.2.2.2] at hyv3 |-
 have hyk3 := H2'.out.2.mono RY_mono (cfU_below hb3)
 have hG3 := (H1'.out.1.below H2'.out.1).below hb3
 have hT3 := (H1'.out.2.2.1.then H2'.out.1).then hb3
 have H3' := HoldT.mk (And.intro hG3 (And.intro hT3 (And.intro hyk3 hyv3)))
 clear ho3 hgr3 hb3 hoy hyv3 hyk3 hG3 hT3
 go_upto_region 10 with (fail)
 obtain ⟨w4, hw4⟩ : ∃ w4, w4 = w3.alloc (.cells #[.int .i64 (-1), .slice none 0 0, .int .i64 (-1)] 103) := ⟨_, rfl⟩
 obtain ⟨q8, hq8⟩ : ∃ q, q = w3.heap.size := ⟨_, rfl⟩
 rw [<- hw4, <- hq8]
 have hb4 : Below w3.heap.size w3 w4 := by rw [hw4]; exact (Below.refl _ w3).alloc (Nat.le_refl _) _
 have hbl : w4.heap[q8]? = some (.cells #[.int .i64 (-1), .slice none 0 0, .int .i64 (-1)] 103 (0, 0)) := by rw [hw4, hq8]; exact heap_alloc_new w3 _
 have hG4 := H3'.out.1.below hb4
 have hT4 := H3'.out.2.1.then hb4
 have htb4 : TB H1 w4 tb Q.pb root := HH.out.2.1.turn hT4
 have hyk4 := H3'.out.2.2.1.mono RY_mono (cfU_below hb4)
 have hyv4 := H3'.out.2.2.2.mono RY_mono (cfU_below hb4)
 have hqH : ¬ H1.all q8 := fun e => by have := H3'.out.1.lt q8 e; omega
 have hwq : w.heap.size <= q8 := by rw [hq8]; exact H3'.out.2.1.size
 obtain ⟨x0, x1⟩ := htb4.cells
 have H4 := HoldT.mk (And.intro hG4 (And.intro hT4 (And.intro htb4 (And.intro hyk4 (And.intro hyv4 (And.intro hqH (And.intro hwq hbl)))))))
 clear hw4 hq8 hb4 hbl hG4 hT4 htb4 hyk4 hyv4 hqH hwq
 match o, HH, hhh with
 | none, HH, _ =>
  obtain rfl : root = -1 := HH.out.2.2.1
  go_upto_region 11 with (fail)
  go_wp2_with fail
  obtain ⟨w5, hw5⟩ : ∃ x, x = w4.alloc (.cells #[.slice ya xl yc] 23) := ⟨_, rfl⟩
  obtain ⟨w6, hw6⟩ : ∃ x, x = w5.alloc (.cells #[.slice za vl zc] 23) := ⟨_, rfl⟩
  obtain ⟨s0, hs0⟩ : ∃ s, s = w4.heap.size := ⟨_, rfl⟩
  obtain ⟨s1, hs1⟩ : ∃ s, s = s0 + 1 := ⟨_, rfl⟩
  rw [<- hw5, <- hw6, <- hs0, <- hs1]
  have hb5 : Below w4.heap.size w4 w5 := by rw [hw5]; exact (Below.refl _ w4).alloc (Nat.le_refl _) _
  have hb6 : Below w5.heap.size w5 w6 := by rw [hw6]; exact (Below.refl _ w5).alloc (Nat.le_refl _) _
  have ha : w6.heap[s0]? = some (.cells #[.slice ya xl yc] 23 (0, 0)) := kept (by rw [hw5, hs0]; exact heap_alloc_new w4 _) hb6
  have hc : w6.heap[s1]? = some (.cells #[.slice za vl zc] 23 (0, 0)) := by
   have e : s1 = w5.heap.size := by rw [hw5, hs1, hs0]; simp
   rw [hw6, e]; exact heap_alloc_new w5 _
  have hb46 := hb5.trans (hb6.mono hb5.size)
  have hna : NAt w6 (leafN [(k, v)]) (.slice (some ⟨s0, 0, none⟩) 1 1) (.slice (some ⟨s1, 0, none⟩) 1 1) (.slice none 0 0) := ⟨one_bat ha (H4.out.2.2.2.1.mono RY_mono (cfU_below hb46)), one_bat hc (H4.out.2.2.2.2.1.mono RY_mono (cfU_below hb46)), SAt.none _ _ _⟩
  have hsz : szLeaf [(k, v)] <= 1024 := by
   have := szE_le (e := (k, v)) ⟨HH.out.2.2.2.2.1, HH.out.2.2.2.2.2.1⟩
   show 3 + ([(k, v)].map szE).sum <= 1024
   simp only [List.map_cons, List.map_nil, List.sum_cons, List.sum_nil]
   omega
  have hsh : ShN (leafN [(k, v)]) := shLeaf (List.pairwise_singleton _ _) (fun e he => by obtain rfl := List.mem_singleton.1 he; exact ⟨HH.out.2.2.2.2.1, HH.out.2.2.2.2.2.1⟩) (show 1 <= 9000 by decide)
  have HLY := tree_lay (old := -1) (l := []) (H4.out.1.below hb46) (H4.out.2.2.1.below hb46) (by have := HH.out.2.2.2.1; have := H1'.out.2.2.2.1; have : heightO none = 0 := rfl; omega) hna hsh (fun e => by rw [size_leaf] at e; omega) (.inr ⟨rfl, rfl, free_in (by have h1 := HH.out.2.2.2.2.2.2.2.2.1; rw [<- free_same H1'.out.2.1] at h1; omega)⟩) (by have h1 := HH.out.2.2.2.2.2.2.2.2.1; rw [<- free_same H1'.out.2.1] at h1; omega)
  unfold nodeV at HLY
  rw [show (leafN [(k, v)]).leaf = true from rfl] at HLY
  have HSZ := HoldT.mk hsz
  have HB46 := HoldT.mk hb46
  clear hw5 hw6 hs0 hs1 hb5 hb6 ha hc hb46 hna hsz hsh
  refine HLY.mono ?_
  rintro e w7 ⟨m, H7, S7, p7, hG7, _, hT7, hp7, hlay⟩
  rcases hlay with ⟨_, rfl, hM7, hc7⟩ | ⟨hz, _⟩
  ·have hl7 := hT7.kept (kept H4.out.2.2.2.2.2.2.2 HB46.out) H4.out.2.2.2.2.2.1
   have hT17 := (H4.out.2.1.then HB46.out).trans hT7
   have htb7 : TB H7 w7 tb Q.pb (-1) := HH.out.2.1.turn hT17
   have H7' := HoldT.mk (And.intro hG7 (And.intro htb7 (And.intro hT17 (And.intro hM7 (And.intro hc7 (And.intro hl7 hp7))))))
   have hl7 := hl7.1
   have z0 : w7.cell? ⟨q8, 0, none⟩ = some (.int .i64 (-1)) := by simp [World.cell?, hl7]
   have z1 : w7.cell? ⟨q8, 1, none⟩ = some (.slice none 0 0) := by simp [World.cell?, hl7]
   have z2 : w7.cell? ⟨q8, 2, none⟩ = some (.int .i64 (-1)) := by simp [World.cell?, hl7]
   have f0 : w7.frozen? ⟨q8, 0, none⟩ = false := by simp [World.frozen?, hl7]
   have f1 : w7.frozen? ⟨q8, 1, none⟩ = false := by simp [World.frozen?, hl7]
   have f2 : w7.frozen? ⟨q8, 2, none⟩ = false := by simp [World.frozen?, hl7]
   clear hG7 htb7 hT17 hM7 hc7 hl7 hp7 hT7 HLY x0 x1
   go_upto_region 13 with (fail)
   clear z0 z1 z2 f0 f1 f2
   obtain ⟨w8, hw8⟩ : ∃ u, u = set3 w7 q8 (.int .i64 (m : Int)) (.slice none 0 0) (.int .i64 (-1)) := ⟨_, rfl⟩
   have hw8' := hw8
   unfold set3 at hw8'
   rw [<- hw8']
   have hg8 : w7.grownBy w8 (some q8) := by rw [hw8]; exact set3_grown _ _ _ _ _
   have hl8 : w8.heap[q8]? = some (.cells #[.int .i64 (m : Int), .slice none 0 0, .int .i64 (-1)] 103 (0, 0)) := by rw [hw8]; exact set3_heap H7'.out.2.2.2.2.2.1.1
   have hG8 := H7'.out.1.beside hg8 (fun b e => by cases e; exact ⟨H7'.out.2.2.2.2.2.1.2, fun ⟨_, _, e2⟩ => by rw [H7'.out.2.2.2.2.2.1.1] at e2; cases e2⟩)
   have hT8 := H7'.out.2.2.1.own hg8 H4.out.2.2.2.2.2.2.1
   have htb8 : TB H7 w8 tb Q.pb (-1) := HH.out.2.1.turn hT8
   have HE := HoldT.mk (And.intro hG8 (And.intro htb8 (And.intro hT8 (And.intro hl8 True.intro))))
   clear hw8 hw8' hg8 hl8 hG8 hT8 htb8
   obtain ⟨x0, x1⟩ := HE.out.2.1.cells
   have hbx := HE.out.2.1.box
   have hlb := HE.out.2.2.2.1
   have l0 : w8.cell? ⟨q8, 0, none⟩ = some (.int .i64 (m : Int)) := by simp [World.cell?, hlb]
   have l2 : w8.cell? ⟨q8, 2, none⟩ = some (.int .i64 (-1)) := by simp [World.cell?, hlb]
   have fx : w8.frozen? ⟨tb, 1, none⟩ = false := by simp [World.frozen?, hbx]
   clear hbx hlb
   go_wp2_with fail
   obtain ⟨uF, huF⟩ : ∃ u, u = w8.setCell ⟨tb, 1, none⟩ (.int .i64 (m : Int)) := ⟨_, rfl⟩
   rw [<- huF]
   go_ret
   have hgF : w8.grownBy uF (some tb) := by rw [huF]; exact set6_grown _ _
   have hbF : uF.heap[tb]? = some (.cells #[.pointer (some ⟨Q.pb, 0, none⟩), .int .i64 (m : Int)] 99 (0, 0)) := by rw [huF, set_selfT HE.out.2.1.box]; rfl
   refine ⟨some ⟨0, (m, [(k, v)])⟩, (m : Int), H7, S7, p7, rfl, HE.out.1.beside hgF (fun b e => by cases e; exact ⟨HE.out.2.1.off, fun ⟨_, _, e2⟩ => by rw [HE.out.2.1.box] at e2; cases e2⟩), ⟨hbF, HE.out.2.1.off⟩, ?_, ?_, ?_, HE.out.2.2.1.wide.trans (TurnS.grown hgF fun b e => by cases e; exact .inl (.inr rfl)), ?_⟩
   ·exact ⟨rfl, ⟨⟨by simp, List.pairwise_singleton _ _, fun e he => (by obtain rfl := List.mem_singleton.1 he; exact ⟨HH.out.2.2.2.2.1, HH.out.2.2.2.2.2.1⟩), HSZ.out⟩, H7'.out.2.2.2.2.1.trans (enc_leaf _), nodup_one _, fun p hp => by rw [List.mem_singleton.1 hp]; exact H7'.out.2.2.2.1.fresh m (List.mem_singleton.2 rfl)⟩⟩
   ·exact ⟨m, rfl⟩
   ·exact H7'.out.2.2.2.1.before H1'.out.2.1
   ·have h1 := H7'.out.2.2.2.2.2.2; have h2 := H1'.out.2.2.2.1; have : heightO none = 0 := rfl; omega
  ·rw [size_leaf] at hz
   have := HSZ.out
   omega
 | some ⟨h, t⟩, HH, hhh =>
  obtain ⟨hrt, hin⟩ : root = (pgT h t : Int) /\ TreeIn S h t := HH.out.2.2.1
  have hh9 : h <= 18 := by have : heightO (some ⟨h, t⟩) = h + 1 := rfl; omega
  have hfr4 : 2 * (h + 1) + 3 <= freeP S1 := by have h1 := HH.out.2.2.2.2.2.2.2.2.1; rw [<- free_same H1'.out.2.1] at h1; exact h1
  have hp4 : p1 <= p + 4 * (h + 1) := H1'.out.2.2.2.1
  have hin4 : PutIn Q R H1 S1 p1 tb root 1 h t k v (.slice ya xl yc) (.slice za vl zc) w4 := ⟨H4.out.1, H4.out.2.2.1, by have := HH.out.2.2.2.1; omega, by omega, hin.same H1'.out.2.1, HH.out.2.2.2.2.1, HH.out.2.2.2.2.2.1, H4.out.2.2.2.1, H4.out.2.2.2.2.1, by omega⟩
  have HPT := tree_put h hin4
  obtain ⟨pt, hpt⟩ : ∃ n, n = pgT h t := ⟨_, rfl⟩
  rw [<- hpt] at HPT hrt
  subst hrt
  have HPT := HoldT.mk HPT
  have bpt : decide ((pt : Int) = -1) = false := decide_eq_false (by omega)
  have HPX := HoldT.mk (And.intro hpt (And.intro hin (And.intro hfr4 hp4)))
  clear hpt hin hfr4 hp4 hin4
  go_upto_region 12 with (fail)
  go_wp2_with fail
  refine HPT.out.mono ?_
  rintro e w7 ⟨c, la, ln, lc, H7, S7, p7, hM7, rfl, hy7, hG7, hT7, hp7, hf7⟩
  have hl7 := hT7.kept H4.out.2.2.2.2.2.2.2 H4.out.2.2.2.2.2.1
  have hT17 := H4.out.2.1.trans hT7
  have htb7 : TB H7 w7 tb Q.pb (pt : Int) := HH.out.2.1.turn hT17
  obtain ⟨bh, hbh⟩ : ∃ b, b = behindT c := ⟨_, rfl⟩
  obtain ⟨pc, hpc⟩ : ∃ b, b = pgT h c.1 := ⟨_, rfl⟩
  rw [<- hbh, <- hpc]
  have H7' := HoldT.mk (And.intro hG7 (And.intro htb7 (And.intro hT17 (And.intro hM7 (And.intro hy7 (And.intro hl7 (And.intro hp7 (And.intro hf7 (And.intro hbh hpc)))))))))
  have hl7 := hl7.1
  have z0 : w7.cell? ⟨q8, 0, none⟩ = some (.int .i64 (-1)) := by simp [World.cell?, hl7]
  have z1 : w7.cell? ⟨q8, 1, none⟩ = some (.slice none 0 0) := by simp [World.cell?, hl7]
  have z2 : w7.cell? ⟨q8, 2, none⟩ = some (.int .i64 (-1)) := by simp [World.cell?, hl7]
  have f0 : w7.frozen? ⟨q8, 0, none⟩ = false := by simp [World.frozen?, hl7]
  have f1 : w7.frozen? ⟨q8, 1, none⟩ = false := by simp [World.frozen?, hl7]
  have f2 : w7.frozen? ⟨q8, 2, none⟩ = false := by simp [World.frozen?, hl7]
  clear hG7 htb7 hT17 hM7 hl7 hp7 hT7 x0 x1 hy7 hf7 hbh hpc
  go_upto_region 13 with (fail)
  clear z0 z1 z2 f0 f1 f2
  obtain ⟨w8, hw8⟩ : ∃ u, u = set3 w7 q8 (.int .i64 (pc : Int)) (.slice la ln lc) (.int .i64 bh) := ⟨_, rfl⟩
  have hw8' := hw8
  unfold set3 at hw8'
  rw [<- hw8']
  have hg8 : w7.grownBy w8 (some q8) := by rw [hw8]; exact set3_grown _ _ _ _ _
  have hl8 : w8.heap[q8]? = some (.cells #[.int .i64 (pc : Int), .slice la ln lc, .int .i64 bh] 103 (0, 0)) := by rw [hw8]; exact set3_heap H7'.out.2.2.2.2.2.1.1
  have hnu : ∀ b, some q8 = some b -> ¬ IsU w7 b := fun b e => by cases e; exact fun ⟨_, _, e2⟩ => by rw [H7'.out.2.2.2.2.2.1.1] at e2; cases e2
  have hG8 := H7'.out.1.beside hg8 (fun b e => ⟨by cases e; exact H7'.out.2.2.2.2.2.1.2, hnu b e⟩)
  have hT8 := H7'.out.2.2.1.own hg8 H4.out.2.2.2.2.2.2.1
  have htb8 : TB H7 w8 tb Q.pb (pt : Int) := HH.out.2.1.turn hT8
  have hu8 := cfU_grown hg8 hnu
  have HU8 := HoldT.mk hu8
  clear hw8 hw8' hg8 hnu hu8
  obtain ⟨c1, c2⟩ := c
  cases c2 with
  | none =>
   obtain rfl : bh = -1 := H7'.out.2.2.2.2.2.2.2.2.1
   have HE := HoldT.mk (And.intro hG8 (And.intro htb8 (And.intro hT8 (And.intro hl8 True.intro))))
   clear hl8 hG8 hT8 htb8
   obtain ⟨x0, x1⟩ := HE.out.2.1.cells
   have hbx := HE.out.2.1.box
   have hlb := HE.out.2.2.2.1
   have l0 : w8.cell? ⟨q8, 0, none⟩ = some (.int .i64 (pc : Int)) := by simp [World.cell?, hlb]
   have l2 : w8.cell? ⟨q8, 2, none⟩ = some (.int .i64 (-1)) := by simp [World.cell?, hlb]
   have fx : w8.frozen? ⟨tb, 1, none⟩ = false := by simp [World.frozen?, hbx]
   clear hbx hlb
   go_wp2_with fail
   obtain ⟨uF, huF⟩ : ∃ u, u = w8.setCell ⟨tb, 1, none⟩ (.int .i64 (pc : Int)) := ⟨_, rfl⟩
   rw [<- huF]
   go_ret
   have hgF : w8.grownBy uF (some tb) := by rw [huF]; exact set6_grown _ _
   have hbF : uF.heap[tb]? = some (.cells #[.pointer (some ⟨Q.pb, 0, none⟩), .int .i64 (pc : Int)] 99 (0, 0)) := by rw [huF, set_selfT HE.out.2.1.box]; rfl
   refine ⟨some ⟨h, c1⟩, (pc : Int), H7, S7, p7, rfl, HE.out.1.beside hgF (fun b e => by cases e; exact ⟨HE.out.2.1.off, fun ⟨_, _, e2⟩ => by rw [HE.out.2.1.box] at e2; cases e2⟩), ⟨hbF, HE.out.2.1.off⟩, ?_, ?_, ?_, HE.out.2.2.1.wide.trans (TurnS.grown hgF fun b e => by cases e; exact .inl (.inr rfl)), ?_⟩
   ·have hok : WFT h c1 /\ esT h c1 = putE k v (esT h t) := put_ok h HPX.out.2.1.wf HH.out.2.2.2.2.1 HH.out.2.2.2.2.2.1 H7'.out.2.2.2.1.1
    have hmv : Moves S1 S7 (pagesT h t) (pagesT h c1) := H7'.out.2.2.2.1.2.2.2
    exact ⟨by rw [H7'.out.2.2.2.2.2.2.2.2.2], hok.1, H7'.out.2.2.2.1.2.2.1, hmv.nd, hmv.fresh⟩
   ·exact ⟨_, H7'.out.2.2.2.1.1, rfl⟩
   ·have hmv : Moves S1 S7 (pagesT h t) (pagesT h c1) := H7'.out.2.2.2.1.2.2.2
    exact hmv.before H1'.out.2.1
   ·have h1 := H7'.out.2.2.2.2.2.2.1; have h2 := HPX.out.2.2.2; show p7 <= p + (24 * (h + 1) + 40); omega
  | some y =>
   obtain ⟨s, y⟩ := y
   obtain ⟨py, hpy⟩ : ∃ n, n = pgT h y := ⟨_, rfl⟩
   obtain rfl : bh = (py : Int) := by rw [hpy]; exact H7'.out.2.2.2.2.2.2.2.2.1
   have bb : decide ((py : Int) = -1) = false := decide_eq_false (by omega)
   have hy8 := (H7'.out.2.2.2.2.1 s y rfl).mono RY_mono HU8.out
   obtain ⟨x0, x1⟩ := htb8.cells
   have l0 : w8.cell? ⟨q8, 0, none⟩ = some (.int .i64 (pc : Int)) := by simp [World.cell?, hl8]
   have l1 : w8.cell? ⟨q8, 1, none⟩ = some (.slice la ln lc) := by simp [World.cell?, hl8]
   have l2 : w8.cell? ⟨q8, 2, none⟩ = some (.int .i64 (py : Int)) := by simp [World.cell?, hl8]
   have m0 : (w8.alloc (.cells #[.slice la ln lc] 23)).cell? ⟨q8, 0, none⟩ = some (.int .i64 (pc : Int)) := Lib.cell?_alloc_some _ l0
   have m2 : (w8.alloc (.cells #[.slice la ln lc] 23)).cell? ⟨q8, 2, none⟩ = some (.int .i64 (py : Int)) := Lib.cell?_alloc_some _ l2
   have H8 := HoldT.mk (And.intro hG8 (And.intro htb8 (And.intro hT8 (And.intro hl8 (And.intro hy8 hpy)))))
   clear hG8 htb8 hT8 hl8 hy8 hpy
   go_upto_region 14 with (fail)
   go_wp2_with fail
   obtain ⟨v5, hv5⟩ : ∃ x, x = w8.alloc (.cells #[.slice la ln lc] 23) := ⟨_, rfl⟩
   obtain ⟨v6, hv6⟩ : ∃ x, x = v5.alloc (.cells #[.int .i64 (pc : Int), .int .i64 (py : Int)] 3) := ⟨_, rfl⟩
   obtain ⟨s0, hs0⟩ : ∃ s, s = w8.heap.size := ⟨_, rfl⟩
   obtain ⟨s1, hs1⟩ : ∃ s, s = s0 + 1 := ⟨_, rfl⟩
   rw [<- hv5, <- hv6, <- hs0, <- hs1]
   have hb5 : Below w8.heap.size w8 v5 := by rw [hv5]; exact (Below.refl _ w8).alloc (Nat.le_refl _) _
   have hb6 : Below v5.heap.size v5 v6 := by rw [hv6]; exact (Below.refl _ v5).alloc (Nat.le_refl _) _
   have ha : v6.heap[s0]? = some (.cells #[.slice la ln lc] 23 (0, 0)) := kept (by rw [hv5, hs0]; exact heap_alloc_new w8 _) hb6
   have hc : v6.heap[s1]? = some (.cells #[.int .i64 (pc : Int), .int .i64 (py : Int)] 3 (0, 0)) := by
    have e : s1 = v5.heap.size := by rw [hv5, hs1, hs0]; simp
    rw [hv6, e]; exact heap_alloc_new v5 _
   have hb46 := hb5.trans (hb6.mono hb5.size)
   have hna : NAt v6 (nodeN [pc, py] [s]) (.slice (some ⟨s0, 0, none⟩) 1 1) (.slice none 0 0) (.slice (some ⟨s1, 0, none⟩) 2 2) := ⟨one_bat ha (H8.out.2.2.2.2.1.mono RY_mono (cfU_below hb46)), SAt.none _ _ _, two_iat hc⟩
   have hpo : PartsOk h (c1, some (s, y)) (putE k v (esT h t)) := put_ok h HPX.out.2.1.wf HH.out.2.2.2.2.1 HH.out.2.2.2.2.2.1 H7'.out.2.2.2.1.1
   have hs9 : keyOk s := by
    obtain ⟨_, _, h9, _⟩ : WFT h c1 /\ WFT h y /\ keyOk s /\ esT h c1 ++ esT h y = putE k v (esT h t) /\ (∀ e ∈ esT h c1, ltB e.1 s = true) /\ ∀ e ∈ esT h y, ltB e.1 s = false := hpo
    exact h9
   have hmv : Moves S1 S7 (pagesT h t) (pagesT h c1 ++ pagesT h y) := H7'.out.2.2.2.1.2.2.2.1
   have hpcle : pc <= 2147483647 := low_page H7'.out.1 (hmv.fresh pc (by rw [H7'.out.2.2.2.2.2.2.2.2.2]; exact List.mem_append_left _ (pg_mem h c1)))
   have hpyle : py <= 2147483647 := low_page H7'.out.1 (hmv.fresh py (by rw [H8.out.2.2.2.2.2]; exact List.mem_append_right _ (pg_mem h y)))
   have hsh : ShN (nodeN [pc, py] [s]) := shNode rfl (List.pairwise_singleton _ _) (fun a ha => by obtain rfl := List.mem_singleton.1 ha; exact hs9) (fun a ha => by
    rcases List.mem_cons.1 ha with rfl | ha
    ·exact hpcle
    ·obtain rfl := List.mem_singleton.1 ha; exact hpyle) (show 1 <= 9000 by decide)
   have hsz : sizeN (nodeN [pc, py] [s]) <= 1024 := by
    rw [size_node]
    show 7 + ([s].map szK).sum <= 1024
    have := szK_le hs9
    simp only [List.map_cons, List.map_nil, List.sum_cons, List.sum_nil]
    omega
   have HWR := tree_write (old := -1) (l := []) (H8.out.1.below hb46) (H8.out.2.1.below hb46) (by have h1 := HH.out.2.2.2.1; have h2 := HPX.out.2.2.2; have h3 := H7'.out.2.2.2.2.2.2.1; omega) hna hsh hsz (.inr ⟨rfl, rfl, free_in (by have h1 := H7'.out.2.2.2.2.2.2.2.1; have h2 := HPX.out.2.2.1; omega)⟩)
   unfold nodeV at HWR
   rw [show (nodeN [pc, py] [s]).leaf = false from rfl] at HWR
   have HB46 := HoldT.mk hb46
   clear hv5 hv6 hs0 hs1 hb5 hb6 ha hc hb46 hna hpo hs9 hmv hpcle hpyle hsh hsz m0 m2 l0 l1 l2 x0 x1
   refine HWR.mono ?_
   rintro e w9 ⟨m, H9, S9, p9, rfl, hG9, hM9, _, hc9, hT9, hp9⟩
   have hlq := hT9.kept (kept H8.out.2.2.2.1 HB46.out) (fun e => by have := H7'.out.2.2.2.2.2.1.2; exact this e)
   have hT19 := (H8.out.2.2.1.then HB46.out).trans hT9
   have htb9 : TB H9 w9 tb Q.pb (pt : Int) := HH.out.2.1.turn hT19
   have H9' := HoldT.mk (And.intro hG9 (And.intro htb9 (And.intro hT19 (And.intro hM9 (And.intro hc9 (And.intro hlq hp9))))))
   have hlq := hlq.1
   have z0 : w9.cell? ⟨q8, 0, none⟩ = some (.int .i64 (pc : Int)) := by simp [World.cell?, hlq]
   have f0 : w9.frozen? ⟨q8, 0, none⟩ = false := by simp [World.frozen?, hlq]
   clear HWR hG9 htb9 hT19 hM9 hc9 hlq hp9 hT9
   go_upto_region 15 with (fail)
   clear z0 f0
   obtain ⟨wZ, hwZ⟩ : ∃ u, u = w9.setCell ⟨q8, 0, none⟩ (.int .i64 (m : Int)) := ⟨_, rfl⟩
   rw [<- hwZ]
   have hgZ : w9.grownBy wZ (some q8) := by rw [hwZ]; exact set6_grown _ _
   have hlZ : wZ.heap[q8]? = some (.cells #[.int .i64 (m : Int), .slice la ln lc, .int .i64 (py : Int)] 103 (0, 0)) := by rw [hwZ, set_selfT H9'.out.2.2.2.2.2.1.1]; rfl
   have hGZ := H9'.out.1.beside hgZ (fun b e => by cases e; exact ⟨H9'.out.2.2.2.2.2.1.2, fun ⟨_, _, e2⟩ => by rw [H9'.out.2.2.2.2.2.1.1] at e2; cases e2⟩)
   have hTZ := H9'.out.2.2.1.own hgZ H4.out.2.2.2.2.2.2.1
   have htbZ : TB H9 wZ tb Q.pb (pt : Int) := HH.out.2.1.turn hTZ
   have HE := HoldT.mk (And.intro hGZ (And.intro htbZ (And.intro hTZ (And.intro hlZ True.intro))))
   clear hwZ hgZ hlZ hGZ hTZ htbZ
   obtain ⟨x0, x1⟩ := HE.out.2.1.cells
   have hbx := HE.out.2.1.box
   have hlb := HE.out.2.2.2.1
   have l0 : wZ.cell? ⟨q8, 0, none⟩ = some (.int .i64 (m : Int)) := by simp [World.cell?, hlb]
   have fx : wZ.frozen? ⟨tb, 1, none⟩ = false := by simp [World.frozen?, hbx]
   clear hbx hlb
   go_wp2_with fail
   obtain ⟨uF, huF⟩ : ∃ u, u = wZ.setCell ⟨tb, 1, none⟩ (.int .i64 (m : Int)) := ⟨_, rfl⟩
   rw [<- huF]
   go_ret
   have hgF : wZ.grownBy uF (some tb) := by rw [huF]; exact set6_grown _ _
   have hbF : uF.heap[tb]? = some (.cells #[.pointer (some ⟨Q.pb, 0, none⟩), .int .i64 (m : Int)] 99 (0, 0)) := by rw [huF, set_selfT HE.out.2.1.box]; rfl
   refine ⟨some ⟨h + 1, mkT h m [c1, y] [s]⟩, (m : Int), H9, S9, p9, rfl, HE.out.1.beside hgF (fun b e => by cases e; exact ⟨HE.out.2.1.off, fun ⟨_, _, e2⟩ => by rw [HE.out.2.1.box] at e2; cases e2⟩), ⟨hbF, HE.out.2.1.off⟩, ?_, ?_, ?_, HE.out.2.2.1.wide.trans (TurnS.grown hgF fun b e => by cases e; exact .inl (.inr rfl)), ?_⟩
   ·exact ⟨rfl, (top_two HPX.out.2.1.wf HH.out.2.2.2.2.1 HH.out.2.2.2.2.2.1 H7'.out.2.2.2.1 H9'.out.2.2.2.1 (by rw [H9'.out.2.2.2.2.1, H7'.out.2.2.2.2.2.2.2.2.2, H8.out.2.2.2.2.2])).1⟩
   ·exact ⟨_, H7'.out.2.2.2.1.1, m, rfl⟩
   ·exact ((top_two HPX.out.2.1.wf HH.out.2.2.2.2.1 HH.out.2.2.2.2.2.1 H7'.out.2.2.2.1 H9'.out.2.2.2.1 (by rw [H9'.out.2.2.2.2.1, H7'.out.2.2.2.2.2.2.2.2.2, H8.out.2.2.2.2.2])).2).before H1'.out.2.1
   ·have h1 := H7'.out.2.2.2.2.2.2.1; have h2 := HPX.out.2.2.2; have h3 := H9'.out.2.2.2.2.2.2; show p9 <= p + (24 * (h + 1) + 40); omega
end Go.Proofs.YtafilaiinbggoaaGreat
