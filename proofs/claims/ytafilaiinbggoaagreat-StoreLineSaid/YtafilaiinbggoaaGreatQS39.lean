import Derived.Test.YtafilaiinbggoaaGreatQS38
namespace Go.Proofs.YtafilaiinbggoaaGreat
open Go.RowKit Go.Maps
theorem bat_at {w : World} {g n cap : Nat} {l : List Bts} (h : BAt w (.slice (some ⟨g, 0, none⟩) n cap) l) {i : Nat} {x : Bts} (hx : l[i]? = some x) : ∃ xa xc, w.cell? ⟨g, i, none⟩ = some (.slice xa x.length xc) /\ YAt (cfU w) (.slice xa x.length xc) x := by
 obtain ⟨b, off, xa, xc, e, hc, hy⟩ := bat_cell h hx
 simp only [Option.some.injEq, Addr.mk.injEq, and_true] at e
 obtain ⟨rfl, rfl⟩ := e
 rw [Nat.zero_add] at hc
 exact ⟨xa, xc, hc, hy⟩
theorem iat_at {w : World} {g n cap : Nat} {l : List Nat} (h : IAt w (.slice (some ⟨g, 0, none⟩) n cap) l) {i x : Nat} (hx : l[i]? = some x) : w.cell? ⟨g, i, none⟩ = some (.int .i64 (x : Int)) := by
 obtain ⟨jb, jo, ej, hkc⟩ := sat_cell h (mem_map_nat.2 hx)
 obtain ⟨rfl, rfl⟩ : g = jb /\ 0 = jo := by
  simp only [Option.some.injEq, Addr.mk.injEq, and_true] at ej
  exact ej
 rw [Nat.zero_add] at hkc
 exact hkc
theorem low_bnd {c : CF} {keys : List Bts} {lo : Option Bts} {i : Nat} (hi : 0 < i) {k : Bts} (hk : keys[i - 1]? = some k) {v : Value} (hy : YAt c v k) (ho : keyOk k) : BndAt c v (lowAt keys lo i) := by
 cases i with
 | zero => omega
 | succ i =>
  rw [Nat.add_sub_cancel] at hk
  show BndAt c v keys[i]?
  rw [hk]; exact ⟨hy, ho.1⟩
theorem high_bnd {c : CF} {keys : List Bts} {hi : Option Bts} {i : Nat} {k : Bts} (hk : keys[i]? = some k) {v : Value} (hy : YAt c v k) (ho : keyOk k) : BndAt c v (highAt keys hi i) := by
 unfold highAt
 rw [hk]; exact ⟨hy, ho.1⟩
theorem high_end {c : CF} {keys : List Bts} {hi : Option Bts} {i : Nat} (hk : keys.length <= i) {v : Value} (hb : BndAt c v hi) : BndAt c v (highAt keys hi i) := by
 unfold highAt
 rw [List.getElem?_eq_none hk]; exact hb
theorem visit_len {f t : Bts} {most : Nat} : ∀ (l out : EL), (visit f t most out l).1.length <= out.length + l.length
 | [], out => Nat.le_refl _
 | e :: l, out => by
  rw [visit_cons]
  split
  ·split
   ·have := visit_len (f := f) (t := t) (most := most) l (out ++ [e])
    rw [List.length_append, List.length_singleton] at this
    rw [List.length_cons]; omega
   ·show (out ++ [e]).length <= _
    rw [List.length_append, List.length_singleton, List.length_cons]; omega
  ·have := visit_len (f := f) (t := t) (most := most) l out
   rw [List.length_cons]; omega
theorem flat_upto {α β : Type} {l : List α} {j : Nat} {x : α} (hx : l[j]? = some x) (g : α -> List β) : ((l.take (j + 1)).flatMap g).length = ((l.take j).flatMap g).length + (g x).length /\ ((l.take j).flatMap g).length + (g x).length <= (l.flatMap g).length := by
 constructor
 ·rw [List.take_add_one, hx, List.flatMap_append, List.length_append]; simp
 ·rw [flat_at hx g, List.length_append, List.length_append]; omega
theorem flat_ord {α β : Type} (b : Bool) (l : List α) (g : α -> List β) : ((ordE b l).flatMap g).length = (l.flatMap g).length := by
 cases b with
 | false => rfl
 | true =>
  show (l.reverse.flatMap g).length = _
  rw [List.length_flatMap, List.length_flatMap, List.map_reverse, List.sum_reverse]
theorem ord_es {h : Nat} (b : Bool) (x : Tree h) : (ordE b (esT h x)).length = (esT h x).length := ord_length b _
structure NodeL (Q : PQ) (R : Int -> Option Bts) (S : PS) (p B sb ob mb most : Nat) (back : Bool) (f t : Bts) (fv tv fn : Value) (es : EL) (h : Nat) (ks : List (Tree h)) (keys : List Bts) (kv vv iv : Value) (r B0 : Nat) (X : BS) (w : World) (j : Nat) (H' : HS) (S' : PS) (p' : Nat) (sl' : Value) (es' : EL) (wr : World) : Prop where
 vis : visit f t most es (((ordE back ks).take j).flatMap fun x => ordE back (esT h x)) = (es', true)
 room : es'.length < most
 si : SI Q R H' S' p' B sb ob mb most back f t fv tv fn sl' es' wr
 nt : NT H' B0 wr (nodeN (ks.map (pgT h)) keys) kv vv iv
 box : wr.heap[r]? = some (.cells #[.bool false, kv, vv, iv] 107 (0, 0))
 off : ¬ XS H' ob sl' r
 same : SameP S S'
 turn : TurnS X w (XS H' ob sl') wr
 few : p' <= p + 4 * (1 + (((ordE back ks).take j).flatMap (pagesT h)).length)
section
variable {Q : PQ} {R : Int -> Option Bts} {S : PS} {p B sb ob mb most : Nat} {back : Bool} {f t : Bts} {fv tv fn : Value} {es : EL} {h : Nat} {ks : List (Tree h)} {keys : List Bts} {kv vv iv : Value} {r B0 : Nat} {X : BS} {w : World} {j : Nat} {H' : HS} {S' : PS} {p' : Nat} {sl' : Value} {es' : EL} {wr : World} {x : Tree h}
theorem NodeL.pass (k : NodeL Q R S p B sb ob mb most back f t fv tv fn es h ks keys kv vv iv r B0 X w j H' S' p' sl' es' wr) (hx : (ordE back ks)[j]? = some x) (hr : rngE f t (esT h x) = []) : NodeL Q R S p B sb ob mb most back f t fv tv fn es h ks keys kv vv iv r B0 X w (j + 1) H' S' p' sl' es' wr := by
 refine ⟨?_, k.room, k.si, k.nt, k.box, k.off, k.same, k.turn, by have := (flat_upto hx (pagesT h)).1; have := k.few; omega⟩
 have h1 := visit_next es hx (by rw [k.vis])
 rw [k.vis] at h1
 rw [h1]
 exact visit_skip _ (by rw [rng_ord, hr]; cases back <;> rfl)
theorem NodeL.lim (k : NodeL Q R S p B sb ob mb most back f t fv tv fn es h ks keys kv vv iv r B0 X w j H' S' p' sl' es' wr) (hx : (ordE back ks)[j]? = some x) : es'.length + (esT h x).length <= es.length + (ks.flatMap (esT h)).length /\ p' + 4 * (pagesT h x).length <= p + 4 * (1 + (ks.flatMap (pagesT h)).length) := by
 have h1 := visit_len (f := f) (t := t) (most := most) (((ordE back ks).take j).flatMap fun x => ordE back (esT h x)) es
 rw [k.vis] at h1
 have h2 := (flat_upto hx fun x => ordE back (esT h x)).2
 rw [flat_ord] at h2
 have h3 : (ks.flatMap fun x => ordE back (esT h x)).length = (ks.flatMap (esT h)).length := by
  rw [List.length_flatMap, List.length_flatMap]
  congr 1
  exact List.map_congr_left fun x _ => ord_es back x
 rw [h3, ord_es] at h2
 have h4 := (flat_upto hx (pagesT h)).2
 rw [flat_ord] at h4
 have h5 := k.few
 have h1 : es'.length <= es.length + (((ordE back ks).take j).flatMap fun x => ordE back (esT h x)).length := h1
 omega
theorem NodeL.next (k : NodeL Q R S p B sb ob mb most back f t fv tv fn es h ks keys kv vv iv r B0 X w j H' S' p' sl' es' wr) (hx : (ordE back ks)[j]? = some x) {H2 : HS} {S2 : PS} {p2 : Nat} {sl2 : Value} {es2 : EL} {w2 : World} (hv : visit f t most es' (ordE back (esT h x)) = (es2, true)) (hI : SI Q R H2 S2 p2 B sb ob mb most back f t fv tv fn sl2 es2 w2) (hS : SameP S' S2) (hT : TurnS (XS H' ob sl') wr (XS H2 ob sl2) w2) (hp : p2 <= p' + 4 * (pagesT h x).length) : NodeL Q R S p B sb ob mb most back f t fv tv fn es h ks keys kv vv iv r B0 X w (j + 1) H2 S2 p2 sl2 es2 w2 := by
 have hk := hT.kept k.box k.off
 have h1 := visit_next es hx (by rw [k.vis])
 rw [k.vis] at h1
 have hro := visit_on (f := f) (t := t) (most := most) k.room (by rw [hv])
 rw [hv] at hro
 exact ⟨h1.trans hv, hro, hI, k.nt.walk k.si.out hT (cfU_turn hT k.si.noU), hk.1, hk.2, k.same.trans hS, k.turn.trans hT, by have := (flat_upto hx (pagesT h)).1; have := k.few; omega⟩
theorem NodeL.stop (k : NodeL Q R S p B sb ob mb most back f t fv tv fn es h ks keys kv vv iv r B0 X w j H' S' p' sl' es' wr) (hx : (ordE back ks)[j]? = some x) {es2 : EL} (hv : visit f t most es' (ordE back (esT h x)) = (es2, false)) : visit f t most es (ordE back (ks.flatMap (esT h))) = (es2, false) := by
 have h1 := visit_last (f := f) (t := t) (most := most) es hx (by rw [k.vis]) (by rw [k.vis, hv])
 rw [k.vis, hv] at h1
 exact h1
theorem NodeL.all (k : NodeL Q R S p B sb ob mb most back f t fv tv fn es h ks keys kv vv iv r B0 X w ks.length H' S' p' sl' es' wr) : visit f t most es (ordE back (ks.flatMap (esT h))) = (es', true) /\ p' <= p + 4 * (1 + (ks.flatMap (pagesT h)).length) := by
 have h1 := k.vis
 have h2 := k.few
 rw [List.take_of_length_le (by rw [ord_length]; exact Nat.le_refl _)] at h1 h2
 rw [flat_ord] at h2
 rw [ord_flat]
 exact ⟨h1, h2⟩
end
set_option maxHeartbeats 16000000 in
set_option maxRecDepth 100000 in
theorem step_node {Q : PQ} {R : Int -> Option Bts} {B sb ob mb most : Nat} {back : Bool} {f t : Bts} {fv tv fn : Value} {h : Nat} (IH : ∀ {H : HS} {S : PS} {p : Nat} {sl : Value} {es : EL} {deep : Nat} {u : Tree h} {lo hi : Option Bts} {lv hv : Value} {w : World}, StepIn Q R H S p B sb ob mb most back f t fv tv fn sl es deep h u lo hi lv hv w -> Calls Tryz.prog 93 #[.pointer (some ⟨sb, 0, none⟩), .int .i64 (pgT h u : Int), .int .i64 (deep : Int), lv, hv] w (StepPost Q R H S p B sb ob mb most back f t fv tv fn sl es (4 * (pagesT h u).length) (esT h u) w))
  {H : HS} {S : PS} {p : Nat} {sl : Value} {es : EL} {deep : Nat} {u : Tree (h + 1)} {lo hi : Option Bts} {lv hv : Value} {w : World} (hi' : StepIn Q R H S p B sb ob mb most back f t fv tv fn sl es deep (h + 1) u lo hi lv hv w) :
  Calls Tryz.prog 93 #[.pointer (some ⟨sb, 0, none⟩), .int .i64 (u.1 : Int), .int .i64 (deep : Int), lv, hv] w (StepPost Q R H S p B sb ob mb most back f t fv tv fn sl es (4 * (1 + (u.2.1.flatMap (pagesT h)).length)) (u.2.1.flatMap (esT h)) w) := by
 have hfr := hi'.tree.fresh u.1 (List.mem_cons_self ..)
 have hsh : ShN (nodeN (u.2.1.map (pgT h)) u.2.2) := shT (h := h + 1) hi'.tree.wf fun n hn => low_page hi'.si.pg (hi'.tree.fresh n hn)
 have hz : sizeN (nodeN (u.2.1.map (pgT h)) u.2.2) <= 1024 := sz_tree (h := h + 1) hi'.tree.wf
 have hc : contP S u.1 = encN (nodeN (u.2.1.map (pgT h)) u.2.2) := sitsN (h := h + 1) hi'.tree.wf hi'.tree.sits
 have HG := HoldT.mk (pages_get hi'.si.pg (by have := hi'.few; omega) hfr (.inr rfl))
 obtain ⟨x0, x1, x2, x3, x4⟩ := hi'.si.span.cells
 have HH := HoldT.mk (And.intro hi' (And.intro hsh (And.intro hz hc)))
 have bd : decide (20 < (deep : Int)) = false := decide_eq_false (by have := hi'.deep; omega)
 have hdp : deep <= 20 := by have := hi'.deep; omega
 obtain ⟨pn, hpn⟩ : ∃ pn, pn = u.1 := ⟨_, rfl⟩
 rw [<- hpn] at HG |-
 have HPN := HoldT.mk hpn
 clear hi' hfr hsh hz hc x1 x2 x3 x4 hpn
 go_enter Tryz.func93, Tryz.ntmps93
 go_wp2_with fail
 refine HG.out.mono ?_
 rintro e w2 ⟨sv, cs, H1, p1, d, rfl, ho, hG1, hdc, hT1, hp1⟩
 obtain ⟨sa, sc, rfl⟩ := ho.shape
 have hpi := (put_pool HH.out.1.si.pg.pool1 HH.out.1.si.pg.inv (HH.out.1.si.pg.inv.contlen pn) hdc)
 have hy := ho.yat
 rw [HPN.out, HH.out.2.2.2] at hy
 have HR := HoldT.mk (node_read HH.out.2.1 HH.out.2.2.1 hy)
 have HP := HoldT.mk (And.intro hG1 (And.intro hT1 (And.intro hp1 hpi)))
 clear ho hG1 hdc hT1 hp1 hpi hy x0
 go_wp2_with fail
 refine HR.out.mono ?_
 rintro e w3 ⟨kv, vv, iv, rfl, hno, hb3⟩
 obtain ⟨va, vc, rfl⟩ := hno.nat.vals.form
 obtain ⟨ks, hks⟩ : ∃ l, l = u.2.1 := ⟨_, rfl⟩
 obtain ⟨keys, hkeys⟩ : ∃ l, l = u.2.2 := ⟨_, rfl⟩
 have HU := HoldT.mk (And.intro hks hkeys)
 have hl1 : (nodeN (u.2.1.map (pgT h)) u.2.2).vals.length = 0 := rfl
 have hlf : (nodeN (u.2.1.map (pgT h)) u.2.2).leaf = false := rfl
 rw [hl1] at hno |-
 unfold nodeV
 rw [hlf]
 rw [<- hks, <- hkeys] at hno
 obtain ⟨m1, hm1⟩ : ∃ m, m = keys.length := ⟨_, rfl⟩
 obtain ⟨m3, hm3⟩ : ∃ m, m = ks.length := ⟨_, rfl⟩
 have hm31 : m3 = m1 + 1 := by rw [hm3, hm1, hks, hkeys]; exact HH.out.1.tree.wf.2.1
 have hm1p : 1 <= m1 := by rw [hm1, hkeys]; exact List.length_pos_iff.2 HH.out.1.tree.wf.1
 have hm9 : m1 <= 9000 := by rw [hm1, hkeys]; exact HH.out.2.1.few
 have hk1 : (nodeN (ks.map (pgT h)) keys).keys.length = m1 := hm1.symm
 have hk3 : (nodeN (ks.map (pgT h)) keys).kids.length = m3 := by rw [hm3]; show (ks.map _).length = _; simp
 obtain ⟨csI, hoI⟩ := hno.kids
 rw [hk3] at hoI
 obtain ⟨g, ic, curI, hiv, hgI, _⟩ := own_slice hoI (by omega)
 subst hiv
 obtain ⟨csK, hoK⟩ := hno.keys
 rw [hk1] at hoK
 obtain ⟨gk, kcap, curK, hkv, hgK, _⟩ := own_slice hoK (by omega)
 subst hkv
 have HM := HoldT.mk (And.intro hm1 hm3)
 have HN := HoldT.mk (And.intro hno hb3)
 have HM31 := HoldT.mk hm31
 have hm39 : m3 <= 9001 := by omega
 clear hno hb3 hm1 hm3 hk1 hk3 hl1 hlf hoI hgI hoK hgK hks hkeys hm31
 go_upto_region 11 with (fail)
 obtain ⟨w4, hw4⟩ : ∃ w4, w4 = w3.alloc (.cells #[.bool false, .slice (some ⟨gk, 0, none⟩) m1 kcap, .slice va 0 vc, .slice (some ⟨g, 0, none⟩) m3 ic] 107) := ⟨_, rfl⟩
 obtain ⟨r, hr⟩ : ∃ r, r = w3.heap.size := ⟨_, rfl⟩
 rw [<- hw4, <- hr]
 have hb4 : Below w3.heap.size w3 w4 := by rw [hw4]; exact (Below.refl _ w3).alloc (Nat.le_refl _) _
 have hbr : w4.heap[r]? = some (.cells #[.bool false, .slice (some ⟨gk, 0, none⟩) m1 kcap, .slice va 0 vc, .slice (some ⟨g, 0, none⟩) m3 ic] 107 (0, 0)) := by rw [hw4, hr]; exact heap_alloc_new w3 _
 have hb24 : Below w2.heap.size w2 w4 := HN.out.2.trans (hb4.mono HN.out.2.size)
 have hS1 : SameP S (putP Q.pool pn (contP S pn) d S) := ⟨HP.out.2.2.2.2.2, fun q => by
  rw [HP.out.2.2.2.2.1]
  split
  ·rename_i e; rw [e]
  ·rfl⟩
 obtain ⟨S1, hSe⟩ : ∃ S1, S1 = putP Q.pool pn (contP S pn) d S := ⟨_, rfl⟩
 have hG1 := HP.out.1
 rw [<- hSe] at hS1 hG1
 obtain ⟨hI2, hT2⟩ := HH.out.1.si.turn hG1 HP.out.2.1
 have hI4 := hI2.below hb24
 have hT4 := hT2.then hb24
 have hN4 : NT H1 w2.heap.size w4 (nodeN (ks.map (pgT h)) keys) (.slice (some ⟨gk, 0, none⟩) m1 kcap) (.slice va 0 vc) (.slice (some ⟨g, 0, none⟩) m3 ic) := ⟨HN.out.1.below hb4, fun g hg e => by
  have h1 := (HN.out.1.low hg).1
  have h2 := hG1.lt g e
  omega⟩
 have hr2 : w2.heap.size <= r := by have := HN.out.2.size; omega
 have hro : ¬ XS H1 ob sl r := fun e => e.elim (fun e => by have := hG1.lt r e; omega) (node_offX hI4 hbr)
 have HL0 : HoldT (NodeL Q R S p B sb ob mb most back f t fv tv fn es h ks keys (.slice (some ⟨gk, 0, none⟩) m1 kcap) (.slice va 0 vc) (.slice (some ⟨g, 0, none⟩) m3 ic) r w2.heap.size (XS H ob sl) w 0 H1 S1 p1 sl es w4) := ⟨rfl, HH.out.1.room, hI4, hN4, hbr, hro, hS1, hT4, by have := HP.out.2.2.1; simp; omega⟩
 have HT : HoldT (TreeIn S (h + 1) u /\ within lo hi (ks.flatMap (esT h)) /\ (∀ k ∈ keys, keyOk k) /\ BndAt (cfU w) lv lo /\ BndAt (cfU w) hv hi) := ⟨HH.out.1.tree, by rw [HU.out.1]; exact HH.out.1.win, by rw [HU.out.2]; exact HH.out.1.tree.wf.2.2.2.1, HH.out.1.blo, HH.out.1.bhi⟩
 have HLIM : HoldT (es.length + (ks.flatMap (esT h)).length <= 1000000 /\ p + 4 * (1 + (ks.flatMap (pagesT h)).length) <= 999999900) := ⟨by
  have h8 := HH.out.1.lim
  have h9 := HH.out.1.few
  rw [HU.out.1]
  have h10 : (pagesT (h + 1) u).length = (u.2.1.flatMap (pagesT h)).length + 1 := rfl
  have h11 : esT (h + 1) u = u.2.1.flatMap (esT h) := rfl
  rw [h11] at h8
  omega⟩
 have z0 : w4.cell? ⟨r, 0, none⟩ = some (.bool false) := by simp [World.cell?, hbr]
 have z1 : w4.cell? ⟨r, 1, none⟩ = some (.slice (some ⟨gk, 0, none⟩) m1 kcap) := by simp [World.cell?, hbr]
 have hnn : (m1 : Int) + 1 = (m3 : Int) := by have := HM31.out; omega
 have HNN := HoldT.mk hnn
 clear hw4 hr hb4 hbr hb24 hS1 hSe hG1 hI2 hT2 hI4 hT4 hN4 hr2 hro hnn
 go_upto_region 14 with (fail)
 rw [HNN.out]
 go_wp2_with fail
 clear z0 z1
 have HE0 : HoldT (StepPost Q R H S p B sb ob mb most back f t fv tv fn sl es (4 * (1 + (u.2.1.flatMap (pagesT h)).length)) (u.2.1.flatMap (esT h)) w = StepPost Q R H S p B sb ob mb most back f t fv tv fn sl es (4 * (1 + (ks.flatMap (pagesT h)).length)) (ks.flatMap (esT h)) w) := ⟨by rw [HU.out.1]⟩
 go_loopw [13, 16, 17, 18, 19, 53] (fun s13 s16 s17 s18 s19 s53 wr => ∃ j : Nat, s53 = .int .i64 (j : Int) /\ j <= m3 /\ s13 = .int .i64 0 /\ HoldT (∃ (H' : HS) (S' : PS) (p' : Nat) (sl' : Value) (es' : EL), NodeL Q R S p B sb ob mb most back f t fv tv fn es h ks keys (.slice (some ⟨gk, 0, none⟩) m1 kcap) (.slice va 0 vc) (.slice (some ⟨g, 0, none⟩) m3 ic) r w2.heap.size (XS H ob sl) w j H' S' p' sl' es' wr)) (fun _ _ _ _ _ s53 _ => m3 - (intOf s53).toNat)
 case atStart => exact ⟨0, rfl, Nat.zero_le _, rfl, ⟨H1, S1, p1, sl, es, HL0.out⟩⟩
 case round =>
  obtain ⟨j, rfl, hjm, rfl, HL⟩ := hrel
  obtain ⟨H', S', p', sl', es', hL⟩ := HL.out
  by_cases hlt : j < m3
  ·have b1 : decide ((j : Int) < (m3 : Int)) = true := decide_eq_true (by omega)
   obtain ⟨y0, y1, y2, y3, y4⟩ := hL.si.span.cells
   have hbox := hL.box
   have z0 : wr.cell? ⟨r, 0, none⟩ = some (.bool false) := by simp [World.cell?, hbox]
   have z1 : wr.cell? ⟨r, 1, none⟩ = some (.slice (some ⟨gk, 0, none⟩) m1 kcap) := by simp [World.cell?, hbox]
   have z3 : wr.cell? ⟨r, 3, none⟩ = some (.slice (some ⟨g, 0, none⟩) m3 ic) := by simp [World.cell?, hbox]
   obtain ⟨x, hxo⟩ : ∃ x, (ordE back ks)[j]? = some x := ⟨_, List.getElem?_eq_getElem (by rw [ord_length, <- HM.out.2]; exact hlt)⟩
   have hx := hxo
   rw [ord_get back ks (by rw [<- HM.out.2]; exact hlt), <- HM.out.2] at hx
   obtain ⟨i, hii⟩ : ∃ i, i = ordI back m3 j := ⟨_, rfl⟩
   rw [<- hii] at hx
   have him : i < m3 := by rw [HM.out.2]; exact (List.getElem?_eq_some_iff.1 hx).1
   have hkc := iat_at hL.nt.own.nat.kids (i := i) (x := pgT h x) (by show (ks.map _)[_]? = _; rw [List.getElem?_map, hx]; rfl)
   have hu := cfU_turn hL.turn HH.out.1.si.noU
   have hblo := HT.out.2.2.2.1.mono hu
   have hbhi := HT.out.2.2.2.2.mono hu
   have hwin : within (lowAt keys lo i) (highAt keys hi i) (esT h x) := by
    rw [HU.out.2]
    exact kid_within HT.out.1.wf (by have := HT.out.2.1; rw [HU.out.1] at this; exact this) (by rw [<- HU.out.1]; exact hx)
   have htk : TreeIn S' h x := (HT.out.1.kid (by rw [<- HU.out.1]; exact hx)).same hL.same
   obtain ⟨hli1, hli2⟩ := hL.lim hxo
   have HX := HoldT.mk (And.intro hxo (And.intro hL (And.intro hwin (And.intro htk (And.intro hli1 hli2)))))
   have HI0 := HoldT.mk hii
   obtain ⟨px, hpx⟩ : ∃ n, n = pgT h x := ⟨_, rfl⟩
   rw [<- hpx] at hkc
   have HPX := HoldT.mk hpx
   have hrows := hL.nt.own.nat.keys
   clear hbox hx hxo hL hwin htk hli1 hli2 hu hii hpx y0 y1 y2 y4
   obtain ⟨lv1, hlv1⟩ : ∃ lv1, (i = 0 -> lv1 = lv) /\ (0 < i -> wr.cell? ⟨gk, i - 1, none⟩ = some lv1) /\ BndAt (cfU wr) lv1 (lowAt keys lo i) := by
    by_cases h0 : 0 < i
    ·obtain ⟨k, hk⟩ : ∃ k, keys[i - 1]? = some k := ⟨_, List.getElem?_eq_getElem (by rw [<- HM.out.1]; have := HM31.out; omega)⟩
     obtain ⟨xa, xc, hc, hy⟩ := bat_at hrows hk
     exact ⟨_, fun e => by omega, fun _ => hc, low_bnd h0 hk hy (HT.out.2.2.1 k (List.mem_of_getElem? hk))⟩
    ·obtain rfl : i = 0 := by omega
     exact ⟨lv, fun _ => rfl, fun e => absurd e h0, hblo⟩
   obtain ⟨hv1, hhv1⟩ : ∃ hv1, (¬ i < m1 -> hv1 = hv) /\ (i < m1 -> wr.cell? ⟨gk, i, none⟩ = some hv1) /\ BndAt (cfU wr) hv1 (highAt keys hi i) := by
    by_cases h0 : i < m1
    ·obtain ⟨k, hk⟩ : ∃ k, keys[i]? = some k := ⟨_, List.getElem?_eq_getElem (by rw [<- HM.out.1]; exact h0)⟩
     obtain ⟨xa, xc, hc, hy⟩ := bat_at hrows hk
     exact ⟨_, fun e => absurd h0 e, fun _ => hc, high_bnd hk hy (HT.out.2.2.1 k (List.mem_of_getElem? hk))⟩
    ·exact ⟨hv, fun _ => rfl, fun e => absurd e h0, high_end (by rw [<- HM.out.1]; omega) hbhi⟩
   have HB := HoldT.mk (And.intro hlv1 hhv1)
   have HME := HoldT.mk (span_meets HX.out.2.1.si.span hlv1.2.2 hhv1.2.2)
   clear hrows hblo hbhi hlv1 hhv1
   have hi9 : i <= 9001 := by omega
   cases back with
   | false =>
    have hie : (j : Int) = (i : Int) := by rw [HI0.out]; rfl
    obtain rfl : j = i := by omega
    clear hie
    go_upto_region 20 with (fail)
    have hiI : (j : Int) < (m3 : Int) := by omega
    clear hiI
    by_cases hl0 : 0 < j
    ·have bl : decide (0 < (j : Int)) = true := decide_eq_true (by omega)
     have hcl := HB.out.1.2.1 hl0
     have hil : (j : Int) - 1 < (m1 : Int) := by have := HM31.out; omega
     by_cases hh0 : j < m1
     ·have bh : decide ((j : Int) < (m1 : Int)) = true := decide_eq_true (by omega)
      have hch := HB.out.2.2.1 hh0
      go_upto_region 27 with (fail)
      cases hme : meetsB f t (lowAt keys lo j) (highAt keys hi j) with
      | false =>
       have HNX := HoldT.mk (HX.out.2.1.pass HX.out.1 (skip_part HX.out.2.2.1 hme))
       rw [hme] at HME
       clear hme
       go_wp2_with fail
       refine HME.out.mono ?_
       rintro e w5 ⟨rfl, hw5⟩
       obtain rfl := hw5.symm
       go_wp2_with fail
       exact ⟨⟨j + 1, by go_num, hlt, rfl, ⟨H', S', p', sl', es', HNX.out⟩⟩, by simp [intOf]; omega⟩
      | true =>
       rw [hme] at HME
       clear hme
       have HIH := HoldT.mk (IH (deep := deep + 1) (u := x) (lv := _) (hv := _) ⟨HX.out.2.1.si, by have := HLIM.out.2; have := HX.out.2.2.2.2.2; omega, HX.out.2.2.2.1, by have := HH.out.1.deep; omega, HX.out.2.1.room, by have := HLIM.out.1; have := HX.out.2.2.2.2.1; omega, HB.out.1.2.2, HB.out.2.2.2, HX.out.2.2.1⟩)
       rw [show ((deep + 1 : Nat) : Int) = (deep : Int) + 1 by omega, <- HPX.out] at HIH
       go_wp2_with fail
       refine HME.out.mono ?_
       rintro e w5 ⟨rfl, hw5⟩
       obtain rfl := hw5.symm
       go_wp2_with fail
       refine HIH.out.mono ?_
       rintro e w6 ⟨on, es2, sl2, H2, S2, p2, rfl, hv2, hI2, hS2, hT2, hp2⟩
       cases on with
       | true =>
        have HNX := HoldT.mk (HX.out.2.1.next HX.out.1 hv2 hI2 hS2 hT2 hp2)
        clear hv2 hI2 hS2 hT2 hp2
        go_wp2_with fail
        exact ⟨⟨j + 1, by go_num, hlt, rfl, ⟨H2, S2, p2, sl2, es2, HNX.out⟩⟩, by simp [intOf]; omega⟩
       | false =>
        have HNX : HoldT (StepPost Q R H S p B sb ob mb most false f t fv tv fn sl es (4 * (1 + (ks.flatMap (pagesT h)).length)) (ks.flatMap (esT h)) w (.returned (.tuple #[.bool false, .int .i64 0])) w6) := ⟨⟨false, es2, sl2, H2, S2, p2, rfl, HX.out.2.1.stop HX.out.1 hv2, hI2, HX.out.2.1.same.trans hS2, HX.out.2.1.turn.trans hT2, by have := HX.out.2.2.2.2.2; omega⟩⟩
        clear hv2 hI2 hS2 hT2 hp2
        go_wp2_with fail
        refine bodyPost_ret (v := .tuple #[.bool false, .int .i64 0]) (by simp [results, Tryz.results93, go_sem]) rfl ?_
        rw [HE0.out]
        exact HNX.out
     ·have bh : decide ((j : Int) < (m1 : Int)) = false := decide_eq_false (by omega)
      obtain rfl := HB.out.2.1 hh0
      go_upto_region 27 with (fail)
      cases hme : meetsB f t (lowAt keys lo j) (highAt keys hi j) with
      | false =>
       have HNX := HoldT.mk (HX.out.2.1.pass HX.out.1 (skip_part HX.out.2.2.1 hme))
       rw [hme] at HME
       clear hme
       go_wp2_with fail
       refine HME.out.mono ?_
       rintro e w5 ⟨rfl, hw5⟩
       obtain rfl := hw5.symm
       go_wp2_with fail
       exact ⟨⟨j + 1, by go_num, hlt, rfl, ⟨H', S', p', sl', es', HNX.out⟩⟩, by simp [intOf]; omega⟩
      | true =>
       rw [hme] at HME
       clear hme
       have HIH := HoldT.mk (IH (deep := deep + 1) (u := x) (lv := _) (hv := _) ⟨HX.out.2.1.si, by have := HLIM.out.2; have := HX.out.2.2.2.2.2; omega, HX.out.2.2.2.1, by have := HH.out.1.deep; omega, HX.out.2.1.room, by have := HLIM.out.1; have := HX.out.2.2.2.2.1; omega, HB.out.1.2.2, HB.out.2.2.2, HX.out.2.2.1⟩)
       rw [show ((deep + 1 : Nat) : Int) = (deep : Int) + 1 by omega, <- HPX.out] at HIH
       go_wp2_with fail
       refine HME.out.mono ?_
       rintro e w5 ⟨rfl, hw5⟩
       obtain rfl := hw5.symm
       go_wp2_with fail
       refine HIH.out.mono ?_
       rintro e w6 ⟨on, es2, sl2, H2, S2, p2, rfl, hv2, hI2, hS2, hT2, hp2⟩
       cases on with
       | true =>
        have HNX := HoldT.mk (HX.out.2.1.next HX.out.1 hv2 hI2 hS2 hT2 hp2)
        clear hv2 hI2 hS2 hT2 hp2
        go_wp2_with fail
        exact ⟨⟨j + 1, by go_num, hlt, rfl, ⟨H2, S2, p2, sl2, es2, HNX.out⟩⟩, by simp [intOf]; omega⟩
       | false =>
        have HNX : HoldT (StepPost Q R H S p B sb ob mb most false f t fv tv fn sl es (4 * (1 + (ks.flatMap (pagesT h)).length)) (ks.flatMap (esT h)) w (.returned (.tuple #[.bool false, .int .i64 0])) w6) := ⟨⟨false, es2, sl2, H2, S2, p2, rfl, HX.out.2.1.stop HX.out.1 hv2, hI2, HX.out.2.1.same.trans hS2, HX.out.2.1.turn.trans hT2, by have := HX.out.2.2.2.2.2; omega⟩⟩
        clear hv2 hI2 hS2 hT2 hp2
        go_wp2_with fail
        refine bodyPost_ret (v := .tuple #[.bool false, .int .i64 0]) (by simp [results, Tryz.results93, go_sem]) rfl ?_
        rw [HE0.out]
        exact HNX.out
    ·have bl : decide (0 < (j : Int)) = false := decide_eq_false (by omega)
     obtain rfl := HB.out.1.1 (by omega)
     by_cases hh0 : j < m1
     ·have bh : decide ((j : Int) < (m1 : Int)) = true := decide_eq_true (by omega)
      have hch := HB.out.2.2.1 hh0
      go_upto_region 27 with (fail)
      cases hme : meetsB f t (lowAt keys lo j) (highAt keys hi j) with
      | false =>
       have HNX := HoldT.mk (HX.out.2.1.pass HX.out.1 (skip_part HX.out.2.2.1 hme))
       rw [hme] at HME
       clear hme
       go_wp2_with fail
       refine HME.out.mono ?_
       rintro e w5 ⟨rfl, hw5⟩
       obtain rfl := hw5.symm
       go_wp2_with fail
       exact ⟨⟨j + 1, by go_num, hlt, rfl, ⟨H', S', p', sl', es', HNX.out⟩⟩, by simp [intOf]; omega⟩
      | true =>
       rw [hme] at HME
       clear hme
       have HIH := HoldT.mk (IH (deep := deep + 1) (u := x) (lv := _) (hv := _) ⟨HX.out.2.1.si, by have := HLIM.out.2; have := HX.out.2.2.2.2.2; omega, HX.out.2.2.2.1, by have := HH.out.1.deep; omega, HX.out.2.1.room, by have := HLIM.out.1; have := HX.out.2.2.2.2.1; omega, HB.out.1.2.2, HB.out.2.2.2, HX.out.2.2.1⟩)
       rw [show ((deep + 1 : Nat) : Int) = (deep : Int) + 1 by omega, <- HPX.out] at HIH
       go_wp2_with fail
       refine HME.out.mono ?_
       rintro e w5 ⟨rfl, hw5⟩
       obtain rfl := hw5.symm
       go_wp2_with fail
       refine HIH.out.mono ?_
       rintro e w6 ⟨on, es2, sl2, H2, S2, p2, rfl, hv2, hI2, hS2, hT2, hp2⟩
       cases on with
       | true =>
        have HNX := HoldT.mk (HX.out.2.1.next HX.out.1 hv2 hI2 hS2 hT2 hp2)
        clear hv2 hI2 hS2 hT2 hp2
        go_wp2_with fail
        exact ⟨⟨j + 1, by go_num, hlt, rfl, ⟨H2, S2, p2, sl2, es2, HNX.out⟩⟩, by simp [intOf]; omega⟩
       | false =>
        have HNX : HoldT (StepPost Q R H S p B sb ob mb most false f t fv tv fn sl es (4 * (1 + (ks.flatMap (pagesT h)).length)) (ks.flatMap (esT h)) w (.returned (.tuple #[.bool false, .int .i64 0])) w6) := ⟨⟨false, es2, sl2, H2, S2, p2, rfl, HX.out.2.1.stop HX.out.1 hv2, hI2, HX.out.2.1.same.trans hS2, HX.out.2.1.turn.trans hT2, by have := HX.out.2.2.2.2.2; omega⟩⟩
        clear hv2 hI2 hS2 hT2 hp2
        go_wp2_with fail
        refine bodyPost_ret (v := .tuple #[.bool false, .int .i64 0]) (by simp [results, Tryz.results93, go_sem]) rfl ?_
        rw [HE0.out]
        exact HNX.out
     ·exact absurd hh0 (by have := HM31.out; omega)
   | true =>
    have hie : (m3 : Int) - 1 - (j : Int) = (i : Int) := by rw [HI0.out]; unfold ordI; simp; omega
    have HIE := HoldT.mk hie
    clear hie
    go_upto_region 20 with (fail)
    rw [HIE.out]
    have hiI : (i : Int) < (m3 : Int) := by omega
    clear hiI
    by_cases hl0 : 0 < i
    ·have bl : decide (0 < (i : Int)) = true := decide_eq_true (by omega)
     have hcl := HB.out.1.2.1 hl0
     have hil : (i : Int) - 1 < (m1 : Int) := by have := HM31.out; omega
     by_cases hh0 : i < m1
     ·have bh : decide ((i : Int) < (m1 : Int)) = true := decide_eq_true (by omega)
      have hch := HB.out.2.2.1 hh0
      go_upto_region 27 with (fail)
      cases hme : meetsB f t (lowAt keys lo i) (highAt keys hi i) with
      | false =>
       have HNX := HoldT.mk (HX.out.2.1.pass HX.out.1 (skip_part HX.out.2.2.1 hme))
       rw [hme] at HME
       clear hme
       go_wp2_with fail
       refine HME.out.mono ?_
       rintro e w5 ⟨rfl, hw5⟩
       obtain rfl := hw5.symm
       go_wp2_with fail
       exact ⟨⟨j + 1, by go_num, hlt, rfl, ⟨H', S', p', sl', es', HNX.out⟩⟩, by simp [intOf]; omega⟩
      | true =>
       rw [hme] at HME
       clear hme
       have HIH := HoldT.mk (IH (deep := deep + 1) (u := x) (lv := _) (hv := _) ⟨HX.out.2.1.si, by have := HLIM.out.2; have := HX.out.2.2.2.2.2; omega, HX.out.2.2.2.1, by have := HH.out.1.deep; omega, HX.out.2.1.room, by have := HLIM.out.1; have := HX.out.2.2.2.2.1; omega, HB.out.1.2.2, HB.out.2.2.2, HX.out.2.2.1⟩)
       rw [show ((deep + 1 : Nat) : Int) = (deep : Int) + 1 by omega, <- HPX.out] at HIH
       go_wp2_with fail
       refine HME.out.mono ?_
       rintro e w5 ⟨rfl, hw5⟩
       obtain rfl := hw5.symm
       go_wp2_with fail
       refine HIH.out.mono ?_
       rintro e w6 ⟨on, es2, sl2, H2, S2, p2, rfl, hv2, hI2, hS2, hT2, hp2⟩
       cases on with
       | true =>
        have HNX := HoldT.mk (HX.out.2.1.next HX.out.1 hv2 hI2 hS2 hT2 hp2)
        clear hv2 hI2 hS2 hT2 hp2
        go_wp2_with fail
        exact ⟨⟨j + 1, by go_num, hlt, rfl, ⟨H2, S2, p2, sl2, es2, HNX.out⟩⟩, by simp [intOf]; omega⟩
       | false =>
        have HNX : HoldT (StepPost Q R H S p B sb ob mb most true f t fv tv fn sl es (4 * (1 + (ks.flatMap (pagesT h)).length)) (ks.flatMap (esT h)) w (.returned (.tuple #[.bool false, .int .i64 0])) w6) := ⟨⟨false, es2, sl2, H2, S2, p2, rfl, HX.out.2.1.stop HX.out.1 hv2, hI2, HX.out.2.1.same.trans hS2, HX.out.2.1.turn.trans hT2, by have := HX.out.2.2.2.2.2; omega⟩⟩
        clear hv2 hI2 hS2 hT2 hp2
        go_wp2_with fail
        refine bodyPost_ret (v := .tuple #[.bool false, .int .i64 0]) (by simp [results, Tryz.results93, go_sem]) rfl ?_
        rw [HE0.out]
        exact HNX.out
     ·have bh : decide ((i : Int) < (m1 : Int)) = false := decide_eq_false (by omega)
      obtain rfl := HB.out.2.1 hh0
      go_upto_region 27 with (fail)
      cases hme : meetsB f t (lowAt keys lo i) (highAt keys hi i) with
      | false =>
       have HNX := HoldT.mk (HX.out.2.1.pass HX.out.1 (skip_part HX.out.2.2.1 hme))
       rw [hme] at HME
       clear hme
       go_wp2_with fail
       refine HME.out.mono ?_
       rintro e w5 ⟨rfl, hw5⟩
       obtain rfl := hw5.symm
       go_wp2_with fail
       exact ⟨⟨j + 1, by go_num, hlt, rfl, ⟨H', S', p', sl', es', HNX.out⟩⟩, by simp [intOf]; omega⟩
      | true =>
       rw [hme] at HME
       clear hme
       have HIH := HoldT.mk (IH (deep := deep + 1) (u := x) (lv := _) (hv := _) ⟨HX.out.2.1.si, by have := HLIM.out.2; have := HX.out.2.2.2.2.2; omega, HX.out.2.2.2.1, by have := HH.out.1.deep; omega, HX.out.2.1.room, by have := HLIM.out.1; have := HX.out.2.2.2.2.1; omega, HB.out.1.2.2, HB.out.2.2.2, HX.out.2.2.1⟩)
       rw [show ((deep + 1 : Nat) : Int) = (deep : Int) + 1 by omega, <- HPX.out] at HIH
       go_wp2_with fail
       refine HME.out.mono ?_
       rintro e w5 ⟨rfl, hw5⟩
       obtain rfl := hw5.symm
       go_wp2_with fail
       refine HIH.out.mono ?_
       rintro e w6 ⟨on, es2, sl2, H2, S2, p2, rfl, hv2, hI2, hS2, hT2, hp2⟩
       cases on with
       | true =>
        have HNX := HoldT.mk (HX.out.2.1.next HX.out.1 hv2 hI2 hS2 hT2 hp2)
        clear hv2 hI2 hS2 hT2 hp2
        go_wp2_with fail
        exact ⟨⟨j + 1, by go_num, hlt, rfl, ⟨H2, S2, p2, sl2, es2, HNX.out⟩⟩, by simp [intOf]; omega⟩
       | false =>
        have HNX : HoldT (StepPost Q R H S p B sb ob mb most true f t fv tv fn sl es (4 * (1 + (ks.flatMap (pagesT h)).length)) (ks.flatMap (esT h)) w (.returned (.tuple #[.bool false, .int .i64 0])) w6) := ⟨⟨false, es2, sl2, H2, S2, p2, rfl, HX.out.2.1.stop HX.out.1 hv2, hI2, HX.out.2.1.same.trans hS2, HX.out.2.1.turn.trans hT2, by have := HX.out.2.2.2.2.2; omega⟩⟩
        clear hv2 hI2 hS2 hT2 hp2
        go_wp2_with fail
        refine bodyPost_ret (v := .tuple #[.bool false, .int .i64 0]) (by simp [results, Tryz.results93, go_sem]) rfl ?_
        rw [HE0.out]
        exact HNX.out
    ·have bl : decide (0 < (i : Int)) = false := decide_eq_false (by omega)
     obtain rfl := HB.out.1.1 (by omega)
     by_cases hh0 : i < m1
     ·have bh : decide ((i : Int) < (m1 : Int)) = true := decide_eq_true (by omega)
      have hch := HB.out.2.2.1 hh0
      go_upto_region 27 with (fail)
      cases hme : meetsB f t (lowAt keys lo i) (highAt keys hi i) with
      | false =>
       have HNX := HoldT.mk (HX.out.2.1.pass HX.out.1 (skip_part HX.out.2.2.1 hme))
       rw [hme] at HME
       clear hme
       go_wp2_with fail
       refine HME.out.mono ?_
       rintro e w5 ⟨rfl, hw5⟩
       obtain rfl := hw5.symm
       go_wp2_with fail
       exact ⟨⟨j + 1, by go_num, hlt, rfl, ⟨H', S', p', sl', es', HNX.out⟩⟩, by simp [intOf]; omega⟩
      | true =>
       rw [hme] at HME
       clear hme
       have HIH := HoldT.mk (IH (deep := deep + 1) (u := x) (lv := _) (hv := _) ⟨HX.out.2.1.si, by have := HLIM.out.2; have := HX.out.2.2.2.2.2; omega, HX.out.2.2.2.1, by have := HH.out.1.deep; omega, HX.out.2.1.room, by have := HLIM.out.1; have := HX.out.2.2.2.2.1; omega, HB.out.1.2.2, HB.out.2.2.2, HX.out.2.2.1⟩)
       rw [show ((deep + 1 : Nat) : Int) = (deep : Int) + 1 by omega, <- HPX.out] at HIH
       go_wp2_with fail
       refine HME.out.mono ?_
       rintro e w5 ⟨rfl, hw5⟩
       obtain rfl := hw5.symm
       go_wp2_with fail
       refine HIH.out.mono ?_
       rintro e w6 ⟨on, es2, sl2, H2, S2, p2, rfl, hv2, hI2, hS2, hT2, hp2⟩
       cases on with
       | true =>
        have HNX := HoldT.mk (HX.out.2.1.next HX.out.1 hv2 hI2 hS2 hT2 hp2)
        clear hv2 hI2 hS2 hT2 hp2
        go_wp2_with fail
        exact ⟨⟨j + 1, by go_num, hlt, rfl, ⟨H2, S2, p2, sl2, es2, HNX.out⟩⟩, by simp [intOf]; omega⟩
       | false =>
        have HNX : HoldT (StepPost Q R H S p B sb ob mb most true f t fv tv fn sl es (4 * (1 + (ks.flatMap (pagesT h)).length)) (ks.flatMap (esT h)) w (.returned (.tuple #[.bool false, .int .i64 0])) w6) := ⟨⟨false, es2, sl2, H2, S2, p2, rfl, HX.out.2.1.stop HX.out.1 hv2, hI2, HX.out.2.1.same.trans hS2, HX.out.2.1.turn.trans hT2, by have := HX.out.2.2.2.2.2; omega⟩⟩
        clear hv2 hI2 hS2 hT2 hp2
        go_wp2_with fail
        refine bodyPost_ret (v := .tuple #[.bool false, .int .i64 0]) (by simp [results, Tryz.results93, go_sem]) rfl ?_
        rw [HE0.out]
        exact HNX.out
     ·exact absurd hh0 (by have := HM31.out; omega)
  ·obtain rfl : j = m3 := by omega
   have b1 : decide ((j : Int) < (j : Int)) = false := decide_eq_false (by omega)
   have HNX : HoldT (StepPost Q R H S p B sb ob mb most back f t fv tv fn sl es (4 * (1 + (ks.flatMap (pagesT h)).length)) (ks.flatMap (esT h)) w (.returned (.tuple #[.bool true, .int .i64 0])) wr) := ⟨by
    have hj := hL
    rw [HM.out.2] at hj
    exact ⟨true, es', sl', H', S', p', rfl, hj.all.1, hL.si, hL.same, hL.turn, hj.all.2⟩⟩
   clear hL
   go_wp2_with fail
   refine bodyPost_ret (v := .tuple #[.bool true, .int .i64 0]) (by simp [results, Tryz.results93, go_sem]) rfl ?_
   rw [HE0.out]
   exact HNX.out
theorem step_any {Q : PQ} {R : Int -> Option Bts} {B sb ob mb most : Nat} {back : Bool} {f t : Bts} {fv tv fn : Value} : ∀ (h : Nat) {H : HS} {S : PS} {p : Nat} {sl : Value} {es : EL} {deep : Nat} {u : Tree h} {lo hi : Option Bts} {lv hv : Value} {w : World}, StepIn Q R H S p B sb ob mb most back f t fv tv fn sl es deep h u lo hi lv hv w -> Calls Tryz.prog 93 #[.pointer (some ⟨sb, 0, none⟩), .int .i64 (pgT h u : Int), .int .i64 (deep : Int), lv, hv] w (StepPost Q R H S p B sb ob mb most back f t fv tv fn sl es (4 * (pagesT h u).length) (esT h u) w)
 | 0, _, _, _, _, _, _, _, _, _, _, _, _, hi => step_leaf hi
 | h + 1, _, _, _, _, _, _, u, _, _, _, _, _, hi => by
  have h1 := step_node (step_any h) hi
  have h2 : (pagesT (h + 1) u).length = 1 + (u.2.1.flatMap (pagesT h)).length := Nat.add_comm ..
  rw [h2]
  exact h1
end Go.Proofs.YtafilaiinbggoaaGreat
