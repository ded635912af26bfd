import Derived.Test.YtafilaiinbggoaaGreatQS37
namespace Go.Proofs.YtafilaiinbggoaaGreat
open Go.RowKit Go.Maps
structure StepIn (Q : PQ) (R : Int -> Option Bts) (H : HS) (S : PS) (p B sb ob mb most : Nat) (back : Bool) (f t : Bts) (fv tv fn sl : Value) (es : EL) (deep h : Nat) (u : Tree h) (lo hi : Option Bts) (lv hv : Value) (w : World) : Prop where
 si : SI Q R H S p B sb ob mb most back f t fv tv fn sl es w
 few : p + 4 * (pagesT h u).length <= 999999900
 tree : TreeIn S h u
 deep : deep + h <= 20
 room : es.length < most
 lim : es.length + (esT h u).length <= 1000000
 blo : BndAt (cfU w) lv lo
 bhi : BndAt (cfU w) hv hi
 win : within lo hi (esT h u)
def StepPost (Q : PQ) (R : Int -> Option Bts) (H : HS) (S : PS) (p B sb ob mb most : Nat) (back : Bool) (f t : Bts) (fv tv fn sl : Value) (es : EL) (c : Nat) (l : EL) (w : World) (e : Ending) (w' : World) : Prop :=
 ∃ (on : Bool) (es' : EL) (sl' : Value) (H' : HS) (S' : PS) (p' : Nat), e = .returned (.tuple #[.bool on, .int .i64 0]) /\ visit f t most es (ordE back l) = (es', on) /\ SI Q R H' S' p' B sb ob mb most back f t fv tv fn sl' es' w' /\ SameP S S' /\ TurnS (XS H ob sl) w (XS H' ob sl') w' /\ p' <= p + c
theorem visit_step {f t : Bts} {most : Nat} {l es es' : EL} {j : Nat} {x : Bts × Bts} (hx : l[j]? = some x) (h : visit f t most es (l.take j) = (es', true)) : visit f t most es (l.take (j + 1)) = visit f t most es' [x] := by
 rw [List.take_add_one, hx, visit_app, h]
 simp
theorem visit_end {f t : Bts} {most : Nat} {l es es' : EL} {j : Nat} (h : visit f t most es (l.take j) = (es', false)) : visit f t most es l = (es', false) := by
 conv => lhs; rw [<- List.take_append_drop j l, visit_app, h]
 simp
theorem ord_length {α : Type} (b : Bool) (l : List α) : (ordE b l).length = l.length := by cases b <;> simp [ordE]
def LeafL (Q : PQ) (R : Int -> Option Bts) (H : HS) (S : PS) (p B sb ob mb most : Nat) (back : Bool) (f t : Bts) (fv tv fn : Value) (es l : EL) (kv vv iv : Value) (r B0 : Nat) (X : BS) (w : World) (j : Nat) (wr : World) : Prop :=
 ∃ (sl' : Value) (es' : EL), visit f t most es ((ordE back l).take j) = (es', true) /\ es'.length < most /\ es'.length <= es.length + j /\ SI Q R H S p B sb ob mb most back f t fv tv fn sl' es' wr /\ NT H B0 wr (leafN l) kv vv iv /\ wr.heap[r]? = some (.cells #[.bool true, kv, vv, iv] 107 (0, 0)) /\ TurnS X w (XS H ob sl') wr
theorem node_offX {Q : PQ} {R : Int -> Option Bts} {H : HS} {S : PS} {p B sb ob mb most : Nat} {back : Bool} {f t : Bts} {fv tv fn sl : Value} {es : EL} {w : World} (h : SI Q R H S p B sb ob mb most back f t fv tv fn sl es w) {r : Nat} {cs : Array Value} (hr : w.heap[r]? = some (.cells cs 107 (0, 0))) : ¬ outX ob sl r := fun e => by
 obtain ⟨_, _, _, T, e2, e3⟩ := h.out.kind e
 rw [hr] at e2
 cases e2
 rcases e3 with e3 | e3 <;> exact absurd e3 (by decide)
theorem rows_offX {H : HS} {B0 B ob : Nat} {sl : Value} {es : EL} {w : World} {n : ND} {kv vv iv : Value} (h : NT H B0 w n kv vv iv) (ho : OutS B w ob sl es) : ∀ g, kv.ownBlock = some g \/ vv.ownBlock = some g \/ iv.ownBlock = some g -> g < w.heap.size /\ ¬ outX ob sl g := fun g hg => ⟨(h.own.low hg).2.1, fun e => by
 obtain ⟨_, _, _, T, e2, e3⟩ := ho.kind e
 obtain ⟨cur, T2, e4, e5⟩ := h.own.kind hg
 rw [e2] at e4
 cases e4
 rcases e3 with e3 | e3 <;> rcases e5 with e5 | e5 <;> rw [e3] at e5 <;> exact absurd e5 (by decide)⟩
section
variable {Q : PQ} {R : Int -> Option Bts} {H : HS} {S : PS} {p B sb ob mb most : Nat} {back : Bool} {f t : Bts} {fv tv fn : Value} {es l : EL} {kv vv iv : Value} {r B0 : Nat} {X : BS} {w : World} {j : Nat} {wr w' : World} {sl' sl2 : Value} {es' : EL} {x : Bts × Bts}
theorem LeafL.pass (hx : (ordE back l)[j]? = some x) (hr : inR f t x.1 = false) (e1 : visit f t most es ((ordE back l).take j) = (es', true)) (e2 : es'.length < most) (e3 : es'.length <= es.length + j) (e4 : SI Q R H S p B sb ob mb most back f t fv tv fn sl' es' wr) (e5 : NT H B0 wr (leafN l) kv vv iv) (e6 : wr.heap[r]? = some (.cells #[.bool true, kv, vv, iv] 107 (0, 0))) (e7 : TurnS X w (XS H ob sl') wr) (hb : Below wr.heap.size wr w') : LeafL Q R H S p B sb ob mb most back f t fv tv fn es l kv vv iv r B0 X w (j + 1) w' := by
 refine ⟨sl', es', ?_, e2, by omega, e4.below hb, e5.below hb, kept e6 hb, e7.then hb⟩
 rw [visit_step hx e1, visit_cons, if_neg (by rw [hr]; decide)]
 rfl
theorem LeafL.hand (hx : (ordE back l)[j]? = some x) (hr : inR f t x.1 = true) (e1 : visit f t most es ((ordE back l).take j) = (es', true)) (e3 : es'.length <= es.length + j) (e4 : SI Q R H S p B sb ob mb most back f t fv tv fn sl' es' wr) (e5 : NT H B0 wr (leafN l) kv vv iv) (e6 : wr.heap[r]? = some (.cells #[.bool true, kv, vv, iv] 107 (0, 0))) (e7 : TurnS X w (XS H ob sl') wr) (hO : OutS B w' ob sl2 (es' ++ [x])) (hT : TurnS (outX ob sl') wr (outX ob sl2) w') :
  (es'.length + 1 < most -> LeafL Q R H S p B sb ob mb most back f t fv tv fn es l kv vv iv r B0 X w (j + 1) w') /\ (¬ es'.length + 1 < most -> visit f t most es (ordE back l) = (es' ++ [x], false) /\ SI Q R H S p B sb ob mb most back f t fv tv fn sl2 (es' ++ [x]) w' /\ TurnS X w (XS H ob sl2) w') := by
 obtain ⟨h1, h2⟩ := e4.given hO hT
 have hlen : (es' ++ [x]).length = es'.length + 1 := by simp
 have hv := visit_step hx e1
 rw [visit_cons, if_pos hr, hlen] at hv
 refine ⟨fun hlt => ?_, fun hge => ?_⟩
 ·rw [if_pos hlt] at hv
  refine ⟨sl2, es' ++ [x], hv, by omega, by omega, h1, e5.walk e4.out h2 (cfU_turn hT e4.out.noU), (hT.kept e6 (node_offX e4 e6)).1, e7.trans h2⟩
 ·rw [if_neg hge] at hv
  exact ⟨visit_end hv, h1, e7.trans h2⟩
end
set_option maxHeartbeats 8000000 in
set_option maxRecDepth 100000 in
theorem step_leaf {Q : PQ} {R : Int -> Option Bts} {H : HS} {S : PS} {p B sb ob mb most : Nat} {back : Bool} {f t : Bts} {fv tv fn sl : Value} {es : EL} {deep : Nat} {u : Tree 0} {lo hi : Option Bts} {lv hv : Value} {w : World} (hi : StepIn Q R H S p B sb ob mb most back f t fv tv fn sl es deep 0 u lo hi lv hv w) :
  Calls Tryz.prog 93 #[.pointer (some ⟨sb, 0, none⟩), .int .i64 (u.1 : Int), .int .i64 (deep : Int), lv, hv] w (StepPost Q R H S p B sb ob mb most back f t fv tv fn sl es 4 u.2 w) := by
 obtain rfl := hi.si.fnv
 have hfr := hi.tree.fresh u.1 (List.mem_singleton.2 rfl)
 have hsh : ShN (leafN u.2) := shT (h := 0) hi.tree.wf fun n hn => low_page hi.si.pg (hi.tree.fresh n hn)
 have hz : sizeN (leafN u.2) <= 1024 := sz_tree (h := 0) hi.tree.wf
 have hc : contP S u.1 = encN (leafN u.2) := sitsN (h := 0) hi.tree.wf hi.tree.sits
 have HG := HoldT.mk (pages_get hi.si.pg (by have := hi.few; omega) hfr (.inr rfl))
 obtain ⟨x0, x1, x2, x3, x4⟩ := hi.si.span.cells
 have HH := HoldT.mk (And.intro hi (And.intro hsh (And.intro hz hc)))
 have bd : decide (20 < (deep : Int)) = false := decide_eq_false (by have := hi.deep; omega)
 obtain ⟨pn, hpn⟩ : ∃ pn, pn = u.1 := ⟨_, rfl⟩
 rw [<- hpn] at HG |-
 have HPN := HoldT.mk hpn
 clear hi hfr hsh hz hc x1 x2 x3 x4 hpn
 go_enter Tryz.func93, Tryz.ntmps93
 go_wp2_with fail
 refine HG.out.mono ?_
 rintro e w2 ⟨sv, cs, H1, p1, d, rfl, ho, hG1, hdc, hT1, hp1⟩
 obtain ⟨sa, sc, rfl⟩ := ho.shape
 have hpi := (put_pool HH.out.1.si.pg.pool1 HH.out.1.si.pg.inv (HH.out.1.si.pg.inv.contlen pn) hdc)
 have hy := ho.yat
 rw [HPN.out, HH.out.2.2.2] at hy
 have HR := HoldT.mk (node_read HH.out.2.1 HH.out.2.2.1 hy)
 have HP := HoldT.mk (And.intro hG1 (And.intro hT1 (And.intro hp1 hpi)))
 clear ho hG1 hdc hT1 hp1 hpi hy x0
 go_wp2_with fail
 refine HR.out.mono ?_
 rintro e w3 ⟨kv, vv, iv, rfl, hno, hb3⟩
 obtain ⟨ka, kc, rfl⟩ := hno.nat.keys.form
 obtain ⟨va, vc, rfl⟩ := hno.nat.vals.form
 obtain ⟨ia, ic, rfl⟩ := hno.nat.kids.form
 obtain ⟨l, hl⟩ : ∃ l, l = u.2 := ⟨_, rfl⟩
 have HLL := HoldT.mk hl
 have hl1 : (leafN l).vals.length = l.length := by show (l.map _).length = _; simp
 have hl2 : (leafN l).keys.length = l.length := by show (l.map _).length = _; simp
 have hl3 : ((leafN l).kids.map Int.ofNat).length = 0 := rfl
 rw [<- hl] at hno |-
 have hlf : (leafN l).leaf = true := rfl
 rw [hl1, hl2, hl3] at hno |-
 unfold nodeV
 rw [hlf]
 clear hl1 hl2 hl3 hl hlf
 obtain ⟨m, hm⟩ : ∃ m, m = l.length := ⟨_, rfl⟩
 rw [<- hm] at hno |-
 have hm9 : m <= 9000 := by
  have h9 : (leafN u.2).keys.length <= 9000 := HH.out.2.1.few
  rw [<- HLL.out] at h9
  have : (leafN l).keys.length = l.length := by show (l.map _).length = _; simp
  omega
 have HM := HoldT.mk hm
 have HN := HoldT.mk (And.intro hno hb3)
 clear hno hb3 hm
 go_upto_region 11 with (fail)
 obtain ⟨w4, hw4⟩ : ∃ w4, w4 = w3.alloc (.cells #[.bool true, .slice ka m kc, .slice va m vc, .slice ia 0 ic] 107) := ⟨_, rfl⟩
 obtain ⟨r, hr⟩ : ∃ r, r = w3.heap.size := ⟨_, rfl⟩
 rw [<- hw4, <- hr]
 have hb4 : Below w3.heap.size w3 w4 := by rw [hw4]; exact (Below.refl _ w3).alloc (Nat.le_refl _) _
 have hbr : w4.heap[r]? = some (.cells #[.bool true, .slice ka m kc, .slice va m vc, .slice ia 0 ic] 107 (0, 0)) := by rw [hw4, hr]; exact heap_alloc_new w3 _
 have hb24 : Below w2.heap.size w2 w4 := HN.out.2.trans (hb4.mono HN.out.2.size)
 have hS1 : SameP S (putP Q.pool pn (contP S pn) d S) := ⟨HP.out.2.2.2.2.2, fun q => by
  rw [HP.out.2.2.2.2.1]
  split
  ·rename_i e; rw [e]
  ·rfl⟩
 obtain ⟨S1, hSe⟩ : ∃ S1, S1 = putP Q.pool pn (contP S pn) d S := ⟨_, rfl⟩
 have hG1 := HP.out.1
 rw [<- hSe] at hS1 hG1
 obtain ⟨hI2, hT2⟩ := HH.out.1.si.turn hG1 HP.out.2.1
 have hI4 := hI2.below hb24
 have hT4 := hT2.then hb24
 have hN4 : NT H1 w2.heap.size w4 (leafN l) (.slice ka m kc) (.slice va m vc) (.slice ia 0 ic) := ⟨HN.out.1.below hb4, fun g hg e => by
  have h1 := (HN.out.1.low hg).1
  have h2 := hG1.lt g e
  omega⟩
 have HL0 : HoldT (LeafL Q R H1 S1 p1 B sb ob mb most back f t fv tv (.func (.func 92) #[] #[.pointer (some ⟨ob, 0, none⟩), .pointer (some ⟨mb, 0, none⟩)]) es l (.slice ka m kc) (.slice va m vc) (.slice ia 0 ic) r w2.heap.size (XS H ob sl) w 0 w4) := ⟨sl, es, rfl, HH.out.1.room, Nat.le_refl _, hI4, hN4, hbr, hT4⟩
 have HS1 := HoldT.mk (And.intro hS1 HP.out.2.2.1)
 have HLIM : HoldT (es.length + m <= 1000000) := ⟨by
  have h8 : es.length + u.2.length <= 1000000 := HH.out.1.lim
  rw [<- HLL.out, <- HM.out] at h8
  exact h8⟩
 have z0 : w4.cell? ⟨r, 0, none⟩ = some (.bool true) := by simp [World.cell?, hbr]
 have z1 : w4.cell? ⟨r, 1, none⟩ = some (.slice ka m kc) := by simp [World.cell?, hbr]
 clear hw4 hr hb4 hbr hb24 hS1 hSe hG1 hI2 hT2 hI4 hT4 hN4
 go_wp2_with fail
 clear z0 z1
 rw [<- HLL.out]
 go_loopw [13, 16, 17, 18, 19, 53] (fun s13 s16 s17 s18 s19 s53 wr => ∃ j : Nat, s53 = .int .i64 (j : Int) /\ j <= m /\ s13 = .int .i64 0 /\ HoldT (LeafL Q R H1 S1 p1 B sb ob mb most back f t fv tv (.func (.func 92) #[] #[.pointer (some ⟨ob, 0, none⟩), .pointer (some ⟨mb, 0, none⟩)]) es l (.slice ka m kc) (.slice va m vc) (.slice ia 0 ic) r w2.heap.size (XS H ob sl) w j wr)) (fun _ _ _ _ _ s53 _ => m - (intOf s53).toNat)
 case atStart => exact ⟨0, rfl, Nat.zero_le _, rfl, HL0⟩
 case round =>
  obtain ⟨j, rfl, hjm, rfl, HL⟩ := hrel
  by_cases hlt : j < m
  ·have b1 : decide ((j : Int) < (m : Int)) = true := decide_eq_true (by omega)
   obtain ⟨sl', es', e1, e2, e3, e4, e5, e6, e7⟩ := HL.out
   obtain ⟨y0, y1, y2, y3, y4⟩ := e4.span.cells
   have z0 : wr.cell? ⟨r, 0, none⟩ = some (.bool true) := by simp [World.cell?, e6]
   have z1 : wr.cell? ⟨r, 1, none⟩ = some (.slice ka m kc) := by simp [World.cell?, e6]
   have z2 : wr.cell? ⟨r, 2, none⟩ = some (.slice va m vc) := by simp [World.cell?, e6]
   obtain ⟨x, hxo⟩ : ∃ x, (ordE back l)[j]? = some x := ⟨_, List.getElem?_eq_getElem (by rw [ord_length, <- HM.out]; exact hlt)⟩
   have hx := hxo
   rw [ord_get back l (by rw [<- HM.out]; exact hlt), <- HM.out] at hx
   have HE := HoldT.mk (And.intro hxo (And.intro e1 (And.intro e2 (And.intro e3 (And.intro e4 (And.intro e5 (And.intro e6 e7)))))))
   have hk : (leafN l).keys[ordI back m j]? = some x.1 := by show (l.map _)[_]? = _; rw [List.getElem?_map, hx]; rfl
   have hv : (leafN l).vals[ordI back m j]? = some x.2 := by show (l.map _)[_]? = _; rw [List.getElem?_map, hx]; rfl
   obtain ⟨c1, o1, ka1, kc1, rfl, hc1, hy1⟩ := bat_cell e5.own.nat.keys hk
   obtain ⟨c2, o2, va1, vc1, rfl, hc2, hy2⟩ := bat_cell e5.own.nat.vals hv
   obtain ⟨xk, xv⟩ := x
   obtain ⟨kl, hkl⟩ : ∃ kl, kl = xk.length := ⟨_, rfl⟩
   obtain ⟨vl, hvl⟩ : ∃ vl, vl = xv.length := ⟨_, rfl⟩
   rw [<- hkl] at hc1 hy1
   rw [<- hvl] at hc2 hy2
   have hP1 := rows_offX e5 e4.out c1 (.inl rfl)
   have hP2 := rows_offX e5 e4.out c2 (.inr (.inl rfl))
   have hPr : r < wr.heap.size /\ ¬ outX ob sl' r := ⟨heap_lt e6, node_offX e4 e6⟩
   have hPs : sb < wr.heap.size /\ ¬ outX ob sl' sb := ⟨heap_lt e4.span.box, fun e => e4.sbX (.inr e)⟩
   have HY := HoldT.mk (And.intro hy1 hy2)
   have g0 := KeepS.cell (P := fun b => b < wr.heap.size /\ ¬ outX ob sl' b) y4 hPs
   have g1 := KeepS.cell (P := fun b => b < wr.heap.size /\ ¬ outX ob sl' b) z1 hPr
   have g2 := KeepS.cell (P := fun b => b < wr.heap.size /\ ¬ outX ob sl' b) z2 hPr
   have g3 := KeepS.cell (P := fun b => b < wr.heap.size /\ ¬ outX ob sl' b) hc1 hP1
   have g4 := KeepS.cell (P := fun b => b < wr.heap.size /\ ¬ outX ob sl' b) hc2 hP2
   clear e1 e2 e3 e4 e5 e6 e7 hx hxo hk hv hy1 hy2 hP1 hP2 hPr hPs y0 y1 y2 y4 z1 z2 hc1 hc2 hkl hvl
   cases back with
   | false =>
    have him : j < m := hlt
    have hoj : ordI false m j = j := rfl
    rw [hoj] at g3 g4
    clear hoj
    have hiI : (j : Int) < (m : Int) := by omega
    go_upto_region 21 with (fail)
    clear y3 z0
    refine wp_region_mixC (KeepSC (fun b => b < wr.heap.size /\ ¬ outX ob sl' b) wr) 27 rfl (by kernel_rfl) ?_
    have HDR := HoldT.mk ((Below.refl wr.heap.size wr).drew)
    have HST : HoldT (∀ q : Nat, wr.drew.heap[q]? = wr.heap[q]?) := ⟨fun _ => rfl⟩
    generalize wr.drew = v9 at HDR HST |-
    refine mixl_seg (by kernel_rfl) (fun _ _ d _ _ h => by cases d <;> exact h) [0, 1, 2, 3, 4, 5] [_, _, _, _, _, _] 21 27 rfl _ _ _ rfl (by kernel_rfl) (keepSC fun q _ => HST.out q) ?_
    repeat (go_big_quiet_step (fail))
    refine wpQuiet_nil ?_
    have HI9 := HoldT.mk (HE.out.2.2.2.2.1.below HDR.out)
    have HC := HoldT.mk (span_holds HI9.out.span (HY.out.1.mono RY_mono (cfU_below HDR.out)))
    refine mixl_act (i := 6) rfl (by kernel_rfl) (keepSC fun q _ => HST.out q) rfl (fun K hK => ?_)
    go_wp2_with fail
    refine HC.out.mono ?_
    rintro e w5 ⟨rfl, hw5⟩
    obtain rfl := hw5.symm
    simp only
    cases hin : inR f t xk with
    | false =>
     have HIN := HoldT.mk hin
     clear hin
     go_wp2_with fail
     refine mixl_seg (by kernel_rfl) (fun _ _ d _ _ h => by cases d <;> exact h) [7, 8] [_, _] 18 20 rfl _ _ _ rfl (by kernel_rfl) (keepSC fun q _ => HST.out q) ?_
     repeat (go_big_quiet_step (fail))
     refine wpQuiet_nil ?_
     refine mixl_skip (i := 9) rfl (by kernel_rfl) (fun _ _ d _ _ h => by cases d <;> exact h) (by kernel_rfl) (by kernel_rfl) rfl ?_
     simp only [Act.put, List.setIfInBounds_toArray, List.set_cons_succ, List.set_cons_zero]
     refine mixl_skip (i := 10) rfl (by kernel_rfl) (fun _ _ d _ _ h => by cases d <;> exact h) (by kernel_rfl) (by kernel_rfl) rfl ?_
     simp only [Act.put, List.setIfInBounds_toArray, List.set_cons_succ, List.set_cons_zero]
     refine mixl_skip (i := 11) rfl (by kernel_rfl) (fun _ _ d _ _ h => by cases d <;> exact h) (by kernel_rfl) (by kernel_rfl) rfl ?_
     simp only [Act.put, List.setIfInBounds_toArray, List.set_cons_succ, List.set_cons_zero]
     refine mixl_skip (i := 12) rfl (by kernel_rfl) (fun _ _ d _ _ h => by cases d <;> exact h) (by kernel_rfl) (by kernel_rfl) rfl ?_
     simp only [Act.put, List.setIfInBounds_toArray, List.set_cons_succ, List.set_cons_zero]
     refine mixl_skip (i := 13) rfl (by kernel_rfl) (fun _ _ d _ _ h => by cases d <;> exact h) (by kernel_rfl) (by kernel_rfl) rfl ?_
     simp only [Act.put, List.setIfInBounds_toArray, List.set_cons_succ, List.set_cons_zero]
     refine mixl_skip (i := 14) rfl (by kernel_rfl) (fun _ _ d _ _ h => by cases d <;> exact h) (by kernel_rfl) (by kernel_rfl) rfl ?_
     simp only [Act.put, List.setIfInBounds_toArray, List.set_cons_succ, List.set_cons_zero]
     refine mixl_skip (i := 15) rfl (by kernel_rfl) (fun _ _ d _ _ h => by cases d <;> exact h) (by kernel_rfl) (by kernel_rfl) rfl ?_
     simp only [Act.put, List.setIfInBounds_toArray, List.set_cons_succ, List.set_cons_zero]
     refine mixl_skip (i := 16) rfl (by kernel_rfl) (fun _ _ d _ _ h => by cases d <;> exact h) (by kernel_rfl) (by kernel_rfl) rfl ?_
     simp only [Act.put, List.setIfInBounds_toArray, List.set_cons_succ, List.set_cons_zero]
     refine mixl_skip (i := 17) rfl (by kernel_rfl) (fun _ _ d _ _ h => by cases d <;> exact h) (by kernel_rfl) (by kernel_rfl) rfl ?_
     simp only [Act.put, List.setIfInBounds_toArray, List.set_cons_succ, List.set_cons_zero]
     refine mixl_skip (i := 18) rfl (by kernel_rfl) (fun _ _ d _ _ h => by cases d <;> exact h) (by kernel_rfl) (by kernel_rfl) rfl ?_
     simp only [Act.put, List.setIfInBounds_toArray, List.set_cons_succ, List.set_cons_zero]
     refine mixl_skip (i := 19) rfl (by kernel_rfl) (fun _ _ d _ _ h => by cases d <;> exact h) (by kernel_rfl) (by kernel_rfl) rfl ?_
     simp only [Act.put, List.setIfInBounds_toArray, List.set_cons_succ, List.set_cons_zero]
     refine mixl_skip (i := 20) rfl (by kernel_rfl) (fun _ _ d _ _ h => by cases d <;> exact h) (by kernel_rfl) (by kernel_rfl) rfl ?_
     simp only [Act.put, List.setIfInBounds_toArray, List.set_cons_succ, List.set_cons_zero]
     refine mixl_skip (i := 21) rfl (by kernel_rfl) (fun _ _ d _ _ h => by cases d <;> exact h) (by kernel_rfl) (by kernel_rfl) rfl ?_
     simp only [Act.put, List.setIfInBounds_toArray, List.set_cons_succ, List.set_cons_zero]
     refine mixl_skip (i := 22) rfl (by kernel_rfl) (fun _ _ d _ _ h => by cases d <;> exact h) (by kernel_rfl) (by kernel_rfl) rfl ?_
     simp only [Act.put, List.setIfInBounds_toArray, List.set_cons_succ, List.set_cons_zero]
     refine mixl_skip (i := 23) rfl (by kernel_rfl) (fun _ _ d _ _ h => by cases d <;> exact h) (by kernel_rfl) (by kernel_rfl) rfl ?_
     simp only [Act.put, List.setIfInBounds_toArray, List.set_cons_succ, List.set_cons_zero]
     refine mixl_skip (i := 24) rfl (by kernel_rfl) (fun _ _ d _ _ h => by cases d <;> exact h) (by kernel_rfl) (by kernel_rfl) rfl ?_
     simp only [Act.put, List.setIfInBounds_toArray, List.set_cons_succ, List.set_cons_zero]
     refine mixl_seg (by kernel_rfl) (fun _ _ d _ _ h => by cases d <;> exact h) [25, 26] [_, _] 0 2 rfl _ _ _ rfl (by kernel_rfl) (keepSC fun q _ => HST.out q) ?_
     repeat (go_big_quiet_step (fail))
     refine wpQuiet_nil ?_
     refine mix_done (by kernel_rfl) (keepSC fun q _ => HST.out q) ?_
     clear g0 g1 g2 g3 g4
     have HNX := HoldT.mk (LeafL.pass HE.out.1 HIN.out HE.out.2.1 HE.out.2.2.1 HE.out.2.2.2.1 HE.out.2.2.2.2.1 HE.out.2.2.2.2.2.1 HE.out.2.2.2.2.2.2.1 HE.out.2.2.2.2.2.2.2 HDR.out)
     go_wp2_with fail
     exact ⟨⟨j + 1, by go_num, hlt, rfl, HNX⟩, by simp [intOf]; omega⟩
    | true =>
     have HIN := HoldT.mk hin
     clear hin
     go_wp2_with fail
     refine mixl_seg (by kernel_rfl) (fun _ _ d _ _ h => by cases d <;> exact h) [7, 8, 9, 10, 11, 12, 13, 14, 15, 16, 17, 18, 19, 20, 21, 22, 23] [_, _, _, _, _, _, _, _, _, _, _, _, _, _, _, _, _] 3 20 rfl _ _ _ rfl (by kernel_rfl) (keepSC fun q _ => HST.out q) ?_
     repeat (go_big_quiet_step (fail))
     refine wpQuiet_nil ?_
     clear g0 g1 g2 g3 g4
     have HYI := HoldT.mk (span_yield HI9.out.out HI9.out.mbx (HY.out.1.mono RY_mono (cfU_below HDR.out)) (HY.out.2.mono RY_mono (cfU_below HDR.out)) (by have := HE.out.2.2.2.1; have := HLIM.out; omega))
     refine mixl_act (i := 24) rfl (by kernel_rfl) (keepSC fun q _ => HST.out q) rfl (fun K hK => ?_)
     go_wp2_with fail
     refine HYI.out.mono ?_
     rintro e w6 ⟨sl2, rfl, hO6, hT6⟩
     have HHD := HoldT.mk (LeafL.hand (back := false) HE.out.1 HIN.out HE.out.2.1 HE.out.2.2.2.1 HI9.out (HE.out.2.2.2.2.2.1.below HDR.out) (kept HE.out.2.2.2.2.2.2.1 HDR.out) (HE.out.2.2.2.2.2.2.2.then HDR.out) hO6 hT6)
     have HK6 : HoldT (KeepSC (fun b => b < wr.heap.size /\ ¬ outX ob sl' b) wr w6) := ⟨keepSC fun q hq => (hT6.out q (Nat.lt_of_lt_of_le hq.1 HDR.out.size) hq.2).1.trans (HST.out q)⟩
     clear hO6 hT6
     simp only
     by_cases hmore : es'.length + 1 < most
     ·have HNX := HoldT.mk (HHD.out.1 hmore)
      rw [decide_eq_true hmore]
      clear hmore
      go_wp2_with fail
      refine mixl_seg (by kernel_rfl) (fun _ _ d _ _ h => by cases d <;> exact h) [25, 26] [_, _] 0 2 rfl _ _ _ rfl (by kernel_rfl) HK6.out ?_
      repeat (go_big_quiet_step (fail))
      refine wpQuiet_nil ?_
      refine mix_done (by kernel_rfl) HK6.out ?_
      go_wp2_with fail
      exact ⟨⟨j + 1, by go_num, hlt, rfl, HNX⟩, by simp [intOf]; omega⟩
     ·have HNX := HoldT.mk (HHD.out.2 hmore)
      rw [decide_eq_false hmore]
      clear hmore
      go_wp2_with fail
      refine mixl_seg (by kernel_rfl) (fun _ _ d _ _ h => by cases d <;> exact h) [25, 26] [_, _] 0 2 rfl _ _ _ rfl (by kernel_rfl) HK6.out ?_
      repeat (go_big_quiet_step (fail))
      refine wpQuiet_nil ?_
      refine mix_done (by kernel_rfl) HK6.out ?_
      go_wp2_with fail
      refine bodyPost_ret (v := .tuple #[.bool false, .int .i64 0]) (by simp [results, Tryz.results93, go_sem]) rfl ?_
      exact ⟨false, _, sl2, H1, S1, p1, rfl, HNX.out.1, HNX.out.2.1, HS1.out.1, HNX.out.2.2, HS1.out.2⟩
   | true =>
    obtain ⟨i, hii⟩ : ∃ i, i = ordI true m j := ⟨_, rfl⟩
    have hie : (m : Int) - 1 - (j : Int) = (i : Int) := by rw [hii]; unfold ordI; simp; omega
    have him : i < m := by rw [hii]; unfold ordI; simp; omega
    rw [<- hii] at g3 g4
    have hiI : (i : Int) < (m : Int) := by omega
    have HIE := HoldT.mk hie
    clear hie hii
    go_upto_region 21 with (fail)
    rw [HIE.out]
    clear y3 z0
    refine wp_region_mixC (KeepSC (fun b => b < wr.heap.size /\ ¬ outX ob sl' b) wr) 27 rfl (by kernel_rfl) ?_
    have HDR := HoldT.mk ((Below.refl wr.heap.size wr).drew)
    have HST : HoldT (∀ q : Nat, wr.drew.heap[q]? = wr.heap[q]?) := ⟨fun _ => rfl⟩
    generalize wr.drew = v9 at HDR HST |-
    refine mixl_seg (by kernel_rfl) (fun _ _ d _ _ h => by cases d <;> exact h) [0, 1, 2, 3, 4, 5] [_, _, _, _, _, _] 21 27 rfl _ _ _ rfl (by kernel_rfl) (keepSC fun q _ => HST.out q) ?_
    repeat (go_big_quiet_step (fail))
    refine wpQuiet_nil ?_
    have HI9 := HoldT.mk (HE.out.2.2.2.2.1.below HDR.out)
    have HC := HoldT.mk (span_holds HI9.out.span (HY.out.1.mono RY_mono (cfU_below HDR.out)))
    refine mixl_act (i := 6) rfl (by kernel_rfl) (keepSC fun q _ => HST.out q) rfl (fun K hK => ?_)
    go_wp2_with fail
    refine HC.out.mono ?_
    rintro e w5 ⟨rfl, hw5⟩
    obtain rfl := hw5.symm
    simp only
    cases hin : inR f t xk with
    | false =>
     have HIN := HoldT.mk hin
     clear hin
     go_wp2_with fail
     refine mixl_seg (by kernel_rfl) (fun _ _ d _ _ h => by cases d <;> exact h) [7, 8] [_, _] 18 20 rfl _ _ _ rfl (by kernel_rfl) (keepSC fun q _ => HST.out q) ?_
     repeat (go_big_quiet_step (fail))
     refine wpQuiet_nil ?_
     refine mixl_skip (i := 9) rfl (by kernel_rfl) (fun _ _ d _ _ h => by cases d <;> exact h) (by kernel_rfl) (by kernel_rfl) rfl ?_
     simp only [Act.put, List.setIfInBounds_toArray, List.set_cons_succ, List.set_cons_zero]
     refine mixl_skip (i := 10) rfl (by kernel_rfl) (fun _ _ d _ _ h => by cases d <;> exact h) (by kernel_rfl) (by kernel_rfl) rfl ?_
     simp only [Act.put, List.setIfInBounds_toArray, List.set_cons_succ, List.set_cons_zero]
     refine mixl_skip (i := 11) rfl (by kernel_rfl) (fun _ _ d _ _ h => by cases d <;> exact h) (by kernel_rfl) (by kernel_rfl) rfl ?_
     simp only [Act.put, List.setIfInBounds_toArray, List.set_cons_succ, List.set_cons_zero]
     refine mixl_skip (i := 12) rfl (by kernel_rfl) (fun _ _ d _ _ h => by cases d <;> exact h) (by kernel_rfl) (by kernel_rfl) rfl ?_
     simp only [Act.put, List.setIfInBounds_toArray, List.set_cons_succ, List.set_cons_zero]
     refine mixl_skip (i := 13) rfl (by kernel_rfl) (fun _ _ d _ _ h => by cases d <;> exact h) (by kernel_rfl) (by kernel_rfl) rfl ?_
     simp only [Act.put, List.setIfInBounds_toArray, List.set_cons_succ, List.set_cons_zero]
     refine mixl_skip (i := 14) rfl (by kernel_rfl) (fun _ _ d _ _ h => by cases d <;> exact h) (by kernel_rfl) (by kernel_rfl) rfl ?_
     simp only [Act.put, List.setIfInBounds_toArray, List.set_cons_succ, List.set_cons_zero]
     refine mixl_skip (i := 15) rfl (by kernel_rfl) (fun _ _ d _ _ h => by cases d <;> exact h) (by kernel_rfl) (by kernel_rfl) rfl ?_
     simp only [Act.put, List.setIfInBounds_toArray, List.set_cons_succ, List.set_cons_zero]
     refine mixl_skip (i := 16) rfl (by kernel_rfl) (fun _ _ d _ _ h => by cases d <;> exact h) (by kernel_rfl) (by kernel_rfl) rfl ?_
     simp only [Act.put, List.setIfInBounds_toArray, List.set_cons_succ, List.set_cons_zero]
     refine mixl_skip (i := 17) rfl (by kernel_rfl) (fun _ _ d _ _ h => by cases d <;> exact h) (by kernel_rfl) (by kernel_rfl) rfl ?_
     simp only [Act.put, List.setIfInBounds_toArray, List.set_cons_succ, List.set_cons_zero]
     refine mixl_skip (i := 18) rfl (by kernel_rfl) (fun _ _ d _ _ h => by cases d <;> exact h) (by kernel_rfl) (by kernel_rfl) rfl ?_
     simp only [Act.put, List.setIfInBounds_toArray, List.set_cons_succ, List.set_cons_zero]
     refine mixl_skip (i := 19) rfl (by kernel_rfl) (fun _ _ d _ _ h => by cases d <;> exact h) (by kernel_rfl) (by kernel_rfl) rfl ?_
     simp only [Act.put, List.setIfInBounds_toArray, List.set_cons_succ, List.set_cons_zero]
     refine mixl_skip (i := 20) rfl (by kernel_rfl) (fun _ _ d _ _ h => by cases d <;> exact h) (by kernel_rfl) (by kernel_rfl) rfl ?_
     simp only [Act.put, List.setIfInBounds_toArray, List.set_cons_succ, List.set_cons_zero]
     refine mixl_skip (i := 21) rfl (by kernel_rfl) (fun _ _ d _ _ h => by cases d <;> exact h) (by kernel_rfl) (by kernel_rfl) rfl ?_
     simp only [Act.put, List.setIfInBounds_toArray, List.set_cons_succ, List.set_cons_zero]
     refine mixl_skip (i := 22) rfl (by kernel_rfl) (fun _ _ d _ _ h => by cases d <;> exact h) (by kernel_rfl) (by kernel_rfl) rfl ?_
     simp only [Act.put, List.setIfInBounds_toArray, List.set_cons_succ, List.set_cons_zero]
     refine mixl_skip (i := 23) rfl (by kernel_rfl) (fun _ _ d _ _ h => by cases d <;> exact h) (by kernel_rfl) (by kernel_rfl) rfl ?_
     simp only [Act.put, List.setIfInBounds_toArray, List.set_cons_succ, List.set_cons_zero]
     refine mixl_skip (i := 24) rfl (by kernel_rfl) (fun _ _ d _ _ h => by cases d <;> exact h) (by kernel_rfl) (by kernel_rfl) rfl ?_
     simp only [Act.put, List.setIfInBounds_toArray, List.set_cons_succ, List.set_cons_zero]
     refine mixl_seg (by kernel_rfl) (fun _ _ d _ _ h => by cases d <;> exact h) [25, 26] [_, _] 0 2 rfl _ _ _ rfl (by kernel_rfl) (keepSC fun q _ => HST.out q) ?_
     repeat (go_big_quiet_step (fail))
     refine wpQuiet_nil ?_
     refine mix_done (by kernel_rfl) (keepSC fun q _ => HST.out q) ?_
     clear g0 g1 g2 g3 g4
     have HNX := HoldT.mk (LeafL.pass HE.out.1 HIN.out HE.out.2.1 HE.out.2.2.1 HE.out.2.2.2.1 HE.out.2.2.2.2.1 HE.out.2.2.2.2.2.1 HE.out.2.2.2.2.2.2.1 HE.out.2.2.2.2.2.2.2 HDR.out)
     go_wp2_with fail
     exact ⟨⟨j + 1, by go_num, hlt, rfl, HNX⟩, by simp [intOf]; omega⟩
    | true =>
     have HIN := HoldT.mk hin
     clear hin
     go_wp2_with fail
     refine mixl_seg (by kernel_rfl) (fun _ _ d _ _ h => by cases d <;> exact h) [7, 8, 9, 10, 11, 12, 13, 14, 15, 16, 17, 18, 19, 20, 21, 22, 23] [_, _, _, _, _, _, _, _, _, _, _, _, _, _, _, _, _] 3 20 rfl _ _ _ rfl (by kernel_rfl) (keepSC fun q _ => HST.out q) ?_
     repeat (go_big_quiet_step (fail))
     refine wpQuiet_nil ?_
     clear g0 g1 g2 g3 g4
     have HYI := HoldT.mk (span_yield HI9.out.out HI9.out.mbx (HY.out.1.mono RY_mono (cfU_below HDR.out)) (HY.out.2.mono RY_mono (cfU_below HDR.out)) (by have := HE.out.2.2.2.1; have := HLIM.out; omega))
     refine mixl_act (i := 24) rfl (by kernel_rfl) (keepSC fun q _ => HST.out q) rfl (fun K hK => ?_)
     go_wp2_with fail
     refine HYI.out.mono ?_
     rintro e w6 ⟨sl2, rfl, hO6, hT6⟩
     have HHD := HoldT.mk (LeafL.hand (back := true) HE.out.1 HIN.out HE.out.2.1 HE.out.2.2.2.1 HI9.out (HE.out.2.2.2.2.2.1.below HDR.out) (kept HE.out.2.2.2.2.2.2.1 HDR.out) (HE.out.2.2.2.2.2.2.2.then HDR.out) hO6 hT6)
     have HK6 : HoldT (KeepSC (fun b => b < wr.heap.size /\ ¬ outX ob sl' b) wr w6) := ⟨keepSC fun q hq => (hT6.out q (Nat.lt_of_lt_of_le hq.1 HDR.out.size) hq.2).1.trans (HST.out q)⟩
     clear hO6 hT6
     simp only
     by_cases hmore : es'.length + 1 < most
     ·have HNX := HoldT.mk (HHD.out.1 hmore)
      rw [decide_eq_true hmore]
      clear hmore
      go_wp2_with fail
      refine mixl_seg (by kernel_rfl) (fun _ _ d _ _ h => by cases d <;> exact h) [25, 26] [_, _] 0 2 rfl _ _ _ rfl (by kernel_rfl) HK6.out ?_
      repeat (go_big_quiet_step (fail))
      refine wpQuiet_nil ?_
      refine mix_done (by kernel_rfl) HK6.out ?_
      go_wp2_with fail
      exact ⟨⟨j + 1, by go_num, hlt, rfl, HNX⟩, by simp [intOf]; omega⟩
     ·have HNX := HoldT.mk (HHD.out.2 hmore)
      rw [decide_eq_false hmore]
      clear hmore
      go_wp2_with fail
      refine mixl_seg (by kernel_rfl) (fun _ _ d _ _ h => by cases d <;> exact h) [25, 26] [_, _] 0 2 rfl _ _ _ rfl (by kernel_rfl) HK6.out ?_
      repeat (go_big_quiet_step (fail))
      refine wpQuiet_nil ?_
      refine mix_done (by kernel_rfl) HK6.out ?_
      go_wp2_with fail
      refine bodyPost_ret (v := .tuple #[.bool false, .int .i64 0]) (by simp [results, Tryz.results93, go_sem]) rfl ?_
      exact ⟨false, _, sl2, H1, S1, p1, rfl, HNX.out.1, HNX.out.2.1, HS1.out.1, HNX.out.2.2, HS1.out.2⟩
  ·obtain rfl : j = m := by omega
   have b1 : decide ((j : Int) < (j : Int)) = false := decide_eq_false (by omega)
   go_wp2_with fail
   refine bodyPost_ret (v := .tuple #[.bool true, .int .i64 0]) (by simp [results, Tryz.results93, go_sem]) rfl ?_
   obtain ⟨sl', es', e1, e2, e3, e4, e5, e6, e7⟩ := HL.out
   rw [List.take_of_length_le (by rw [ord_length, <- HM.out]; exact Nat.le_refl _), HLL.out] at e1
   exact ⟨true, _, sl', H1, S1, p1, rfl, e1, e4, HS1.out.1, e7, HS1.out.2⟩
end Go.Proofs.YtafilaiinbggoaaGreat
