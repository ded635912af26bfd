import Derived.Test.YtafilaiinbggoaaGreatQS39
namespace Go.Proofs.YtafilaiinbggoaaGreat
open Go.RowKit Go.Maps
def ListPost (Q : PQ) (R : Int -> Option Bts) (H : HS) (S : PS) (p c sb : Nat) (es : EL) (w : World) (e : Ending) (w' : World) : Prop :=
 ∃ (sl : Value) (H' : HS) (S' : PS) (p' : Nat), e = .returned (.tuple #[sl, .int .i64 0]) /\ (∃ cs, OwnS 2 (RE (cfU w')) 127 w.heap.size w' sl es.length es cs) /\ (∀ g, sl.ownBlock = some g -> ¬ H'.all g) /\ PG Q R H' S' p' w' /\ SameP S S' /\ TurnS (fun b => H.all b \/ b = sb) w (fun b => H'.all b \/ b = sb) w' /\ p' <= p + c
theorem list_none {Q : PQ} {R : Int -> Option Bts} {H : HS} {S : PS} {p c sb : Nat} {w w' : World} (h : PG Q R H S p w) (hb : Below w.heap.size w w') {es : EL} (he : es = []) : ListPost Q R H S p c sb es w (.returned (.tuple #[.slice none 0 0, .int .i64 0])) w' := by
 subst he
 exact ⟨_, H, S, p, rfl, ⟨[], OwnS.start 2 _ _ hb.size⟩, fun g e => (by cases e), h.below hb, SameP.refl S, TurnS.quiet hb, by omega⟩
def listE (back : Bool) (f t : Bts) (most : Int) (o : Top) : EL := (rngE f t (ordE back (esO o))).take most.toNat
theorem listE_none {back : Bool} {f t : Bts} {most : Int} : listE back f t most none = [] := by cases back <;> simp [listE, esO, ordE, rngE]
theorem listE_few {back : Bool} {f t : Bts} {most : Int} {o : Top} (h : most < 1) : listE back f t most o = [] := by
 unfold listE
 rw [show most.toNat = 0 by omega]; rfl
theorem listE_turned {back : Bool} {f t : Bts} {most : Int} {o : Top} (h1 : t ≠ []) (h2 : 0 <= lexC f t) : listE back f t most o = [] := by
 unfold listE
 rw [rng_none h1 (by unfold ltB; exact decide_eq_false (by omega))]; simp
theorem listE_visit {back : Bool} {f t : Bts} {most : Nat} {h : Nat} {u : Tree h} {es : EL} {on : Bool} (hm : 1 <= most) (hv : visit f t most [] (ordE back (esT h u)) = (es, on)) : es = listE back f t (most : Int) (some ⟨h, u⟩) := by
 rw [visit_all _ _ (by rw [List.length_nil]; omega)] at hv
 have h1 := congrArg Prod.fst hv
 rw [List.nil_append] at h1
 exact h1.symm
theorem span_set {A : Nat} {w w' : World} {sb pb : Nat} {f t : Bts} {fv tv fn : Value} {back : Bool} (h : SpanB w sb pb f t fv tv fn back) (hsA : A <= sb) (hf : YAt (cfL A w) fv f) (ht : YAt (cfL A w) tv t) (fn2 : Value) (hw : w' = w.setCell ⟨sb, 4, none⟩ fn2) : SpanB w' sb pb f t fv tv fn2 back /\ w.grownBy w' (some sb) /\ CLe (cfU w) (cfU w') /\ YAt (cfL A w') fv f /\ YAt (cfL A w') tv t := by
 have hg : w.grownBy w' (some sb) := by rw [hw]; exact set6_grown _ _
 have hns : ¬ IsU w sb := by
  rintro ⟨_, _, e2⟩
  rw [h.box] at e2
  cases e2
 have hu : CLe (cfU w) (cfU w') := cfU_grown hg fun b e => by
  cases e
  exact hns
 have hl : CLe (cfL A w) (cfL A w') := cfL_grown hg fun b e => by
  cases e
  exact ⟨hsA, hns⟩
 have h1 := hf.mono RY_mono hl
 have h2 := ht.mono RY_mono hl
 exact ⟨⟨by rw [hw, set_selfT h.box]; rfl, h1.mono RY_mono (cfL_cf A w'), h2.mono RY_mono (cfL_cf A w')⟩, hg, hu, h1, h2⟩
theorem xs_low {A ob : Nat} {H : HS} (hA : ∀ b, H.all b -> A <= b) (ho : A <= ob) : ∀ b, XS H ob (.slice none 0 0) b -> A <= b := fun b hb => by
 rcases hb with hb | hb | hb
 ·exact hA b hb
 ·omega
 ·cases hb
theorem store_fn {w : World} {p : Addr} {old v : Value} (hv : v.oneCell' = true) (hc : w.cell? p = some old) (hf : w.frozen? p = false) : (store p v).run Tryz.prog w = .ok () (w.setCell p v) := by
 rw [run_store _ _ _ _ _ hv]
 simp [hc, hf]
theorem list_post {Q : PQ} {R : Int -> Option Bts} {H : HS} {S : PS} {p sb ob mb most : Nat} {back : Bool} {f t : Bts} {fv tv fn : Value} {h : Nat} {u : Tree h} {w w3 w4 w5 : World} {e : Ending} (hm : 1 <= most) (hb : Below w.heap.size w w3) (hg : w3.grownBy w4 (some sb)) (hob : w.heap.size <= ob) (hp : StepPost Q R H S p w.heap.size sb ob mb most back f t fv tv fn (.slice none 0 0) [] (4 * (pagesT h u).length) (esT h u) w4 e w5) :
  ∃ (on : Bool) (sl : Value), e = .returned (.tuple #[.bool on, .int .i64 0]) /\ w5.heap[ob]? = some (.cells #[sl] 123 (0, 0)) /\ ListPost Q R H S p (4 * (pagesT h u).length) sb (listE back f t (most : Int) (some ⟨h, u⟩)) w (.returned (.tuple #[sl, .int .i64 0])) w5 := by
 obtain ⟨on, es2, sl2, H2, S2, p2, h1, h2, h3, h4, h5, h6⟩ := hp
 refine ⟨on, sl2, h1, h3.out.box, sl2, H2, S2, p2, rfl, ?_, fun g e => h3.obH g (.inr e), h3.pg, h4, ?_, h6⟩
 ·rw [<- listE_visit hm h2]
  exact h3.out.row
 ·refine ⟨h5.os.trans (hg.os.trans hb.os), h5.tape.trans (hg.tape.trans hb.tape), h5.output.trans (hg.output.trans hb.output), Nat.le_trans hb.size (Nat.le_trans hg.size h5.size), fun b hbl hn => ?_⟩
  have b1 : b < w3.heap.size := Nat.lt_of_lt_of_le hbl hb.size
  have b2 : w4.heap[b]? = w.heap[b]? := (hg.block b b1 (fun e => hn (.inr (Option.some.inj e)))).trans (hb.block b hbl)
  obtain ⟨c1, c2⟩ := h5.out b (Nat.lt_of_lt_of_le b1 hg.size) (fun e => by
   rcases e with e | e | e
   ·exact hn (.inl e)
   ·omega
   ·cases e)
  exact ⟨c1.trans b2, fun e => e.elim (fun e => c2 (.inl e)) (fun e => hn (.inr e))⟩
set_option maxHeartbeats 8000000 in
set_option maxRecDepth 100000 in
theorem list_any {A : Nat} {Q : PQ} {R : Int -> Option Bts} {H : HS} {S : PS} {p sb : Nat} {back : Bool} {f t : Bts} {fv tv : Value} {root most : Int} {o : Top} {w : World} (h : PG Q R H S p w) (hS : SpanB w sb Q.pb f t fv tv .nilFunc back) (hA : A <= w.heap.size /\ ∀ b, H.all b -> A <= b) (hsA : A <= sb) (hf : YAt (cfL A w) fv f) (ht : YAt (cfL A w) tv t) (hsb : ¬ H.all sb) (ho : TopIn S o root) (hp : p + 4 * (pagesO o).length <= 999999900) (hhh : heightO o <= 20) (hl : (esO o).length <= 1000000) :
  Calls Tryz.prog 67 #[.pointer (some ⟨sb, 0, none⟩), .int .i64 root, .int .i64 most] w (ListPost Q R H S p (4 * (pagesO o).length) sb (listE back f t most o) w) := by
 obtain ⟨fa, fc, rfl⟩ := hS.from_.form
 obtain ⟨ta, tc, rfl⟩ := hS.to_.form
 obtain ⟨fl, hfl⟩ : ∃ x, x = f.length := ⟨_, rfl⟩
 obtain ⟨tl, htl⟩ : ∃ x, x = t.length := ⟨_, rfl⟩
 rw [<- hfl, <- htl] at hS
 rw [<- hfl] at hf
 rw [<- htl] at ht
 obtain ⟨mb, hmb⟩ : ∃ q, q = w.heap.size := ⟨_, rfl⟩
 obtain ⟨w1, hw1⟩ : ∃ w1, w1 = w.alloc (.cells #[.int .i64 most] 3) := ⟨_, rfl⟩
 have hb1 : Below w.heap.size w w1 := by rw [hw1]; exact (Below.refl _ w).alloc (Nat.le_refl _) _
 have hm1 : w1.heap[mb]? = some (.cells #[.int .i64 most] 3 (0, 0)) := by rw [hw1, hmb]; exact heap_alloc_new w _
 obtain ⟨ob, hob⟩ : ∃ q, q = w1.heap.size := ⟨_, rfl⟩
 obtain ⟨w2, hw2⟩ : ∃ w2, w2 = w1.alloc (.cells #[.slice none 0 0] 123) := ⟨_, rfl⟩
 have hb2 : Below w1.heap.size w1 w2 := by rw [hw2]; exact (Below.refl _ w1).alloc (Nat.le_refl _) _
 have ho2 : w2.heap[ob]? = some (.cells #[.slice none 0 0] 123 (0, 0)) := by rw [hw2, hob]; exact heap_alloc_new w1 _
 have hm2 := kept hm1 hb2
 have hbb : Below w.heap.size w w2 := hb1.trans (hb2.mono hb1.size)
 have hS2 := hS.below hbb
 have hr2 : mb + 1 = ob := by rw [hob, hw1, hmb]; simp
 have hobs : w.heap.size <= ob := by rw [hob]; exact hb1.size
 obtain ⟨y0, y1, y2, y3, y4⟩ := hS2.cells
 have x0 : w2.cell? ⟨mb, 0, none⟩ = some (.int .i64 most) := by simp [World.cell?, hm2]
 have f4 : w2.frozen? ⟨sb, 4, none⟩ = false := by simp [World.frozen?, hS2.box]
 have HW := HoldT.mk (And.intro hmb (And.intro hw1 (And.intro hr2 hw2)))
 have HH := HoldT.mk (And.intro h (And.intro hsb (And.intro ho (And.intro hp (And.intro hhh hl)))))
 have H2 := HoldT.mk (And.intro hbb (And.intro hS2 (And.intro hm2 (And.intro ho2 hobs))))
 have HL := HoldT.mk (And.intro hfl htl)
 have HA := HoldT.mk (And.intro hA (And.intro hsA (And.intro hf ht)))
 have g0 := KeepS.cell (P := fun _ => True) x0 trivial
 have g1 := KeepS.cell (P := fun _ => True) y1 trivial
 have g2 := KeepS.cell (P := fun _ => True) y2 trivial
 clear h hS hA hsA hf ht hsb ho hp hhh hl hw1 hb1 hm1 hob hw2 hb2 ho2 hm2 hbb hS2 hobs hmb hfl htl y1 y2 y3 y4 hr2
 go_enter Tryz.func67, Tryz.ntmps67
 go_upto_region 2 with (fail)
 rw [<- HW.out.1, <- HW.out.2.1, HW.out.2.2.1, <- HW.out.2.2.2]
 go_upto_region 4 with (fail)
 clear y0 x0
 by_cases hr : root = -1
 ·subst hr
  have hon : o = none := by
   cases o with
   | none => rfl
   | some x => have := HH.out.2.2.1.1; omega
  have HFIN := HoldT.mk (fun w' (hb : Below w.heap.size w w') => list_none (c := 4 * (pagesO o).length) (sb := sb) HH.out.1 hb (show listE back f t most o = [] by rw [hon]; exact listE_none))
  clear hon
  refine wp_region_mixC (KeepSC (fun _ => True) w2) 26 rfl (by kernel_rfl) ?_
  have HDR := HoldT.mk ((Below.refl w2.heap.size w2).drew)
  have HST : HoldT (∀ q : Nat, w2.drew.heap[q]? = w2.heap[q]?) := ⟨fun _ => rfl⟩
  have HFZ : HoldT (w2.drew.frozen? ⟨sb, 4, none⟩ = false) := ⟨f4⟩
  clear f4
  generalize w2.drew = v9 at HDR HST HFZ |-
  refine mixl_seg (by kernel_rfl) (fun _ _ d _ _ h => by cases d <;> exact h) [0, 1, 2] [_, _, _] 23 26 rfl _ _ _ rfl (by kernel_rfl) (keepSC fun q _ => HST.out q) ?_
  repeat (go_big_quiet_step (fail))
  refine wpQuiet_nil ?_
  refine mixl_skip (i := 3) rfl (by kernel_rfl) (fun _ _ d _ _ h => by cases d <;> exact h) (by kernel_rfl) (by kernel_rfl) rfl ?_
  simp only [Act.put, List.setIfInBounds_toArray, List.set_cons_succ, List.set_cons_zero]
  refine mixl_skip (i := 4) rfl (by kernel_rfl) (fun _ _ d _ _ h => by cases d <;> exact h) (by kernel_rfl) (by kernel_rfl) rfl ?_
  simp only [Act.put, List.setIfInBounds_toArray, List.set_cons_succ, List.set_cons_zero]
  refine mixl_seg (by kernel_rfl) (fun _ _ d _ _ h => by cases d <;> exact h) [5, 6] [_, _] 19 21 rfl _ _ _ rfl (by kernel_rfl) (keepSC fun q _ => HST.out q) ?_
  repeat (go_big_quiet_step (fail))
  refine wpQuiet_nil ?_
  refine mixl_skip (i := 7) rfl (by kernel_rfl) (fun _ _ d _ _ h => by cases d <;> exact h) (by kernel_rfl) (by kernel_rfl) rfl ?_
  simp only [Act.put, List.setIfInBounds_toArray, List.set_cons_succ, List.set_cons_zero]
  refine mixl_skip (i := 8) rfl (by kernel_rfl) (fun _ _ d _ _ h => by cases d <;> exact h) (by kernel_rfl) (by kernel_rfl) rfl ?_
  simp only [Act.put, List.setIfInBounds_toArray, List.set_cons_succ, List.set_cons_zero]
  refine mixl_skip (i := 9) rfl (by kernel_rfl) (fun _ _ d _ _ h => by cases d <;> exact h) (by kernel_rfl) (by kernel_rfl) rfl ?_
  simp only [Act.put, List.setIfInBounds_toArray, List.set_cons_succ, List.set_cons_zero]
  refine mixl_skip (i := 10) rfl (by kernel_rfl) (fun _ _ d _ _ h => by cases d <;> exact h) (by kernel_rfl) (by kernel_rfl) rfl ?_
  simp only [Act.put, List.setIfInBounds_toArray, List.set_cons_succ, List.set_cons_zero]
  refine mixl_skip (i := 11) rfl (by kernel_rfl) (fun _ _ d _ _ h => by cases d <;> exact h) (by kernel_rfl) (by kernel_rfl) rfl ?_
  simp only [Act.put, List.setIfInBounds_toArray, List.set_cons_succ, List.set_cons_zero]
  refine mixl_skip (i := 12) rfl (by kernel_rfl) (fun _ _ d _ _ h => by cases d <;> exact h) (by kernel_rfl) (by kernel_rfl) rfl ?_
  simp only [Act.put, List.setIfInBounds_toArray, List.set_cons_succ, List.set_cons_zero]
  refine mixl_skip (i := 13) rfl (by kernel_rfl) (fun _ _ d _ _ h => by cases d <;> exact h) (by kernel_rfl) (by kernel_rfl) rfl ?_
  simp only [Act.put, List.setIfInBounds_toArray, List.set_cons_succ, List.set_cons_zero]
  refine mixl_skip (i := 14) rfl (by kernel_rfl) (fun _ _ d _ _ h => by cases d <;> exact h) (by kernel_rfl) (by kernel_rfl) rfl ?_
  simp only [Act.put, List.setIfInBounds_toArray, List.set_cons_succ, List.set_cons_zero]
  refine mixl_skip (i := 15) rfl (by kernel_rfl) (fun _ _ d _ _ h => by cases d <;> exact h) (by kernel_rfl) (by kernel_rfl) rfl ?_
  simp only [Act.put, List.setIfInBounds_toArray, List.set_cons_succ, List.set_cons_zero]
  refine mixl_skip (i := 16) rfl (by kernel_rfl) (fun _ _ d _ _ h => by cases d <;> exact h) (by kernel_rfl) (by kernel_rfl) rfl ?_
  simp only [Act.put, List.setIfInBounds_toArray, List.set_cons_succ, List.set_cons_zero]
  refine mixl_skip (i := 17) rfl (by kernel_rfl) (fun _ _ d _ _ h => by cases d <;> exact h) (by kernel_rfl) (by kernel_rfl) rfl ?_
  simp only [Act.put, List.setIfInBounds_toArray, List.set_cons_succ, List.set_cons_zero]
  refine mixl_skip (i := 18) rfl (by kernel_rfl) (fun _ _ d _ _ h => by cases d <;> exact h) (by kernel_rfl) (by kernel_rfl) rfl ?_
  simp only [Act.put, List.setIfInBounds_toArray, List.set_cons_succ, List.set_cons_zero]
  refine mixl_skip (i := 19) rfl (by kernel_rfl) (fun _ _ d _ _ h => by cases d <;> exact h) (by kernel_rfl) (by kernel_rfl) rfl ?_
  simp only [Act.put, List.setIfInBounds_toArray, List.set_cons_succ, List.set_cons_zero]
  refine mixl_skip (i := 20) rfl (by kernel_rfl) (fun _ _ d _ _ h => by cases d <;> exact h) (by kernel_rfl) (by kernel_rfl) rfl ?_
  simp only [Act.put, List.setIfInBounds_toArray, List.set_cons_succ, List.set_cons_zero]
  refine mixl_skip (i := 21) rfl (by kernel_rfl) (fun _ _ d _ _ h => by cases d <;> exact h) (by kernel_rfl) (by kernel_rfl) rfl ?_
  simp only [Act.put, List.setIfInBounds_toArray, List.set_cons_succ, List.set_cons_zero]
  refine mixl_skip (i := 22) rfl (by kernel_rfl) (fun _ _ d _ _ h => by cases d <;> exact h) (by kernel_rfl) (by kernel_rfl) rfl ?_
  simp only [Act.put, List.setIfInBounds_toArray, List.set_cons_succ, List.set_cons_zero]
  refine mixl_skip (i := 23) rfl (by kernel_rfl) (fun _ _ d _ _ h => by cases d <;> exact h) (by kernel_rfl) (by kernel_rfl) rfl ?_
  simp only [Act.put, List.setIfInBounds_toArray, List.set_cons_succ, List.set_cons_zero]
  refine mixl_skip (i := 24) rfl (by kernel_rfl) (fun _ _ d _ _ h => by cases d <;> exact h) (by kernel_rfl) (by kernel_rfl) rfl ?_
  simp only [Act.put, List.setIfInBounds_toArray, List.set_cons_succ, List.set_cons_zero]
  refine mixl_seg (by kernel_rfl) (fun _ _ d _ _ h => by cases d <;> exact h) [25] [_] 0 1 rfl _ _ _ rfl (by kernel_rfl) (keepSC fun q _ => HST.out q) ?_
  repeat (go_big_quiet_step (fail))
  refine wpQuiet_nil ?_
  refine mix_done (by kernel_rfl) (keepSC fun q _ => HST.out q) ?_
  clear g0 g1 g2
  go_wp2_with fail
  refine bodyPost_ret (v := .tuple #[.slice none 0 0, .int .i64 0]) (by simp [results, Tryz.results67, go_sem]) rfl ?_
  exact HFIN.out v9 (H2.out.1.trans (HDR.out.mono H2.out.1.size))
 ·have br : (root == -1) = false := beq_eq_false_iff_ne.2 hr
  have HBR := HoldT.mk br
  clear br
  by_cases hm : most < 1
  ·have bm : decide (most < 1) = true := decide_eq_true hm
   have HFIN := HoldT.mk (fun w' (hb : Below w.heap.size w w') => list_none (c := 4 * (pagesO o).length) (sb := sb) HH.out.1 hb (show listE back f t most o = [] from listE_few hm))
   refine wp_region_mixC (KeepSC (fun _ => True) w2) 26 rfl (by kernel_rfl) ?_
   have HDR := HoldT.mk ((Below.refl w2.heap.size w2).drew)
   have HST : HoldT (∀ q : Nat, w2.drew.heap[q]? = w2.heap[q]?) := ⟨fun _ => rfl⟩
   have HFZ : HoldT (w2.drew.frozen? ⟨sb, 4, none⟩ = false) := ⟨f4⟩
   clear f4
   generalize w2.drew = v9 at HDR HST HFZ |-
   refine mixl_seg (by kernel_rfl) (fun _ _ d _ _ h => by cases d <;> exact h) [0, 1, 2] [_, _, _] 23 26 rfl _ _ _ rfl (by kernel_rfl) (keepSC fun q _ => HST.out q) ?_
   repeat (go_big_quiet_step (fail))
   refine wpQuiet_nil ?_
   rw [HBR.out]
   refine mixl_seg (by kernel_rfl) (fun _ _ d _ _ h => by cases d <;> exact h) [3, 4, 5, 6] [_, _, _, _] 19 23 rfl _ _ _ rfl (by kernel_rfl) (keepSC fun q _ => HST.out q) ?_
   repeat (go_big_quiet_step (fail))
   refine wpQuiet_nil ?_
   refine mixl_skip (i := 7) rfl (by kernel_rfl) (fun _ _ d _ _ h => by cases d <;> exact h) (by kernel_rfl) (by kernel_rfl) rfl ?_
   simp only [Act.put, List.setIfInBounds_toArray, List.set_cons_succ, List.set_cons_zero]
   refine mixl_skip (i := 8) rfl (by kernel_rfl) (fun _ _ d _ _ h => by cases d <;> exact h) (by kernel_rfl) (by kernel_rfl) rfl ?_
   simp only [Act.put, List.setIfInBounds_toArray, List.set_cons_succ, List.set_cons_zero]
   refine mixl_skip (i := 9) rfl (by kernel_rfl) (fun _ _ d _ _ h => by cases d <;> exact h) (by kernel_rfl) (by kernel_rfl) rfl ?_
   simp only [Act.put, List.setIfInBounds_toArray, List.set_cons_succ, List.set_cons_zero]
   refine mixl_skip (i := 10) rfl (by kernel_rfl) (fun _ _ d _ _ h => by cases d <;> exact h) (by kernel_rfl) (by kernel_rfl) rfl ?_
   simp only [Act.put, List.setIfInBounds_toArray, List.set_cons_succ, List.set_cons_zero]
   refine mixl_skip (i := 11) rfl (by kernel_rfl) (fun _ _ d _ _ h => by cases d <;> exact h) (by kernel_rfl) (by kernel_rfl) rfl ?_
   simp only [Act.put, List.setIfInBounds_toArray, List.set_cons_succ, List.set_cons_zero]
   refine mixl_skip (i := 12) rfl (by kernel_rfl) (fun _ _ d _ _ h => by cases d <;> exact h) (by kernel_rfl) (by kernel_rfl) rfl ?_
   simp only [Act.put, List.setIfInBounds_toArray, List.set_cons_succ, List.set_cons_zero]
   refine mixl_skip (i := 13) rfl (by kernel_rfl) (fun _ _ d _ _ h => by cases d <;> exact h) (by kernel_rfl) (by kernel_rfl) rfl ?_
   simp only [Act.put, List.setIfInBounds_toArray, List.set_cons_succ, List.set_cons_zero]
   refine mixl_skip (i := 14) rfl (by kernel_rfl) (fun _ _ d _ _ h => by cases d <;> exact h) (by kernel_rfl) (by kernel_rfl) rfl ?_
   simp only [Act.put, List.setIfInBounds_toArray, List.set_cons_succ, List.set_cons_zero]
   refine mixl_skip (i := 15) rfl (by kernel_rfl) (fun _ _ d _ _ h => by cases d <;> exact h) (by kernel_rfl) (by kernel_rfl) rfl ?_
   simp only [Act.put, List.setIfInBounds_toArray, List.set_cons_succ, List.set_cons_zero]
   refine mixl_skip (i := 16) rfl (by kernel_rfl) (fun _ _ d _ _ h => by cases d <;> exact h) (by kernel_rfl) (by kernel_rfl) rfl ?_
   simp only [Act.put, List.setIfInBounds_toArray, List.set_cons_succ, List.set_cons_zero]
   refine mixl_skip (i := 17) rfl (by kernel_rfl) (fun _ _ d _ _ h => by cases d <;> exact h) (by kernel_rfl) (by kernel_rfl) rfl ?_
   simp only [Act.put, List.setIfInBounds_toArray, List.set_cons_succ, List.set_cons_zero]
   refine mixl_skip (i := 18) rfl (by kernel_rfl) (fun _ _ d _ _ h => by cases d <;> exact h) (by kernel_rfl) (by kernel_rfl) rfl ?_
   simp only [Act.put, List.setIfInBounds_toArray, List.set_cons_succ, List.set_cons_zero]
   refine mixl_skip (i := 19) rfl (by kernel_rfl) (fun _ _ d _ _ h => by cases d <;> exact h) (by kernel_rfl) (by kernel_rfl) rfl ?_
   simp only [Act.put, List.setIfInBounds_toArray, List.set_cons_succ, List.set_cons_zero]
   refine mixl_skip (i := 20) rfl (by kernel_rfl) (fun _ _ d _ _ h => by cases d <;> exact h) (by kernel_rfl) (by kernel_rfl) rfl ?_
   simp only [Act.put, List.setIfInBounds_toArray, List.set_cons_succ, List.set_cons_zero]
   refine mixl_skip (i := 21) rfl (by kernel_rfl) (fun _ _ d _ _ h => by cases d <;> exact h) (by kernel_rfl) (by kernel_rfl) rfl ?_
   simp only [Act.put, List.setIfInBounds_toArray, List.set_cons_succ, List.set_cons_zero]
   refine mixl_skip (i := 22) rfl (by kernel_rfl) (fun _ _ d _ _ h => by cases d <;> exact h) (by kernel_rfl) (by kernel_rfl) rfl ?_
   simp only [Act.put, List.setIfInBounds_toArray, List.set_cons_succ, List.set_cons_zero]
   refine mixl_skip (i := 23) rfl (by kernel_rfl) (fun _ _ d _ _ h => by cases d <;> exact h) (by kernel_rfl) (by kernel_rfl) rfl ?_
   simp only [Act.put, List.setIfInBounds_toArray, List.set_cons_succ, List.set_cons_zero]
   refine mixl_skip (i := 24) rfl (by kernel_rfl) (fun _ _ d _ _ h => by cases d <;> exact h) (by kernel_rfl) (by kernel_rfl) rfl ?_
   simp only [Act.put, List.setIfInBounds_toArray, List.set_cons_succ, List.set_cons_zero]
   refine mixl_seg (by kernel_rfl) (fun _ _ d _ _ h => by cases d <;> exact h) [25] [_] 0 1 rfl _ _ _ rfl (by kernel_rfl) (keepSC fun q _ => HST.out q) ?_
   repeat (go_big_quiet_step (fail))
   refine wpQuiet_nil ?_
   refine mix_done (by kernel_rfl) (keepSC fun q _ => HST.out q) ?_
   clear g0 g1 g2
   go_wp2_with fail
   refine bodyPost_ret (v := .tuple #[.slice none 0 0, .int .i64 0]) (by simp [results, Tryz.results67, go_sem]) rfl ?_
   exact HFIN.out v9 (H2.out.1.trans (HDR.out.mono H2.out.1.size))
  ·have bm : decide (most < 1) = false := decide_eq_false hm
   obtain ⟨n, rfl⟩ : ∃ n : Nat, most = (n : Int) := ⟨most.toNat, by omega⟩
   have hn1 : 1 <= n := by omega
   obtain ⟨gh, u, hou⟩ : ∃ (gh : Nat) (u : Tree gh), o = some ⟨gh, u⟩ := by
    cases o with
    | none => exact absurd HH.out.2.2.1 hr
    | some x => exact ⟨x.1, x.2, rfl⟩
   subst hou
   obtain ⟨hru, hin⟩ : root = (pgT gh u : Int) /\ TreeIn S gh u := HH.out.2.2.1
   have HT := HoldT.mk (And.intro hru hin)
   clear hru hin
   by_cases ht : tl = 0
   ·have bt : decide (0 < (tl : Int)) = false := decide_eq_false (by omega)
    refine wp_region_mixC (KeepSC (fun _ => True) w2) 26 rfl (by kernel_rfl) ?_
    have HDR := HoldT.mk ((Below.refl w2.heap.size w2).drew)
    have HST : HoldT (∀ q : Nat, w2.drew.heap[q]? = w2.heap[q]?) := ⟨fun _ => rfl⟩
    have HFZ : HoldT (w2.drew.frozen? ⟨sb, 4, none⟩ = false) := ⟨f4⟩
    clear f4
    generalize w2.drew = v9 at HDR HST HFZ |-
    refine mixl_seg (by kernel_rfl) (fun _ _ d _ _ h => by cases d <;> exact h) [0, 1, 2] [_, _, _] 23 26 rfl _ _ _ rfl (by kernel_rfl) (keepSC fun q _ => HST.out q) ?_
    repeat (go_big_quiet_step (fail))
    refine wpQuiet_nil ?_
    rw [HBR.out]
    refine mixl_seg (by kernel_rfl) (fun _ _ d _ _ h => by cases d <;> exact h) [3, 4, 5, 6, 7, 8, 9, 10, 11, 12, 13] [_, _, _, _, _, _, _, _, _, _, _] 12 23 rfl _ _ _ rfl (by kernel_rfl) (keepSC fun q _ => HST.out q) ?_
    repeat (go_big_quiet_step (fail))
    refine wpQuiet_nil ?_
    refine mixl_skip (i := 14) rfl (by kernel_rfl) (fun _ _ d _ _ h => by cases d <;> exact h) (by kernel_rfl) (by kernel_rfl) rfl ?_
    simp only [Act.put, List.setIfInBounds_toArray, List.set_cons_succ, List.set_cons_zero]
    refine mixl_skip (i := 15) rfl (by kernel_rfl) (fun _ _ d _ _ h => by cases d <;> exact h) (by kernel_rfl) (by kernel_rfl) rfl ?_
    simp only [Act.put, List.setIfInBounds_toArray, List.set_cons_succ, List.set_cons_zero]
    refine mixl_skip (i := 16) rfl (by kernel_rfl) (fun _ _ d _ _ h => by cases d <;> exact h) (by kernel_rfl) (by kernel_rfl) rfl ?_
    simp only [Act.put, List.setIfInBounds_toArray, List.set_cons_succ, List.set_cons_zero]
    refine mixl_skip (i := 17) rfl (by kernel_rfl) (fun _ _ d _ _ h => by cases d <;> exact h) (by kernel_rfl) (by kernel_rfl) rfl ?_
    simp only [Act.put, List.setIfInBounds_toArray, List.set_cons_succ, List.set_cons_zero]
    refine mixl_skip (i := 18) rfl (by kernel_rfl) (fun _ _ d _ _ h => by cases d <;> exact h) (by kernel_rfl) (by kernel_rfl) rfl ?_
    simp only [Act.put, List.setIfInBounds_toArray, List.set_cons_succ, List.set_cons_zero]
    refine mixl_skip (i := 19) rfl (by kernel_rfl) (fun _ _ d _ _ h => by cases d <;> exact h) (by kernel_rfl) (by kernel_rfl) rfl ?_
    simp only [Act.put, List.setIfInBounds_toArray, List.set_cons_succ, List.set_cons_zero]
    refine mixl_skip (i := 20) rfl (by kernel_rfl) (fun _ _ d _ _ h => by cases d <;> exact h) (by kernel_rfl) (by kernel_rfl) rfl ?_
    simp only [Act.put, List.setIfInBounds_toArray, List.set_cons_succ, List.set_cons_zero]
    refine mixl_skip (i := 21) rfl (by kernel_rfl) (fun _ _ d _ _ h => by cases d <;> exact h) (by kernel_rfl) (by kernel_rfl) rfl ?_
    simp only [Act.put, List.setIfInBounds_toArray, List.set_cons_succ, List.set_cons_zero]
    refine mixl_skip (i := 22) rfl (by kernel_rfl) (fun _ _ d _ _ h => by cases d <;> exact h) (by kernel_rfl) (by kernel_rfl) rfl ?_
    simp only [Act.put, List.setIfInBounds_toArray, List.set_cons_succ, List.set_cons_zero]
    refine mixl_skip (i := 23) rfl (by kernel_rfl) (fun _ _ d _ _ h => by cases d <;> exact h) (by kernel_rfl) (by kernel_rfl) rfl ?_
    simp only [Act.put, List.setIfInBounds_toArray, List.set_cons_succ, List.set_cons_zero]
    refine mixl_seg (by kernel_rfl) (fun _ _ d _ _ h => by cases d <;> exact h) [24, 25] [_, _] 0 2 rfl _ _ _ rfl (by kernel_rfl) (keepSC fun q _ => HST.out q) ?_
    repeat (go_big_quiet_step (fail))
    refine wpQuiet_nil ?_
    refine mix_done (by kernel_rfl) (keepSC fun q _ => HST.out q) ?_
    clear g0 g1 g2
    have hb9 : Below w.heap.size w v9 := H2.out.1.trans (HDR.out.mono H2.out.1.size)
    have hS9 := H2.out.2.1.below HDR.out
    have hm9 := kept H2.out.2.2.1 HDR.out
    have ho9 := kept H2.out.2.2.2.1 HDR.out
    obtain ⟨w4, hw4⟩ : ∃ w4, w4 = v9.setCell ⟨sb, 4, none⟩ (.func (.func 92) #[] #[.pointer (some ⟨ob, 0, none⟩), .pointer (some ⟨mb, 0, none⟩)]) := ⟨_, rfl⟩
    obtain ⟨hS4, hg4, hu4, hf4, ht4⟩ := span_set hS9 HA.out.2.1 (HA.out.2.2.1.mono RY_mono (cfL_below hb9)) (HA.out.2.2.2.mono RY_mono (cfL_below hb9)) _ hw4
    have hom : ob ≠ sb := fun e => by rw [e, hS9.box] at ho9; cases ho9
    have hmm : mb ≠ sb := fun e => by rw [e, hS9.box] at hm9; cases hm9
    have hom2 : mb ≠ ob := fun e => by rw [e, ho9] at hm9; cases hm9
    have ho4 : w4.heap[ob]? = some (.cells #[.slice none 0 0] 123 (0, 0)) := (hg4.block ob (heap_lt ho9) (fun e => hom (Option.some.inj e))).trans ho9
    have hm4 : w4.heap[mb]? = some (.cells #[.int .i64 (n : Int)] 3 (0, 0)) := (hg4.block mb (heap_lt hm9) (fun e => hmm (Option.some.inj e))).trans hm9
    have hpg4 : PG Q R H S p w4 := (HH.out.1.below hb9).beside hg4 (fun b e => by
     cases e
     exact ⟨HH.out.2.1, fun ⟨_, _, e2⟩ => by rw [hS9.box] at e2; cases e2⟩)
    have hoH : ∀ b, H.all b -> b < w.heap.size := HH.out.1.lt
    have hxA : ∀ b, XS H ob (.slice none 0 0) b -> A <= b := xs_low HA.out.1.2 (Nat.le_trans HA.out.1.1 H2.out.2.2.2.2)
    have hSI : SI Q R H S p w.heap.size sb ob mb n back f t _ _ (.func (.func 92) #[] #[.pointer (some ⟨ob, 0, none⟩), .pointer (some ⟨mb, 0, none⟩)]) (.slice none 0 0) [] w4 := ⟨hpg4, hS4, ⟨ho4, ⟨[], OwnS.start 2 _ _ (Nat.le_trans hb9.size hg4.size)⟩, H2.out.2.2.2.2⟩, hm4, HH.out.2.1, fun b e e2 => e.elim (fun e => by have h1 := hoH b e2; have h2 := H2.out.2.2.2.2; omega) (fun e => by cases e), fun e => by have h1 := hoH mb e; have h2 := HW.out.1; omega, ⟨A, Nat.le_trans HA.out.1.1 (Nat.le_trans hb9.size hg4.size), hxA, hf4, ht4⟩, rfl⟩
    have HSTEP := HoldT.mk (step_any (deep := 1) (lv := .slice none 0 0) (hv := .slice none 0 0) (lo := none) (hi := none) gh ⟨hSI, HH.out.2.2.2.1, HT.out.2, by have h1 : gh + 1 <= 20 := HH.out.2.2.2.2.1; omega, by rw [List.length_nil]; omega, by rw [List.length_nil]; have h1 : (esT gh u).length <= 1000000 := HH.out.2.2.2.2.2; omega, rfl, rfl, fun e _ => ⟨fun a h => (by cases h), fun c h => (by cases h)⟩⟩)
    rw [<- HT.out.1] at HSTEP
    have HP := HoldT.mk (And.intro hb9 hg4)
    have HW4 := HoldT.mk hw4
    have q4 := store_fn (v := .func (.func 92) #[] #[.pointer (some ⟨ob, 0, none⟩), .pointer (some ⟨mb, 0, none⟩)]) rfl hS9.cells.2.2.2.2 HFZ.out
    clear hb9 hS9 hm9 ho9 hS4 hg4 hu4 hf4 ht4 hxA hom hmm hom2 ho4 hm4 hpg4 hoH hSI hw4
    go_upto_region 7 with (fail)
    rw [<- HW4.out]
    clear q4
    go_wp2_with fail
    refine HSTEP.out.mono ?_
    rintro e w5 hpost
    obtain ⟨on, sl, rfl, hbx, hlp⟩ := list_post hn1 HP.out.1 HP.out.2 H2.out.2.2.2.2 hpost
    have HLP := HoldT.mk hlp
    have y5 : w5.cell? ⟨ob, 0, none⟩ = some sl := by simp [World.cell?, hbx]
    clear hpost hlp hbx
    go_wp2_with fail
    refine bodyPost_ret (v := .tuple #[sl, .int .i64 0]) (by simp [results, Tryz.results67, go_sem]) rfl ?_
    exact HLP.out
   ·have bt : decide (0 < tl) = true := decide_eq_true (by omega)
    have htn : t ≠ [] := fun e => ht (by rw [HL.out.2, e]; rfl)
    have HC := HoldT.mk (fun w' (hb : Below w2.heap.size w2 w') => CompareB_any f t (.slice fa fl fc) (.slice ta tl tc) w' (YAt.bytes ((H2.out.2.1.below hb).from_)) (YAt.bytes ((H2.out.2.1.below hb).to_)))
    obtain ⟨z, hz⟩ : ∃ z, z = lexC f t := ⟨_, rfl⟩
    rw [<- hz] at HC
    by_cases hz0 : 0 <= z
    ·have bz : decide (0 <= z) = true := decide_eq_true hz0
     have HFIN := HoldT.mk (fun w' (hb : Below w.heap.size w w') => list_none (c := 4 * (pagesO (some ⟨gh, u⟩)).length) (sb := sb) HH.out.1 hb (show listE back f t (n : Int) (some ⟨gh, u⟩) = [] from listE_turned htn (by rw [<- hz]; exact hz0)))
     clear htn hz
     refine wp_region_mixC (KeepSC (fun _ => True) w2) 26 rfl (by kernel_rfl) ?_
     have HDR := HoldT.mk ((Below.refl w2.heap.size w2).drew)
     have HST : HoldT (∀ q : Nat, w2.drew.heap[q]? = w2.heap[q]?) := ⟨fun _ => rfl⟩
     have HFZ : HoldT (w2.drew.frozen? ⟨sb, 4, none⟩ = false) := ⟨f4⟩
     clear f4
     generalize w2.drew = v9 at HDR HST HFZ |-
     refine mixl_seg (by kernel_rfl) (fun _ _ d _ _ h => by cases d <;> exact h) [0, 1, 2] [_, _, _] 23 26 rfl _ _ _ rfl (by kernel_rfl) (keepSC fun q _ => HST.out q) ?_
     repeat (go_big_quiet_step (fail))
     refine wpQuiet_nil ?_
     rw [HBR.out]
     refine mixl_seg (by kernel_rfl) (fun _ _ d _ _ h => by cases d <;> exact h) [3, 4, 5, 6, 7, 8, 9, 10, 11, 12, 13, 14, 15, 16, 17, 18, 19, 20, 21] [_, _, _, _, _, _, _, _, _, _, _, _, _, _, _, _, _, _, _] 4 23 rfl _ _ _ rfl (by kernel_rfl) (keepSC fun q _ => HST.out q) ?_
     repeat (go_big_quiet_step (fail))
     refine wpQuiet_nil ?_
     refine mixl_act (i := 22) rfl (by kernel_rfl) (keepSC fun q _ => HST.out q) rfl (fun K hK => ?_)
     go_wp2_with fail
     refine (HC.out v9 HDR.out).mono ?_
     rintro e w5 ⟨rfl, hw5⟩
     obtain rfl := hw5.symm
     simp only
     go_wp2_with fail
     refine mixl_seg (by kernel_rfl) (fun _ _ d _ _ h => by cases d <;> exact h) [23, 24, 25] [_, _, _] 0 3 rfl _ _ _ rfl (by kernel_rfl) (keepSC fun q _ => HST.out q) ?_
     repeat (go_big_quiet_step (fail))
     refine wpQuiet_nil ?_
     refine mix_done (by kernel_rfl) (keepSC fun q _ => HST.out q) ?_
     clear g0 g1 g2
     go_wp2_with fail
     refine bodyPost_ret (v := .tuple #[.slice none 0 0, .int .i64 0]) (by simp [results, Tryz.results67, go_sem]) rfl ?_
     exact HFIN.out v9 (H2.out.1.trans (HDR.out.mono H2.out.1.size))
    ·have bz : decide (0 <= z) = false := decide_eq_false hz0
     clear htn hz
     refine wp_region_mixC (KeepSC (fun _ => True) w2) 26 rfl (by kernel_rfl) ?_
     have HDR := HoldT.mk ((Below.refl w2.heap.size w2).drew)
     have HST : HoldT (∀ q : Nat, w2.drew.heap[q]? = w2.heap[q]?) := ⟨fun _ => rfl⟩
     have HFZ : HoldT (w2.drew.frozen? ⟨sb, 4, none⟩ = false) := ⟨f4⟩
     clear f4
     generalize w2.drew = v9 at HDR HST HFZ |-
     refine mixl_seg (by kernel_rfl) (fun _ _ d _ _ h => by cases d <;> exact h) [0, 1, 2] [_, _, _] 23 26 rfl _ _ _ rfl (by kernel_rfl) (keepSC fun q _ => HST.out q) ?_
     repeat (go_big_quiet_step (fail))
     refine wpQuiet_nil ?_
     rw [HBR.out]
     refine mixl_seg (by kernel_rfl) (fun _ _ d _ _ h => by cases d <;> exact h) [3, 4, 5, 6, 7, 8, 9, 10, 11, 12, 13, 14, 15, 16, 17, 18, 19, 20, 21] [_, _, _, _, _, _, _, _, _, _, _, _, _, _, _, _, _, _, _] 4 23 rfl _ _ _ rfl (by kernel_rfl) (keepSC fun q _ => HST.out q) ?_
     repeat (go_big_quiet_step (fail))
     refine wpQuiet_nil ?_
     refine mixl_act (i := 22) rfl (by kernel_rfl) (keepSC fun q _ => HST.out q) rfl (fun K hK => ?_)
     go_wp2_with fail
     refine (HC.out v9 HDR.out).mono ?_
     rintro e w5 ⟨rfl, hw5⟩
     obtain rfl := hw5.symm
     simp only
     go_wp2_with fail
     refine mixl_seg (by kernel_rfl) (fun _ _ d _ _ h => by cases d <;> exact h) [23, 24, 25] [_, _, _] 0 3 rfl _ _ _ rfl (by kernel_rfl) (keepSC fun q _ => HST.out q) ?_
     repeat (go_big_quiet_step (fail))
     refine wpQuiet_nil ?_
     refine mix_done (by kernel_rfl) (keepSC fun q _ => HST.out q) ?_
     clear g0 g1 g2
     have hb9 : Below w.heap.size w v9 := H2.out.1.trans (HDR.out.mono H2.out.1.size)
     have hS9 := H2.out.2.1.below HDR.out
     have hm9 := kept H2.out.2.2.1 HDR.out
     have ho9 := kept H2.out.2.2.2.1 HDR.out
     obtain ⟨w4, hw4⟩ : ∃ w4, w4 = v9.setCell ⟨sb, 4, none⟩ (.func (.func 92) #[] #[.pointer (some ⟨ob, 0, none⟩), .pointer (some ⟨mb, 0, none⟩)]) := ⟨_, rfl⟩
     obtain ⟨hS4, hg4, hu4, hf4, ht4⟩ := span_set hS9 HA.out.2.1 (HA.out.2.2.1.mono RY_mono (cfL_below hb9)) (HA.out.2.2.2.mono RY_mono (cfL_below hb9)) _ hw4
     have hom : ob ≠ sb := fun e => by rw [e, hS9.box] at ho9; cases ho9
     have hmm : mb ≠ sb := fun e => by rw [e, hS9.box] at hm9; cases hm9
     have hom2 : mb ≠ ob := fun e => by rw [e, ho9] at hm9; cases hm9
     have ho4 : w4.heap[ob]? = some (.cells #[.slice none 0 0] 123 (0, 0)) := (hg4.block ob (heap_lt ho9) (fun e => hom (Option.some.inj e))).trans ho9
     have hm4 : w4.heap[mb]? = some (.cells #[.int .i64 (n : Int)] 3 (0, 0)) := (hg4.block mb (heap_lt hm9) (fun e => hmm (Option.some.inj e))).trans hm9
     have hpg4 : PG Q R H S p w4 := (HH.out.1.below hb9).beside hg4 (fun b e => by
      cases e
      exact ⟨HH.out.2.1, fun ⟨_, _, e2⟩ => by rw [hS9.box] at e2; cases e2⟩)
     have hoH : ∀ b, H.all b -> b < w.heap.size := HH.out.1.lt
     have hxA : ∀ b, XS H ob (.slice none 0 0) b -> A <= b := xs_low HA.out.1.2 (Nat.le_trans HA.out.1.1 H2.out.2.2.2.2)
     have hSI : SI Q R H S p w.heap.size sb ob mb n back f t _ _ (.func (.func 92) #[] #[.pointer (some ⟨ob, 0, none⟩), .pointer (some ⟨mb, 0, none⟩)]) (.slice none 0 0) [] w4 := ⟨hpg4, hS4, ⟨ho4, ⟨[], OwnS.start 2 _ _ (Nat.le_trans hb9.size hg4.size)⟩, H2.out.2.2.2.2⟩, hm4, HH.out.2.1, fun b e e2 => e.elim (fun e => by have h1 := hoH b e2; have h2 := H2.out.2.2.2.2; omega) (fun e => by cases e), fun e => by have h1 := hoH mb e; have h2 := HW.out.1; omega, ⟨A, Nat.le_trans HA.out.1.1 (Nat.le_trans hb9.size hg4.size), hxA, hf4, ht4⟩, rfl⟩
     have HSTEP := HoldT.mk (step_any (deep := 1) (lv := .slice none 0 0) (hv := .slice none 0 0) (lo := none) (hi := none) gh ⟨hSI, HH.out.2.2.2.1, HT.out.2, by have h1 : gh + 1 <= 20 := HH.out.2.2.2.2.1; omega, by rw [List.length_nil]; omega, by rw [List.length_nil]; have h1 : (esT gh u).length <= 1000000 := HH.out.2.2.2.2.2; omega, rfl, rfl, fun e _ => ⟨fun a h => (by cases h), fun c h => (by cases h)⟩⟩)
     rw [<- HT.out.1] at HSTEP
     have HP := HoldT.mk (And.intro hb9 hg4)
     have HW4 := HoldT.mk hw4
     have q4 := store_fn (v := .func (.func 92) #[] #[.pointer (some ⟨ob, 0, none⟩), .pointer (some ⟨mb, 0, none⟩)]) rfl hS9.cells.2.2.2.2 HFZ.out
     clear hb9 hS9 hm9 ho9 hS4 hg4 hu4 hf4 ht4 hxA hom hmm hom2 ho4 hm4 hpg4 hoH hSI hw4
     go_upto_region 7 with (fail)
     rw [<- HW4.out]
     clear q4
     go_wp2_with fail
     refine HSTEP.out.mono ?_
     rintro e w5 hpost
     obtain ⟨on, sl, rfl, hbx, hlp⟩ := list_post hn1 HP.out.1 HP.out.2 H2.out.2.2.2.2 hpost
     have HLP := HoldT.mk hlp
     have y5 : w5.cell? ⟨ob, 0, none⟩ = some sl := by simp [World.cell?, hbx]
     clear hpost hlp hbx
     go_wp2_with fail
     refine bodyPost_ret (v := .tuple #[sl, .int .i64 0]) (by simp [results, Tryz.results67, go_sem]) rfl ?_
     exact HLP.out
end Go.Proofs.YtafilaiinbggoaaGreat
