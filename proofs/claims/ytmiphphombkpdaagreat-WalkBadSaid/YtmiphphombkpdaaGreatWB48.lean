import Derived.Test.YtmiphphombkpdaaGreatWB19
import Derived.Test.YtmiphphombkpdaaGreatWB47
namespace Go.Proofs.YtmiphphombkpdaaGreat
open Go.RowKit Go.Maps
set_option maxHeartbeats 8000000 in
set_option maxRecDepth 100000 in
theorem list_few {w : World} {sb pb : Nat} {back : Bool} {f t : Bts} {fv tv : Value} {root most : Int} (hS : SpanB w sb pb f t fv tv .nilFunc back) (hq : root = -1 \/ most < 1 \/ (t ≠ [] /\ 0 <= lexC f t)) :
  Calls Tryz.prog 33 #[.pointer (some ⟨sb, 0, none⟩), .int .i64 root, .int .i64 most] w (fun e w' => e = .returned (.tuple #[.slice none 0 0, .int .i64 0]) /\ Below w.heap.size w w') := by
 obtain ⟨fa, fc, rfl⟩ := hS.from_.form
 obtain ⟨ta, tc, rfl⟩ := hS.to_.form
 obtain ⟨fl, hfl⟩ : ∃ x, x = f.length := ⟨_, rfl⟩
 obtain ⟨tl, htl⟩ : ∃ x, x = t.length := ⟨_, rfl⟩
 rw [<- hfl, <- htl] at hS
 obtain ⟨mb, hmb⟩ : ∃ q, q = w.heap.size := ⟨_, rfl⟩
 obtain ⟨w1, hw1⟩ : ∃ w1, w1 = w.alloc (.cells #[.int .i64 most] 3) := ⟨_, rfl⟩
 have hb1 : Below w.heap.size w w1 := by rw [hw1]; exact (Below.refl _ w).alloc (Nat.le_refl _) _
 have hm1 : w1.heap[mb]? = some (.cells #[.int .i64 most] 3 (0, 0)) := by rw [hw1, hmb]; exact heap_alloc_new w _
 obtain ⟨ob, hob⟩ : ∃ q, q = w1.heap.size := ⟨_, rfl⟩
 obtain ⟨w2, hw2⟩ : ∃ w2, w2 = w1.alloc (.cells #[.slice none 0 0] 33) := ⟨_, rfl⟩
 have hb2 : Below w1.heap.size w1 w2 := by rw [hw2]; exact (Below.refl _ w1).alloc (Nat.le_refl _) _
 have ho2 : w2.heap[ob]? = some (.cells #[.slice none 0 0] 33 (0, 0)) := by rw [hw2, hob]; exact heap_alloc_new w1 _
 have hm2 := kept hm1 hb2
 have hbb : Below w.heap.size w w2 := hb1.trans (hb2.mono hb1.size)
 have hS2 := hS.below hbb
 have hr2 : mb + 1 = ob := by rw [hob, hw1, hmb]; simp
 have hobs : w.heap.size <= ob := by rw [hob]; exact hb1.size
 obtain ⟨y0, y1, y2, y3, y4⟩ := hS2.cells
 have x0 : w2.cell? ⟨mb, 0, none⟩ = some (.int .i64 most) := by simp [World.cell?, hm2]
 have f4 : w2.frozen? ⟨sb, 4, none⟩ = false := by simp [World.frozen?, hS2.box]
 have HW := HoldT.mk (And.intro hmb (And.intro hw1 (And.intro hr2 hw2)))
 have H2 := HoldT.mk (And.intro hbb (And.intro hS2 (And.intro hm2 (And.intro ho2 hobs))))
 have HL := HoldT.mk (And.intro hfl htl)
 have g0 := KeepS.cell (P := fun _ => True) x0 trivial
 have g1 := KeepS.cell (P := fun _ => True) y1 trivial
 have g2 := KeepS.cell (P := fun _ => True) y2 trivial
 clear hS hw1 hb1 hm1 hob hw2 hb2 ho2 hm2 hbb hS2 hobs hmb hfl htl y1 y2 y3 y4 hr2
 go_enter Tryz.func33, Tryz.ntmps33
 go_upto_region 2 with (fail)
 rw [<- HW.out.1, <- HW.out.2.1, HW.out.2.2.1, <- HW.out.2.2.2]
 go_upto_region 4 with (fail)
 clear y0 x0
 by_cases hr : root = -1
 ·subst hr
  refine wp_region_mixC (KeepSC (fun _ => True) w2) 26 rfl (by kernel_rfl) ?_
  have HDR := HoldT.mk ((Below.refl w2.heap.size w2).drew)
  have HST : HoldT (∀ q : Nat, w2.drew.heap[q]? = w2.heap[q]?) := ⟨fun _ => rfl⟩
  have HFZ : HoldT (w2.drew.frozen? ⟨sb, 4, none⟩ = false) := ⟨f4⟩
  clear f4
  generalize w2.drew = v9 at HDR HST HFZ |-
  refine mixl_seg (by kernel_rfl) (fun _ _ d _ _ h => by cases d <;> exact h) [0, 1, 2] [_, _, _] 23 26 rfl _ _ _ rfl (by kernel_rfl) (keepSC fun q _ => HST.out q) ?_
  repeat (go_big_quiet_step (fail))
  refine wpQuiet_nil ?_
  refine mixl_skip (i := 3) rfl (by kernel_rfl) (fun _ _ d _ _ h => by cases d <;> exact h) (by kernel_rfl) (by kernel_rfl) rfl ?_
  simp only [Act.put, List.setIfInBounds_toArray, List.set_cons_succ, List.set_cons_zero]
  refine mixl_skip (i := 4) rfl (by kernel_rfl) (fun _ _ d _ _ h => by cases d <;> exact h) (by kernel_rfl) (by kernel_rfl) rfl ?_
  simp only [Act.put, List.setIfInBounds_toArray, List.set_cons_succ, List.set_cons_zero]
  refine mixl_seg (by kernel_rfl) (fun _ _ d _ _ h => by cases d <;> exact h) [5, 6] [_, _] 19 21 rfl _ _ _ rfl (by kernel_rfl) (keepSC fun q _ => HST.out q) ?_
  repeat (go_big_quiet_step (fail))
  refine wpQuiet_nil ?_
  refine mixl_skip (i := 7) rfl (by kernel_rfl) (fun _ _ d _ _ h => by cases d <;> exact h) (by kernel_rfl) (by kernel_rfl) rfl ?_
  simp only [Act.put, List.setIfInBounds_toArray, List.set_cons_succ, List.set_cons_zero]
  refine mixl_skip (i := 8) rfl (by kernel_rfl) (fun _ _ d _ _ h => by cases d <;> exact h) (by kernel_rfl) (by kernel_rfl) rfl ?_
  simp only [Act.put, List.setIfInBounds_toArray, List.set_cons_succ, List.set_cons_zero]
  refine mixl_skip (i := 9) rfl (by kernel_rfl) (fun _ _ d _ _ h => by cases d <;> exact h) (by kernel_rfl) (by kernel_rfl) rfl ?_
  simp only [Act.put, List.setIfInBounds_toArray, List.set_cons_succ, List.set_cons_zero]
  refine mixl_skip (i := 10) rfl (by kernel_rfl) (fun _ _ d _ _ h => by cases d <;> exact h) (by kernel_rfl) (by kernel_rfl) rfl ?_
  simp only [Act.put, List.setIfInBounds_toArray, List.set_cons_succ, List.set_cons_zero]
  refine mixl_skip (i := 11) rfl (by kernel_rfl) (fun _ _ d _ _ h => by cases d <;> exact h) (by kernel_rfl) (by kernel_rfl) rfl ?_
  simp only [Act.put, List.setIfInBounds_toArray, List.set_cons_succ, List.set_cons_zero]
  refine mixl_skip (i := 12) rfl (by kernel_rfl) (fun _ _ d _ _ h => by cases d <;> exact h) (by kernel_rfl) (by kernel_rfl) rfl ?_
  simp only [Act.put, List.setIfInBounds_toArray, List.set_cons_succ, List.set_cons_zero]
  refine mixl_skip (i := 13) rfl (by kernel_rfl) (fun _ _ d _ _ h => by cases d <;> exact h) (by kernel_rfl) (by kernel_rfl) rfl ?_
  simp only [Act.put, List.setIfInBounds_toArray, List.set_cons_succ, List.set_cons_zero]
  refine mixl_skip (i := 14) rfl (by kernel_rfl) (fun _ _ d _ _ h => by cases d <;> exact h) (by kernel_rfl) (by kernel_rfl) rfl ?_
  simp only [Act.put, List.setIfInBounds_toArray, List.set_cons_succ, List.set_cons_zero]
  refine mixl_skip (i := 15) rfl (by kernel_rfl) (fun _ _ d _ _ h => by cases d <;> exact h) (by kernel_rfl) (by kernel_rfl) rfl ?_
  simp only [Act.put, List.setIfInBounds_toArray, List.set_cons_succ, List.set_cons_zero]
  refine mixl_skip (i := 16) rfl (by kernel_rfl) (fun _ _ d _ _ h => by cases d <;> exact h) (by kernel_rfl) (by kernel_rfl) rfl ?_
  simp only [Act.put, List.setIfInBounds_toArray, List.set_cons_succ, List.set_cons_zero]
  refine mixl_skip (i := 17) rfl (by kernel_rfl) (fun _ _ d _ _ h => by cases d <;> exact h) (by kernel_rfl) (by kernel_rfl) rfl ?_
  simp only [Act.put, List.setIfInBounds_toArray, List.set_cons_succ, List.set_cons_zero]
  refine mixl_skip (i := 18) rfl (by kernel_rfl) (fun _ _ d _ _ h => by cases d <;> exact h) (by kernel_rfl) (by kernel_rfl) rfl ?_
  simp only [Act.put, List.setIfInBounds_toArray, List.set_cons_succ, List.set_cons_zero]
  refine mixl_skip (i := 19) rfl (by kernel_rfl) (fun _ _ d _ _ h => by cases d <;> exact h) (by kernel_rfl) (by kernel_rfl) rfl ?_
  simp only [Act.put, List.setIfInBounds_toArray, List.set_cons_succ, List.set_cons_zero]
  refine mixl_skip (i := 20) rfl (by kernel_rfl) (fun _ _ d _ _ h => by cases d <;> exact h) (by kernel_rfl) (by kernel_rfl) rfl ?_
  simp only [Act.put, List.setIfInBounds_toArray, List.set_cons_succ, List.set_cons_zero]
  refine mixl_skip (i := 21) rfl (by kernel_rfl) (fun _ _ d _ _ h => by cases d <;> exact h) (by kernel_rfl) (by kernel_rfl) rfl ?_
  simp only [Act.put, List.setIfInBounds_toArray, List.set_cons_succ, List.set_cons_zero]
  refine mixl_skip (i := 22) rfl (by kernel_rfl) (fun _ _ d _ _ h => by cases d <;> exact h) (by kernel_rfl) (by kernel_rfl) rfl ?_
  simp only [Act.put, List.setIfInBounds_toArray, List.set_cons_succ, List.set_cons_zero]
  refine mixl_skip (i := 23) rfl (by kernel_rfl) (fun _ _ d _ _ h => by cases d <;> exact h) (by kernel_rfl) (by kernel_rfl) rfl ?_
  simp only [Act.put, List.setIfInBounds_toArray, List.set_cons_succ, List.set_cons_zero]
  refine mixl_skip (i := 24) rfl (by kernel_rfl) (fun _ _ d _ _ h => by cases d <;> exact h) (by kernel_rfl) (by kernel_rfl) rfl ?_
  simp only [Act.put, List.setIfInBounds_toArray, List.set_cons_succ, List.set_cons_zero]
  refine mixl_seg (by kernel_rfl) (fun _ _ d _ _ h => by cases d <;> exact h) [25] [_] 0 1 rfl _ _ _ rfl (by kernel_rfl) (keepSC fun q _ => HST.out q) ?_
  repeat (go_big_quiet_step (fail))
  refine wpQuiet_nil ?_
  refine mix_done (by kernel_rfl) (keepSC fun q _ => HST.out q) ?_
  clear g0 g1 g2
  go_wp2_with fail
  refine bodyPost_ret (v := .tuple #[.slice none 0 0, .int .i64 0]) (by simp [results, Tryz.results33, go_sem]) rfl ?_
  exact ⟨rfl, H2.out.1.trans (HDR.out.mono H2.out.1.size)⟩
 ·have br : (root == -1) = false := beq_eq_false_iff_ne.2 hr
  have HBR := HoldT.mk br
  clear br
  by_cases hm : most < 1
  ·have bm : decide (most < 1) = true := decide_eq_true hm
   refine wp_region_mixC (KeepSC (fun _ => True) w2) 26 rfl (by kernel_rfl) ?_
   have HDR := HoldT.mk ((Below.refl w2.heap.size w2).drew)
   have HST : HoldT (∀ q : Nat, w2.drew.heap[q]? = w2.heap[q]?) := ⟨fun _ => rfl⟩
   have HFZ : HoldT (w2.drew.frozen? ⟨sb, 4, none⟩ = false) := ⟨f4⟩
   clear f4
   generalize w2.drew = v9 at HDR HST HFZ |-
   refine mixl_seg (by kernel_rfl) (fun _ _ d _ _ h => by cases d <;> exact h) [0, 1, 2] [_, _, _] 23 26 rfl _ _ _ rfl (by kernel_rfl) (keepSC fun q _ => HST.out q) ?_
   repeat (go_big_quiet_step (fail))
   refine wpQuiet_nil ?_
   rw [HBR.out]
   refine mixl_seg (by kernel_rfl) (fun _ _ d _ _ h => by cases d <;> exact h) [3, 4, 5, 6] [_, _, _, _] 19 23 rfl _ _ _ rfl (by kernel_rfl) (keepSC fun q _ => HST.out q) ?_
   repeat (go_big_quiet_step (fail))
   refine wpQuiet_nil ?_
   refine mixl_skip (i := 7) rfl (by kernel_rfl) (fun _ _ d _ _ h => by cases d <;> exact h) (by kernel_rfl) (by kernel_rfl) rfl ?_
   simp only [Act.put, List.setIfInBounds_toArray, List.set_cons_succ, List.set_cons_zero]
   refine mixl_skip (i := 8) rfl (by kernel_rfl) (fun _ _ d _ _ h => by cases d <;> exact h) (by kernel_rfl) (by kernel_rfl) rfl ?_
   simp only [Act.put, List.setIfInBounds_toArray, List.set_cons_succ, List.set_cons_zero]
   refine mixl_skip (i := 9) rfl (by kernel_rfl) (fun _ _ d _ _ h => by cases d <;> exact h) (by kernel_rfl) (by kernel_rfl) rfl ?_
   simp only [Act.put, List.setIfInBounds_toArray, List.set_cons_succ, List.set_cons_zero]
   refine mixl_skip (i := 10) rfl (by kernel_rfl) (fun _ _ d _ _ h => by cases d <;> exact h) (by kernel_rfl) (by kernel_rfl) rfl ?_
   simp only [Act.put, List.setIfInBounds_toArray, List.set_cons_succ, List.set_cons_zero]
   refine mixl_skip (i := 11) rfl (by kernel_rfl) (fun _ _ d _ _ h => by cases d <;> exact h) (by kernel_rfl) (by kernel_rfl) rfl ?_
   simp only [Act.put, List.setIfInBounds_toArray, List.set_cons_succ, List.set_cons_zero]
   refine mixl_skip (i := 12) rfl (by kernel_rfl) (fun _ _ d _ _ h => by cases d <;> exact h) (by kernel_rfl) (by kernel_rfl) rfl ?_
   simp only [Act.put, List.setIfInBounds_toArray, List.set_cons_succ, List.set_cons_zero]
   refine mixl_skip (i := 13) rfl (by kernel_rfl) (fun _ _ d _ _ h => by cases d <;> exact h) (by kernel_rfl) (by kernel_rfl) rfl ?_
   simp only [Act.put, List.setIfInBounds_toArray, List.set_cons_succ, List.set_cons_zero]
   refine mixl_skip (i := 14) rfl (by kernel_rfl) (fun _ _ d _ _ h => by cases d <;> exact h) (by kernel_rfl) (by kernel_rfl) rfl ?_
   simp only [Act.put, List.setIfInBounds_toArray, List.set_cons_succ, List.set_cons_zero]
   refine mixl_skip (i := 15) rfl (by kernel_rfl) (fun _ _ d _ _ h => by cases d <;> exact h) (by kernel_rfl) (by kernel_rfl) rfl ?_
   simp only [Act.put, List.setIfInBounds_toArray, List.set_cons_succ, List.set_cons_zero]
   refine mixl_skip (i := 16) rfl (by kernel_rfl) (fun _ _ d _ _ h => by cases d <;> exact h) (by kernel_rfl) (by kernel_rfl) rfl ?_
   simp only [Act.put, List.setIfInBounds_toArray, List.set_cons_succ, List.set_cons_zero]
   refine mixl_skip (i := 17) rfl (by kernel_rfl) (fun _ _ d _ _ h => by cases d <;> exact h) (by kernel_rfl) (by kernel_rfl) rfl ?_
   simp only [Act.put, List.setIfInBounds_toArray, List.set_cons_succ, List.set_cons_zero]
   refine mixl_skip (i := 18) rfl (by kernel_rfl) (fun _ _ d _ _ h => by cases d <;> exact h) (by kernel_rfl) (by kernel_rfl) rfl ?_
   simp only [Act.put, List.setIfInBounds_toArray, List.set_cons_succ, List.set_cons_zero]
   refine mixl_skip (i := 19) rfl (by kernel_rfl) (fun _ _ d _ _ h => by cases d <;> exact h) (by kernel_rfl) (by kernel_rfl) rfl ?_
   simp only [Act.put, List.setIfInBounds_toArray, List.set_cons_succ, List.set_cons_zero]
   refine mixl_skip (i := 20) rfl (by kernel_rfl) (fun _ _ d _ _ h => by cases d <;> exact h) (by kernel_rfl) (by kernel_rfl) rfl ?_
   simp only [Act.put, List.setIfInBounds_toArray, List.set_cons_succ, List.set_cons_zero]
   refine mixl_skip (i := 21) rfl (by kernel_rfl) (fun _ _ d _ _ h => by cases d <;> exact h) (by kernel_rfl) (by kernel_rfl) rfl ?_
   simp only [Act.put, List.setIfInBounds_toArray, List.set_cons_succ, List.set_cons_zero]
   refine mixl_skip (i := 22) rfl (by kernel_rfl) (fun _ _ d _ _ h => by cases d <;> exact h) (by kernel_rfl) (by kernel_rfl) rfl ?_
   simp only [Act.put, List.setIfInBounds_toArray, List.set_cons_succ, List.set_cons_zero]
   refine mixl_skip (i := 23) rfl (by kernel_rfl) (fun _ _ d _ _ h => by cases d <;> exact h) (by kernel_rfl) (by kernel_rfl) rfl ?_
   simp only [Act.put, List.setIfInBounds_toArray, List.set_cons_succ, List.set_cons_zero]
   refine mixl_skip (i := 24) rfl (by kernel_rfl) (fun _ _ d _ _ h => by cases d <;> exact h) (by kernel_rfl) (by kernel_rfl) rfl ?_
   simp only [Act.put, List.setIfInBounds_toArray, List.set_cons_succ, List.set_cons_zero]
   refine mixl_seg (by kernel_rfl) (fun _ _ d _ _ h => by cases d <;> exact h) [25] [_] 0 1 rfl _ _ _ rfl (by kernel_rfl) (keepSC fun q _ => HST.out q) ?_
   repeat (go_big_quiet_step (fail))
   refine wpQuiet_nil ?_
   refine mix_done (by kernel_rfl) (keepSC fun q _ => HST.out q) ?_
   clear g0 g1 g2
   go_wp2_with fail
   refine bodyPost_ret (v := .tuple #[.slice none 0 0, .int .i64 0]) (by simp [results, Tryz.results33, go_sem]) rfl ?_
   exact ⟨rfl, H2.out.1.trans (HDR.out.mono H2.out.1.size)⟩
  ·have bm : decide (most < 1) = false := decide_eq_false hm
   have hq2 : t ≠ [] /\ 0 <= lexC f t := by
    rcases hq with e | e | e
    ·exact absurd e hr
    ·exact absurd e hm
    ·exact e
   have ht : ¬ tl = 0 := fun e => hq2.1 (List.length_eq_zero_iff.1 (by rw [<- HL.out.2]; exact e))
   have bt : decide (0 < tl) = true := decide_eq_true (by omega)
   have HC := HoldT.mk (fun w' (hb : Below w2.heap.size w2 w') => CompareB_any f t (.slice fa fl fc) (.slice ta tl tc) w' (YAt.bytes ((H2.out.2.1.below hb).from_)) (YAt.bytes ((H2.out.2.1.below hb).to_)))
   obtain ⟨z, hz⟩ : ∃ z, z = lexC f t := ⟨_, rfl⟩
   rw [<- hz] at HC hq2
   have bz : decide (0 <= z) = true := decide_eq_true hq2.2
   clear hz hq hq2
   refine wp_region_mixC (KeepSC (fun _ => True) w2) 26 rfl (by kernel_rfl) ?_
   have HDR := HoldT.mk ((Below.refl w2.heap.size w2).drew)
   have HST : HoldT (∀ q : Nat, w2.drew.heap[q]? = w2.heap[q]?) := ⟨fun _ => rfl⟩
   have HFZ : HoldT (w2.drew.frozen? ⟨sb, 4, none⟩ = false) := ⟨f4⟩
   clear f4
   generalize w2.drew = v9 at HDR HST HFZ |-
   refine mixl_seg (by kernel_rfl) (fun _ _ d _ _ h => by cases d <;> exact h) [0, 1, 2] [_, _, _] 23 26 rfl _ _ _ rfl (by kernel_rfl) (keepSC fun q _ => HST.out q) ?_
   repeat (go_big_quiet_step (fail))
   refine wpQuiet_nil ?_
   rw [HBR.out]
   refine mixl_seg (by kernel_rfl) (fun _ _ d _ _ h => by cases d <;> exact h) [3, 4, 5, 6, 7, 8, 9, 10, 11, 12, 13, 14, 15, 16, 17, 18, 19, 20, 21] [_, _, _, _, _, _, _, _, _, _, _, _, _, _, _, _, _, _, _] 4 23 rfl _ _ _ rfl (by kernel_rfl) (keepSC fun q _ => HST.out q) ?_
   repeat (go_big_quiet_step (fail))
   refine wpQuiet_nil ?_
   refine mixl_act (i := 22) rfl (by kernel_rfl) (keepSC fun q _ => HST.out q) rfl (fun K hK => ?_)
   go_wp2_with fail
   refine (HC.out v9 HDR.out).mono ?_
   rintro e w5 ⟨rfl, hw5⟩
   obtain rfl := hw5.symm
   simp only
   go_wp2_with fail
   refine mixl_seg (by kernel_rfl) (fun _ _ d _ _ h => by cases d <;> exact h) [23, 24, 25] [_, _, _] 0 3 rfl _ _ _ rfl (by kernel_rfl) (keepSC fun q _ => HST.out q) ?_
   repeat (go_big_quiet_step (fail))
   refine wpQuiet_nil ?_
   refine mix_done (by kernel_rfl) (keepSC fun q _ => HST.out q) ?_
   clear g0 g1 g2
   go_wp2_with fail
   refine bodyPost_ret (v := .tuple #[.slice none 0 0, .int .i64 0]) (by simp [results, Tryz.results33, go_sem]) rfl ?_
   exact ⟨rfl, H2.out.1.trans (HDR.out.mono H2.out.1.size)⟩
set_option maxHeartbeats 4000000 in
set_option maxRecDepth 100000 in
theorem step_bad {Q : PQ} {R : Int -> Option Bts} {H : HS} {S : PS} {p sb : Nat} {back : Bool} {f t : Bts} {fv tv fn lv hv : Value} {n : Int} {w : World} (h : PG Q R H S p w) (hS : SpanB w sb Q.pb f t fv tv fn back) (hn : ∀ s, 0 <= n -> S.is[n.toNat]? = some s -> s = 0) :
  Calls Tryz.prog 49 #[.pointer (some ⟨sb, 0, none⟩), .int .i64 n, .int .i64 1, lv, hv] w (fun e w' => e = .returned (.tuple #[.bool false, .int .i64 11]) /\ w' = w) := by
 obtain ⟨x0, _⟩ := hS.cells
 have HG := HoldT.mk (pages_get_bad h hn)
 clear h hS hn
 go_enter Tryz.func49, Tryz.ntmps49
 go_wp2_with fail
 refine HG.out.mono ?_
 rintro e w' ⟨rfl, hw⟩
 obtain rfl := hw.symm
 go_wp2_with fail
 exact bodyPost_ret (v := .tuple #[.bool false, .int .i64 11]) (by simp [results, Tryz.results49, go_sem]) rfl ⟨rfl, rfl⟩
set_option maxHeartbeats 8000000 in
set_option maxRecDepth 100000 in
theorem list_bad {A : Nat} {Q : PQ} {R : Int -> Option Bts} {H : HS} {S : PS} {p sb : Nat} {back : Bool} {f : Bts} {fv tv : Value} {root : Int} {n : Nat} {w : World} (h : PG Q R H S p w) (hS : SpanB w sb Q.pb f [] fv tv .nilFunc back) (hA : A <= w.heap.size /\ ∀ b, H.all b -> A <= b) (hsA : A <= sb) (hf : YAt (cfL A w) fv f) (ht : YAt (cfL A w) tv []) (hsb : ¬ H.all sb) (hn : ∀ s, 0 <= root -> S.is[root.toNat]? = some s -> s = 0) (hr : root ≠ -1) (hm : 1 <= n) :
  Calls Tryz.prog 33 #[.pointer (some ⟨sb, 0, none⟩), .int .i64 root, .int .i64 (n : Int)] w (fun e w' => e = .returned (.tuple #[.slice none 0 0, .int .i64 11]) /\ TurnS (fun b => b = sb) w (fun b => b = sb) w') := by
 obtain ⟨fa, fc, rfl⟩ := hS.from_.form
 obtain ⟨ta, tc, rfl⟩ := hS.to_.form
 obtain ⟨fl, hfl⟩ : ∃ x, x = f.length := ⟨_, rfl⟩
 obtain ⟨tl, htl⟩ : ∃ x, x = ([] : Bts).length := ⟨_, rfl⟩
 rw [<- hfl, <- htl] at hS
 rw [<- hfl] at hf
 rw [<- htl] at ht
 obtain ⟨mb, hmb⟩ : ∃ q, q = w.heap.size := ⟨_, rfl⟩
 obtain ⟨w1, hw1⟩ : ∃ w1, w1 = w.alloc (.cells #[.int .i64 (n : Int)] 3) := ⟨_, rfl⟩
 have hb1 : Below w.heap.size w w1 := by rw [hw1]; exact (Below.refl _ w).alloc (Nat.le_refl _) _
 have hm1 : w1.heap[mb]? = some (.cells #[.int .i64 (n : Int)] 3 (0, 0)) := by rw [hw1, hmb]; exact heap_alloc_new w _
 obtain ⟨ob, hob⟩ : ∃ q, q = w1.heap.size := ⟨_, rfl⟩
 obtain ⟨w2, hw2⟩ : ∃ w2, w2 = w1.alloc (.cells #[.slice none 0 0] 33) := ⟨_, rfl⟩
 have hb2 : Below w1.heap.size w1 w2 := by rw [hw2]; exact (Below.refl _ w1).alloc (Nat.le_refl _) _
 have ho2 : w2.heap[ob]? = some (.cells #[.slice none 0 0] 33 (0, 0)) := by rw [hw2, hob]; exact heap_alloc_new w1 _
 have hm2 := kept hm1 hb2
 have hbb : Below w.heap.size w w2 := hb1.trans (hb2.mono hb1.size)
 have hS2 := hS.below hbb
 have hr2 : mb + 1 = ob := by rw [hob, hw1, hmb]; simp
 have hobs : w.heap.size <= ob := by rw [hob]; exact hb1.size
 obtain ⟨y0, y1, y2, y3, y4⟩ := hS2.cells
 have x0 : w2.cell? ⟨mb, 0, none⟩ = some (.int .i64 (n : Int)) := by simp [World.cell?, hm2]
 have f4 : w2.frozen? ⟨sb, 4, none⟩ = false := by simp [World.frozen?, hS2.box]
 have HW := HoldT.mk (And.intro hmb (And.intro hw1 (And.intro hr2 hw2)))
 have HH := HoldT.mk (And.intro h (And.intro hsb hn))
 have H2 := HoldT.mk (And.intro hbb (And.intro hS2 (And.intro hm2 (And.intro ho2 hobs))))
 have HL := HoldT.mk (And.intro hfl htl)
 have HA := HoldT.mk (And.intro hA (And.intro hsA (And.intro hf ht)))
 have g0 := KeepS.cell (P := fun _ => True) x0 trivial
 have g1 := KeepS.cell (P := fun _ => True) y1 trivial
 have g2 := KeepS.cell (P := fun _ => True) y2 trivial
 clear h hS hA hsA hf ht hsb hn hw1 hb1 hm1 hob hw2 hb2 ho2 hm2 hbb hS2 hobs hmb hfl htl y1 y2 y3 y4 hr2
 go_enter Tryz.func33, Tryz.ntmps33
 go_upto_region 2 with (fail)
 rw [<- HW.out.1, <- HW.out.2.1, HW.out.2.2.1, <- HW.out.2.2.2]
 go_upto_region 4 with (fail)
 clear y0 x0
 have br : (root == -1) = false := beq_eq_false_iff_ne.2 hr
 have HBR := HoldT.mk br
 clear br
 have bm : decide ((n : Int) < 1) = false := decide_eq_false (by omega)
 have ht : tl = 0 := HL.out.2
 have bt : decide (0 < (tl : Int)) = false := decide_eq_false (by omega)
 refine wp_region_mixC (KeepSC (fun _ => True) w2) 26 rfl (by kernel_rfl) ?_
 have HDR := HoldT.mk ((Below.refl w2.heap.size w2).drew)
 have HST : HoldT (∀ q : Nat, w2.drew.heap[q]? = w2.heap[q]?) := ⟨fun _ => rfl⟩
 have HFZ : HoldT (w2.drew.frozen? ⟨sb, 4, none⟩ = false) := ⟨f4⟩
 clear f4
 generalize w2.drew = v9 at HDR HST HFZ |-
 refine mixl_seg (by kernel_rfl) (fun _ _ d _ _ h => by cases d <;> exact h) [0, 1, 2] [_, _, _] 23 26 rfl _ _ _ rfl (by kernel_rfl) (keepSC fun q _ => HST.out q) ?_
 repeat (go_big_quiet_step (fail))
 refine wpQuiet_nil ?_
 rw [HBR.out]
 refine mixl_seg (by kernel_rfl) (fun _ _ d _ _ h => by cases d <;> exact h) [3, 4, 5, 6, 7, 8, 9, 10, 11, 12, 13] [_, _, _, _, _, _, _, _, _, _, _] 12 23 rfl _ _ _ rfl (by kernel_rfl) (keepSC fun q _ => HST.out q) ?_
 repeat (go_big_quiet_step (fail))
 refine wpQuiet_nil ?_
 refine mixl_skip (i := 14) rfl (by kernel_rfl) (fun _ _ d _ _ h => by cases d <;> exact h) (by kernel_rfl) (by kernel_rfl) rfl ?_
 simp only [Act.put, List.setIfInBounds_toArray, List.set_cons_succ, List.set_cons_zero]
 refine mixl_skip (i := 15) rfl (by kernel_rfl) (fun _ _ d _ _ h => by cases d <;> exact h) (by kernel_rfl) (by kernel_rfl) rfl ?_
 simp only [Act.put, List.setIfInBounds_toArray, List.set_cons_succ, List.set_cons_zero]
 refine mixl_skip (i := 16) rfl (by kernel_rfl) (fun _ _ d _ _ h => by cases d <;> exact h) (by kernel_rfl) (by kernel_rfl) rfl ?_
 simp only [Act.put, List.setIfInBounds_toArray, List.set_cons_succ, List.set_cons_zero]
 refine mixl_skip (i := 17) rfl (by kernel_rfl) (fun _ _ d _ _ h => by cases d <;> exact h) (by kernel_rfl) (by kernel_rfl) rfl ?_
 simp only [Act.put, List.setIfInBounds_toArray, List.set_cons_succ, List.set_cons_zero]
 refine mixl_skip (i := 18) rfl (by kernel_rfl) (fun _ _ d _ _ h => by cases d <;> exact h) (by kernel_rfl) (by kernel_rfl) rfl ?_
 simp only [Act.put, List.setIfInBounds_toArray, List.set_cons_succ, List.set_cons_zero]
 refine mixl_skip (i := 19) rfl (by kernel_rfl) (fun _ _ d _ _ h => by cases d <;> exact h) (by kernel_rfl) (by kernel_rfl) rfl ?_
 simp only [Act.put, List.setIfInBounds_toArray, List.set_cons_succ, List.set_cons_zero]
 refine mixl_skip (i := 20) rfl (by kernel_rfl) (fun _ _ d _ _ h => by cases d <;> exact h) (by kernel_rfl) (by kernel_rfl) rfl ?_
 simp only [Act.put, List.setIfInBounds_toArray, List.set_cons_succ, List.set_cons_zero]
 refine mixl_skip (i := 21) rfl (by kernel_rfl) (fun _ _ d _ _ h => by cases d <;> exact h) (by kernel_rfl) (by kernel_rfl) rfl ?_
 simp only [Act.put, List.setIfInBounds_toArray, List.set_cons_succ, List.set_cons_zero]
 refine mixl_skip (i := 22) rfl (by kernel_rfl) (fun _ _ d _ _ h => by cases d <;> exact h) (by kernel_rfl) (by kernel_rfl) rfl ?_
 simp only [Act.put, List.setIfInBounds_toArray, List.set_cons_succ, List.set_cons_zero]
 refine mixl_skip (i := 23) rfl (by kernel_rfl) (fun _ _ d _ _ h => by cases d <;> exact h) (by kernel_rfl) (by kernel_rfl) rfl ?_
 simp only [Act.put, List.setIfInBounds_toArray, List.set_cons_succ, List.set_cons_zero]
 refine mixl_seg (by kernel_rfl) (fun _ _ d _ _ h => by cases d <;> exact h) [24, 25] [_, _] 0 2 rfl _ _ _ rfl (by kernel_rfl) (keepSC fun q _ => HST.out q) ?_
 repeat (go_big_quiet_step (fail))
 refine wpQuiet_nil ?_
 refine mix_done (by kernel_rfl) (keepSC fun q _ => HST.out q) ?_
 clear g0 g1 g2
 have hb9 : Below w.heap.size w v9 := H2.out.1.trans (HDR.out.mono H2.out.1.size)
 have hS9 := H2.out.2.1.below HDR.out
 have hm9 := kept H2.out.2.2.1 HDR.out
 have ho9 := kept H2.out.2.2.2.1 HDR.out
 obtain ⟨w4, hw4⟩ : ∃ w4, w4 = v9.setCell ⟨sb, 4, none⟩ (.func (.func 48) #[] #[.pointer (some ⟨ob, 0, none⟩), .pointer (some ⟨mb, 0, none⟩)]) := ⟨_, rfl⟩
 obtain ⟨hS4, hg4, hu4, hf4, ht4⟩ := span_set hS9 HA.out.2.1 (HA.out.2.2.1.mono RY_mono (cfL_below hb9)) (HA.out.2.2.2.mono RY_mono (cfL_below hb9)) _ hw4
 have hom : ob ≠ sb := fun e => by rw [e, hS9.box] at ho9; cases ho9
 have hmm : mb ≠ sb := fun e => by rw [e, hS9.box] at hm9; cases hm9
 have hom2 : mb ≠ ob := fun e => by rw [e, ho9] at hm9; cases hm9
 have ho4 : w4.heap[ob]? = some (.cells #[.slice none 0 0] 33 (0, 0)) := (hg4.block ob (heap_lt ho9) (fun e => hom (Option.some.inj e))).trans ho9
 have hm4 : w4.heap[mb]? = some (.cells #[.int .i64 (n : Int)] 3 (0, 0)) := (hg4.block mb (heap_lt hm9) (fun e => hmm (Option.some.inj e))).trans hm9
 have hpg4 : PG Q R H S p w4 := (HH.out.1.below hb9).beside hg4 (fun b e => by
  cases e
  exact ⟨HH.out.2.1, fun ⟨_, _, e2⟩ => by rw [hS9.box] at e2; cases e2⟩)
 have HSTEP := HoldT.mk (step_bad (lv := .slice none 0 0) (hv := .slice none 0 0) hpg4 hS4 HH.out.2.2)
 have HP := HoldT.mk (And.intro hb9 hg4)
 have HW4 := HoldT.mk hw4
 have q4 := store_fn (v := .func (.func 48) #[] #[.pointer (some ⟨ob, 0, none⟩), .pointer (some ⟨mb, 0, none⟩)]) rfl hS9.cells.2.2.2.2 HFZ.out
 clear hb9 hS9 hm9 ho9 hS4 hg4 hu4 hf4 ht4 hom hmm hom2 ho4 hm4 hpg4 hw4
 go_upto_region 7 with (fail)
 rw [<- HW4.out]
 clear q4
 go_wp2_with fail
 refine HSTEP.out.mono ?_
 rintro e w5 ⟨rfl, hw5⟩
 obtain rfl := hw5.symm
 go_wp2_with fail
 refine bodyPost_ret (v := .tuple #[.slice none 0 0, .int .i64 11]) (by simp [results, Tryz.results33, go_sem]) rfl ⟨rfl, ?_⟩
 exact (TurnS.quiet HP.out.1).trans (TurnS.grown HP.out.2 fun b e => .inl (Option.some.inj e).symm)
end Go.Proofs.YtmiphphombkpdaaGreat
