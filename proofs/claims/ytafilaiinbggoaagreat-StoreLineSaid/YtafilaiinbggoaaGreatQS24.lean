import Derived.Test.YtafilaiinbggoaaGreatQS23
namespace Go.Proofs.YtafilaiinbggoaaGreat
open Go.RowKit Go.Maps
def OwnPostN (n : ND) (w : World) (e : Ending) (w' : World) : Prop := ∃ k1 v1 i1, e = .returned (nodeV n k1 v1 i1) /\ NOwn w.heap.size w' n k1 v1 i1 /\ Below w.heap.size w w'
set_option maxHeartbeats 8000000 in
set_option maxRecDepth 100000 in
theorem node_own {w : World} {n : ND} {kv vv iv : Value} (h : NAt w n kv vv iv) (hf : FewN n) :
  Calls Tryz.prog 73 #[nodeV n kv vv iv] w (OwnPostN n w) := by
 obtain ⟨ka, kc, rfl⟩ := h.keys.form
 obtain ⟨va, vc, rfl⟩ := h.vals.form
 obtain ⟨ia, ic, rfl⟩ := h.kids.form
 obtain ⟨kl, hkl⟩ : ∃ m, m = n.keys.length := ⟨_, rfl⟩
 obtain ⟨vl, hvl⟩ : ∃ m, m = n.vals.length := ⟨_, rfl⟩
 obtain ⟨il, hil⟩ : ∃ m, m = (n.kids.map Int.ofNat).length := ⟨_, rfl⟩
 obtain ⟨lf, hlf⟩ : ∃ m, m = n.leaf := ⟨_, rfl⟩
 unfold nodeV
 rw [<- hkl, <- hvl, <- hil] at h |-
 rw [<- hlf]
 have HH := HoldT.mk (And.intro h (And.intro hf (And.intro hlf (And.intro hkl (And.intro hvl hil)))))
 clear h hf hkl hvl hil hlf
 go_enter Tryz.func73, Tryz.ntmps73
 go_upto_region 1 with (fail)
 obtain ⟨w1, hw1⟩ : ∃ w1, w1 = w.alloc (.cells #[.bool lf, .slice ka kl kc, .slice va vl vc, .slice ia il ic] 107) := ⟨_, rfl⟩
 obtain ⟨w2, hw2⟩ : ∃ w2, w2 = w1.alloc (.cells #[.bool false, .slice none 0 0, .slice none 0 0, .slice none 0 0] 107) := ⟨_, rfl⟩
 obtain ⟨q4, hq4⟩ : ∃ q4, q4 = w.heap.size + 1 := ⟨_, rfl⟩
 obtain ⟨q, hq⟩ : ∃ q, q = w.heap.size := ⟨_, rfl⟩
 rw [<- hw1, <- hw2, <- hq4, <- hq]
 have hs1 : w1.heap.size = q4 := by rw [hw1, hq4]; simp
 have hb1 : Below w.heap.size w w1 := by rw [hw1]; exact (Below.refl _ w).alloc (Nat.le_refl _) _
 have hb2 : Below w1.heap.size w1 w2 := by rw [hw2]; exact (Below.refl _ w1).alloc (Nat.le_refl _) _
 have hbx : w2.heap[q]? = some (.cells #[.bool lf, .slice ka kl kc, .slice va vl vc, .slice ia il ic] 107 (0, 0)) := kept (by rw [hw1, hq]; exact heap_alloc_new w _) hb2
 have hb4 : w2.heap[q4]? = some (.cells #[.bool false, .slice none 0 0, .slice none 0 0, .slice none 0 0] 107 (0, 0)) := by rw [hw2, <- hs1]; exact heap_alloc_new w1 _
 have hbb : Below w.heap.size w w2 := hb1.trans (hb2.mono hb1.size)
 have HB := HoldT.mk (And.intro hbb (And.intro hb4 (And.intro hq hq4)))
 have x0 : w2.cell? ⟨q, 0, none⟩ = some (.bool lf) := by simp [World.cell?, hbx]
 have x1 : w2.cell? ⟨q, 1, none⟩ = some (.slice ka kl kc) := by simp [World.cell?, hbx]
 have x2 : w2.cell? ⟨q, 2, none⟩ = some (.slice va vl vc) := by simp [World.cell?, hbx]
 have x3 : w2.cell? ⟨q, 3, none⟩ = some (.slice ia il ic) := by simp [World.cell?, hbx]
 have HQ := HoldT.mk hbx
 have g0 := KeepS.cell (P := fun b => b = q) x0 rfl
 have g1 := KeepS.cell (P := fun b => b = q) x1 rfl
 have g2 := KeepS.cell (P := fun b => b = q) x2 rfl
 have g3 := KeepS.cell (P := fun b => b = q) x3 rfl
 clear hw1 hw2 hs1 hb1 hb2 hq4 hq hbx hb4 hbb x0 x1 x2 x3
 refine wp_region_mixC (KeepSC (fun b => b = q) w2) 13 rfl (by kernel_rfl) ?_
 have HDR := HoldT.mk ((Below.refl w2.heap.size w2).drew)
 have HST : HoldT (∀ q : Nat, w2.drew.heap[q]? = w2.heap[q]?) := ⟨fun _ => rfl⟩
 generalize w2.drew = v3 at HDR HST |-
 refine mixl_seg (by kernel_rfl) (fun _ _ d _ _ h => by cases d <;> exact h) [0, 1, 2, 3, 5, 6, 8, 9] [_, _, _, _, _, _, _, _] 5 13 rfl _ _ _ rfl (by kernel_rfl) (keepSC fun q _ => HST.out q) ?_
 repeat (go_big_quiet_step (fail))
 refine wpQuiet_nil ?_
 clear g0 g1 g2 g3
 have HB3 : HoldT (Below w.heap.size w v3) := ⟨HB.out.1.trans (HDR.out.mono HB.out.1.size)⟩
 have HC1 := HoldT.mk (node_clone (HH.out.1.below HB3.out).keys HH.out.2.1.keys HH.out.2.1.key)
 refine mixl_act (i := 4) rfl (by kernel_rfl) (keepSC fun q _ => HST.out q) rfl (fun K hK => ?_)
 go_wp2_with fail
 refine HC1.out.mono ?_
 rintro e v4 ⟨s1, c1, rfl, ho1, hb4⟩
 obtain ⟨s1a, s1c, rfl⟩ := ho1.shape
 have hq4' : ∀ b, b = q -> v4.heap[b]? = w2.heap[b]? := fun b hb => by subst hb; exact (hb4.block b (by have := heap_lt HQ.out; have := HDR.out.size; omega)).trans (HST.out b)
 have HB4 := HoldT.mk (And.intro (HB3.out.trans (hb4.mono HB3.out.size)) (And.intro hb4 hq4'))
 have HO1 := HoldT.mk ho1
 clear ho1 hb4 hq4'
 simp only
 go_wp2_with fail
 have HC2 := HoldT.mk (node_clone (HH.out.1.below HB4.out.1).vals HH.out.2.1.vals HH.out.2.1.val)
 refine mixl_act (i := 7) rfl (by kernel_rfl) (keepSC HB4.out.2.2) rfl (fun K hK => ?_)
 go_wp2_with fail
 refine HC2.out.mono ?_
 rintro e v5 ⟨s2, c2, rfl, ho2, hb5⟩
 obtain ⟨s2a, s2c, rfl⟩ := ho2.shape
 have hq5' : ∀ b, b = q -> v5.heap[b]? = w2.heap[b]? := fun b hb => by subst hb; exact (hb5.block b (by have := heap_lt HQ.out; have := HDR.out.size; have := HB4.out.2.1.size; omega)).trans (HB4.out.2.2 b rfl)
 have HB5 := HoldT.mk (And.intro (HB4.out.1.trans (hb5.mono HB4.out.1.size)) (And.intro hb5 hq5'))
 have HO2 := HoldT.mk ho2
 clear ho2 hb5 hq5'
 simp only
 go_wp2_with fail
 have HC3 := HoldT.mk (cloneI_any (n.kids.map Int.ofNat) (.slice ia il ic) (cf v5) v5 (fun _ _ _ h => h) (HH.out.1.below HB5.out.1).kids (by rw [List.length_map]; have := HH.out.2.1.kids; omega))
 refine mixl_act (i := 10) rfl (by kernel_rfl) (keepSC HB5.out.2.2) rfl (fun K hK => ?_)
 go_wp2_with fail
 refine HC3.out.mono ?_
 rintro e v6 ⟨s3, c3, rfl, ho3, hg3, hb6⟩
 rw [List.length_map] at ho3
 obtain ⟨s3a, s3c, rfl⟩ := own_shape ho3
 have hq6' : ∀ b, b = q -> v6.heap[b]? = w2.heap[b]? := fun b hb => by subst hb; exact (hb6.block b (by have := heap_lt HQ.out; have := HDR.out.size; have := HB4.out.2.1.size; have := HB5.out.2.1.size; omega)).trans (HB5.out.2.2 b rfl)
 have HB6 := HoldT.mk (And.intro (HB5.out.1.trans (hb6.mono HB5.out.1.size)) (And.intro hb6 hq6'))
 have HO3 : HoldT (OwnS 1 RI 3 v5.heap.size v6 (.slice s3a n.kids.length s3c) n.kids.length (n.kids.map Int.ofNat) c3) := ⟨⟨ho3, by rw [List.length_map], hg3, hb6.size⟩⟩
 clear ho3 hg3 hb6 hq6'
 simp only
 go_wp2_with fail
 refine mixl_seg (by kernel_rfl) (fun _ _ d _ _ h => by cases d <;> exact h) [11] [_] 1 2 rfl _ _ _ rfl (by kernel_rfl) (keepSC HB6.out.2.2) ?_
 repeat (go_big_quiet_step (fail))
 refine wpQuiet_nil ?_
 have h4 : v6.heap[q4]? = some (.cells #[.bool false, .slice none 0 0, .slice none 0 0, .slice none 0 0] 107 (0, 0)) := kept (kept (kept ((HST.out q4).trans HB.out.2.1) HB4.out.2.1) HB5.out.2.1) HB6.out.2.1
 have z0 : v6.cell? ⟨q4, 0, none⟩ = some (.bool false) := by simp [World.cell?, h4]
 have z1 : v6.cell? ⟨q4, 1, none⟩ = some (.slice none 0 0) := by simp [World.cell?, h4]
 have z2 : v6.cell? ⟨q4, 2, none⟩ = some (.slice none 0 0) := by simp [World.cell?, h4]
 have z3 : v6.cell? ⟨q4, 3, none⟩ = some (.slice none 0 0) := by simp [World.cell?, h4]
 have f0 : v6.frozen? ⟨q4, 0, none⟩ = false := by simp [World.frozen?, h4]
 have f1 : v6.frozen? ⟨q4, 1, none⟩ = false := by simp [World.frozen?, h4]
 have f2 : v6.frozen? ⟨q4, 2, none⟩ = false := by simp [World.frozen?, h4]
 have f3 : v6.frozen? ⟨q4, 3, none⟩ = false := by simp [World.frozen?, h4]
 have H4 := HoldT.mk h4
 clear h4
 refine mixl_act (i := 12) rfl (by kernel_rfl) (keepSC HB6.out.2.2) rfl (fun K hK => ?_)
 go_wp2_with fail
 clear z0 z1 z2 z3 f0 f1 f2 f3
 obtain ⟨u4, hu4⟩ : ∃ u, u = set4 v6 q4 (.bool lf) (.slice s1a n.keys.length s1c) (.slice s2a n.vals.length s2c) (.slice s3a n.kids.length s3c) := ⟨_, rfl⟩
 have hu4' := hu4
 unfold set4 at hu4'
 rw [<- hu4']
 have hg4 : v6.grownBy u4 (some q4) := by rw [hu4]; exact set4_grown _ _ _ _ _ _
 have h44 : u4.heap[q4]? = some (.cells #[.bool lf, .slice s1a n.keys.length s1c, .slice s2a n.vals.length s2c, .slice s3a n.kids.length s3c] 107 (0, 0)) := by rw [hu4]; exact set4_heap H4.out
 have hqq : q ≠ q4 := by have := HB.out.2.2; omega
 have hkq : ∀ b, b = q -> u4.heap[b]? = w2.heap[b]? := fun b hb => by
  subst hb
  exact (hg4.block b (heap_lt ((HB6.out.2.2 b rfl).trans HQ.out)) (fun e => hqq (Option.some.inj e))).trans (HB6.out.2.2 b rfl)
 have HG := HoldT.mk (And.intro hg4 (And.intro h44 hkq))
 clear hu4 hu4' hg4 h44 hkq
 refine mix_done (by kernel_rfl) (keepSC HG.out.2.2) ?_
 go_wp2_with fail
 have c0 : u4.cell? ⟨q4, 0, none⟩ = some (.bool lf) := by simp [World.cell?, HG.out.2.1]
 have c1 : u4.cell? ⟨q4, 1, none⟩ = some (.slice s1a n.keys.length s1c) := by simp [World.cell?, HG.out.2.1]
 have c2 : u4.cell? ⟨q4, 2, none⟩ = some (.slice s2a n.vals.length s2c) := by simp [World.cell?, HG.out.2.1]
 have c3 : u4.cell? ⟨q4, 3, none⟩ = some (.slice s3a n.kids.length s3c) := by simp [World.cell?, HG.out.2.1]
 refine bodyPost_ret (v := .agg #[.bool lf, .slice s1a n.keys.length s1c, .slice s2a n.vals.length s2c, .slice s3a n.kids.length s3c]) (by simp [results, Tryz.results73, go_sem, c0, c1, c2, c3]) rfl ?_
 have hgu := HG.out.1
 have hnq : ∀ g cur T, v6.heap[g]? = some (.cells cur T (0, 0)) -> T ≠ 107 -> some g ≠ some q4 := fun g cur T e hT e2 => by
  obtain rfl := Option.some.inj e2
  exact kind_ne e H4.out hT rfl
 have hu6 : CLe (cfU v6) (cfU u4) := cfU_grown hgu fun b e => by
  cases e
  rintro ⟨_, _, e2⟩
  rw [H4.out] at e2
  cases e2
 have hs4 := HB4.out.2.1.size
 have hs5 := HB5.out.2.1.size
 have hs6 := HB6.out.2.1.size
 have o1 := ((HO1.out.quiet (RB_mono _) HB5.out.2.1).quiet (RB_mono _) HB6.out.2.1).rep (RB_le (fun a b c d => hu6 a b c (cfU_below HB6.out.2.1 a b c (cfU_below HB5.out.2.1 a b c d))))
 have o2 := (HO2.out.quiet (RB_mono _) HB6.out.2.1).rep (RB_le (fun a b c d => hu6 a b c (cfU_below HB6.out.2.1 a b c d)))
 have o3 := HO3.out
 refine ⟨_, _, _, by rw [HH.out.2.2.1], ⟨⟨_, own_base (own_keep (fun _ _ _ _ h => h) o1 hgu (fun g hg e => ?_)) HB3.out.size⟩, ⟨_, own_base (own_keep (fun _ _ _ _ h => h) o2 hgu (fun g hg e => ?_)) HB4.out.1.size⟩, ⟨_, own_base (own_keep (fun _ _ _ _ h => h) o3 hgu (fun g hg e => ?_)) HB5.out.1.size⟩, fun g e e2 => ?_⟩, HB6.out.1.grown hgu HB6.out.1.size (fun x e => by cases e; have := HB.out.2.2; omega)⟩
 ·obtain ⟨cur, hc⟩ := own_kind o1 hg
  exact hnq g cur _ hc (by decide) e.symm
 ·obtain ⟨cur, hc⟩ := own_kind o2 hg
  exact hnq g cur _ hc (by decide) e.symm
 ·obtain ⟨cur, hc⟩ := own_kind o3 hg
  exact hnq g cur _ hc (by decide) e.symm
 ·have h1 := (HO1.out.low g e).2
  have h2 := (HO2.out.low g e2).1
  omega
end Go.Proofs.YtafilaiinbggoaaGreat
