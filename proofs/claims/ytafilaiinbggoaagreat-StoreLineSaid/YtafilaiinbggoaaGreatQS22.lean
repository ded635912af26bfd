import Derived.Test.YtafilaiinbggoaaGreatQS20
namespace Go.Proofs.YtafilaiinbggoaaGreat
open Go.RowKit Go.Maps
def geK (keys : List Bts) (key : Bts) (i : Nat) : Bool := match keys[i]? with
 | some x => decide (0 <= lexC x key)
 | none => true
theorem geK_some {keys : List Bts} {key x : Bts} {i : Nat} (h : keys[i]? = some x) : geK keys key i = decide (0 <= lexC x key) := by unfold geK; rw [h]
theorem geK_up {keys : List Bts} {key : Bts} (hu : upB keys) (i : Nat) (h : geK keys key i = true) : geK keys key (i + 1) = true := by
 cases e : keys[i + 1]? with
 | none => unfold geK; rw [e]
 | some y =>
  have hi : i + 1 < keys.length := (List.getElem?_eq_some_iff.1 e).1
  have hx : keys[i]? = some keys[i] := List.getElem?_eq_getElem (by omega)
  rw [geK_some hx] at h
  rw [geK_some e]
  have h1 := upB_at hu hx e (by omega)
  have h2 : ltB keys[i] key = false := by
   unfold ltB
   exact decide_eq_false (by have := of_decide_eq_true h; omega)
  have h3 := le_ltB_trans h2 h1
  have h4 := ltB_asym h3
  unfold ltB at h4
  have := of_decide_eq_false h4
  exact decide_eq_true (by omega)
theorem first_place {keys : List Bts} {key : Bts} {k : Nat} (hu : upB keys) (h : FirstP (geK keys key) keys.length k) : k = placeB key keys := by
 obtain ⟨h1, h2, h3⟩ := h
 have p1 := placeB_le key keys
 rcases Nat.lt_trichotomy k (placeB key keys) with hl | he | hg
 ·have hk : keys[k]? = some (keys[k]'(by omega)) := List.getElem?_eq_getElem (by omega)
  have := placeB_lt hl hk
  have h4 := h3 (by omega)
  rw [geK_some hk] at h4
  have h5 := of_decide_eq_true h4
  have h6 := ltB_iff.1 this
  omega
 ·exact he
 ·have hk : keys[placeB key keys]? = some (keys[placeB key keys]'(by omega)) := List.getElem?_eq_getElem (by omega)
  have := placeB_ge hu (Nat.le_refl _) hk
  have h4 := h2 _ hg
  rw [geK_some hk] at h4
  have h5 := of_decide_eq_false h4
  unfold ltB at this
  have h6 := of_decide_eq_false this
  omega
theorem find1_enters (args : Array Value) (w : World) : (callFunc 62 args).run Tryz.prog w = .ok (.enter 62 args) w := enters_of Tryz.func62 (by kernel_rfl) rfl args w
set_option maxHeartbeats 4000000 in
set_option maxRecDepth 100000 in
theorem find1_any {w : World} {q r : Nat} {n : ND} {kv vv iv ks : Value} {key : Bts} {i : Nat} (hq : NBox w q n kv vv iv) (hr : w.heap[r]? = some (.cells #[ks] 23 (0, 0))) (hk : BAt w kv n.keys) (hy : YAt (cfU w) ks key) (hi : i < n.keys.length) :
  Calls Tryz.prog 62 #[.int .i64 (i : Int), .pointer (some ⟨q, 0, none⟩), .pointer (some ⟨r, 0, none⟩)] w fun e w' => e = .returned (.bool (geK n.keys key i)) /\ Below w.heap.size w w' := by
 obtain ⟨ka, kc, rfl⟩ := hk.form
 obtain ⟨x, hx⟩ : ∃ x, n.keys[i]? = some x := ⟨n.keys[i], List.getElem?_eq_getElem hi⟩
 obtain ⟨b, off, xa, xc, rfl, hc, hyx⟩ := bat_cell hk hx
 rw [geK_some hx]
 have x1 := hq.cell.2.1
 obtain ⟨ya, yc, rfl⟩ := hy.form
 have x2 : w.cell? ⟨r, 0, none⟩ = some (.slice ya key.length yc) := by simp [World.cell?, hr]
 obtain ⟨kl, hkl⟩ : ∃ kl, kl = n.keys.length := ⟨_, rfl⟩
 rw [<- hkl] at x1
 have g1 := KeepS.cell (P := fun _ => True) x1 trivial
 have g2 := KeepS.cell (P := fun _ => True) x2 trivial
 have g3 := KeepS.cell (P := fun _ => True) hc trivial
 have hii : (i : Int) < (kl : Int) := by omega
 have HH := HoldT.mk (And.intro hyx hy)
 clear hq hr hk hy hx hc hyx x1 x2 hkl
 go_enter Tryz.func62, Tryz.ntmps62
 go_upto_region 1 with (fail)
 refine wp_region_mixC (KeepSC (fun _ => True) w) 9 rfl (by kernel_rfl) ?_
 have HDR := HoldT.mk ((Below.refl w.heap.size w).drew)
 have HST : HoldT (∀ q : Nat, w.drew.heap[q]? = w.heap[q]?) := ⟨fun _ => rfl⟩
 generalize w.drew = v9 at HDR HST |-
 refine mixl_seg (by kernel_rfl) (fun _ _ d _ _ h => by cases d <;> exact h) [0, 1, 2, 3, 4, 5] [_, _, _, _, _, _] 3 9 rfl _ _ _ rfl (by kernel_rfl) (keepSC fun q _ => HST.out q) ?_
 repeat (go_big_quiet_step (fail))
 refine wpQuiet_nil ?_
 clear g1 g2 g3
 have HC := HoldT.mk (CompareB_any x key (.slice xa x.length xc) (.slice ya key.length yc) v9 (ybytes (HH.out.1.mono RY_mono (cfU_below HDR.out))) (ybytes (HH.out.2.mono RY_mono (cfU_below HDR.out))))
 refine mixl_act (i := 6) rfl (by kernel_rfl) (keepSC fun q _ => HST.out q) rfl (fun K hK => ?_)
 go_wp2_with fail
 refine HC.out.mono ?_
 rintro e w4 ⟨rfl, hw4⟩
 obtain rfl := hw4.symm
 simp only
 go_wp2_with fail
 refine mixl_seg (by kernel_rfl) (fun _ _ d _ _ h => by cases d <;> exact h) [7, 8] [_, _] 0 2 rfl _ _ _ rfl (by kernel_rfl) (keepSC fun q _ => HST.out q) ?_
 repeat (go_big_quiet_step (fail))
 refine wpQuiet_nil ?_
 refine mix_done (by kernel_rfl) (keepSC fun q _ => HST.out q) ?_
 go_wp2_with fail
 go_ret
 exact ⟨rfl, HDR.out⟩
def FindPost (n : ND) (key : Bts) (w : World) (e : Ending) (w' : World) : Prop := e = .returned (.tuple #[.int .i64 (placeB key n.keys : Int), .bool (decide (n.keys[placeB key n.keys]? = some key))]) /\ Below w.heap.size w w'
set_option maxHeartbeats 8000000 in
set_option maxRecDepth 100000 in
theorem node_find {w : World} {n : ND} {kv vv iv ks : Value} {key : Bts} (h : NAt w n kv vv iv) (hu : upB n.keys) (hl : n.keys.length <= 9000) (hy : YAt (cfU w) ks key) :
  Calls Tryz.prog 34 #[nodeV n kv vv iv, ks] w (FindPost n key w) := by
 obtain ⟨ka, kc, rfl⟩ := h.keys.form
 obtain ⟨va, vc, rfl⟩ := h.vals.form
 obtain ⟨ia, ic, rfl⟩ := h.kids.form
 obtain ⟨ya, yc, rfl⟩ := hy.form
 obtain ⟨il, hil⟩ : ∃ il, il = (n.kids.map Int.ofNat).length := ⟨_, rfl⟩
 obtain ⟨q, hq⟩ : ∃ q, q = w.heap.size := ⟨_, rfl⟩
 obtain ⟨w1, hw1⟩ : ∃ w1, w1 = w.alloc (.cells #[.bool n.leaf, .slice ka n.keys.length kc, .slice va n.vals.length vc, .slice ia il ic] 107) := ⟨_, rfl⟩
 have hb1 : Below w.heap.size w w1 := by rw [hw1]; exact (Below.refl _ w).alloc (Nat.le_refl _) _
 have hbx1 : NBox w1 q n (.slice ka n.keys.length kc) (.slice va n.vals.length vc) (.slice ia il ic) := by rw [hw1, hq]; exact heap_alloc_new w _
 obtain ⟨r, hr⟩ : ∃ r, r = w1.heap.size := ⟨_, rfl⟩
 have hr2 : q + 1 = r := by rw [hr, hq, hw1]; simp
 obtain ⟨w2, hw2⟩ : ∃ w2, w2 = w1.alloc (.cells #[.slice ya key.length yc] 23) := ⟨_, rfl⟩
 have hb2 : Below w1.heap.size w1 w2 := by rw [hw2]; exact (Below.refl _ w1).alloc (Nat.le_refl _) _
 have hrx : w2.heap[r]? = some (.cells #[.slice ya key.length yc] 23 (0, 0)) := by rw [hw2, hr]; exact heap_alloc_new w1 _
 have hbx2 : NBox w2 q n (.slice ka n.keys.length kc) (.slice va n.vals.length vc) (.slice ia il ic) := kept hbx1 hb2
 have hbb : Below w.heap.size w w2 := hb1.trans (hb2.mono hb1.size)
 have hK2 := h.keys.below hbb
 have hY2 := hy.mono RY_mono (cfU_below hbb)
 have HS := HoldT.mk (sortedB hK2 hu (by omega))
 have HSE := HoldT.mk (fun (wz : World) (hz : Below w2.heap.size w2 wz) => search_any (w := wz) (P := geK n.keys key) (n := n.keys.length) (c1 := .pointer (some ⟨q, 0, none⟩)) (c2 := .pointer (some ⟨r, 0, none⟩)) find1_enters (fun i hi wr hb => find1_any (kept hbx2 (hz.trans (hb.mono hz.size))) (kept hrx (hz.trans (hb.mono hz.size))) (hK2.below (hz.trans (hb.mono hz.size))) (hY2.mono RY_mono (cfU_below (hz.trans (hb.mono hz.size)))) hi) (fun i => geK_up hu i) (by omega))
 obtain ⟨kl, hkl⟩ : ∃ kl, kl = n.keys.length := ⟨_, rfl⟩
 obtain ⟨vl, hvl⟩ : ∃ vl, vl = n.vals.length := ⟨_, rfl⟩
 obtain ⟨lf, hlf⟩ : ∃ lf, lf = n.leaf := ⟨_, rfl⟩
 rw [<- hil, show nodeV n (.slice ka n.keys.length kc) (.slice va n.vals.length vc) (.slice ia il ic) = .agg #[.bool lf, .slice ka kl kc, .slice va vl vc, .slice ia il ic] by rw [hkl, hvl, hlf]]
 have HH := HoldT.mk (And.intro hu (And.intro hbb (And.intro hbx2 (And.intro hrx (And.intro hK2 hY2)))))
 have HW := HoldT.mk (And.intro hq (And.intro hw1 (And.intro hr2 hw2)))
 have HKL := HoldT.mk (And.intro hkl (And.intro hvl hlf))
 have hx := hbx2.cell.2.1
 have hkl9 : kl <= 9000 := by rw [hkl]; exact hl
 rw [<- hkl] at HS HSE hx
 rw [<- hkl, <- hvl, <- hlf] at HW
 clear h hu hl hy hil hq hw1 hb1 hbx1 hr hr2 hw2 hb2 hrx hbx2 hbb hK2 hY2 hkl hvl hlf
 go_enter Tryz.func34, Tryz.ntmps34
 go_upto_region 1 with (fail)
 rw [<- HW.out.1, <- HW.out.2.1, HW.out.2.2.1, <- HW.out.2.2.2]
 go_wp2_with fail
 refine HS.out.mono ?_
 rintro e w3 ⟨rfl, hb3⟩
 have HB3 := HoldT.mk hb3
 have hx3 : w3.cell? ⟨q, 1, none⟩ = some (.slice ka kl kc) := cle_below hb3 _ _ _ hx
 clear hb3 hx
 go_wp2_with fail
 refine (HSE.out w3 HB3.out).mono ?_
 rintro e w4 ⟨k, rfl, hf, hb4⟩
 have hkp : k = placeB key n.keys := by rw [HKL.out.1] at hf; exact first_place HH.out.1 hf
 have HF := HoldT.mk (And.intro hkp hf)
 have HB4 := HoldT.mk (HB3.out.trans (hb4.mono HB3.out.size))
 have hx4 : w4.cell? ⟨q, 1, none⟩ = some (.slice ka kl kc) := cle_below hb4 _ _ _ hx3
 have hxr : w4.cell? ⟨r, 0, none⟩ = some (.slice ya key.length yc) := by
  have := kept HH.out.2.2.2.1 HB4.out
  simp [World.cell?, this]
 have hkle : k <= 9000 := by have := hf.1; omega
 have g1 := KeepS.cell (P := fun _ => True) hx4 trivial
 have g2 := KeepS.cell (P := fun _ => True) hxr trivial
 by_cases hlt : k < kl
 ·have hlt2 : k < n.keys.length := by rw [<- HKL.out.1]; exact hlt
  obtain ⟨x, hxk⟩ : ∃ x, n.keys[k]? = some x := ⟨n.keys[k], List.getElem?_eq_getElem hlt2⟩
  have hK4 := HH.out.2.2.2.2.1.below HB4.out
  rw [<- HKL.out.1] at hK4
  obtain ⟨b, off, xa, xc, rfl, hc, hyx⟩ := bat_cell hK4 hxk
  have g3 := KeepS.cell (P := fun _ => True) hc trivial
  have b1 : decide ((k : Int) < (kl : Int)) = true := decide_eq_true (by omega)
  have hii : (k : Int) < (kl : Int) := by omega
  have HYX := HoldT.mk (And.intro hyx hxk)
  have HDE : HoldT (decide (x = key) = decide (n.keys[placeB key n.keys]? = some key)) := ⟨by rw [<- hkp, hxk]; exact decide_eq_decide.2 ⟨fun e => by rw [e], fun e => Option.some.inj e⟩⟩
  clear hf hb4 hx3 hx4 hxr hkp hxk hK4 hc hyx hlt2
  go_upto_region 11 with (fail)
  refine wp_region_mixC (KeepSC (fun _ => True) w4) 17 rfl (by kernel_rfl) ?_
  have HDR := HoldT.mk ((Below.refl w4.heap.size w4).drew)
  have HST : HoldT (∀ q : Nat, w4.drew.heap[q]? = w4.heap[q]?) := ⟨fun _ => rfl⟩
  generalize w4.drew = v9 at HDR HST |-
  refine mixl_seg (by kernel_rfl) (fun _ _ d _ _ h => by cases d <;> exact h) [0, 1, 2, 3, 4, 5, 6, 7, 8, 9, 10, 11, 12] [_, _, _, _, _, _, _, _, _, _, _, _, _] 4 17 rfl _ _ _ rfl (by kernel_rfl) (keepSC fun q _ => HST.out q) ?_
  repeat (go_big_quiet_step (fail))
  refine wpQuiet_nil ?_
  clear g1 g2 g3
  have HC := HoldT.mk (bEqualY (u := .slice xa x.length xc) (v := .slice ya key.length yc) (w := v9) ((HYX.out.1.mono RY_mono (cfU_below HDR.out)).mono RY_mono (cfU_cf _)) (((HH.out.2.2.2.2.2.mono RY_mono (cfU_below HB4.out)).mono RY_mono (cfU_below HDR.out)).mono RY_mono (cfU_cf _)))
  rw [HDE.out] at HC
  refine mixl_act (i := 13) rfl (by kernel_rfl) (keepSC fun q _ => HST.out q) rfl (fun K hK => ?_)
  go_wp2_with fail
  refine HC.out.mono ?_
  rintro e w6 ⟨rfl, hw6⟩
  obtain rfl := hw6.symm
  simp only
  go_wp2_with fail
  refine mixl_seg (by kernel_rfl) (fun _ _ d _ _ h => by cases d <;> exact h) [14, 15, 16] [_, _, _] 0 3 rfl _ _ _ rfl (by kernel_rfl) (keepSC fun q _ => HST.out q) ?_
  repeat (go_big_quiet_step (fail))
  refine wpQuiet_nil ?_
  refine mix_done (by kernel_rfl) (keepSC fun q _ => HST.out q) ?_
  go_wp2_with fail
  go_ret2
  exact ⟨by rw [HF.out.1]; rfl, HH.out.2.1.trans ((HB4.out.trans (HDR.out.mono HB4.out.size)).mono HH.out.2.1.size)⟩
 ·have hke : k = kl := by have := hf.1; omega
  have b1 : decide ((k : Int) < (kl : Int)) = false := decide_eq_false (by omega)
  have HDE : HoldT (decide (n.keys[placeB key n.keys]? = some key) = false) := ⟨by
   rw [<- hkp, hke, HKL.out.1, List.getElem?_eq_none (Nat.le_refl _)]
   exact decide_eq_false (by simp)⟩
  clear hf hb4 hx3 hx4 hxr hkp hke
  go_upto_region 11 with (fail)
  refine wp_region_mixC (KeepSC (fun _ => True) w4) 17 rfl (by kernel_rfl) ?_
  have HDR := HoldT.mk ((Below.refl w4.heap.size w4).drew)
  have HST : HoldT (∀ q : Nat, w4.drew.heap[q]? = w4.heap[q]?) := ⟨fun _ => rfl⟩
  generalize w4.drew = v9 at HDR HST |-
  refine mixl_seg (by kernel_rfl) (fun _ _ d _ _ h => by cases d <;> exact h) [0, 1, 2, 3, 4, 5, 6, 7, 8, 9, 10, 11, 12] [_, _, _, _, _, _, _, _, _, _, _, _, _] 4 17 rfl _ _ _ rfl (by kernel_rfl) (keepSC fun q _ => HST.out q) ?_
  repeat (go_big_quiet_step (fail))
  refine wpQuiet_nil ?_
  clear g1 g2
  refine mixl_skip (i := 13) rfl (by kernel_rfl) (fun _ _ d _ _ h => by cases d <;> exact h) (by kernel_rfl) (by kernel_rfl) rfl ?_
  ·simp only [Act.put, List.setIfInBounds_toArray, List.set_cons_succ, List.set_cons_zero]
   refine mixl_seg (by kernel_rfl) (fun _ _ d _ _ h => by cases d <;> exact h) [14, 15, 16] [_, _, _] 0 3 rfl _ _ _ rfl (by kernel_rfl) (keepSC fun q _ => HST.out q) ?_
   repeat (go_big_quiet_step (fail))
   refine wpQuiet_nil ?_
   refine mix_done (by kernel_rfl) (keepSC fun q _ => HST.out q) ?_
   go_wp2_with fail
   go_ret2
   exact ⟨by rw [HF.out.1, HDE.out]; rfl, HH.out.2.1.trans ((HB4.out.trans (HDR.out.mono HB4.out.size)).mono HH.out.2.1.size)⟩
end Go.Proofs.YtafilaiinbggoaaGreat
namespace Go.Proofs.YtafilaiinbggoaaGreat
open Go.RowKit Go.Maps
theorem place_kid {key : Bts} : ∀ {l : List Bts}, upB l -> placeB key l + (if l[placeB key l]? = some key then 1 else 0) = kidB key l
 | [], _ => rfl
 | x :: l, hu => by
  obtain ⟨h1, h2⟩ := List.pairwise_cons.1 hu
  rcases ltB_total x key with e | e | e
  ·have p1 : placeB key (x :: l) = placeB key l + 1 := by show (if ltB x key = true then _ else _) = _; rw [if_pos e]
   have p2 : kidB key (x :: l) = kidB key l + 1 := by
    have e2 : ¬ (ltB key x = true) := by rw [ltB_asym e]; simp
    show (if ltB key x = true then _ else _) = _
    rw [if_neg e2]
   rw [p1, p2, List.getElem?_cons_succ, <- place_kid h2]
   omega
  ·subst e
   have e2 : ¬ (ltB x x = true) := by rw [ltB_irrefl]; simp
   have p1 : placeB x (x :: l) = 0 := by show (if ltB x x = true then _ else _) = _; rw [if_neg e2]
   have p2 : kidB x (x :: l) = kidB x l + 1 := by show (if ltB x x = true then _ else _) = _; rw [if_neg e2]
   have p3 : kidB x l = 0 := by
    cases l with
    | nil => rfl
    | cons y l => show (if ltB x y = true then _ else _) = _; rw [if_pos (h1 y (List.mem_cons_self ..))]
   rw [p1, p2, p3, List.getElem?_cons_zero, if_pos rfl]
  ·have hne : x ≠ key := fun e2 => by subst e2; rw [ltB_irrefl] at e; cases e
   have e2 : ¬ (ltB x key = true) := by rw [ltB_asym e]; simp
   have p1 : placeB key (x :: l) = 0 := by show (if ltB x key = true then _ else _) = _; rw [if_neg e2]
   have p2 : kidB key (x :: l) = 0 := by show (if ltB key x = true then _ else _) = _; rw [if_pos e]
   rw [p1, p2, List.getElem?_cons_zero, if_neg (fun h => hne (Option.some.inj h))]
set_option maxHeartbeats 4000000 in
set_option maxRecDepth 100000 in
theorem tree_kid {w : World} {n : ND} {kv vv iv ks : Value} {key : Bts} (h : NAt w n kv vv iv) (hu : upB n.keys) (hl : n.keys.length <= 9000) (hy : YAt (cfU w) ks key) :
  Calls Tryz.prog 35 #[nodeV n kv vv iv, ks] w fun e w' => e = .returned (.int .i64 (kidB key n.keys : Int)) /\ Below w.heap.size w w' := by
 obtain ⟨ka, kc, rfl⟩ := h.keys.form
 obtain ⟨va, vc, rfl⟩ := h.vals.form
 obtain ⟨ia, ic, rfl⟩ := h.kids.form
 obtain ⟨ya, yc, rfl⟩ := hy.form
 obtain ⟨w1, hw1⟩ : ∃ w1, w1 = w.alloc (.cells #[.bool n.leaf, .slice ka n.keys.length kc, .slice va n.vals.length vc, .slice ia (n.kids.map Int.ofNat).length ic] 107) := ⟨_, rfl⟩
 have hb1 : Below w.heap.size w w1 := by rw [hw1]; exact (Below.refl _ w).alloc (Nat.le_refl _) _
 have hbx : NBox w1 w.heap.size n (.slice ka n.keys.length kc) (.slice va n.vals.length vc) (.slice ia (n.kids.map Int.ofNat).length ic) := by rw [hw1]; exact heap_alloc_new w _
 have HF := node_find (h.below hb1) hu hl (hy.mono RY_mono (cfU_below hb1))
 have hpl : placeB key n.keys <= 9000 := Nat.le_trans (placeB_le key n.keys) hl
 have hpk := place_kid (key := key) hu
 unfold FindPost at HF
 obtain ⟨p, hp⟩ : ∃ p, p = placeB key n.keys := ⟨_, rfl⟩
 obtain ⟨fd, hfd⟩ : ∃ fd, fd = decide (n.keys[placeB key n.keys]? = some key) := ⟨_, rfl⟩
 obtain ⟨kk, hkk⟩ : ∃ kk, kk = kidB key n.keys := ⟨_, rfl⟩
 have hpk2 : kk = p + (if fd = true then 1 else 0) := by
  rw [hkk, hp, hfd, <- hpk]
  congr 1
  by_cases e : n.keys[placeB key n.keys]? = some key
  ·rw [if_pos e, if_pos (decide_eq_true e)]
  ·rw [if_neg e, if_neg (by rw [decide_eq_false e]; simp)]
 rw [<- hfd, <- hp] at HF
 rw [<- hp] at hpl
 rw [<- hkk]
 have HF := HoldT.mk HF
 obtain ⟨kl, hkl⟩ : ∃ kl, kl = n.keys.length := ⟨_, rfl⟩
 obtain ⟨vl, hvl⟩ : ∃ vl, vl = n.vals.length := ⟨_, rfl⟩
 obtain ⟨lf, hlf⟩ : ∃ lf, lf = n.leaf := ⟨_, rfl⟩
 obtain ⟨il, hil⟩ : ∃ il, il = (n.kids.map Int.ofNat).length := ⟨_, rfl⟩
 have hn : nodeV n (.slice ka n.keys.length kc) (.slice va n.vals.length vc) (.slice ia (n.kids.map Int.ofNat).length ic) = .agg #[.bool lf, .slice ka kl kc, .slice va vl vc, .slice ia il ic] := by rw [hkl, hvl, hlf, hil]
 obtain ⟨x0, x1, x2, x3⟩ := hbx.cell
 rw [hn] at HF |-
 rw [<- hlf] at x0 hw1
 rw [<- hkl] at x1 hw1
 rw [<- hvl] at x2 hw1
 rw [<- hil] at x3 hw1
 have HW := HoldT.mk (And.intro hw1 hb1)
 clear h hu hl hy hw1 hb1 hbx hpk hp hfd hkk hkl hvl hlf hil hn
 cases fd with
 | false =>
  have hk0 : kk = p := by rw [hpk2]; simp
  subst hk0
  clear hpk2
  go_enter Tryz.func35, Tryz.ntmps35
  go_wp2_with fail
  rw [<- HW.out.1]
  refine HF.out.mono ?_
  rintro e w2 ⟨rfl, hb2⟩
  have HB2 := HoldT.mk (HW.out.2.trans (hb2.mono HW.out.2.size))
  clear hb2
  go_wp2_with fail
  go_ret
  exact ⟨rfl, HB2.out⟩
 | true =>
  have hk0 : kk = p + 1 := by rw [hpk2]; simp
  subst hk0
  clear hpk2
  go_enter Tryz.func35, Tryz.ntmps35
  go_wp2_with fail
  rw [<- HW.out.1]
  refine HF.out.mono ?_
  rintro e w2 ⟨rfl, hb2⟩
  have HB2 := HoldT.mk (HW.out.2.trans (hb2.mono HW.out.2.size))
  clear hb2
  go_wp2_with fail
  go_ret
  exact ⟨by simp, HB2.out⟩
def ClPost (B : Nat) (l : List Bts) (w : World) (e : Ending) (w' : World) : Prop := ∃ sv cs, e = .returned sv /\ OwnS 1 (RB (cfU w')) 23 B w' sv l.length l cs /\ Below w.heap.size w w'
set_option maxHeartbeats 4000000 in
set_option maxRecDepth 100000 in
theorem node_clone {w : World} {sv : Value} {l : List Bts} (h : BAt w sv l) (hl : l.length <= 10000) (hk : ∀ k ∈ l, k.length <= 10000) :
  Calls Tryz.prog 98 #[sv] w (ClPost w.heap.size l w) := by
 obtain ⟨a, cap, rfl⟩ := h.form
 have HH := HoldT.mk (And.intro h (And.intro hl hk))
 obtain ⟨n, hn⟩ : ∃ n, n = l.length := ⟨_, rfl⟩
 have hnl : n <= 10000 := by omega
 rw [<- hn]
 have HN := HoldT.mk hn
 clear h hl hk hn
 go_enter Tryz.func98, Tryz.ntmps98
 go_wp2_with fail
 go_loopw [3, 5, 8] (fun s x i wr => ∃ j : Nat, i = .int .i64 j /\ j <= n /\ ∃ cs, HoldT (OwnS 1 (RB (cfU wr)) 23 w.heap.size wr s j (l.take j) cs /\ Below w.heap.size w wr)) (fun _ _ i _ => n - (intOf i).toNat)
 case atStart => exact ⟨0, rfl, Nat.zero_le _, [], ⟨OwnS.start _ _ _ (Nat.le_refl _), Below.refl _ _⟩⟩
 case round =>
  obtain ⟨j, rfl, hj, cs, HJ⟩ := hrel
  by_cases hlt : j < n
  ·have b1 : decide ((j : Int) < (n : Int)) = true := decide_eq_true (by omega)
   have hnn := HN.out
   obtain ⟨k, hkj⟩ : ∃ k, l[j]? = some k := ⟨l[j]'(by omega), List.getElem?_eq_getElem (by omega)⟩
   have hR := HH.out.1.below HJ.out.2
   rw [<- hnn] at hR
   obtain ⟨b, off, xa, xc, rfl, hc, hy⟩ := bat_cell hR hkj
   have HCL := HoldT.mk (cloneY_any k (.slice xa k.length xc) (cf wr) wr (fun _ _ _ h => h) (hy.mono RY_mono (cfU_cf _)) (by have := HH.out.2.2 k (List.mem_of_getElem? hkj); omega))
   have b4 : (j : Int) < (n : Int) := by omega
   obtain ⟨sa, sc, hsv⟩ := HJ.out.1.shape
   have HKJ := HoldT.mk hkj
   clear hnn hR hy hkj
   subst hsv
   go_wp2_with fail
   refine HCL.out.mono ?_
   rintro e w2 ⟨sv2, ds, rfl, ho, hgr, hbl⟩
   have hoy : OwnS 1 RY 5 wr.heap.size w2 sv2 k.length k ds := ⟨ho, rfl, hgr, hbl.size⟩
   obtain ⟨ya, yc, rfl⟩ := hoy.shape
   have HO2 := HoldT.mk ((HJ.out.1.quiet (RB_mono _) hbl).rep (RB_le (cfU_below hbl)))
   have HY2 := HoldT.mk (And.intro hoy.yat (HJ.out.2.trans (hbl.mono HJ.out.2.size)))
   clear ho hgr hbl hoy
   go_wp2_with (at_builtin; refine push_new (RB_mono _) rfl _ _ rfl infoB1 Tryz.underlying76 rfl (by decide) w.heap.size _ _ j _ _ HO2.out rfl _ [.slice ya k.length yc] rfl rfl (by simp [Value.oneCell']) k ⟨_, rfl, HY2.out.1⟩ _ rfl rfl (by omega) (by decide) ?_)
   intro s3 w3 ho3 hg3
   obtain ⟨s3a, s3c, rfl⟩ := ho3.shape
   have HP : HoldT (OwnS 1 (RB (cfU w3)) 23 w.heap.size w3 (.slice s3a (j + 1) s3c) (j + 1) (l.take (j + 1)) (cs ++ [.slice ya k.length yc]) /\ Below w.heap.size w w3) := ⟨by
    rw [take_succ HKJ.out]
    exact ⟨ho3.rep (RB_le (grew_cfU HO2.out (by decide) hg3)), HY2.out.2.grown hg3.by_ HY2.out.2.size (fun q e => (HO2.out.low q e).1)⟩⟩
   clear ho3 hg3
   go_wp2_with fail
   exact ⟨⟨j + 1, by go_num, hlt, _, HP⟩, by simp [intOf]; omega⟩
  ·obtain rfl : j = n := by omega
   have hP : HoldT (OwnS 1 (RB (cfU wr)) 23 w.heap.size wr u3 l.length l cs) := ⟨by
    have := HJ.out.1
    rw [List.take_of_length_le (by rw [HN.out]; exact Nat.le_refl _)] at this
    rw [<- HN.out]
    exact this⟩
   go_wp2_with fail
   go_ret
   exact ⟨_, _, rfl, hP.out, HJ.out.2⟩
end Go.Proofs.YtafilaiinbggoaaGreat
