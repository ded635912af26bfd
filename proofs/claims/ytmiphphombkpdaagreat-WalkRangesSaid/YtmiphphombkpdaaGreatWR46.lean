import Derived.Test.YtmiphphombkpdaaGreatWR22
import Derived.Test.YtmiphphombkpdaaGreatWR44
namespace Go.Proofs.YtmiphphombkpdaaGreat
open Go.RowKit Go.Maps
theorem putE_parts (k v : Bts) : ∀ es : EL, putE k v es = es.take (placeB k (es.map (·.1))) ++ [(k, v)] ++ es.drop (if foundB k (es.map (·.1)) = true then placeB k (es.map (·.1)) + 1 else placeB k (es.map (·.1)))
 | [] => by simp [putE, placeB, foundB]
 | (x, y) :: l => by
  have ih := putE_parts k v l
  unfold putE
  by_cases h : ltB x k = true
  ·rw [if_pos h, ih]
   have e1 : placeB k (((x, y) :: l).map (·.1)) = placeB k (l.map (·.1)) + 1 := by simp [placeB, h]
   have e2 : foundB k (((x, y) :: l).map (·.1)) = foundB k (l.map (·.1)) := by unfold foundB; rw [e1]; simp
   rw [e1, e2]
   by_cases h2 : foundB k (l.map (·.1)) = true
   ·rw [if_pos h2, if_pos h2]; simp
   ·rw [if_neg h2, if_neg h2]; simp
  ·have h' : ltB x k = false := by simpa using h
   have e1 : placeB k (((x, y) :: l).map (·.1)) = 0 := by simp [placeB, h']
   have e2 : foundB k (((x, y) :: l).map (·.1)) = decide (x = k) := by unfold foundB; rw [e1]; simp
   rw [if_neg h, e1, e2]
   by_cases h2 : x = k
   ·rw [if_pos h2, decide_eq_true h2, if_pos rfl]; simp
   ·rw [if_neg h2, decide_eq_false h2, if_neg (by decide)]; simp
theorem delE_parts (k : Bts) : ∀ es : EL, delE k es = if foundB k (es.map (·.1)) = true then es.take (placeB k (es.map (·.1))) ++ es.drop (placeB k (es.map (·.1)) + 1) else es
 | [] => by simp [delE, foundB]
 | (x, y) :: l => by
  have ih := delE_parts k l
  unfold delE
  by_cases h : ltB x k = true
  ·rw [if_pos h, ih]
   have e1 : placeB k (((x, y) :: l).map (·.1)) = placeB k (l.map (·.1)) + 1 := by simp [placeB, h]
   have e2 : foundB k (((x, y) :: l).map (·.1)) = foundB k (l.map (·.1)) := by unfold foundB; rw [e1]; simp
   rw [e1, e2]
   by_cases h2 : foundB k (l.map (·.1)) = true
   ·rw [if_pos h2, if_pos h2]; simp
   ·rw [if_neg h2, if_neg h2]
  ·have h' : ltB x k = false := by simpa using h
   have e1 : placeB k (((x, y) :: l).map (·.1)) = 0 := by simp [placeB, h']
   have e2 : foundB k (((x, y) :: l).map (·.1)) = decide (x = k) := by unfold foundB; rw [e1]; simp
   rw [if_neg h, e1, e2]
   by_cases h2 : x = k
   ·rw [if_pos h2, decide_eq_true h2, if_pos rfl]; simp
   ·rw [if_neg h2, decide_eq_false h2, if_neg (by decide)]
theorem found_get (k : Bts) : ∀ es : EL, foundB k (es.map (·.1)) = (getE k es).isSome
 | [] => by simp [getE, foundB]
 | (x, y) :: l => by
  have ih := found_get k l
  unfold getE
  by_cases h : ltB x k = true
  ·have e1 : placeB k (((x, y) :: l).map (·.1)) = placeB k (l.map (·.1)) + 1 := by simp [placeB, h]
   have e2 : foundB k (((x, y) :: l).map (·.1)) = foundB k (l.map (·.1)) := by unfold foundB; rw [e1]; simp
   rw [if_pos h, e2, ih]
  ·have h' : ltB x k = false := by simpa using h
   have e1 : placeB k (((x, y) :: l).map (·.1)) = 0 := by simp [placeB, h']
   have e2 : foundB k (((x, y) :: l).map (·.1)) = decide (x = k) := by unfold foundB; rw [e1]; simp
   rw [if_neg h, e2]
   by_cases h2 : x = k
   ·rw [if_pos h2, decide_eq_true h2]; rfl
   ·rw [if_neg h2, decide_eq_false h2]; rfl
theorem slice_headR (a : Option Addr) (len cap k : Nat) (hk : k <= cap) (w : World) : (Instr.slice 38 (.slice a len cap) none (some (.int .i64 (k : Int))) none).run Tryz.prog w = .ok (.slice a k cap) w := by
 obtain ⟨i0, hi, hz0, hz1, hz2⟩ := info_parts infoR
 have he : Tryz.prog.elem 38 = 46 := by kernel_rfl
 rw [run_slice_h (P := Tryz.prog) (w := w) 38 a len cap (by rw [he]; exact Tryz.underlying38) .i64 (k : Int) (by omega) (by omega), he]
 simp [sizeOf, typeInfo, hi, hz1, Result.andThen, sliced]
 intro _
 cases a with
 | none => rfl
 | some x => simp [Addr.add]
def MapPost (v : Value) (mb : Nat) (sl : Value) (es : EL) (w : World) (e : Ending) (w' : World) : Prop :=
 ∃ sl', e = .returned v /\ RM w' mb sl' es /\ TurnS (mapX mb sl) w (mapX mb sl') w'
theorem map_set {w w1 w2 : World} {mb : Nat} {sl sl2 : Value} {es es2 : EL} {cs : List Value} {u : CF} (h : RM w mb sl es) (hb : Below w.heap.size w w2) (ho : OwnS 2 (RE u) 46 w1.heap.size w2 sl2 es2.length es2 cs) (hw : w.heap.size <= w1.heap.size) (hu : CLe u (cfU w2)) (v : Value) : MapPost v mb sl es2 w (.returned v) (w2.setCell ⟨mb, 0, none⟩ sl2) := by
 have h2 := h.below hb
 have hg : w2.grownBy (w2.setCell ⟨mb, 0, none⟩ sl2) (some mb) := set6_grown _ _
 have hlt := heap_lt h.box
 have hu2 : CLe (cfU w2) (cfU (w2.setCell ⟨mb, 0, none⟩ sl2)) := cfU_grown hg fun b e => by cases e; exact h2.noU mb (.inl rfl)
 refine ⟨sl2, rfl, ⟨by rw [set_selfT h2.box]; rfl, cs, ?_⟩, ?_⟩
 ·exact (own_base (own_keep (fun _ _ _ _ h => h) ho hg (fun g hg e => by have := (ho.low g hg).1; cases e; omega)) (Nat.zero_le _)).rep (RE_le (hu.trans hu2))
 ·exact ⟨hg.os.trans hb.os, hg.tape.trans hb.tape, hg.output.trans hb.output, Nat.le_trans hb.size hg.size, fun b hbl hn => ⟨(hg.block b (Nat.lt_of_lt_of_le hbl hb.size) (fun e => hn (.inl (Option.some.inj e)))).trans (hb.block b hbl), fun e => e.elim (fun e => hn (.inl e)) (fun e => by have := (ho.low b e).1; omega)⟩⟩
set_option maxHeartbeats 8000000 in
set_option maxRecDepth 100000 in
theorem ref_Put {w : World} {mb : Nat} {sl kv vv : Value} {es : EL} {k v : Bts} (h : RM w mb sl es) (hk : YAt (cfU w) kv k) (hv : YAt (cfU w) vv v) (h1 : keyOk k) (h2 : v.length <= 260) (hl : es.length <= 1000000) :
  Calls Tryz.prog 31 #[.pointer (some ⟨mb, 0, none⟩), kv, vv] w (MapPost (.int .i64 0) mb sl (putE k v es) w) := by
 have hC := ref_place h hk hl
 obtain ⟨ka, kc, rfl⟩ := hk.form
 obtain ⟨va, vc, rfl⟩ := hv.form
 have k1 := h1.1
 have k2 := h1.2
 obtain ⟨kl, hkl⟩ : ∃ x, x = k.length := ⟨_, rfl⟩
 obtain ⟨vl, hvl⟩ : ∃ x, x = v.length := ⟨_, rfl⟩
 rw [<- hkl] at hk hC k1 k2 |-
 rw [<- hvl] at hv h2 |-
 obtain ⟨a, cap, rfl⟩ := h.at_.form
 obtain ⟨_, cap', e1, hle, hcap, _⟩ := h.at_
 obtain rfl : cap = cap' := by simp only [Value.slice.injEq] at e1; exact e1.2.2
 clear e1
 obtain ⟨m, hm⟩ : ∃ x, x = placeB k (es.map (·.1)) := ⟨_, rfl⟩
 obtain ⟨f, hf⟩ : ∃ x, x = foundB k (es.map (·.1)) := ⟨_, rfl⟩
 have hmn : m <= es.length := by rw [hm]; have := placeB_le k (es.map (·.1)); rwa [List.length_map] at this
 have hfn : f = true -> m + 1 <= es.length := fun e => by
  rw [hf] at e
  have := (List.getElem?_eq_some_iff.1 (of_decide_eq_true e)).1
  rw [<- hm, List.length_map] at this
  omega
 have HE := HoldT.mk (putE_parts k v es)
 rw [<- hm, <- hf] at hC HE
 obtain ⟨n, hn⟩ : ∃ x, x = es.length := ⟨_, rfl⟩
 rw [<- hn] at h hl hle hmn hfn |-
 have HC := HoldT.mk hC
 have HH := HoldT.mk (And.intro h (And.intro hk (And.intro hv hn)))
 clear h hk hv hn hkl hvl hm hf hC h1
 go_enter Tryz.func31, Tryz.ntmps31
 go_wp2_with fail
 refine HC.out.mono ?_
 rintro e w1 ⟨rfl, hb1⟩
 have HM1 := HoldT.mk (HH.out.1.below hb1)
 have hu1 := cfU_below hb1
 have HK := HoldT.mk (And.intro (HH.out.2.1.mono RY_mono hu1) (HH.out.2.2.1.mono RY_mono hu1))
 have HB1 := HoldT.mk hb1
 have hbx := HM1.out.box
 have x0 : w1.cell? ⟨mb, 0, none⟩ = some (.slice a n cap) := by simp [World.cell?, hbx]
 have hsl : ∀ w, (Instr.slice 38 (.slice a n cap) none (some (.int .i64 (m : Int))) none).run Tryz.prog w = .ok (.slice a m cap) w := fun w => slice_headR a n cap m (by omega) w
 obtain ⟨t1, ht1⟩ : ∃ t, t = es.take m := ⟨_, rfl⟩
 have hl1 : t1.length = m := by rw [ht1, List.length_take, <- HH.out.2.2.2]; omega
 have HS1 := HoldT.mk (show SAt 2 (RE (cfU w1)) (cfN (.slice none 0 0) w1) (.slice a m cap) t1 by
  rw [ht1]
  exact (SAt.take HM1.out.at_ (by rw [<- HH.out.2.2.2]; exact hmn)).mono (RE_mono _) (cle_cfN_old (Below.refl _ _) (fun g hg => by cases hg)))
 have HT1 := HoldT.mk (And.intro ht1 hl1)
 clear hb1 hu1 hbx ht1 hl1
 go_wp2_with (at_builtin; refine push_src (RE_mono _) (RE_one _) rfl _ _ rfl infoR Tryz.underlying38 rfl (by decide) w1.heap.size _ _ 0 [] [] (OwnS.start 2 (RE (cfU w1)) _ (Nat.le_refl _)) rfl _ t1 HS1.out rfl (by rw [HT1.out.2]; omega) (by decide) ?_)
 intro sl2 w2 cs2 ho2 hg2
 rw [HT1.out.2] at ho2
 obtain ⟨a2, cap2, rfl⟩ := ho2.shape
 have hb2 : Below w1.heap.size w1 w2 := hg2.below (Nat.le_refl _) (fun g hg => by cases hg)
 have HO2 := HoldT.mk ho2
 have HB2 := HoldT.mk (HB1.out.trans (hb2.mono HB1.out.size))
 have HM2 := HoldT.mk (HM1.out.below hb2)
 have HB12 := HoldT.mk hb2
 clear ho2 hg2 hb2 x0 hsl
 go_wp2_with (at_builtin; refine push_new (RE_mono _) rfl _ _ rfl infoR Tryz.underlying38 rfl (by decide) w1.heap.size _ _ m _ _ HO2.out rfl _ [.slice ka kl kc, .slice va vl vc] rfl rfl (by simp [Value.oneCell']) (k, v) ⟨_, _, rfl, HK.out.1, HK.out.2⟩ _ rfl rfl (by omega) (by decide) ?_)
 intro sl3 w3 ho3 hg3
 obtain ⟨a3, cap3, rfl⟩ := ho3.shape
 have hb3 : Below w1.heap.size w2 w3 := hg3.below (HO2.out.le) (fun g hg => (HO2.out.low g hg).1)
 have hb13 : Below w.heap.size w w3 := HB2.out.trans (hb3.mono HB1.out.size)
 have HO3 := HoldT.mk ho3
 have HB23 := HoldT.mk hb3
 have HB3 := HoldT.mk hb13
 have HM3 := HoldT.mk (HH.out.1.below hb13)
 have hbx := HM3.out.box
 have x0 : w3.cell? ⟨mb, 0, none⟩ = some (.slice a n cap) := by simp [World.cell?, hbx]
 clear ho3 hg3 hb3 hb13 hbx
 obtain ⟨t2, ht2⟩ : ∃ t, t = t1 ++ [(k, v)] := ⟨_, rfl⟩
 rw [<- ht2] at HO3
 have HL2 := HoldT.mk (show t2.length = m + 1 by rw [ht2, List.length_append, HT1.out.2]; rfl)
 have HT2 := HoldT.mk ht2
 have HB13 := HoldT.mk ((HB12.out).trans HB23.out)
 clear ht2
 cases f
 ·have hm2n : m <= n := hmn
  obtain ⟨a', hsl0, hsl1⟩ := slice_tail (n := 2) Tryz.underlying38 (by kernel_rfl) infoR a n cap (m) hm2n hle hcap
  have hsl : ∀ w, (Instr.slice 38 (.slice a n cap) (some (.int .i64 ((m : Int)))) none none).run Tryz.prog w = .ok (.slice a' (n - (m)) (cap - (m))) w := hsl0
  obtain ⟨t3, ht3⟩ : ∃ t, t = es.drop (m) := ⟨_, rfl⟩
  have hl3 : t3.length = n - (m) := by rw [ht3, List.length_drop, HH.out.2.2.2]
  have HS3 := HoldT.mk (show SAt 2 (RE (cfU w1)) (cfN (.slice a3 (m + 1) cap3) w3) (.slice a' (n - (m)) (cap - (m))) t3 by
   rw [ht3]
   exact ((hsl1 HH.out.2.2.2.symm HM1.out.at_).mono (RE_mono _) (cle_cfN_old HB13.out (fun g hg => (HO3.out.low g hg).1))))
  have HT3 := HoldT.mk (And.intro ht3 hl3)
  have hdl : t3.length <= 1000000 := by omega
  clear hsl0 hsl1 ht3 hl3
  go_wp2_with (at_builtin; refine push_src (RE_mono _) (RE_one _) rfl _ _ rfl infoR Tryz.underlying38 rfl (by decide) w1.heap.size _ _ ((m + 1)) _ _ HO3.out rfl _ t3 HS3.out rfl (by omega) (by decide) ?_)
  intro sl4 w4 cs4 ho4 hg4
  obtain ⟨a4, cap4, rfl⟩ := ho4.shape
  have hb4 : Below w1.heap.size w3 w4 := hg4.below (HO3.out.le) (fun g hg => (HO3.out.low g hg).1)
  have hb14 := HB3.out.trans (hb4.mono HB1.out.size)
  have hb24 := HB13.out.trans (hb4.mono (Nat.le_refl _))
  have hM4 := HH.out.1.below hb14
  have x1 : w4.cell? ⟨mb, 0, none⟩ = some (.slice a n cap) := by have := hM4.box; simp [World.cell?, this]
  have f1 : w4.frozen? ⟨mb, 0, none⟩ = false := by have := hM4.box; simp [World.frozen?, this]
  have HP := HoldT.mk (fun v => map_set (w1 := w1) (es2 := t2 ++ t3) (cs := cs4) HH.out.1 hb14 (by rw [List.length_append, HL2.out]; exact ho4) HB1.out.size (cfU_below hb24) v)
  clear ho4 hg4 hb4 hb14 hb24 hM4 hsl hdl x0
  go_wp2_with fail
  go_ret
  have := HP.out (.int .i64 0)
  rw [HE.out, if_neg (by decide), <- HT1.out.1, <- HT2.out, <- HT3.out.1]
  exact this
 ·have hm2n : m + 1 <= n := hfn rfl
  obtain ⟨a', hsl0, hsl1⟩ := slice_tail (n := 2) Tryz.underlying38 (by kernel_rfl) infoR a n cap (m + 1) hm2n hle hcap
  have hsl : ∀ w, (Instr.slice 38 (.slice a n cap) (some (.int .i64 ((m : Int) + 1))) none none).run Tryz.prog w = .ok (.slice a' (n - (m + 1)) (cap - (m + 1))) w := hsl0
  obtain ⟨t3, ht3⟩ : ∃ t, t = es.drop (m + 1) := ⟨_, rfl⟩
  have hl3 : t3.length = n - (m + 1) := by rw [ht3, List.length_drop, HH.out.2.2.2]
  have HS3 := HoldT.mk (show SAt 2 (RE (cfU w1)) (cfN (.slice a3 (m + 1) cap3) w3) (.slice a' (n - (m + 1)) (cap - (m + 1))) t3 by
   rw [ht3]
   exact ((hsl1 HH.out.2.2.2.symm HM1.out.at_).mono (RE_mono _) (cle_cfN_old HB13.out (fun g hg => (HO3.out.low g hg).1))))
  have HT3 := HoldT.mk (And.intro ht3 hl3)
  have hdl : t3.length <= 1000000 := by omega
  clear hsl0 hsl1 ht3 hl3
  go_wp2_with (at_builtin; refine push_src (RE_mono _) (RE_one _) rfl _ _ rfl infoR Tryz.underlying38 rfl (by decide) w1.heap.size _ _ ((m + 1)) _ _ HO3.out rfl _ t3 HS3.out rfl (by omega) (by decide) ?_)
  intro sl4 w4 cs4 ho4 hg4
  obtain ⟨a4, cap4, rfl⟩ := ho4.shape
  have hb4 : Below w1.heap.size w3 w4 := hg4.below (HO3.out.le) (fun g hg => (HO3.out.low g hg).1)
  have hb14 := HB3.out.trans (hb4.mono HB1.out.size)
  have hb24 := HB13.out.trans (hb4.mono (Nat.le_refl _))
  have hM4 := HH.out.1.below hb14
  have x1 : w4.cell? ⟨mb, 0, none⟩ = some (.slice a n cap) := by have := hM4.box; simp [World.cell?, this]
  have f1 : w4.frozen? ⟨mb, 0, none⟩ = false := by have := hM4.box; simp [World.frozen?, this]
  have HP := HoldT.mk (fun v => map_set (w1 := w1) (es2 := t2 ++ t3) (cs := cs4) HH.out.1 hb14 (by rw [List.length_append, HL2.out]; exact ho4) HB1.out.size (cfU_below hb24) v)
  clear ho4 hg4 hb4 hb14 hb24 hM4 hsl hdl x0
  go_wp2_with fail
  go_ret
  have := HP.out (.int .i64 0)
  rw [HE.out, if_pos trivial, <- HT1.out.1, <- HT2.out, <- HT3.out.1]
  exact this
set_option maxHeartbeats 8000000 in
set_option maxRecDepth 100000 in
theorem ref_Delete {w : World} {mb : Nat} {sl kv : Value} {es : EL} {k : Bts} (h : RM w mb sl es) (hk : YAt (cfU w) kv k) (hl : es.length <= 1000000) :
  Calls Tryz.prog 30 #[.pointer (some ⟨mb, 0, none⟩), kv] w (MapPost (.bool (getE k es).isSome) mb sl (delE k es) w) := by
 have hC := ref_place h hk hl
 obtain ⟨ka, kc, rfl⟩ := hk.form
 obtain ⟨kl, hkl⟩ : ∃ x, x = k.length := ⟨_, rfl⟩
 rw [<- hkl] at hk hC |-
 obtain ⟨a, cap, rfl⟩ := h.at_.form
 obtain ⟨_, cap', e1, hle, hcap, _⟩ := h.at_
 obtain rfl : cap = cap' := by simp only [Value.slice.injEq] at e1; exact e1.2.2
 clear e1
 obtain ⟨m, hm⟩ : ∃ x, x = placeB k (es.map (·.1)) := ⟨_, rfl⟩
 obtain ⟨f, hf⟩ : ∃ x, x = foundB k (es.map (·.1)) := ⟨_, rfl⟩
 have hmn : m <= es.length := by rw [hm]; have := placeB_le k (es.map (·.1)); rwa [List.length_map] at this
 have hfn : f = true -> m + 1 <= es.length := fun e => by
  rw [hf] at e
  have := (List.getElem?_eq_some_iff.1 (of_decide_eq_true e)).1
  rw [<- hm, List.length_map] at this
  omega
 have HE := HoldT.mk (delE_parts k es)
 rw [<- hm, <- hf] at hC HE
 have HGE := HoldT.mk (found_get k es)
 rw [<- hf] at HGE
 rw [<- HGE.out]
 obtain ⟨n, hn⟩ : ∃ x, x = es.length := ⟨_, rfl⟩
 rw [<- hn] at h hl hle hmn hfn |-
 have HC := HoldT.mk hC
 have HH := HoldT.mk (And.intro h (And.intro hk (And.intro hk hn)))
 clear h hk hn hkl hm hf hC
 go_enter Tryz.func30, Tryz.ntmps30
 go_wp2_with fail
 refine HC.out.mono ?_
 rintro e w1 ⟨rfl, hb1⟩
 have HM1 := HoldT.mk (HH.out.1.below hb1)
 have hu1 := cfU_below hb1
 have HB1 := HoldT.mk hb1
 have hbx := HM1.out.box
 have x0 : w1.cell? ⟨mb, 0, none⟩ = some (.slice a n cap) := by simp [World.cell?, hbx]
 have hsl : ∀ w, (Instr.slice 38 (.slice a n cap) none (some (.int .i64 (m : Int))) none).run Tryz.prog w = .ok (.slice a m cap) w := fun w => slice_headR a n cap m (by omega) w
 obtain ⟨t1, ht1⟩ : ∃ t, t = es.take m := ⟨_, rfl⟩
 have hl1 : t1.length = m := by rw [ht1, List.length_take, <- HH.out.2.2.2]; omega
 have HS1 := HoldT.mk (show SAt 2 (RE (cfU w1)) (cfN (.slice none 0 0) w1) (.slice a m cap) t1 by
  rw [ht1]
  exact (SAt.take HM1.out.at_ (by rw [<- HH.out.2.2.2]; exact hmn)).mono (RE_mono _) (cle_cfN_old (Below.refl _ _) (fun g hg => by cases hg)))
 have HT1 := HoldT.mk (And.intro ht1 hl1)
 clear hb1 hu1 hbx ht1 hl1
 cases f
 ·have HP := HoldT.mk (show MapPost (.bool false) mb (.slice a n cap) (delE k es) w (.returned (.bool false)) w1 by
   rw [HE.out, if_neg (by decide)]
   exact ⟨_, rfl, HM1.out, TurnS.quiet HB1.out⟩)
  clear HE
  go_wp2_with fail
  go_ret
  exact HP.out
 go_wp2_with (at_builtin; refine push_src (RE_mono _) (RE_one _) rfl _ _ rfl infoR Tryz.underlying38 rfl (by decide) w1.heap.size _ _ 0 [] [] (OwnS.start 2 (RE (cfU w1)) _ (Nat.le_refl _)) rfl _ t1 HS1.out rfl (by rw [HT1.out.2]; omega) (by decide) ?_)
 intro sl2 w2 cs2 ho2 hg2
 rw [HT1.out.2] at ho2
 obtain ⟨a2, cap2, rfl⟩ := ho2.shape
 have hb2 : Below w1.heap.size w1 w2 := hg2.below (Nat.le_refl _) (fun g hg => by cases hg)
 have HO2 := HoldT.mk ho2
 have HB2 := HoldT.mk (HB1.out.trans (hb2.mono HB1.out.size))
 have HM2 := HoldT.mk (HM1.out.below hb2)
 have HB12 := HoldT.mk hb2
 clear ho2 hg2 hb2 x0 hsl
 have hbx := HM2.out.box
 have x0 : w2.cell? ⟨mb, 0, none⟩ = some (.slice a n cap) := by simp [World.cell?, hbx]
 clear hbx
 have hm2n : m + 1 <= n := hfn trivial
 obtain ⟨a', hsl0, hsl1⟩ := slice_tail (n := 2) Tryz.underlying38 (by kernel_rfl) infoR a n cap (m + 1) hm2n hle hcap
 have hsl : ∀ w, (Instr.slice 38 (.slice a n cap) (some (.int .i64 ((m : Int) + 1))) none none).run Tryz.prog w = .ok (.slice a' (n - (m + 1)) (cap - (m + 1))) w := hsl0
 obtain ⟨t3, ht3⟩ : ∃ t, t = es.drop (m + 1) := ⟨_, rfl⟩
 have hl3 : t3.length = n - (m + 1) := by rw [ht3, List.length_drop, HH.out.2.2.2]
 have HS3 := HoldT.mk (show SAt 2 (RE (cfU w1)) (cfN (.slice a2 m cap2) w2) (.slice a' (n - (m + 1)) (cap - (m + 1))) t3 by
  rw [ht3]
  exact ((hsl1 HH.out.2.2.2.symm HM1.out.at_).mono (RE_mono _) (cle_cfN_old HB12.out (fun g hg => (HO2.out.low g hg).1))))
 have HT3 := HoldT.mk (And.intro ht3 hl3)
 have hdl : t3.length <= 1000000 := by omega
 clear hsl0 hsl1 ht3 hl3
 go_wp2_with (at_builtin; refine push_src (RE_mono _) (RE_one _) rfl _ _ rfl infoR Tryz.underlying38 rfl (by decide) w1.heap.size _ _ (m) _ _ HO2.out rfl _ t3 HS3.out rfl (by omega) (by decide) ?_)
 intro sl4 w4 cs4 ho4 hg4
 obtain ⟨a4, cap4, rfl⟩ := ho4.shape
 have hb4 : Below w1.heap.size w2 w4 := hg4.below (HO2.out.le) (fun g hg => (HO2.out.low g hg).1)
 have hb14 := HB2.out.trans (hb4.mono HB1.out.size)
 have hb24 := HB12.out.trans (hb4.mono (Nat.le_refl _))
 have hM4 := HH.out.1.below hb14
 have x1 : w4.cell? ⟨mb, 0, none⟩ = some (.slice a n cap) := by have := hM4.box; simp [World.cell?, this]
 have f1 : w4.frozen? ⟨mb, 0, none⟩ = false := by have := hM4.box; simp [World.frozen?, this]
 have HP := HoldT.mk (fun v => map_set (w1 := w1) (es2 := t1 ++ t3) (cs := cs4) HH.out.1 hb14 (by rw [List.length_append, HT1.out.2]; exact ho4) HB1.out.size (cfU_below hb24) v)
 clear ho4 hg4 hb4 hb14 hb24 hM4 hsl hdl x0
 go_wp2_with fail
 go_ret
 have := HP.out (.bool true)
 rw [HE.out, if_pos trivial, <- HT1.out.1, <- HT3.out.1]
 exact this
end Go.Proofs.YtmiphphombkpdaaGreat
namespace Go.Proofs.YtmiphphombkpdaaGreat
open Go.RowKit Go.Maps
def askE (back : Bool) (f t : Bts) (most : Int) (es : EL) : EL := (rngE f t (ordE back es)).take most.toNat
theorem rng_next {f t : Bts} {es : EL} {j : Nat} {x : Bts × Bts} (h : es[j]? = some x) : rngE f t (es.take (j + 1)) = rngE f t (es.take j) ++ if inR f t x.1 = true then [x] else [] := by
 rw [take_succ h, rng_app]
 congr 1
 unfold rngE
 cases e : inR f t x.1 with
 | true => simp [e]
 | false => simp [e]
structure Got (u : CF) (w wr : World) (s : Value) (ls : EL) : Prop where
 row : ∃ cs, OwnS 2 (RE u) 46 w.heap.size wr s ls.length ls cs
 bel : Below w.heap.size w wr
theorem Got.quiet {u : CF} {w wr w2 : World} {s : Value} {ls : EL} (h : Got u w wr s ls) (hb : Below wr.heap.size wr w2) : Got u w w2 s ls := by
 obtain ⟨cs, ho⟩ := h.row
 exact ⟨⟨cs, ho.quiet (RE_mono _) hb⟩, h.bel.trans (hb.mono h.bel.size)⟩
set_option maxHeartbeats 16000000 in
set_option maxRecDepth 100000 in
theorem ref_Range {w : World} {mb : Nat} {sl fv tv : Value} {es : EL} {f t : Bts} {most : Int} {back : Bool} (h : RM w mb sl es) (hf : YAt (cf w) fv f) (ht : YAt (cf w) tv t) (hl : es.length <= 1000000) :
  Calls Tryz.prog 18 #[.pointer (some ⟨mb, 0, none⟩), fv, tv, .int .i64 most, .bool back] w fun e w' => ∃ sv, e = .returned sv /\ Got (cfU w') w w' sv (askE back f t most es) := by
 obtain ⟨fa, fc, rfl⟩ := hf.form
 obtain ⟨ta, tc, rfl⟩ := ht.form
 obtain ⟨fl, hfl⟩ : ∃ x, x = f.length := ⟨_, rfl⟩
 obtain ⟨tl, htl⟩ : ∃ x, x = t.length := ⟨_, rfl⟩
 rw [<- hfl] at hf |-
 rw [<- htl] at ht |-
 obtain ⟨a, cap, rfl⟩ := h.at_.form
 obtain ⟨n, hn⟩ : ∃ x, x = es.length := ⟨_, rfl⟩
 rw [<- hn] at h hl
 have HH := HoldT.mk (And.intro h (And.intro hf (And.intro ht (And.intro hn htl))))
 have HFT := HoldT.mk htl
 clear h hf ht hn hfl htl
 go_enter Tryz.func18, Tryz.ntmps18
 go_wp2_with fail
 go_loopw [11, 12] (fun s11 s12 wr => ∃ (j : Nat) (ls : EL), s12 = .int .i64 (j : Int) /\ j <= n /\ HoldT (ls = rngE f t (es.take j) /\ Got (cfU w) w wr s11 ls)) (fun _ s12 _ => n - (intOf s12).toNat)
 case atStart => exact ⟨0, [], rfl, Nat.zero_le _, ⟨rfl, ⟨[], OwnS.start 2 _ _ (Nat.le_refl _)⟩, Below.refl _ _⟩⟩
 case round =>
  obtain ⟨j, ls, rfl, hj, HG⟩ := hrel
  obtain ⟨csr, hor⟩ := HG.out.2.row
  obtain ⟨la, lcap, rfl⟩ := hor.shape
  have hp : ls.length <= j := by
   rw [HG.out.1]
   exact Nat.le_trans (List.length_filter_le ..) (List.length_take_le ..)
  obtain ⟨p, hpl⟩ : ∃ p, p = ls.length := ⟨_, rfl⟩
  rw [<- hpl] at HG hp |-
  have HPL := HoldT.mk hpl
  have hM2 := HH.out.1.below HG.out.2.bel
  have hbx := hM2.box
  clear hor hpl
  have x0 : wr.cell? ⟨mb, 0, none⟩ = some (.slice a n cap) := by simp [World.cell?, hbx]
  by_cases hlt : j < n
  ·obtain ⟨x, hx⟩ : ∃ x, es[j]? = some x := ⟨es[j]'(by rw [<- HH.out.2.2.2.1]; exact hlt), List.getElem?_eq_getElem _⟩
   obtain ⟨b, off, xa, xc, ya, yc, rfl, z0, z1, hy1, hy2⟩ := row_at HH.out.1.at_ hx
   obtain ⟨fa2, fc2, e9⟩ := HH.out.2.1.form
   simp only [Value.slice.injEq] at e9
   obtain ⟨tc9, tl9, e8⟩ := HH.out.2.2.1.form
   simp only [Value.slice.injEq] at e8
   obtain ⟨xl, hxl⟩ : ∃ q, q = x.1.length := ⟨_, rfl⟩
   obtain ⟨yl, hyl⟩ : ∃ q, q = x.2.length := ⟨_, rfl⟩
   rw [<- hxl] at z0 hy1
   rw [<- hyl] at z1 hy2
   have HX := HoldT.mk (And.intro hx (And.intro z0 (And.intro z1 (And.intro hy1 hy2))))
   clear hx z0 z1 hy1 hy2 hxl hyl e9 e8
   have HC := HoldT.mk (fun (ww : World) (hb : Below w.heap.size w ww) => And.intro (Less4_any x.1 f (.slice xa xl xc) (.slice fa fl fc) ww (ybytes (HX.out.2.2.2.1.mono RY_mono (cfU_below hb))) (YAt.bytes (HH.out.2.1.mono RY_mono (cle_below hb)))) (Less4_any x.1 t (.slice xa xl xc) (.slice ta tl tc) ww (ybytes (HX.out.2.2.2.1.mono RY_mono (cfU_below hb))) (YAt.bytes (HH.out.2.2.1.mono RY_mono (cle_below hb)))))
   have hC1 := (HC.out wr HG.out.2.bel).1
   have c0 := cle_below HG.out.2.bel _ _ _ (show cf w b (off + j * 2) = some (.slice xa xl xc) from HX.out.2.1)
   unfold cf at c0
   obtain ⟨l1, hl1⟩ : ∃ q, q = lessY x.1 f := ⟨_, rfl⟩
   obtain ⟨l2, hl2⟩ : ∃ q, q = lessY x.1 t := ⟨_, rfl⟩
   rw [<- hl1] at hC1
   have HN := HoldT.mk (show rngE f t (es.take (j + 1)) = ls ++ if (!l1 && (decide (tl = 0) || l2)) = true then [x] else [] by
    rw [rng_next HX.out.1, <- HG.out.1, HFT.out]
    unfold inR
    rw [show ltB x.1 f = l1 from hl1.symm, show ltB x.1 t = l2 from hl2.symm]
    congr 4
    by_cases e : t = []
    ·simp [e]
    ·simp [e])
   have HC1 := HoldT.mk hC1
   have HL2 := HoldT.mk hl2
   clear hl1 hl2 hC1
   go_wp2_with fail
   refine HC1.out.mono ?_
   rintro e w1 ⟨rfl, hb1⟩
   have HG1 := HoldT.mk (HG.out.2.quiet hb1)
   have hbx := (HH.out.1.below HG1.out.bel).box
   replace x0 : w1.cell? ⟨mb, 0, none⟩ = some (.slice (some ⟨b, off, none⟩) n cap) := by simp [World.cell?, hbx]
   replace c0 := cle_below HG1.out.bel _ _ _ (show cf w b (off + j * 2) = some (.slice xa xl xc) from HX.out.2.1)
   have c1 := cle_below HG1.out.bel _ _ _ (show cf w b (off + j * 2 + 1) = some (.slice ya yl yc) from HX.out.2.2.1)
   unfold cf at c0 c1
   clear hb1 hbx HG HC1
   cases l1 with
   | true =>
    have HNX := HoldT.mk (And.intro HN.out.symm HG1.out)
    simp only [Bool.not_true, Bool.false_and, Bool.false_eq_true, if_false, List.append_nil] at HNX
    go_wp2_with fail
    exact ⟨⟨j + 1, ls, by go_num, hlt, HNX⟩, by simp [intOf]; omega⟩
   | false =>
    by_cases h0 : tl = 0
    ·have hz : ((tl : Int) == 0) = true := by rw [h0]; rfl
     have HNX := HoldT.mk HN.out
     rw [decide_eq_true h0] at HNX
     simp only [Bool.not_false, Bool.true_and, Bool.true_or, if_true] at HNX
     clear h0
     obtain ⟨cs1, ho1⟩ := HG1.out.row
     rw [<- HPL.out] at ho1
     have HO1 := HoldT.mk ho1
     clear ho1
     go_wp2_with (at_builtin; refine push_new (RE_mono _) rfl _ _ rfl infoR Tryz.underlying38 rfl (by decide) w.heap.size _ _ p _ _ HO1.out rfl _ [.slice xa xl xc, .slice ya yl yc] rfl rfl (by simp [Value.oneCell']) x ⟨_, _, rfl, HX.out.2.2.2.1, HX.out.2.2.2.2⟩ _ rfl rfl (by omega) (by decide) ?_)
     intro sl5 w5 ho5 hg5
     obtain ⟨a5, cap5, rfl⟩ := ho5.shape
     have HE := HoldT.mk (And.intro HNX.out.symm (show Got (cfU w) w w5 (.slice a5 (p + 1) cap5) (ls ++ [x]) from ⟨⟨_, by rw [List.length_append, <- HPL.out]; exact ho5⟩, HG1.out.bel.trans (HO1.out.below hg5)⟩))
     clear ho5 hg5
     go_wp2_with fail
     exact ⟨⟨j + 1, _, by go_num, hlt, HE⟩, by simp [intOf]; omega⟩
    ·have hz : ((tl : Int) == 0) = false := by rw [beq_eq_false_iff_ne]; omega
     have hC2 := (HC.out w1 HG1.out.bel).2
     rw [<- HL2.out] at hC2
     have HNX := HoldT.mk HN.out
     rw [decide_eq_false h0] at HNX
     simp only [Bool.not_false, Bool.true_and, Bool.false_or] at HNX
     have HC2 := HoldT.mk hC2
     clear h0 hC2
     go_wp2_with fail
     refine HC2.out.mono ?_
     rintro e w2 ⟨rfl, hb2⟩
     have HG2 := HoldT.mk (HG1.out.quiet hb2)
     have hbx := (HH.out.1.below HG2.out.bel).box
     replace x0 : w2.cell? ⟨mb, 0, none⟩ = some (.slice (some ⟨b, off, none⟩) n cap) := by simp [World.cell?, hbx]
     replace c0 := cle_below HG2.out.bel _ _ _ (show cf w b (off + j * 2) = some (.slice xa xl xc) from HX.out.2.1)
     replace c1 := cle_below HG2.out.bel _ _ _ (show cf w b (off + j * 2 + 1) = some (.slice ya yl yc) from HX.out.2.2.1)
     unfold cf at c0 c1
     clear hb2 hbx HG1 HC2
     cases l2 with
     | true =>
      rw [if_pos rfl] at HNX
      obtain ⟨cs1, ho1⟩ := HG2.out.row
      rw [<- HPL.out] at ho1
      have HO1 := HoldT.mk ho1
      clear ho1
      go_wp2_with (at_builtin; refine push_new (RE_mono _) rfl _ _ rfl infoR Tryz.underlying38 rfl (by decide) w.heap.size _ _ p _ _ HO1.out rfl _ [.slice xa xl xc, .slice ya yl yc] rfl rfl (by simp [Value.oneCell']) x ⟨_, _, rfl, HX.out.2.2.2.1, HX.out.2.2.2.2⟩ _ rfl rfl (by omega) (by decide) ?_)
      intro sl5 w5 ho5 hg5
      obtain ⟨a5, cap5, rfl⟩ := ho5.shape
      have HE := HoldT.mk (And.intro HNX.out.symm (show Got (cfU w) w w5 (.slice a5 (p + 1) cap5) (ls ++ [x]) from ⟨⟨_, by rw [List.length_append, <- HPL.out]; exact ho5⟩, HG2.out.bel.trans (HO1.out.below hg5)⟩))
      clear ho5 hg5
      go_wp2_with fail
      exact ⟨⟨j + 1, _, by go_num, hlt, HE⟩, by simp [intOf]; omega⟩
     | false =>
      rw [if_neg (by decide), List.append_nil] at HNX
      have HE := HoldT.mk (And.intro HNX.out.symm HG2.out)
      go_wp2_with fail
      exact ⟨⟨j + 1, ls, by go_num, hlt, HE⟩, by simp [intOf]; omega⟩
  ·obtain rfl : j = n := by omega
   have HLS := HoldT.mk (show ls = rngE f t es by rw [HG.out.1, HH.out.2.2.2.1, List.take_of_length_le (Nat.le_refl _)])
   have HGL := HoldT.mk HG.out.2
   clear HG hM2 hbx
   go_wp2_with fail
   clear x0
   obtain ⟨wl, rfl⟩ : ∃ wl, wl = wr := ⟨wr, rfl⟩
   go_loopw [13, 14] (fun s13 s14 wr => ∃ (i : Nat) (os : EL), s14 = .int .i64 (i : Int) /\ i <= p /\ ((i : Int) <= most \/ i = 0) /\ HoldT (os = (ordE back ls).take i /\ os.length = i /\ Got (cfU w) wl wr s13 os)) (fun _ s14 _ => p - (intOf s14).toNat)
   case atStart => exact ⟨0, [], rfl, Nat.zero_le _, .inr rfl, ⟨by simp, rfl, ⟨[], OwnS.start 2 _ _ (Nat.le_refl _)⟩, Below.refl _ _⟩⟩
   case round =>
    obtain ⟨i, os, rfl, hi, him, HO⟩ := hrel
    obtain ⟨cso, hoo⟩ := HO.out.2.2.row
    rw [HO.out.2.1] at hoo
    obtain ⟨oa, ocap, rfl⟩ := hoo.shape
    by_cases hgo : i < p /\ (i : Int) < most
    ·obtain ⟨h1, h2⟩ := hgo
     obtain ⟨x, hx⟩ : ∃ x, (ordE back ls)[i]? = some x := ⟨(ordE back ls)[i]'(by unfold ordE; split <;> (try rw [List.length_reverse]) <;> (rw [<- HPL.out]; exact h1)), List.getElem?_eq_getElem _⟩
     have HNX := HoldT.mk (show (ordE back ls).take (i + 1) = os ++ [x] by rw [take_succ hx, <- HO.out.1])
     rw [ord_get back ls (by rw [<- HPL.out]; exact h1), <- HPL.out] at hx
     obtain ⟨csl, hol⟩ := HGL.out.row
     have hat := hol.at_ (RE_mono _)
     obtain ⟨b, off, xa, xc, ya, yc, e0, z0, z1, hy1, hy2⟩ := row_at hat hx
     subst e0
     obtain ⟨xl, hxl⟩ : ∃ q, q = x.1.length := ⟨_, rfl⟩
     obtain ⟨yl, hyl⟩ : ∃ q, q = x.2.length := ⟨_, rfl⟩
     rw [<- hxl] at z0 hy1
     rw [<- hyl] at z1 hy2
     have HX := HoldT.mk (And.intro hy1 hy2)
     have c0 := cle_below HO.out.2.2.bel _ _ _ (show cf wl b (off + ordI back p i * 2) = some (.slice xa xl xc) from z0)
     have c1 := cle_below HO.out.2.2.bel _ _ _ (show cf wl b (off + ordI back p i * 2 + 1) = some (.slice ya yl yc) from z1)
     unfold cf at c0 c1
     have HOO := HoldT.mk hoo
     clear hx hol hat z0 z1 hy1 hy2 hxl hyl hoo
     have b1 : decide ((i : Int) < (p : Int)) = true := decide_eq_true (by omega)
     have b2 : decide ((i : Int) < most) = true := decide_eq_true h2
     cases back
     ·have hq : ordI false p i = i := rfl
      rw [hq] at c0 c1
      clear hq
      go_wp2_with (at_builtin; refine push_new (RE_mono _) rfl _ _ rfl infoR Tryz.underlying38 rfl (by decide) wl.heap.size _ _ i _ _ HOO.out rfl _ [.slice xa xl xc, .slice ya yl yc] rfl rfl (by simp [Value.oneCell']) x ⟨_, _, rfl, HX.out.1, HX.out.2⟩ _ rfl rfl (by omega) (by decide) ?_)
      intro sl5 w5 ho5 hg5
      obtain ⟨a5, cap5, rfl⟩ := ho5.shape
      have HE := HoldT.mk (And.intro HNX.out.symm (And.intro (show (os ++ [x]).length = i + 1 by rw [List.length_append, HO.out.2.1]; rfl) (show Got (cfU w) wl w5 (.slice a5 (i + 1) cap5) (os ++ [x]) from ⟨⟨_, by rw [List.length_append, HO.out.2.1]; exact ho5⟩, HO.out.2.2.bel.trans (HOO.out.below hg5)⟩)))
      clear ho5 hg5
      go_wp2_with fail
      exact ⟨⟨i + 1, _, by go_num, h1, .inl (by omega), HE⟩, by simp [intOf]; omega⟩
     ·obtain ⟨q, hq⟩ : ∃ q, q = ordI true p i := ⟨_, rfl⟩
      have hqe : (p : Int) - 1 - (i : Int) = (q : Int) := by rw [hq]; unfold ordI; simp; omega
      have hqp : q < p := by rw [hq]; unfold ordI; simp; omega
      rw [<- hq] at c0 c1
      clear hq
      go_wp2_with (at_builtin; refine push_new (RE_mono _) rfl _ _ rfl infoR Tryz.underlying38 rfl (by decide) wl.heap.size _ _ i _ _ HOO.out rfl _ [.slice xa xl xc, .slice ya yl yc] rfl rfl (by simp [Value.oneCell']) x ⟨_, _, rfl, HX.out.1, HX.out.2⟩ _ rfl rfl (by omega) (by decide) ?_)
      intro sl5 w5 ho5 hg5
      obtain ⟨a5, cap5, rfl⟩ := ho5.shape
      have HE := HoldT.mk (And.intro HNX.out.symm (And.intro (show (os ++ [x]).length = i + 1 by rw [List.length_append, HO.out.2.1]; rfl) (show Got (cfU w) wl w5 (.slice a5 (i + 1) cap5) (os ++ [x]) from ⟨⟨_, by rw [List.length_append, HO.out.2.1]; exact ho5⟩, HO.out.2.2.bel.trans (HOO.out.below hg5)⟩)))
      clear ho5 hg5
      go_wp2_with fail
      exact ⟨⟨i + 1, _, by go_num, h1, .inl (by omega), HE⟩, by simp [intOf]; omega⟩
    ·have HR := HoldT.mk (show askE back f t most es = os by
      unfold askE
      rw [rng_ord, <- HLS.out, HO.out.1]
      have hlen : (ordE back ls).length = p := by unfold ordE; split <;> (try rw [List.length_reverse]) <;> exact HPL.out.symm
      by_cases h1 : i < p
      ·rw [show most.toNat = i by have : ¬ (i : Int) < most := fun e => hgo ⟨h1, e⟩; omega]
      ·rw [List.take_of_length_le (by omega), List.take_of_length_le (by omega)])
     have HOO := HoldT.mk hoo
     have HG3 := HoldT.mk (show HoldT (∀ w', w' = wr -> Got (cfU w') w w' (.slice oa i ocap) (askE back f t most es)) from ⟨fun w' e => by
      subst e
      rw [HR.out]
      have hb := HGL.out.bel.trans (HO.out.2.2.bel.mono HGL.out.bel.size)
      exact ⟨⟨cso, by rw [HO.out.2.1]; exact (own_base HOO.out HGL.out.bel.size).rep (RE_le (cfU_below hb))⟩, hb⟩⟩)
     have hex : (decide ((i : Int) < (p : Int)) && decide ((i : Int) < most)) = false := by
      rw [Bool.and_eq_false_iff, decide_eq_false_iff_not, decide_eq_false_iff_not]
      by_cases h1 : i < p
      ·exact .inr fun e => hgo ⟨h1, e⟩
      ·exact .inl (by omega)
     clear hoo
     by_cases h1 : (i : Int) < (p : Int)
     ·have b2 : decide ((i : Int) < most) = false := decide_eq_false fun e => hgo ⟨by omega, e⟩
      clear hex hgo
      go_wp2_with fail
      go_ret
      exact ⟨_, rfl, HG3.out.out _ rfl⟩
     ·have b1 : decide ((i : Int) < (p : Int)) = false := decide_eq_false h1
      clear hex hgo
      go_wp2_with fail
      go_ret
      exact ⟨_, rfl, HG3.out.out _ rfl⟩
end Go.Proofs.YtmiphphombkpdaaGreat
