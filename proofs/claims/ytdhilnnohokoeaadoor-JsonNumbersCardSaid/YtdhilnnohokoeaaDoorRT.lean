/- JsonNumbers walked. -/
import Derived.Test.YtdhilnnohokoeaaDoorRS
import Derived.Test.YtdhilnnohokoeaaDoorPF
import Derived.Test.YtdhilnnohokoeaaDoorPR
namespace Go.Proofs.YtdhilnnohokoeaaDoor
open Go.Shelf Go.RowKit

/-- Read at a text whose first byte that is no blank opens no list -/
theorem Read_num (n : Int) (hn : (Lit.int .i64 n).wf = true) (a b : Nat) (w : World) (hT : Tabs w) (hE : Errs w.heap.size w) :
    Calls Tryd.prog 7 #[.string (ba (numText n a b))] w fun e w' => Below w.heap.size w w' ∧ ∃ na nl nc ia il ic, e = .returned (.tuple #[.agg #[.int .i64 3, .int .i64 n, .string ⟨#[]⟩, .slice na nl nc, .slice ia il ic], .int .i64 0]) := by
  have h0 := (wf_i64 hn).1
  have h1 := (wf_i64 hn).2
  have hl : (ba (numText n a b)).size ≤ 1000000 := by
    rw [ba_size]
    have e : (ba (Lib.itoa n)).size = (Lib.itoa n).length := rfl
    have h2 := itoa_size h0 h1
    have h3 := space_len a
    have h4 := space_len b
    unfold numText
    rw [List.length_append, List.length_append]; omega
  refine (Read_step (ba (numText n a b)) w hl hT hE (fun bb ww hr he => ?_)).mono ?_
  · refine value_step bb _ (2 * (ba (numText n a b)).size) hl 0 ww hr he (fun ⟨k, r, hk, hs⟩ => ?_)
    rw [dl_zero, ba_list, num_skip] at hs
    obtain ⟨c, l, e, hc, _⟩ := itoa_first n
    rw [e, List.cons_append] at hs
    have hcc := (List.cons.inj hs).1
    obtain ⟨_, _, _, _, h91, h123⟩ := dig_not hc
    rcases hk with rfl | rfl
    · exact absurd hcc h91
    · exact absurd hcc h123
  · rintro e w' ⟨hb, x, rfl, hj⟩
    rw [ba_list, num_read h0 h1] at hj ⊢
    obtain ⟨k, m, t, nm, it, na, ncap, ia, icap, hv, rfl, _⟩ := hj.open
    cases hv
    exact ⟨hb, _, _, _, _, _, _, rfl⟩

def spaceS (k : Nat) : ByteArray := ba (spaceB k)
theorem text_cat (n : Int) (a b : Nat) : spaceS a ++ ba (Lib.itoa n) ++ spaceS b = ba (numText n a b) := by
  unfold spaceS numText
  rw [ba_add, ba_add, List.append_assoc]
theorem ltR2 {w : World} {k : Nat} {o : Obj} (h : w.heap[k]? = some o) : k < w.heap.size := (Array.getElem?_eq_some_iff.1 h).1
theorem u8_wrap (n : Nat) : IntKind.u8.wrap ((n % 4 : Nat) : Int) = ((n % 4 : Nat) : Int) := by
  simp [IntKind.wrap, IntKind.bits, IntKind.signed]; omega
theorem spaceS_size (k : Nat) : (spaceS k).size ≤ 2 := by
  unfold spaceS
  rw [ba_size]
  exact space_len k
theorem itoa_room {n : Int} (hn : (Lit.int .i64 n).wf = true) : (ba (Lib.itoa n)).size ≤ 21 := by
  have h := wf_i64 hn
  exact itoa_size h.1 h.2
theorem mod_four (m : Nat) : Int.tmod (m : Int) 4 = ((m % 4 : Nat) : Int) := by
  rw [Int.tmod_eq_emod_of_nonneg (by omega)]
  omega
theorem space_cell {w : World} {b : Nat} (h : w.heap[b]? = some (.cells #[.string ⟨#[]⟩, .string ⟨#[32]⟩, .string ⟨#[9, 10]⟩, .string ⟨#[13, 32]⟩] 36 (0, 0))) {r : Nat} (hr : r < 4) : w.cell? ⟨b, r, none⟩ = some (.string (spaceS r)) := by
  have k : r = 0 ∨ r = 1 ∨ r = 2 ∨ r = 3 := by omega
  rcases k with rfl | rfl | rfl | rfl <;> (simp [World.cell?, h]; rfl)
theorem cells_pq {w : World} {b : Nat} {x y : Value} {t : TypeId} (h : w.heap[b]? = some (.cells #[x, y] t (0, 0))) : w.cell? ⟨b, 0, none⟩ = some x ∧ w.cell? ⟨b, 1, none⟩ = some y := by simp [World.cell?, h]

theorem num_show (n : Int) : showF 6 (numJ n) = Lib.itoa n := by
  unfold numJ showF
  simp
theorem num_at (c : CF) (n : Int) (hn : (Lit.int .i64 n).wf = true) : JAt c (numJ n) (.agg #[.int .i64 3, .int .i64 n, .string ⟨#[]⟩, .slice none 0 0, .slice none 0 0]) := jat_leaf c 3 n ⟨#[]⟩ (by kernel_rfl) hn (by decide)
theorem num_print (n : Int) (w : World) (hn : (Lit.int .i64 n).wf = true) (hT : Tabs w) (hP : Pow w.heap.size w) :
    Calls Tryd.prog 10 #[.agg #[.int .i64 3, .int .i64 n, .string ⟨#[]⟩, .slice none 0 0, .slice none 0 0]] w fun e w' => e = .returned (.tuple #[.string (ba (Lib.itoa n)), .int .i64 0]) ∧ Below w.heap.size w w' := by
  have h := Print_yes (numJ n) _ w (num_at _ n hn) hT hP (num_formed n)
  rw [num_show] at h
  exact h
theorem Errs.next {w w' : World} (h : Errs w.heap.size w) (hb : Below w.heap.size w w') : Errs w'.heap.size w' := by
  have h2 := h.below hb
  exact ⟨Nat.lt_of_lt_of_le h2.g1 hb.size, Nat.lt_of_lt_of_le h2.g2 hb.size, h2.syn, h2.rng⟩

theorem stored_num {w wd W5 : World} {N : Nat} (x0 x1 x2 x3 x4 : Value) (hB : Below w.heap.size w W5) (hN : w.heap.size ≤ N) (hG : Below wd.heap.size wd W5) (hN2 : wd.heap.size ≤ N) (hv : W5.heap[N]? = some (.cells zero5R 26 (0, 0))) :
    ∃ W2, W2 = set5R W5 N x0 x1 x2 x3 x4 ∧ Below wd.heap.size wd W2 ∧ Below w.heap.size w W2 ∧ W2.heap[N]? = some (.cells #[x0, x1, x2, x3, x4] 26 (0, 0)) :=
  ⟨_, rfl, hG.trans ((set5R_but _ _ _ _ _ _ _).below hN2 (ltR hv)), hB.trans ((set5R_but _ _ _ _ _ _ _).below hN (ltR hv)), set5R_self hv⟩

set_option maxHeartbeats 16000000 in
set_option maxRecDepth 100000 in
theorem jsonNumbers_walk (n : Int) (p q : Nat) (w : World) (hn : (Lit.int .i64 n).wf = true) (hT : Tabs w) (hP : Pow w.heap.size w) (hE : Errs w.heap.size w) :
    Calls Tryd.prog 5 #[.int .i64 n, .agg #[.int .u8 p, .int .u8 q]] w fun e w' => e = .returned (.bool true) ∧ Below w.heap.size w w' := by
  obtain ⟨W, hW⟩ : ∃ W, W = w.alloc (.cells #[.int .u8 p, .int .u8 q] 35) := ⟨_, rfl⟩
  have HB : Hold (Below w.heap.size w W) := ⟨by rw [hW]; exact (Below.refl _ w).alloc (Nat.le_refl _) _⟩
  have HX : Hold (W.heap[w.heap.size]? = some (.cells #[.int .u8 p, .int .u8 q] 35 (0, 0))) := ⟨by rw [hW]; exact heap_alloc_new w _⟩
  have hWs : w.heap.size < W.heap.size := by rw [hW]; simp
  have HT := Hold.mk (hT.below HB.out)
  have HP := Hold.mk (Pow.below hP HB.out)
  have HE := Hold.mk (hE.next HB.out)
  have HN := Hold.mk hn
  have HA := Hold.mk (awake_any W HT.out)
  clear hT hP hE hn
  go_enter Tryd.func5, Tryd.ntmps5
  go_upto_region 1 with (fail)
  rw [← hW]
  clear hW
  go_wp2_with fail
  refine HA.out.mono ?_
  rintro e w1 ⟨rfl, hb1⟩
  replace HB := Hold.mk (HB.out.trans (hb1.mono (Nat.le_of_lt hWs)))
  replace HX := Hold.mk (keptR HX.out hb1)
  replace HT := Hold.mk (HT.out.below hb1)
  replace HP := Hold.mk (Pow.below HP.out hb1)
  replace HE := Hold.mk (HE.out.next hb1)
  have hs1 : w.heap.size < w1.heap.size := Nat.lt_of_lt_of_le hWs hb1.size
  have HR := Hold.mk (num_print n w1 HN.out HT.out HP.out)
  clear hb1 HA
  go_wp2_with fail
  refine HR.out.mono ?_
  rintro e w2 ⟨rfl, hb2⟩
  replace HB := Hold.mk (HB.out.trans (hb2.mono (Nat.le_of_lt hs1)))
  replace HX := Hold.mk (keptR HX.out hb2)
  replace HT := Hold.mk (HT.out.below hb2)
  replace HE := Hold.mk (HE.out.next hb2)
  have hs2 : w.heap.size < w2.heap.size := Nat.lt_of_lt_of_le hs1 hb2.size
  clear hb2 HR HP hs1 hWs W
  obtain ⟨W, hW⟩ : ∃ W, W = w2.alloc (.cells #[.string ⟨#[]⟩, .string ⟨#[32]⟩, .string ⟨#[9, 10]⟩, .string ⟨#[13, 32]⟩] 36) := ⟨_, rfl⟩
  have hb3 : Below w2.heap.size w2 W := by rw [hW]; exact (Below.refl _ w2).alloc (Nat.le_refl _) _
  have HY : Hold (W.heap[w2.heap.size]? = some (.cells #[.string ⟨#[]⟩, .string ⟨#[32]⟩, .string ⟨#[9, 10]⟩, .string ⟨#[13, 32]⟩] 36 (0, 0))) := ⟨by rw [hW]; exact heap_alloc_new w2 _⟩
  replace HB := Hold.mk (HB.out.trans (hb3.mono (Nat.le_of_lt hs2)))
  replace HX := Hold.mk (keptR HX.out hb3)
  replace HT := Hold.mk (HT.out.below hb3)
  replace HE := Hold.mk (HE.out.next hb3)
  clear hb3
  go_upto_region 5 with (fail)
  rw [← hW]
  clear hW
  obtain ⟨wd, hwd⟩ : ∃ wd, wd = W.drew := ⟨_, rfl⟩
  refine wp_region_mixC (GrowC wd) 20 rfl (by kernel_rfl) ?_
  rw [← hwd]
  have hbd : Below W.heap.size W wd := by rw [hwd]; exact (Below.refl _ W).drew
  have hsW : w.heap.size < W.heap.size := Nat.lt_trans hs2 (ltR2 HY.out)
  replace HB := Hold.mk (HB.out.trans (hbd.mono (Nat.le_of_lt hsW)))
  replace HX := Hold.mk (keptR HX.out hbd)
  replace HY := Hold.mk (keptR HY.out hbd)
  replace HT := Hold.mk (HT.out.below hbd)
  replace HE := Hold.mk (HE.out.next hbd)
  clear hbd hwd hsW
  obtain ⟨x0, x1⟩ := cells_pq HX.out
  have x0 := Grow.cell x0
  have x1 := Grow.cell x1
  have y0 := Grow.cell (space_cell HY.out (Nat.mod_lt p (by decide)))
  have y1 := Grow.cell (space_cell HY.out (Nat.mod_lt q (by decide)))
  have m0 := mod_four p
  have m1 := mod_four q
  have n0 := u8_wrap p
  have n1 := u8_wrap q
  have l0 : p % 4 < 4 := Nat.mod_lt _ (by decide)
  have l1 : q % 4 < 4 := Nat.mod_lt _ (by decide)
  have c0 := spaceS_size (p % 4)
  have c1 := spaceS_size (q % 4)
  have c2 := itoa_room HN.out
  have c3 : ¬ 9223372036854775807 < (spaceS (p % 4)).size + (ba (Lib.itoa n)).size := by omega
  have c4 : ¬ 9223372036854775807 < (spaceS (p % 4)).size + (ba (Lib.itoa n)).size + (spaceS (q % 4)).size := by omega
  clear c0 c1 c2
  have HRD : Hold (∀ w', Below wd.heap.size wd w' → Calls Tryd.prog 7 #[.string (spaceS (p % 4) ++ ba (Lib.itoa n) ++ spaceS (q % 4))] w' fun e w2 => Below w'.heap.size w' w2 ∧ ∃ na nl nc ia il ic, e = .returned (.tuple #[.agg #[.int .i64 3, .int .i64 n, .string ⟨#[]⟩, .slice na nl nc, .slice ia il ic], .int .i64 0])) := ⟨fun w' hb => by
    rw [text_cat]
    exact Read_num n HN.out (p % 4) (q % 4) w' (HT.out.below hb) (HE.out.next hb)⟩
  refine mixl_seg (by kernel_rfl) (fun _ _ d _ _ h => by cases d <;> exact h) [0, 1, 2, 3, 4, 5, 6, 7, 8, 9, 10, 11, 12] [_, _, _, _, _, _, _, _, _, _, _, _, _] 7 20 rfl _ _ _ rfl (by kernel_rfl) (growC (Below.refl _ _)) ?_
  repeat (go_big_quiet_step (fail))
  refine wpQuiet_nil ?_
  have hlw := ltR2 HX.out
  refine mixl_two (i := 13) (j := 17) rfl rfl (by kernel_rfl) (growC (Below.refl _ _)) rfl rfl (fun K hK => ?_) (fun K hK => ?_)
  · go_wp2_with fail
    refine (HRD.out wd (Below.refl _ _)).mono ?_
    rintro e w4 ⟨hb4, na, nl, nc, ia, il, ic, rfl⟩
    replace HB := Hold.mk (HB.out.trans (hb4.mono (Nat.le_of_lt hlw)))
    have HG := Hold.mk hb4
    have hl4 := hb4.size
    clear x0 x1 y0 y1 hb4 HRD
    go_wp2_with fail
    refine mixl_seg (by kernel_rfl) (fun _ _ d _ _ h => by cases d <;> exact h) [14, 15, 16] [_, _, _] 3 6 rfl _ _ _ rfl (by kernel_rfl) (growC HG.out) ?_
    repeat (go_big_quiet_step (fail))
    refine wpQuiet_nil ?_
    refine mixl_act (i := 17) rfl (by kernel_rfl) (growC HG.out) rfl (fun K hK => ?_)
    go_wp2_with fail
    obtain ⟨W5, hW5⟩ : ∃ W5, W5 = w4.alloc (.cells zero5R 26) := ⟨_, rfl⟩
    have HV : Hold (W5.heap[w4.heap.size]? = some (.cells zero5R 26 (0, 0))) := ⟨by rw [hW5]; exact heap_alloc_new w4 _⟩
    have hb5 : Below w4.heap.size w4 W5 := by rw [hW5]; exact (Below.refl _ w4).alloc (Nat.le_refl _) _
    replace HB := Hold.mk (HB.out.trans (hb5.mono (by omega)))
    replace HG := Hold.mk (HG.out.trans (hb5.mono hl4))
    have hle : w.heap.size ≤ w4.heap.size := by omega
    have hle2 : wd.heap.size ≤ w4.heap.size := hl4
    clear hb5
    unfold zero5R at hW5
    rw [← hW5]
    clear hW5
    have hv2 := HV.out
    obtain ⟨v0, v1, v2, v3, v4⟩ := cells5R hv2
    have g0 := freeR hv2 0
    have g1 := freeR hv2 1
    have g2 := freeR hv2 2
    have g3 := freeR hv2 3
    have g4 := freeR hv2 4
    refine mixl_act (i := 18) rfl (by kernel_rfl) (growC HG.out) rfl (fun K hK => ?_)
    go_wp2_with fail
    clear v0 v1 v2 v3 v4 g0 g1 g2 g3 g4
    have HZ := Hold.mk (stored_num (w := w) (wd := wd) (.int .i64 3) (.int .i64 n) (.string ⟨#[]⟩) (.slice na nl nc) (.slice ia il ic) HB.out hle HG.out hle2 hv2)
    obtain ⟨W2, hW2, hgw, hbw, hv3⟩ := HZ.out
    unfold set5R at hW2
    rw [← hW2]
    clear hW2
    replace HB := Hold.mk hbw
    replace HG := Hold.mk hgw
    clear HZ hgw hbw HV hv2 hle hle2
    refine mixl_seg (by kernel_rfl) (fun _ _ d _ _ h => by cases d <;> exact h) [19] [_] 0 1 rfl _ _ _ rfl (by kernel_rfl) (growC HG.out) ?_
    repeat (go_big_quiet_step (fail))
    refine wpQuiet_nil ?_
    refine mix_done (by kernel_rfl) (growC HG.out) ?_
    obtain ⟨z0, z1, _⟩ := cells5R hv3
    have HDG := Hold.mk (rDigits_any n W2 HN.out)
    go_wp2_with fail
    refine HDG.out.mono ?_
    rintro e w6 ⟨rfl, hb6⟩
    have hv6 := keptR hv3 hb6
    have HBF := HB.out.trans (hb6.mono (by have := HB.out.size; omega))
    clear z0 z1 hv3 HDG hb6
    obtain ⟨z0, z1, _⟩ := cells5R hv6
    go_wp2_with fail
    go_ret
    exact ⟨by simp, HBF⟩
  · go_wp2_with fail
    obtain ⟨W5, hW5⟩ : ∃ W5, W5 = wd.alloc (.cells zero5R 26) := ⟨_, rfl⟩
    have HV : Hold (W5.heap[wd.heap.size]? = some (.cells zero5R 26 (0, 0))) := ⟨by rw [hW5]; exact heap_alloc_new wd _⟩
    have hb5 : Below wd.heap.size wd W5 := by rw [hW5]; exact (Below.refl _ wd).alloc (Nat.le_refl _) _
    replace HB := Hold.mk (HB.out.trans (hb5.mono (by omega)))
    have HG := Hold.mk hb5
    have hle : w.heap.size ≤ wd.heap.size := by omega
    have hle2 : wd.heap.size ≤ wd.heap.size := Nat.le_refl _
    clear hb5
    unfold zero5R at hW5
    rw [← hW5]
    clear hW5
    refine mixl_act (i := 13) rfl (by kernel_rfl) (growC HG.out) rfl (fun K hK => ?_)
    go_wp2_with fail
    refine (HRD.out W5 HG.out).mono ?_
    rintro e w4 ⟨hb4, na, nl, nc, ia, il, ic, rfl⟩
    replace HV := Hold.mk (keptR HV.out hb4)
    have hl5 := HG.out.size
    replace HB := Hold.mk (HB.out.trans (hb4.mono (by omega)))
    replace HG := Hold.mk (HG.out.trans (hb4.mono hl5))
    clear x0 x1 y0 y1 hb4 HRD
    go_wp2_with fail
    refine mixl_seg (by kernel_rfl) (fun _ _ d _ _ h => by cases d <;> exact h) [14, 15, 16] [_, _, _] 2 5 rfl _ _ _ rfl (by kernel_rfl) (growC HG.out) ?_
    repeat (go_big_quiet_step (fail))
    refine wpQuiet_nil ?_
    have hv2 := HV.out
    obtain ⟨v0, v1, v2, v3, v4⟩ := cells5R hv2
    have g0 := freeR hv2 0
    have g1 := freeR hv2 1
    have g2 := freeR hv2 2
    have g3 := freeR hv2 3
    have g4 := freeR hv2 4
    refine mixl_act (i := 18) rfl (by kernel_rfl) (growC HG.out) rfl (fun K hK => ?_)
    go_wp2_with fail
    clear v0 v1 v2 v3 v4 g0 g1 g2 g3 g4
    have HZ := Hold.mk (stored_num (w := w) (wd := wd) (.int .i64 3) (.int .i64 n) (.string ⟨#[]⟩) (.slice na nl nc) (.slice ia il ic) HB.out hle HG.out hle2 hv2)
    obtain ⟨W2, hW2, hgw, hbw, hv3⟩ := HZ.out
    unfold set5R at hW2
    rw [← hW2]
    clear hW2
    replace HB := Hold.mk hbw
    replace HG := Hold.mk hgw
    clear HZ hgw hbw HV hv2 hle hle2
    refine mixl_seg (by kernel_rfl) (fun _ _ d _ _ h => by cases d <;> exact h) [19] [_] 0 1 rfl _ _ _ rfl (by kernel_rfl) (growC HG.out) ?_
    repeat (go_big_quiet_step (fail))
    refine wpQuiet_nil ?_
    refine mix_done (by kernel_rfl) (growC HG.out) ?_
    obtain ⟨z0, z1, _⟩ := cells5R hv3
    have HDG := Hold.mk (rDigits_any n W2 HN.out)
    go_wp2_with fail
    refine HDG.out.mono ?_
    rintro e w6 ⟨rfl, hb6⟩
    have hv6 := keptR hv3 hb6
    have HBF := HB.out.trans (hb6.mono (by have := HB.out.size; omega))
    clear z0 z1 hv3 HDG hb6
    obtain ⟨z0, z1, _⟩ := cells5R hv6
    go_wp2_with fail
    go_ret
    exact ⟨by simp, HBF⟩

end Go.Proofs.YtdhilnnohokoeaaDoor
