import Derived.Test.YtafilaiinbggoaaGreatQS17
namespace Go.Proofs.YtafilaiinbggoaaGreat
open Go.RowKit Go.Maps
theorem below_page {w1 w w' : World} {g : Nat} (h : Below w1.heap.size w1 w) (k : w.grownBy w' (some g)) (hg : w1.heap.size <= g) : Below w1.heap.size w1 w' :=
 h.grown k h.size (fun q e => by cases e; exact hg)
set_option maxHeartbeats 8000000 in
set_option maxRecDepth 100000 in
theorem node_write_leaf {w : World} {keys vals : List Bts} {kids : List Nat} {kv vv iv : Value} (h : NAt w ⟨true, keys, vals, kids⟩ kv vv iv) (hs : ShN ⟨true, keys, vals, kids⟩) (hz : sizeN ⟨true, keys, vals, kids⟩ <= 1024) :
  Calls Tryz.prog 52 #[.agg #[.bool true, kv, vv, iv]] w (WPost ⟨true, keys, vals, kids⟩ w) := by
 obtain ⟨ka, kc, rfl⟩ := h.keys.form
 obtain ⟨va, vc, rfl⟩ := h.vals.form
 obtain ⟨ia, ic, rfl⟩ := h.kids.form
 obtain ⟨n, hn⟩ : ∃ n : ND, n = ⟨true, keys, vals, kids⟩ := ⟨_, rfl⟩
 obtain ⟨kl, hkl⟩ : ∃ kl, kl = keys.length := ⟨_, rfl⟩
 obtain ⟨vl, hvl⟩ : ∃ vl, vl = vals.length := ⟨_, rfl⟩
 obtain ⟨il, hil⟩ : ∃ il, il = (kids.map Int.ofNat).length := ⟨_, rfl⟩
 rw [show (Value.agg #[.bool true, .slice ka (ND.mk true keys vals kids).keys.length kc, .slice va (ND.mk true keys vals kids).vals.length vc, .slice ia (List.map Int.ofNat (ND.mk true keys vals kids).kids).length ic]) = .agg #[.bool true, .slice ka kl kc, .slice va vl vc, .slice ia il ic] by rw [hkl, hvl, hil]]
 have h0 : NAt w n (.slice ka kl kc) (.slice va vl vc) (.slice ia il ic) := by rw [hn, hkl, hvl, hil]; exact h
 obtain ⟨q, hq⟩ : ∃ q, q = w.heap.size := ⟨_, rfl⟩
 obtain ⟨w1, hw1⟩ : ∃ w1, w1 = w.alloc (.cells #[.bool true, .slice ka kl kc, .slice va vl vc, .slice ia il ic] 107) := ⟨_, rfl⟩
 have hb1 : Below w.heap.size w w1 := by rw [hw1]; exact (Below.refl _ w).alloc (Nat.le_refl _) _
 have hbx : w1.heap[q]? = some (.cells #[.bool true, .slice ka kl kc, .slice va vl vc, .slice ia il ic] 107 (0, 0)) := by rw [hw1, hq]; exact heap_alloc_new w _
 have hF := node_formed (h0.below hb1) (by rw [hn]; exact hs)
 rw [show nodeV n (.slice ka kl kc) (.slice va vl vc) (.slice ia il ic) = .agg #[.bool true, .slice ka kl kc, .slice va vl vc, .slice ia il ic] by rw [hn], show decide (sizeN n <= 1024) = true from decide_eq_true (by rw [hn]; exact hz)] at hF
 have HF := HoldT.mk hF
 have HH := HoldT.mk (And.intro h0 (And.intro hn (And.intro hs (And.intro hz (And.intro hb1 (And.intro hbx (And.intro hkl (And.intro hvl hil))))))))
 have HW := HoldT.mk (And.intro hw1 hq)
 have hkl2 : kl <= 9000 := by rw [hkl]; exact hs.few
 have x0 : w1.cell? ⟨q, 0, none⟩ = some (.bool true) := by simp [World.cell?, hbx]
 have x1 : w1.cell? ⟨q, 1, none⟩ = some (.slice ka kl kc) := by simp [World.cell?, hbx]
 have x2 : w1.cell? ⟨q, 2, none⟩ = some (.slice va vl vc) := by simp [World.cell?, hbx]
 have x3 : w1.cell? ⟨q, 3, none⟩ = some (.slice ia il ic) := by simp [World.cell?, hbx]
 have HX := HoldT.mk (And.intro x0 (And.intro x1 (And.intro x2 x3)))
 clear h hs hz hn hkl hvl hil h0 hw1 hb1 hbx hF hq x0 x1 x2 x3
 go_enter Tryz.func52, Tryz.ntmps52
 have x0 := HX.out.1
 have x1 := HX.out.2.1
 have x2 := HX.out.2.2.1
 have x3 := HX.out.2.2.2
 go_wp2_with fail
 rw [<- HW.out.2, <- HW.out.1]
 refine HF.out.mono ?_
 rintro e w2 ⟨rfl, hb2⟩
 have HB2 := HoldT.mk hb2
 have HXX : ∀ (wz : World), Below w1.heap.size w1 wz -> wz.cell? ⟨q, 0, none⟩ = some (.bool true) /\ wz.cell? ⟨q, 1, none⟩ = some (.slice ka kl kc) /\ wz.cell? ⟨q, 2, none⟩ = some (.slice va vl vc) /\ wz.cell? ⟨q, 3, none⟩ = some (.slice ia il ic) := fun wz hb => ⟨cle_below hb _ _ _ x0, cle_below hb _ _ _ x1, cle_below hb _ _ _ x2, cle_below hb _ _ _ x3⟩
 have HXX := HoldT.mk HXX
 clear hb2 x0 x1 x2 x3
 obtain ⟨x0, x1, x2, x3⟩ := HXX.out w2 HB2.out
 go_wp2_with fail
 obtain ⟨w3, hmk, hp3, hb3⟩ := made_page w2
 rw [hmk]
 clear hmk x0 x1 x2 x3
 obtain ⟨g, hg⟩ : ∃ g, g = w2.heap.size := ⟨_, rfl⟩
 rw [<- hg] at hp3 |-
 have HG : HoldT (w1.heap.size <= g) := ⟨by rw [hg]; exact HB2.out.size⟩
 have HP3 := HoldT.mk (And.intro hp3 (HB2.out.trans (hb3.mono HB2.out.size)))
 clear hp3 hb3 hg
 obtain ⟨x0, x1, x2, x3⟩ := HXX.out w3 HP3.out.2
 go_wp2_with (at_builtin; refine page_new rfl _ _ rfl w3 g [] 0 HP3.out.1 rfl rfl _ [1] rfl 1 rfl _ rfl rfl (by decide) ?_)
 intro w4 hp4 hg4
 have HP4 := HoldT.mk (And.intro hp4 (below_page HP3.out.2 hg4 HG.out))
 clear hp4 hg4 x0 x1 x2 x3
 obtain ⟨x0, x1, x2, x3⟩ := HXX.out w4 HP4.out.2
 go_wp2_with fail
 refine (node_append16 (n := 1) (n' := 3) (x := kl) HP4.out.1 rfl (by decide) rfl).mono ?_
 rintro e w5 ⟨rfl, hp5, hg5⟩
 simp only
 have HP5 := HoldT.mk (And.intro hp5 (below_page HP4.out.2 hg5 HG.out))
 clear hp5 hg5 x0 x1 x2 x3
 obtain ⟨x0, x1, x2, x3⟩ := HXX.out w5 HP5.out.2
 have HST : HoldT (PRow w5 g (rawJ n 0)) := ⟨by
  have e : rawJ n 0 = [] ++ [1] ++ be16 kl := by
   rw [HH.out.2.1]
   unfold rawJ rawHd
   rw [HH.out.2.2.2.2.2.2.1]; simp
  rw [e]
  exact HP5.out.1⟩
 have hs0 : sizeJ n 0 = 3 := by rw [HH.out.2.1]; rfl
 have HS0 := HoldT.mk hs0
 clear hs0
 go_wp2_with fail
 clear x0 x1 x2 x3
 go_loopw [4, 5, 6, 38] (fun s4 s5 s6 i wr => ∃ j : Nat, i = .int .i64 j /\ j <= kl /\ s4 = .slice (some ⟨g, 0, none⟩) (sizeJ n j) 1024 /\ HoldT (PRow wr g (rawJ n j) /\ Below w1.heap.size w1 wr)) (fun _ _ _ i _ => kl - (intOf i).toNat)
 case atStart => exact ⟨0, rfl, Nat.zero_le _, by rw [HS0.out], ⟨HST.out, HP5.out.2⟩⟩
 case round =>
  obtain ⟨j, rfl, hj, rfl, HJ⟩ := hrel
  by_cases hlt : j < kl
  ·have b1 : decide ((j : Int) < (kl : Int)) = true := decide_eq_true (by omega)
   have hkk := HH.out.2.2.2.2.2.2.1
   obtain ⟨k, hk⟩ : ∃ k, keys[j]? = some k := ⟨keys[j]'(by omega), List.getElem?_eq_getElem (by omega)⟩
   obtain ⟨o1, o2⟩ := HH.out.2.2.1.key k (List.mem_of_getElem? hk)
   have hN1 := HH.out.1.below HH.out.2.2.2.2.1
   have hK1 : BAt w1 (.slice ka kl kc) keys := by have := hN1.keys; rw [HH.out.2.1] at this; exact this
   obtain ⟨kb, ko, xa, xc, rfl, hc1, hy1⟩ := bat_cell hK1 hk
   have hc := cle_below HJ.out.2 _ _ _ hc1
   unfold cf at hc
   have HYK := HoldT.mk hy1
   have b4 : (j : Int) < (kl : Int) := by omega
   have hsz : sizeJ n (j + 1) <= 1024 := Nat.le_trans (sizeJ_mono n (show j + 1 <= n.keys.length by rw [HH.out.2.1]; show _ <= keys.length; omega)) (by have := HH.out.2.2.2.1; rw [HH.out.2.1]; exact this)
   have hLl : (rawJ n j).length = sizeJ n j := rawJ_len n j
   have hgk : n.keys.getD j [] = k := by rw [HH.out.2.1]; exact nat_getD hk
   have hlf : n.leaf = true := by rw [HH.out.2.1]
   obtain ⟨m, hm⟩ : ∃ m, m = sizeJ n j := ⟨_, rfl⟩
   obtain ⟨L, hL⟩ : ∃ L, L = rawJ n j := ⟨_, rfl⟩
   rw [<- hL] at hLl HJ
   rw [<- hm] at hLl |-
   have hal : vals.length = keys.length := (HH.out.2.2.1.leaf rfl).1
   obtain ⟨v, hv⟩ : ∃ v, vals[j]? = some v := ⟨vals[j]'(by omega), List.getElem?_eq_getElem (by omega)⟩
   have hvl := (HH.out.2.2.1.leaf rfl).2.2 v (List.mem_of_getElem? hv)
   have hV1 : BAt w1 (.slice va vl vc) vals := by have := hN1.vals; rw [HH.out.2.1] at this; exact this
   obtain ⟨vb, vo, ya, yc, rfl, hd1, hz1⟩ := bat_cell hV1 hv
   have HVC := HoldT.mk (And.intro hd1 hz1)
   have hgv : n.vals.getD j [] = v := by rw [HH.out.2.1]; exact nat_getD hv
   have hvll : (j : Int) < (vl : Int) := by have := HH.out.2.2.2.2.2.2.2.1; omega
   clear hal hv hV1 hd1 hz1
   have hen : entN n j = 3 + k.length + v.length := by unfold entN; rw [hlf, hgk, hgv]; simp
   have hsu : sizeJ n (j + 1) = m + (3 + k.length + v.length) := by rw [sizeJ_succ, <- hm, hen]
   have hraw : rawJ n (j + 1) = L ++ [UInt8.ofNat k.length] ++ be16 v.length ++ k ++ v := by
    rw [rawJ_succ, <- hL]
    unfold entBy
    rw [hgk, hlf, hgv]
    simp
   have HR := HoldT.mk (And.intro hraw (And.intro hsu (And.intro hLl hsz)))
   clear hraw hsu hen hgk hlf hm hL hc1 hy1 hN1 hK1 hkk hk hLl
   obtain ⟨x0, x1, x2, x3⟩ := HXX.out wr HJ.out.2
   go_wp2_with (at_builtin; refine page_new rfl _ _ rfl wr g L m HJ.out.1 HR.out.2.2.1.symm rfl _ [UInt8.ofNat k.length] (u8_len o2).symm 1 rfl _ rfl rfl (by have h1 := HR.out.2.1; have h2 := HR.out.2.2.1; simp only [List.length_singleton]; omega) ?_)
   intro wa hpa hga
   have HPA := HoldT.mk (And.intro hpa (below_page HJ.out.2 hga HG.out))
   clear hpa hga x0 x1 x2 x3
   obtain ⟨x0, x1, x2, x3⟩ := HXX.out wa HPA.out.2
   have hvc := cle_below HPA.out.2 _ _ _ HVC.out.1
   unfold cf at hvc
   clear hgv
   go_wp2_with fail
   refine (node_append16 (n := m + 1) (n' := m + 3) (x := v.length) HPA.out.1 (by have := HR.out.2.2.1; simp only [List.length_append, List.length_singleton]; omega) (by have h1 := HR.out.2.1; have h2 := HR.out.2.2.1; simp only [List.length_append, List.length_singleton]; omega) rfl).mono ?_
   rintro e wb ⟨rfl, hpb, hgb⟩
   simp only
   have HPB := HoldT.mk (And.intro hpb (below_page HPA.out.2 hgb HG.out))
   clear hpb hgb x0 x1 x2 x3 hvc
   obtain ⟨x0, x1, x2, x3⟩ := HXX.out wb HPB.out.2
   have hvc := cle_below HPB.out.2 _ _ _ HVC.out.1
   unfold cf at hvc
   have g2 := KeepS.cell (P := fun b => b ≠ g /\ b < wb.heap.size) x2 ⟨by have h1 := HG.out; have h2 := heap_lt HH.out.2.2.2.2.2.1; omega, lt_of_cell x2⟩
   have g3 := KeepS.cell (P := fun b => b ≠ g /\ b < wb.heap.size) hvc ⟨by have h1 := HG.out; have h2 := lt_of_cell HVC.out.1; omega, lt_of_cell hvc⟩
   clear x0 x1 x2 x3 hvc
   go_upto_region 16 with (fail)
   refine wp_region_mixC (KeepSC (fun b => b ≠ g /\ b < wb.heap.size) wb) 10 rfl (by kernel_rfl) ?_
   have HDR := HoldT.mk ((Below.refl wb.heap.size wb).drew)
   have HSM : HoldT (∀ q : Nat, wb.drew.heap[q]? = wb.heap[q]?) := ⟨fun _ => rfl⟩
   generalize wb.drew = wc at HDR HSM |-
   refine mixl_seg (by kernel_rfl) (fun _ _ d _ _ h => by cases d <;> exact h) [0, 1, 3, 4, 5, 6, 7] [_, _, _, _, _, _, _] 3 10 rfl _ _ _ rfl (by kernel_rfl) (keepSC fun q _ => HSM.out q) ?_
   repeat (go_big_quiet_step (fail))
   refine wpQuiet_nil ?_
   clear g2 g3
   have HPC := HoldT.mk (And.intro (HPB.out.1.below HDR.out) (HPB.out.2.trans (HDR.out.mono HPB.out.2.size)))
   have hyk : SAt 1 RY (cf wc) (.slice xa k.length xc) k := (HYK.out.mono RY_mono (cfU_cf w1)).mono RY_mono (cle_below HPC.out.2)
   have hyv : SAt 1 RY (cf wc) (.slice ya v.length yc) v := (HVC.out.2.mono RY_mono (cfU_cf w1)).mono RY_mono (cle_below HPC.out.2)
   have HYV := HoldT.mk hyv
   refine mixl_act (i := 2) rfl (by kernel_rfl) (keepSC fun q _ => HSM.out q) rfl (fun K hK => ?_)
   refine wp_page_app _ _ rfl wc g _ (m + 3) HPC.out.1 (by have := HR.out.2.2.1; simp only [List.length_append, be16, List.length_cons, List.length_nil]; omega) rfl _ k hyk rfl (by have h1 := HR.out.2.1; have h2 := HR.out.2.2.1; simp only [List.length_append, be16, List.length_cons, List.length_nil]; omega) (fun wd hpd hgd => hK _ _ ?_)
   have hkd : ∀ q, q ≠ g -> q < wc.heap.size -> wd.heap[q]? = wc.heap[q]? := fun q h1 h2 => hgd.block q h2 (fun e => h1 (Option.some.inj e))
   have HPD := HoldT.mk (And.intro hpd (And.intro (below_page HPC.out.2 hgd HG.out) hkd))
   have HSD := HoldT.mk hgd.size
   clear hpd hgd hkd hyk hyv
   have hcd : ∀ q, q ≠ g /\ q < wb.heap.size -> wd.heap[q]? = wb.heap[q]? := fun q ⟨h1, h2⟩ => (HPD.out.2.2 q h1 (Nat.lt_of_lt_of_le h2 HDR.out.size)).trans (HSM.out q)
   have HCD := HoldT.mk hcd
   clear hcd
   have HYV2 : HoldT (SAt 1 RY (cf wd) (.slice ya v.length yc) v) := ⟨(HVC.out.2.mono RY_mono (cfU_cf w1)).mono RY_mono (cle_below HPD.out.2.1)⟩
   refine mixl_act (i := 8) rfl (by kernel_rfl) (keepSC HCD.out) rfl (fun K hK => ?_)
   refine wp_page_app _ _ rfl wd g _ (m + 3 + k.length) HPD.out.1 (by have := HR.out.2.2.1; simp only [List.length_append, be16, List.length_cons, List.length_nil]; omega) rfl _ v HYV2.out rfl (by have h1 := HR.out.2.1; have h2 := HR.out.2.2.1; simp only [List.length_append, be16, List.length_cons, List.length_nil]; omega) (fun we hpe hge => hK _ _ ?_)
   have hce : ∀ q, q ≠ g /\ q < wb.heap.size -> we.heap[q]? = wb.heap[q]? := fun q ⟨h1, h2⟩ => (hge.block q (Nat.lt_of_lt_of_le h2 (Nat.le_trans HDR.out.size HSD.out)) (fun e => h1 (Option.some.inj e))).trans (HCD.out q ⟨h1, h2⟩)
   have HPE := HoldT.mk (And.intro hpe (below_page HPD.out.2.1 hge HG.out))
   clear hpe hge
   have HCE := HoldT.mk hce
   clear hce
   refine mixl_act (i := 9) rfl (by kernel_rfl) (keepSC HCE.out) rfl (fun K hK => ?_)
   go_wp2_with fail
   refine mix_done (by kernel_rfl) (keepSC HCE.out) ?_
   go_wp2_with fail
   exact ⟨⟨j + 1, by go_num, hlt, by rw [HR.out.2.1]; congr 1; omega, ⟨by rw [HR.out.1]; exact HPE.out.1, HPE.out.2⟩⟩, by simp [intOf]; omega⟩
  ·obtain rfl : j = kl := by omega
   have hkk := HH.out.2.2.2.2.2.2.1
   have hP : HoldT (WPost ⟨true, keys, vals, kids⟩ w (.returned (.tuple #[.slice (some ⟨g, 0, none⟩) 1024 1024, .int .i64 0])) wr) := ⟨by
    refine ⟨g, rfl, Nat.le_trans HH.out.2.2.2.2.1.size HG.out, ?_, HH.out.2.2.2.2.1.trans (HJ.out.2.mono HH.out.2.2.2.2.1.size)⟩
    have := page_yat HJ.out.1
    rw [<- HH.out.2.1]
    unfold encN
    rw [show n.keys.length = j by rw [HH.out.2.1]; exact hkk.symm]
    exact this⟩
   have hsl : sizeJ n j <= 1024 := by
    have := HH.out.2.2.2.1
    rw [<- HH.out.2.1] at this
    unfold sizeN at this
    rw [show n.keys.length = j by rw [HH.out.2.1]; exact hkk.symm] at this
    exact this
   obtain ⟨m, hm⟩ : ∃ m, m = sizeJ n j := ⟨_, rfl⟩
   rw [<- hm] at hsl |-
   clear hkk hm
   go_wp2_with fail
   go_ret2
   exact hP.out
set_option maxHeartbeats 8000000 in
set_option maxRecDepth 100000 in
theorem node_write_node {w : World} {keys vals : List Bts} {kids : List Nat} {kv vv iv : Value} (h : NAt w ⟨false, keys, vals, kids⟩ kv vv iv) (hs : ShN ⟨false, keys, vals, kids⟩) (hz : sizeN ⟨false, keys, vals, kids⟩ <= 1024) :
  Calls Tryz.prog 52 #[.agg #[.bool false, kv, vv, iv]] w (WPost ⟨false, keys, vals, kids⟩ w) := by
 obtain ⟨ka, kc, rfl⟩ := h.keys.form
 obtain ⟨va, vc, rfl⟩ := h.vals.form
 obtain ⟨ia, ic, rfl⟩ := h.kids.form
 obtain ⟨n, hn⟩ : ∃ n : ND, n = ⟨false, keys, vals, kids⟩ := ⟨_, rfl⟩
 obtain ⟨kl, hkl⟩ : ∃ kl, kl = keys.length := ⟨_, rfl⟩
 obtain ⟨vl, hvl⟩ : ∃ vl, vl = vals.length := ⟨_, rfl⟩
 obtain ⟨il, hil⟩ : ∃ il, il = (kids.map Int.ofNat).length := ⟨_, rfl⟩
 rw [show (Value.agg #[.bool false, .slice ka (ND.mk false keys vals kids).keys.length kc, .slice va (ND.mk false keys vals kids).vals.length vc, .slice ia (List.map Int.ofNat (ND.mk false keys vals kids).kids).length ic]) = .agg #[.bool false, .slice ka kl kc, .slice va vl vc, .slice ia il ic] by rw [hkl, hvl, hil]]
 have h0 : NAt w n (.slice ka kl kc) (.slice va vl vc) (.slice ia il ic) := by rw [hn, hkl, hvl, hil]; exact h
 obtain ⟨q, hq⟩ : ∃ q, q = w.heap.size := ⟨_, rfl⟩
 obtain ⟨w1, hw1⟩ : ∃ w1, w1 = w.alloc (.cells #[.bool false, .slice ka kl kc, .slice va vl vc, .slice ia il ic] 107) := ⟨_, rfl⟩
 have hb1 : Below w.heap.size w w1 := by rw [hw1]; exact (Below.refl _ w).alloc (Nat.le_refl _) _
 have hbx : w1.heap[q]? = some (.cells #[.bool false, .slice ka kl kc, .slice va vl vc, .slice ia il ic] 107 (0, 0)) := by rw [hw1, hq]; exact heap_alloc_new w _
 have hF := node_formed (h0.below hb1) (by rw [hn]; exact hs)
 rw [show nodeV n (.slice ka kl kc) (.slice va vl vc) (.slice ia il ic) = .agg #[.bool false, .slice ka kl kc, .slice va vl vc, .slice ia il ic] by rw [hn], show decide (sizeN n <= 1024) = true from decide_eq_true (by rw [hn]; exact hz)] at hF
 have HF := HoldT.mk hF
 have HH := HoldT.mk (And.intro h0 (And.intro hn (And.intro hs (And.intro hz (And.intro hb1 (And.intro hbx (And.intro hkl (And.intro hvl hil))))))))
 have HW := HoldT.mk (And.intro hw1 hq)
 have hkl2 : kl <= 9000 := by rw [hkl]; exact hs.few
 have x0 : w1.cell? ⟨q, 0, none⟩ = some (.bool false) := by simp [World.cell?, hbx]
 have x1 : w1.cell? ⟨q, 1, none⟩ = some (.slice ka kl kc) := by simp [World.cell?, hbx]
 have x2 : w1.cell? ⟨q, 2, none⟩ = some (.slice va vl vc) := by simp [World.cell?, hbx]
 have x3 : w1.cell? ⟨q, 3, none⟩ = some (.slice ia il ic) := by simp [World.cell?, hbx]
 have HX := HoldT.mk (And.intro x0 (And.intro x1 (And.intro x2 x3)))
 clear h hs hz hn hkl hvl hil h0 hw1 hb1 hbx hF hq x0 x1 x2 x3
 go_enter Tryz.func52, Tryz.ntmps52
 have x0 := HX.out.1
 have x1 := HX.out.2.1
 have x2 := HX.out.2.2.1
 have x3 := HX.out.2.2.2
 go_wp2_with fail
 rw [<- HW.out.2, <- HW.out.1]
 refine HF.out.mono ?_
 rintro e w2 ⟨rfl, hb2⟩
 have HB2 := HoldT.mk hb2
 have HXX : ∀ (wz : World), Below w1.heap.size w1 wz -> wz.cell? ⟨q, 0, none⟩ = some (.bool false) /\ wz.cell? ⟨q, 1, none⟩ = some (.slice ka kl kc) /\ wz.cell? ⟨q, 2, none⟩ = some (.slice va vl vc) /\ wz.cell? ⟨q, 3, none⟩ = some (.slice ia il ic) := fun wz hb => ⟨cle_below hb _ _ _ x0, cle_below hb _ _ _ x1, cle_below hb _ _ _ x2, cle_below hb _ _ _ x3⟩
 have HXX := HoldT.mk HXX
 clear hb2 x0 x1 x2 x3
 obtain ⟨x0, x1, x2, x3⟩ := HXX.out w2 HB2.out
 go_wp2_with fail
 obtain ⟨w3, hmk, hp3, hb3⟩ := made_page w2
 rw [hmk]
 clear hmk x0 x1 x2 x3
 obtain ⟨g, hg⟩ : ∃ g, g = w2.heap.size := ⟨_, rfl⟩
 rw [<- hg] at hp3 |-
 have HG : HoldT (w1.heap.size <= g) := ⟨by rw [hg]; exact HB2.out.size⟩
 have HP3 := HoldT.mk (And.intro hp3 (HB2.out.trans (hb3.mono HB2.out.size)))
 clear hp3 hb3 hg
 obtain ⟨x0, x1, x2, x3⟩ := HXX.out w3 HP3.out.2
 go_wp2_with (at_builtin; refine page_new rfl _ _ rfl w3 g [] 0 HP3.out.1 rfl rfl _ [2] rfl 1 rfl _ rfl rfl (by decide) ?_)
 intro w4 hp4 hg4
 have HP4 := HoldT.mk (And.intro hp4 (below_page HP3.out.2 hg4 HG.out))
 clear hp4 hg4 x0 x1 x2 x3
 obtain ⟨x0, x1, x2, x3⟩ := HXX.out w4 HP4.out.2
 go_wp2_with fail
 refine (node_append16 (n := 1) (n' := 3) (x := kl) HP4.out.1 rfl (by decide) rfl).mono ?_
 rintro e w5 ⟨rfl, hp5, hg5⟩
 simp only
 have HP5 := HoldT.mk (And.intro hp5 (below_page HP4.out.2 hg5 HG.out))
 clear hp5 hg5 x0 x1 x2 x3
 obtain ⟨x0, x1, x2, x3⟩ := HXX.out w5 HP5.out.2
 obtain ⟨k0, hk0⟩ : ∃ k0, kids[0]? = some k0 := ⟨kids[0]'(by have := (HH.out.2.2.1.node rfl).2.1; simp only at this; omega), List.getElem?_eq_getElem _⟩
 have hk01 : k0 <= 2147483647 := (HH.out.2.2.1.node rfl).2.2 k0 (List.mem_of_getElem? hk0)
 have hI1 : IAt w1 (.slice ia il ic) kids := by have := (HH.out.1.below HH.out.2.2.2.2.1).kids; rw [HH.out.2.1] at this; exact this
 obtain ⟨ib, io, rfl, hic⟩ := sat_cell hI1 (mem_map_nat.2 hk0)
 unfold cf at hic
 rw [Nat.add_zero] at hic
 have hic5 := cle_below HP5.out.2 _ _ _ hic
 unfold cf at hic5
 have hil0 : 0 < (il : Int) := by
  have h1 := (HH.out.2.2.1.node rfl).2.1
  have h2 := HH.out.2.2.2.2.2.2.2.2
  rw [List.length_map] at h2
  simp only at h1
  omega
 have HK0 := HoldT.mk hk0
 clear hk0 hI1 hic
 go_wp2_with fail
 refine (node_append32 (n := 3) (n' := 7) (x := k0) HP5.out.1 rfl (by simp [be16]) rfl).mono ?_
 rintro e w6 ⟨rfl, hp6, hg6⟩
 simp only
 have HP6 := HoldT.mk (And.intro hp6 (below_page HP5.out.2 hg6 HG.out))
 clear hp6 hg6 x0 x1 x2 x3 hic5 hil0
 obtain ⟨x0, x1, x2, x3⟩ := HXX.out w6 HP6.out.2
 have HST : HoldT (PRow w6 g (rawJ n 0)) := ⟨by
  have e : rawJ n 0 = [] ++ [2] ++ be16 kl ++ be32 k0 := by
   rw [HH.out.2.1]
   unfold rawJ rawHd
   rw [HH.out.2.2.2.2.2.2.1]; simp [List.head?_eq_getElem?, List.headD_eq_head?_getD, HK0.out]
  rw [e]
  exact HP6.out.1⟩
 have hs0 : sizeJ n 0 = 7 := by rw [HH.out.2.1]; rfl
 have HS0 := HoldT.mk hs0
 clear hs0
 go_wp2_with fail
 clear x0 x1 x2 x3
 go_loopw [4, 5, 6, 38] (fun s4 s5 s6 i wr => ∃ j : Nat, i = .int .i64 j /\ j <= kl /\ s4 = .slice (some ⟨g, 0, none⟩) (sizeJ n j) 1024 /\ HoldT (PRow wr g (rawJ n j) /\ Below w1.heap.size w1 wr)) (fun _ _ _ i _ => kl - (intOf i).toNat)
 case atStart => exact ⟨0, rfl, Nat.zero_le _, by rw [HS0.out], ⟨HST.out, HP6.out.2⟩⟩
 case round =>
  obtain ⟨j, rfl, hj, rfl, HJ⟩ := hrel
  by_cases hlt : j < kl
  ·have b1 : decide ((j : Int) < (kl : Int)) = true := decide_eq_true (by omega)
   have hkk := HH.out.2.2.2.2.2.2.1
   obtain ⟨k, hk⟩ : ∃ k, keys[j]? = some k := ⟨keys[j]'(by omega), List.getElem?_eq_getElem (by omega)⟩
   obtain ⟨o1, o2⟩ := HH.out.2.2.1.key k (List.mem_of_getElem? hk)
   have hN1 := HH.out.1.below HH.out.2.2.2.2.1
   have hK1 : BAt w1 (.slice ka kl kc) keys := by have := hN1.keys; rw [HH.out.2.1] at this; exact this
   obtain ⟨kb, ko, xa, xc, rfl, hc1, hy1⟩ := bat_cell hK1 hk
   have hc := cle_below HJ.out.2 _ _ _ hc1
   unfold cf at hc
   have HYK := HoldT.mk hy1
   have b4 : (j : Int) < (kl : Int) := by omega
   have hsz : sizeJ n (j + 1) <= 1024 := Nat.le_trans (sizeJ_mono n (show j + 1 <= n.keys.length by rw [HH.out.2.1]; show _ <= keys.length; omega)) (by have := HH.out.2.2.2.1; rw [HH.out.2.1]; exact this)
   have hLl : (rawJ n j).length = sizeJ n j := rawJ_len n j
   have hgk : n.keys.getD j [] = k := by rw [HH.out.2.1]; exact nat_getD hk
   have hlf : n.leaf = false := by rw [HH.out.2.1]
   obtain ⟨m, hm⟩ : ∃ m, m = sizeJ n j := ⟨_, rfl⟩
   obtain ⟨L, hL⟩ : ∃ L, L = rawJ n j := ⟨_, rfl⟩
   rw [<- hL] at hLl HJ
   rw [<- hm] at hLl |-
   have hkl3 : kids.length = keys.length + 1 := (HH.out.2.2.1.node rfl).2.1
   obtain ⟨c, hcd⟩ : ∃ c, kids[j + 1]? = some c := ⟨kids[j + 1]'(by omega), List.getElem?_eq_getElem (by omega)⟩
   have hc31 : c <= 2147483647 := (HH.out.2.2.1.node rfl).2.2 c (List.mem_of_getElem? hcd)
   have hI1 : IAt w1 (.slice (some ⟨ib, io, none⟩) il ic) kids := by have := hN1.kids; rw [HH.out.2.1] at this; exact this
   obtain ⟨b9, o9, e9, hic⟩ := sat_cell hI1 (mem_map_nat.2 hcd)
   cases e9
   unfold cf at hic
   have HIC := HoldT.mk hic
   have hgc : n.kids.getD (j + 1) 0 = c := by rw [HH.out.2.1]; exact nat_getD hcd
   have hill : (j : Int) + 1 < (il : Int) := by
    have h2 := HH.out.2.2.2.2.2.2.2.2
    rw [List.length_map] at h2
    omega
   clear hkl3 hcd hI1 hic
   have hen : entN n j = 5 + k.length := by unfold entN; rw [hlf, hgk]; simp
   have hsu : sizeJ n (j + 1) = m + (5 + k.length) := by rw [sizeJ_succ, <- hm, hen]
   have hraw : rawJ n (j + 1) = L ++ [UInt8.ofNat k.length] ++ k ++ be32 c := by
    rw [rawJ_succ, <- hL]
    unfold entBy
    rw [hgk, hlf, hgc]
    simp
   have HR := HoldT.mk (And.intro hraw (And.intro hsu (And.intro hLl hsz)))
   clear hraw hsu hen hgk hlf hm hL hc1 hy1 hN1 hK1 hkk hk hLl
   obtain ⟨x0, x1, x2, x3⟩ := HXX.out wr HJ.out.2
   go_wp2_with (at_builtin; refine page_new rfl _ _ rfl wr g L m HJ.out.1 HR.out.2.2.1.symm rfl _ [UInt8.ofNat k.length] (u8_len o2).symm 1 rfl _ rfl rfl (by have h1 := HR.out.2.1; have h2 := HR.out.2.2.1; simp only [List.length_singleton]; omega) ?_)
   intro wa hpa hga
   have HPA := HoldT.mk (And.intro hpa (below_page HJ.out.2 hga HG.out))
   clear hpa hga x0 x1 x2 x3
   obtain ⟨x0, x1, x2, x3⟩ := HXX.out wa HPA.out.2
   clear hgc
   have hicx := cle_below HPA.out.2 _ _ _ HIC.out
   unfold cf at hicx
   have g2 := KeepS.cell (P := fun b => b ≠ g /\ b < wa.heap.size) x3 ⟨by have h1 := HG.out; have h2 := heap_lt HH.out.2.2.2.2.2.1; omega, lt_of_cell x3⟩
   have g3 := KeepS.cell (P := fun b => b ≠ g /\ b < wa.heap.size) hicx ⟨by have h1 := HG.out; have h2 := lt_of_cell HIC.out; omega, lt_of_cell hicx⟩
   clear x1 x2 x3 hicx
   go_upto_region 17 with (fail)
   clear x0
   refine wp_region_mixC (KeepSC (fun b => b ≠ g /\ b < wa.heap.size) wa) 12 rfl (by kernel_rfl) ?_
   have HDR := HoldT.mk ((Below.refl wa.heap.size wa).drew)
   have HSM : HoldT (∀ q : Nat, wa.drew.heap[q]? = wa.heap[q]?) := ⟨fun _ => rfl⟩
   generalize wa.drew = wc at HDR HSM |-
   refine mixl_seg (by kernel_rfl) (fun _ _ d _ _ h => by cases d <;> exact h) [0, 1, 3, 4, 5, 6, 7, 8, 9] [_, _, _, _, _, _, _, _, _] 3 12 rfl _ _ _ rfl (by kernel_rfl) (keepSC fun q _ => HSM.out q) ?_
   repeat (go_big_quiet_step (fail))
   refine wpQuiet_nil ?_
   clear g2 g3
   have HPC := HoldT.mk (And.intro (HPA.out.1.below HDR.out) (HPA.out.2.trans (HDR.out.mono HPA.out.2.size)))
   have hyk : SAt 1 RY (cf wc) (.slice xa k.length xc) k := (HYK.out.mono RY_mono (cfU_cf w1)).mono RY_mono (cle_below HPC.out.2)
   refine mixl_act (i := 2) rfl (by kernel_rfl) (keepSC fun q _ => HSM.out q) rfl (fun K hK => ?_)
   refine wp_page_app _ _ rfl wc g _ (m + 1) HPC.out.1 (by have := HR.out.2.2.1; simp only [List.length_append, List.length_cons, List.length_nil]; omega) rfl _ k hyk rfl (by have h1 := HR.out.2.1; have h2 := HR.out.2.2.1; simp only [List.length_append, List.length_cons, List.length_nil]; omega) (fun wd hpd hgd => hK _ _ ?_)
   have hkd : ∀ q, q ≠ g -> q < wc.heap.size -> wd.heap[q]? = wc.heap[q]? := fun q h1 h2 => hgd.block q h2 (fun e => h1 (Option.some.inj e))
   have HPD := HoldT.mk (And.intro hpd (And.intro (below_page HPC.out.2 hgd HG.out) hkd))
   have HSD := HoldT.mk hgd.size
   clear hpd hgd hkd hyk
   have HCD : HoldT (∀ q, q ≠ g /\ q < wa.heap.size -> wd.heap[q]? = wa.heap[q]?) := ⟨fun q ⟨h1, h2⟩ => (HPD.out.2.2 q h1 (Nat.lt_of_lt_of_le h2 HDR.out.size)).trans (HSM.out q)⟩
   have HA := HoldT.mk (node_append32 (n := m + 1 + k.length) (n' := m + 1 + k.length + 4) (x := c) HPD.out.1 (by have := HR.out.2.2.1; simp only [List.length_append, List.length_cons, List.length_nil]; omega) (by have h1 := HR.out.2.1; have h2 := HR.out.2.2.1; simp only [List.length_append, List.length_cons, List.length_nil]; omega) rfl)
   refine mixl_act (i := 10) rfl (by kernel_rfl) (keepSC HCD.out) rfl (fun K hK => ?_)
   go_wp2_with fail
   refine HA.out.mono ?_
   rintro e we ⟨rfl, hpe, hge⟩
   simp only
   have hce : ∀ q, q ≠ g /\ q < wa.heap.size -> we.heap[q]? = wa.heap[q]? := fun q ⟨h1, h2⟩ => (hge.block q (Nat.lt_of_lt_of_le h2 (Nat.le_trans HDR.out.size HSD.out)) (fun e => h1 (Option.some.inj e))).trans (HCD.out q ⟨h1, h2⟩)
   have HPE := HoldT.mk (And.intro hpe (below_page HPD.out.2.1 hge HG.out))
   have HCE := HoldT.mk hce
   clear hpe hge hce
   go_wp2_with fail
   refine mixl_act (i := 11) rfl (by kernel_rfl) (keepSC HCE.out) rfl (fun K hK => ?_)
   go_wp2_with fail
   refine mix_done (by kernel_rfl) (keepSC HCE.out) ?_
   go_wp2_with fail
   exact ⟨⟨j + 1, by go_num, hlt, by rw [HR.out.2.1]; congr 1; omega, ⟨by rw [HR.out.1]; exact HPE.out.1, HPE.out.2⟩⟩, by simp [intOf]; omega⟩
  ·obtain rfl : j = kl := by omega
   have hkk := HH.out.2.2.2.2.2.2.1
   have hP : HoldT (WPost ⟨false, keys, vals, kids⟩ w (.returned (.tuple #[.slice (some ⟨g, 0, none⟩) 1024 1024, .int .i64 0])) wr) := ⟨by
    refine ⟨g, rfl, Nat.le_trans HH.out.2.2.2.2.1.size HG.out, ?_, HH.out.2.2.2.2.1.trans (HJ.out.2.mono HH.out.2.2.2.2.1.size)⟩
    have := page_yat HJ.out.1
    rw [<- HH.out.2.1]
    unfold encN
    rw [show n.keys.length = j by rw [HH.out.2.1]; exact hkk.symm]
    exact this⟩
   have hsl : sizeJ n j <= 1024 := by
    have := HH.out.2.2.2.1
    rw [<- HH.out.2.1] at this
    unfold sizeN at this
    rw [show n.keys.length = j by rw [HH.out.2.1]; exact hkk.symm] at this
    exact this
   obtain ⟨m, hm⟩ : ∃ m, m = sizeJ n j := ⟨_, rfl⟩
   rw [<- hm] at hsl |-
   clear hkk hm
   go_wp2_with fail
   go_ret2
   exact hP.out
theorem node_write {w : World} {n : ND} {kv vv iv : Value} (h : NAt w n kv vv iv) (hs : ShN n) (hz : sizeN n <= 1024) :
  Calls Tryz.prog 52 #[nodeV n kv vv iv] w (WPost n w) := by
 obtain ⟨leaf, keys, vals, kids⟩ := n
 cases leaf with
 | true => exact node_write_leaf h hs hz
 | false => exact node_write_node h hs hz
end Go.Proofs.YtafilaiinbggoaaGreat
