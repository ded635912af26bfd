/- Catalogs: Show of the reference (printed by genXCBE.py). -/
import Derived.Test.YtfpphpjobkhalaaGreatDoorZ43
namespace Go.Proofs.YtfpphpjobkhalaaGreatDoor
open Go.Shelf Go.RowKit

set_option maxRecDepth 100000 in
set_option maxHeartbeats 32000000 in
theorem rShowC_any (l : List CX) (v : Value) (w : World) (h : CatAt (cf w) l v) (hsm : SmallC l) (hns : (spacesC l).length ≤ 1000000) :
    Calls Tryz.prog 21 #[v] w (ShowPostC l w) := by
  have HCV := Hold.mk h
  have HSM := Hold.mk hsm
  obtain ⟨a, cap, rfl, hs⟩ := h
  obtain ⟨_, _, e, hle, hcap, hel⟩ := hs
  cases e
  have HE := Hold.mk hel
  obtain ⟨W0, hW0, hb0, e0, e1⟩ := twoEM w (.cells #[.slice a l.length cap] 31) (.cells zero5 55)
  have HB0 := Hold.mk hb0
  have HK0 := Hold.mk e0
  have HK1 := Hold.mk e1
  have HZ0 : Hold (W0.heap.size = w.heap.size + 2) := ⟨by rw [hW0]; simp⟩
  have y0 : W0.cell? ⟨w.heap.size, 0, none⟩ = some (.slice a l.length cap) := by simp [World.cell?, e0]
  have HFO := Hold.mk (rFormedC_any l _ W0 (HCV.out.mono (cle_below hb0)) hsm hns)
  clear hel hb0 e0 e1 hsm hns
  go_enter Tryz.func21, Tryz.ntmps21
  go_upto_region 1 with (fail)
  rw [← hW0]
  clear hW0
  go_wp2_with fail
  refine HFO.out.mono ?_
  rintro e w1 ⟨rfl, hb1⟩
  have HB1 := Hold.mk hb1
  have HRB := Hold.mk (kept HK1.out hb1)
  have HCB := Hold.mk (kept HK0.out hb1)
  have HBW := Hold.mk (HB0.out.trans (hb1.mono HB0.out.size))
  have HSZ : Hold (w.heap.size + 2 ≤ w1.heap.size) := ⟨by have := hb1.size; have := HZ0.out; omega⟩
  clear hb1 HFO y0
  cases hfo : formC l with
  | false =>
    have HF := Hold.mk hfo
    clear hfo
    obtain ⟨r0, r1, r2, r3, r4⟩ := cells_five HRB.out
    have f0 := free_box HRB.out 0
    have f1 := free_box HRB.out 1
    have f2 := free_box HRB.out 2
    have f3 := free_box HRB.out 3
    have f4 := free_box HRB.out 4
    go_wp2_with fail
    obtain ⟨W2, hW2⟩ : ∃ W2, W2 = (((((w1.setCell ⟨w.heap.size + 1, 0, none⟩ (.int .i64 0)).setCell ⟨w.heap.size + 1, 1, none⟩ (.int .i64 0)).setCell ⟨w.heap.size + 1, 2, none⟩ (.string ⟨#[]⟩)).setCell ⟨w.heap.size + 1, 3, none⟩ (.slice none 0 0)).setCell ⟨w.heap.size + 1, 4, none⟩ (.slice none 0 0)) := ⟨_, rfl⟩
    rw [← hW2]
    have hbk : W2.heap[w.heap.size + 1]? = some (.cells zero5 55 (0, 0)) := by rw [hW2]; exact set5_self HRB.out
    have hbw : Below w.heap.size w W2 := by rw [hW2]; exact set5_below HBW.out (by omega)
    clear hW2
    clear r0 r1 r2 r3 r4 f0 f1 f2 f3 f4
    obtain ⟨c0, c1, c2, c3, c4⟩ := cells_five hbk
    exact bodyPost_ret (v := .tuple #[.agg #[.int .i64 0, .int .i64 0, .string ⟨#[]⟩, .slice none 0 0, .slice none 0 0], .int .i64 2]) (by simp [results, Tryz.results21, go_sem, c0, c1, c2, c3, c4]) rfl ⟨by rw [if_neg (by rw [HF.out]; decide)], hbw⟩
  | true =>
  have HF := Hold.mk hfo
  clear hfo
  obtain ⟨vb, hvb⟩ : ∃ vb, vb = w1.heap.size := ⟨_, rfl⟩
  obtain ⟨W2, hW2⟩ : ∃ W2, W2 = w1.alloc (.cells #[.int .i64 5, .int .i64 0, .string ⟨#[]⟩, .slice none 0 0, .slice none 0 0] 55) := ⟨_, rfl⟩
  have hb2 : Below w1.heap.size w1 W2 := by rw [hW2]; exact (Below.refl _ w1).alloc (Nat.le_refl _) _
  have HVB : Hold (w.heap.size + 2 ≤ vb) := ⟨by rw [hvb]; exact HSZ.out⟩
  have HSRC : Hold (∀ wn, Below vb W2 wn → wn.cell? ⟨w.heap.size, 0, none⟩ = some (.slice a l.length cap) ∧ wn.heap[w.heap.size + 1]? = some (.cells zero5 55 (0, 0)) ∧ Below w.heap.size w wn) := ⟨fun wn hb => by
    have h1 : Below vb w1 wn := by rw [hvb] at hb ⊢; exact hb2.trans hb
    have h2 : wn.heap[w.heap.size]? = some (.cells #[.slice a l.length cap] 31 (0, 0)) := by rw [h1.block _ (by have := HVB.out; omega)]; exact HCB.out
    exact ⟨by simp [World.cell?, h2], by rw [h1.block _ (by have := HVB.out; omega)]; exact HRB.out, HBW.out.trans (h1.mono (by have := HVB.out; omega))⟩⟩
  have HA2 : Hold (AV W2 W2 vb (.slice none 0 0) 0 ((l.take 0).flatMap rowsX) []) := ⟨⟨Below.refl _ _, by rw [hW2, hvb]; exact heap_alloc_new w1 _, World.ownsRow_nil _ _ _ _, by simpa using VRow.nil _, by simp⟩⟩
  clear hb2
  go_upto_region 4 with (fail)
  rw [← hW2, ← hvb]
  clear hW2 hvb
  go_wp2_with fail
  go_loopw [5] (fun i wr => ∃ (j n : Nat) (sl : Value) (cs : List Value), i = .int .i64 j ∧ j ≤ l.length ∧ AV W2 wr vb sl n ((l.take j).flatMap rowsX) cs) (fun i _ => l.length - (intOf i).toNat)
  case atStart => exact ⟨0, 0, _, _, rfl, Nat.zero_le _, HA2.out⟩
  case round =>
    clear HA2
    obtain ⟨j, n, sl, cs, rfl, hj, hav⟩ := hrel
    obtain ⟨sla, slc, rfl⟩ := own_shapeZ hav.own
    have HAV := Hold.mk hav
    clear hav
    by_cases hlt : j < l.length
    · obtain ⟨x, hx⟩ : ∃ x, l[j]? = some x := ⟨l[j], List.getElem?_eq_getElem hlt⟩
      obtain ⟨b, off, d, rfl, hd, hcc, xa, xcap, rfl, hxn, hxw, hxi⟩ := HE.out j x hx
      have HXE := Hold.mk hx
      have HXI := Hold.mk hxi
      have HXN := Hold.mk (And.intro hxn hxw)
      have HXF := Hold.mk ((formX_iff.1 ((formC_iff.1 HF.out).2.2.1 x (List.mem_of_getElem? hx))).2)
      have HXS := Hold.mk (HSM.out x (List.mem_of_getElem? hx))
      have HRS := Hold.mk (rows_step hx)
      have HNL : Hold (n ≤ 1000) := ⟨by
        have h1 := HAV.out.len
        have h2 : ∀ k, ((l.take k).flatMap rowsX).length ≤ 5 * k := fun k => by
          induction k with
          | zero => simp
          | succ k ih =>
            by_cases hk : k < l.length
            · have hk2 := List.getElem?_eq_getElem hk
              rw [rows_step hk2, List.length_append, List.length_cons, List.length_map]
              have := (formX_iff.1 ((formC_iff.1 HF.out).2.2.1 _ (List.mem_of_getElem? hk2))).2.1
              omega
            · rw [List.take_of_length_le (by omega)] at ih ⊢; omega
        have := h2 j
        have := (formC_iff.1 HF.out).1
        omega⟩
      have hxl : x.ixs.length ≤ xcap ∧ xcap ≤ 9223372036854775807 := by
        obtain ⟨_, _, e, h1, h2, _⟩ := hxi
        cases e; exact ⟨h1, h2⟩
      obtain ⟨hxl1, hxl2⟩ := hxl
      obtain ⟨nm, sp, xs⟩ := x
      simp only at *
      have hcl := cle_below (HSRC.out wr HAV.out.bel).2.2
      have z0 := hcl _ _ _ (hcc 0 _ rfl)
      have z1 := hcl _ _ _ (hcc 1 _ rfl)
      have z2 := hcl _ _ _ (hcc 2 _ rfl)
      unfold cf at z0 z1 z2
      rw [Nat.add_zero] at z0
      obtain ⟨xb, hxb⟩ : ∃ xb, xb = wr.heap.size := ⟨_, rfl⟩
      obtain ⟨W3, hW3⟩ : ∃ W3, W3 = wr.alloc (.cells #[.string nm, .int .i64 sp, .slice xa xs.length xcap] 77) := ⟨_, rfl⟩
      have hb3 : Below wr.heap.size wr W3 := by rw [hW3]; exact (Below.refl _ wr).alloc (Nat.le_refl _) _
      have HXK : Hold (W3.heap[xb]? = some (.cells #[.string nm, .int .i64 sp, .slice xa xs.length xcap] 77 (0, 0))) := ⟨by rw [hW3, hxb]; exact heap_alloc_new wr _⟩
      have HAVQ := Hold.mk (HAV.out.quiet hb3)
      have HXG : Hold (vb < xb ∧ ∀ b, (Value.slice sla n slc).ownBlock = some b → b < xb) := ⟨by rw [hxb]; exact ⟨heap_lt HAV.out.box, fun b hb => (HAV.out.own.lt b hb).2⟩⟩
      obtain ⟨yc0, _, _⟩ := HSRC.out wr HAV.out.bel
      clear hd hcc hxn hxw hxi hcl hx hb3
      go_upto_region 8 with (fail)
      rw [← hW3, ← hxb]
      clear hW3 hxb z0 z1 z2 yc0
      obtain ⟨x0, x1, x2⟩ := cells_three HXK.out
      have g0 := OthT.cell (zb := vb) (sv := .slice sla n slc) x0 (by have := HXG.out.1; omega) (fun e => by have := HXG.out.2 _ e; omega)
      have g1 := OthT.cell (zb := vb) (sv := .slice sla n slc) x1 (by have := HXG.out.1; omega) (fun e => by have := HXG.out.2 _ e; omega)
      clear x0 x1 x2
      have hvb := HAVQ.out.box
      obtain ⟨_, _, _, _, v4⟩ := cells_five hvb
      have h1 := BoxOT.cell v4
      clear hvb v4
      go_upto_region 8 with (fail)
      refine wp_region_mixL (KeepO vb (.slice sla n slc) W3 [8]) 11 rfl (by kernel_rfl) ?_
      obtain ⟨w9, hw9⟩ : ∃ w9, w9 = W3.drew := ⟨_, rfl⟩
      have hb9 : Below W3.heap.size W3 w9 := by rw [hw9]; exact (Below.refl _ _).drew
      have HB9 := Hold.mk hb9
      rw [← hw9]
      clear hw9 hb9
      refine mixL_seg (by kernel_rfl) (fun _ _ d _ _ h => by cases d <;> exact h) (OthC vb (.slice sla n slc) W3) keepO_base [0, 2, 3, 4, 5] (keepO_back rfl) [_, _, _, _, _] 6 11 rfl _ _ _ rfl (by kernel_rfl) ?_
      repeat (go_big_quiet_step (fail))
      refine wpQuiet_nil ?_
      refine mixL_one (by kernel_rfl) (fun _ _ d _ _ h => by cases d <;> exact h) (BoxOC vb W3) 8 (keepO_box (by decide)) 1 (fun l w => keepO_back (is := [1]) rfl 1 (by simp) l w) _ 5 _ _ _ rfl (by kernel_rfl) (by kernel_rfl) (by kernel_rfl) ?_
      repeat (go_big_quiet_step (fail))
      refine wpQuiet_nil ?_
      clear h1 g0 g1
      have HROW := Hold.mk (rrow_any nm sp w9)
      refine mixL_act (i := 6) rfl (by kernel_rfl) (keepO_on (fun b hb _ _ => HB9.out.block b hb) (HB9.out.block vb (heap_lt HAVQ.out.box))) rfl (fun K hK => ?_)
      go_wp2_with fail
      refine HROW.out.mono ?_
      rintro e w10 ⟨ia, icap, rfl, hro, hb10⟩
      have HB10 := Hold.mk (HB9.out.trans (hb10.mono HB9.out.size))
      have HJ10 : Hold (JAt (cfA w9.heap.size w10) (rowJ nm sp []) (.agg #[.int .i64 5, .int .i64 0, .string ⟨#[]⟩, .slice none 0 0, .slice ia 2 icap])) := ⟨JAt.shut (by kernel_rfl) (by kernel_rfl) (by decide) (strs_no _) (items_of_ownA (l := [strJ nm, intJ sp]) (Nat.le_refl _) hro (row_items HXN.out.1 HXN.out.2))⟩
      have HNN : Hold (W3.heap.size ≤ w9.heap.size) := ⟨HB9.out.size⟩
      clear hro hb10 HROW
      go_wp2_with fail
      have HOS := Hold.mk (own_triv (HAVQ.out.own.kept (row := none) (grownZ_below HB10.out) (by cases (Value.slice sla n slc).ownBlock <;> simp)) HAVQ.out.own.1 (by decide) (by have := HB10.out.size; have := heap_lt HAVQ.out.box; omega))
      refine mixL_act (i := 7) rfl (by kernel_rfl) (keepO_on (fun b hb _ _ => HB10.out.block b hb) (HB10.out.block vb (heap_lt HAVQ.out.box))) rfl (fun K hK => ?_)
      go_wp2_with fail
      have HB11 : Hold (Below W3.heap.size W3 (w10.alloc (.cells #[.int .i64 5, .int .i64 0, .string ⟨#[]⟩, .slice none 0 0, .slice ia 2 icap] 55))) := ⟨HB10.out.alloc HB10.out.size _⟩
      refine mixL_act (i := 8) rfl (by kernel_rfl) (keepO_on (fun b hb _ _ => HB11.out.block b hb) (HB11.out.block vb (heap_lt HAVQ.out.box))) rfl (fun K hK => ?_)
      refine wp_push (R := RTriv) (fun _ _ _ _ _ h => h) _ _ rfl infoVal Tryz.underlying53 rfl (by decide) _ w10 _ n _ cs HOS.out rfl #[.int .i64 5, .int .i64 0, .string ⟨#[]⟩, .slice none 0 0, .slice ia 2 icap] [.int .i64 5, .int .i64 0, .string ⟨#[]⟩, .slice none 0 0, .slice ia 2 icap] rfl rfl (by simp [Value.oneCell']) () trivial _ rfl rfl (by have := HNL.out; omega) (by decide) ?_
      intro sl2 wA hoA hgA
      obtain ⟨pa, pc, rfl⟩ := hoA.shape
      have HN := Hold.mk (HAVQ.out.push HB10.out HNN.out HJ10.out hgA.by_ hgA.own hoA.own)
      have hlow := HAVQ.out.own.lt
      have HOA : Hold (∀ b, b < W3.heap.size → b ≠ vb → (Value.slice sla n slc).ownBlock ≠ some b → wA.heap[b]? = W3.heap[b]?) := ⟨fun b hb _ h2 => by
        rw [hgA.by_.block b (Nat.lt_of_lt_of_le hb HB10.out.size) (fun e => h2 e.symm)]; exact HB10.out.block b hb⟩
      have hbx : wA.heap[vb]? = some (.cells #[.int .i64 5, .int .i64 0, .string ⟨#[]⟩, .slice none 0 0, .slice sla n slc] 55 (0, 0)) := hgA.kept (kept HAVQ.out.box HB10.out) (fun g hg e => by have := (hlow g hg).1; omega)
      have HBX := Hold.mk hbx
      clear hoA hgA hlow hbx
      go_wp2_with fail
      refine mixL_seg (by kernel_rfl) (fun _ _ d _ _ h => by cases d <;> exact h) (OthC vb (.slice sla n slc) W3) keepO_base [9] (keepO_back rfl) [_] 1 2 rfl _ _ _ rfl (by kernel_rfl) ?_
      repeat (go_big_quiet_step (fail))
      refine wpQuiet_nil ?_
      refine mixL_act (i := 10) rfl (by kernel_rfl) (keepO_off HOA.out (by kernel_rfl)) rfl (fun K hK => ?_)
      obtain ⟨_, _, _, _, v4⟩ := cells_five HBX.out
      have f4 := free_box HBX.out 4
      go_wp2_with fail
      clear v4 f4
      obtain ⟨wB, hwB⟩ : ∃ wB, wB = wA.setCell ⟨vb, 4, none⟩ (.slice pa (n + 1) pc) := ⟨_, rfl⟩
      rw [← hwB]
      rw [← hwB] at HN
      have HOB : Hold (∀ b, b < W3.heap.size → b ≠ vb → (Value.slice sla n slc).ownBlock ≠ some b → wB.heap[b]? = W3.heap[b]?) := ⟨fun b h1 h2 h3 => by
        rw [hwB, Below.heap_setCell _ _ _ _ h2]; exact HOA.out b h1 h2 h3⟩
      clear hwB HOA HBX
      refine mixL_done (by kernel_rfl) (keepO_off HOB.out (by kernel_rfl)) ?_
      have HXKB : Hold (wB.heap[xb]? = some (.cells #[.string nm, .int .i64 sp, .slice xa xs.length xcap] 77 (0, 0))) := ⟨by
        rw [HOB.out xb (heap_lt HXK.out) (by have := HXG.out.1; omega) (fun e => by have := HXG.out.2 _ e; omega)]; exact HXK.out⟩
      clear HOB HAVQ HB9 HB10 HB11 HJ10 HNN HOS HAV HXK
      have HVX : Hold (vb < xb) := ⟨HXG.out.1⟩
      have HI0 : Hold (AV W2 wB vb (.slice pa (n + 1) pc) (n + 1) ((l.take j).flatMap rowsX ++ rowJ nm sp [] :: (xs.take 0).map fun p => rowJ nm p.sp [showJ p.ix]) _) := ⟨by simpa using HN.out⟩
      go_wp2_with fail
      go_loopw [7] (fun i wq => ∃ (q n : Nat) (sl : Value) (cs : List Value), i = .int .i64 q ∧ q ≤ xs.length ∧ AV W2 wq vb sl n ((l.take j).flatMap rowsX ++ rowJ nm sp [] :: (xs.take q).map fun p => rowJ nm p.sp [showJ p.ix]) cs ∧ n ≤ 1001 + q ∧ wq.heap[xb]? = some (.cells #[.string nm, .int .i64 sp, .slice xa xs.length xcap] 77 (0, 0))) (fun i _ => xs.length - (intOf i).toNat)
      case atStart => exact ⟨0, _, _, _, rfl, Nat.zero_le _, HI0.out, by have := HNL.out; omega, HXKB.out⟩
      case round =>
        rename World => wq
        clear HI0 HXKB HN HXG
        obtain ⟨q, n', sl', cs', rfl, hq, hav, hnq, hxk⟩ := hrel
        obtain ⟨sla', slc', rfl⟩ := own_shapeZ hav.own
        have HAV := Hold.mk hav
        have HXK := Hold.mk hxk
        have HNQ := Hold.mk hnq
        clear hav hxk hnq HNL
        obtain ⟨_, _, x2⟩ := cells_three HXK.out
        by_cases hlt2 : q < xs.length
        · obtain ⟨p, hp⟩ : ∃ p, xs[q]? = some p := ⟨xs[q], List.getElem?_eq_getElem hlt2⟩
          obtain ⟨_, _, e, _, _, hxel⟩ := HXI.out
          cases e
          obtain ⟨b2, off2, d2, rfl, hd2, hcc2, fa, fcap, rfl, hpnm, hpf, hpw⟩ := hxel q p hp
          have hbwq := (HSRC.out wq HAV.out.bel).2.2
          have hcl := cle_below hbwq
          have HPC : Hold (∀ wn, Below wq.heap.size wq wn → wn.cell? ⟨b2, off2 + q * 4, none⟩ = some (.string p.ix.name) ∧ wn.cell? ⟨b2, off2 + q * 4 + 1, none⟩ = some (.slice fa p.ix.fields.length fcap) ∧ wn.cell? ⟨b2, off2 + q * 4 + 2, none⟩ = some (.bool p.ix.uniq) ∧ wn.cell? ⟨b2, off2 + q * 4 + 3, none⟩ = some (.int .i64 p.sp)) := ⟨fun wn hb => ⟨cle_below hb _ _ _ (hcl _ _ _ (hcc2 0 _ rfl)), cle_below hb _ _ _ (hcl _ _ _ (hcc2 1 _ rfl)), cle_below hb _ _ _ (hcl _ _ _ (hcc2 2 _ rfl)), cle_below hb _ _ _ (hcl _ _ _ (hcc2 3 _ rfl))⟩⟩
          have HFO2 := Hold.mk (HXF.out.2.2 p (List.mem_of_getElem? hp))
          have HSMP := Hold.mk (HXS.out p (List.mem_of_getElem? hp))
          have HPF := Hold.mk (hpf.mono hcl)
          have HIN := Hold.mk hpnm
          have HIW := Hold.mk hpw
          have HTP : Hold (xs.take (q + 1) = xs.take q ++ [p]) := ⟨take_succ hp⟩
          obtain ⟨⟨iname, fl, u⟩, isp⟩ := p
          simp only at *
          obtain ⟨x0, _, _⟩ := cells_three HXK.out
          obtain ⟨_, _, _, p3⟩ := HPC.out wq (Below.refl _ _)
          have g0 := GrowB.cell x0 (lt_of_cell x0)
          have g1 := GrowB.cell x2 (lt_of_cell x2)
          have g2 := GrowB.cell p3 (lt_of_cell p3)
          clear hd2 hcc2 hpnm hpf hpw hcl hp hxel hbwq x0 p3
          go_upto_region 12 with (fail)
          clear x2
          refine wp_region_mixC (GrowBC wq.heap.size wq) 11 rfl (by kernel_rfl) ?_
          have HDW := Hold.mk ((Below.refl wq.heap.size wq).drew)
          generalize wq.drew = v9 at HDW ⊢
          refine mixl_seg (by kernel_rfl) (fun _ _ d _ _ h => by cases d <;> exact h) [0, 1, 2, 3, 4, 5, 6, 7] [_, _, _, _, _, _, _, _] 3 11 rfl _ _ _ rfl (by kernel_rfl) (growBC HDW.out) ?_
          repeat (go_big_quiet_step (fail))
          refine wpQuiet_nil ?_
          clear g0 g1 g2
          refine mixl_two (i := 8) (j := 9) rfl rfl (by kernel_rfl) (growBC HDW.out) rfl rfl (fun K hK => ?_) (fun K hK => ?_)
          · have HROW := Hold.mk (rrow_any nm isp v9)
            go_wp2_with fail
            refine HROW.out.mono ?_
            rintro e w10 ⟨ia, icap, rfl, hro, hb10⟩
            have HB10 := Hold.mk (HDW.out.trans (hb10.mono HDW.out.size))
            obtain ⟨NR, hNR⟩ : ∃ NR, NR = v9.heap.size := ⟨_, rfl⟩
            rw [← hNR] at hro
            have HNR : Hold (wq.heap.size ≤ NR) := ⟨by rw [hNR]; exact HDW.out.size⟩
            obtain ⟨rb, hrb⟩ : ∃ rb, rb = w10.heap.size := ⟨_, rfl⟩
            obtain ⟨W5, hW5⟩ : ∃ W5, W5 = w10.alloc (.cells zero5 55) := ⟨_, rfl⟩
            have hb5 : Below w10.heap.size w10 W5 := by rw [hW5]; exact (Below.refl _ w10).alloc (Nat.le_refl _) _
            have hkr : W5.heap[rb]? = some (.cells zero5 55 (0, 0)) := by rw [hW5, hrb]; exact heap_alloc_new w10 _
            have HBP := Hold.mk (HB10.out.trans (hb5.mono HB10.out.size))
            have HRG : Hold (wq.heap.size ≤ rb) := ⟨by rw [hrb]; exact HB10.out.size⟩
            have HROP := Hold.mk (hro.kept (row := none) (grownZ_below hb5) (by cases (Value.slice ia 2 icap).ownBlock <;> simp))
            have HRN : Hold (∀ g, (Value.slice ia 2 icap).ownBlock = some g → g ≠ rb) := ⟨fun g hg => by have := (hro.lt g hg).2; omega⟩
            have HNRP : Hold (NR ≤ W5.heap.size) := ⟨by have h1 := hb10.size; have h2 := hb5.size; omega⟩
            clear hro hb10 hb5 hNR HROW
            go_wp2_with fail
            refine mixl_act (i := 9) rfl (by kernel_rfl) (growBC HB10.out) rfl (fun K hK => ?_)
            go_wp2_with fail
            rw [← hW5, ← hrb]
            clear hW5 hrb
            have hf0 := free_box hkr 0
            have hf1 := free_box hkr 1
            have hf2 := free_box hkr 2
            have hf3 := free_box hkr 3
            have hf4 := free_box hkr 4
            obtain ⟨q0, q1, q2, q3, q4⟩ := cells_five hkr
            have HKR := Hold.mk hkr
            clear hkr
            refine mixl_act (i := 10) rfl (by kernel_rfl) (growBC HBP.out) rfl (fun K hK => ?_)
            go_wp2_with fail
            clear hf0 hf1 hf2 hf3 hf4 q0 q1 q2 q3 q4
            obtain ⟨W6, hW6⟩ : ∃ W6, W6 = (((((W5.setCell ⟨rb, 0, none⟩ (.int .i64 5)).setCell ⟨rb, 1, none⟩ (.int .i64 0)).setCell ⟨rb, 2, none⟩ (.string ⟨#[]⟩)).setCell ⟨rb, 3, none⟩ (.slice none 0 0)).setCell ⟨rb, 4, none⟩ (.slice ia 2 icap)) := ⟨_, rfl⟩
            rw [← hW6]
            have HRB6 : Hold (W6.heap[rb]? = some (.cells #[.int .i64 5, .int .i64 0, .string ⟨#[]⟩, .slice none 0 0, .slice ia 2 icap] 55 (0, 0))) := ⟨by rw [hW6]; exact set5_self HKR.out⟩
            have HBQ6 : Hold (Below wq.heap.size wq W6) := ⟨by rw [hW6]; exact set5_below HBP.out HRG.out⟩
            have hz6 : W6.heap.size = W5.heap.size := by rw [hW6]; simp
            have HRO6 : Hold (W6.ownsRow NR 55 5 (.slice ia 2 icap) 2 [.int .i64 4, .int .i64 0, .string nm, .slice none 0 0, .slice none 0 0, .int .i64 3, .int .i64 isp, .string ⟨#[]⟩, .slice none 0 0, .slice none 0 0]) := ⟨HROP.out.kept (row := some rb) (by
              have h1 := set5_below (a := W5) (w := W5) (B := 0) (k := rb) (c0 := .int .i64 5) (c1 := .int .i64 0) (c2 := .string ⟨#[]⟩) (c3 := .slice none 0 0) (c4 := .slice ia 2 icap) (Below.refl _ _) (Nat.zero_le _)
              rw [hW6]
              exact ⟨h1.os, h1.tape, h1.output, h1.size, fun b _ hb => set5_other (fun e => hb (by rw [e]))⟩) (by
              cases e : (Value.slice ia 2 icap).ownBlock with
              | none => exact .inl rfl
              | some g => exact .inr (fun e2 => HRN.out g e (Option.some.inj e2)))⟩
            have HNR2 : Hold (NR ≤ W6.heap.size) := ⟨by rw [hz6]; exact HNRP.out⟩
            have HRL : Hold (∀ b, (Value.slice ia 2 icap).ownBlock = some b → b < W6.heap.size) := ⟨fun b hb => by rw [hz6]; exact (HROP.out.lt b hb).2⟩
            clear hW6 hz6 HROP HBP HKR
            refine mix_done (by kernel_rfl) (growBC HBQ6.out) ?_
            have HXK6 := Hold.mk (kept HXK.out HBQ6.out)
            obtain ⟨_, _, x2⟩ := cells_three HXK6.out
            obtain ⟨p0, p1, p2, _⟩ := HPC.out W6 HBQ6.out
            have HSH := Hold.mk (rShowA_any ⟨iname, fl, u⟩ (.agg #[.string iname, .slice fa fl.length fcap, .bool u]) W6 ⟨HIN.out, _, rfl, HPF.out.mono (cle_below HBQ6.out)⟩ HSMP.out)
            go_wp2_with fail
            refine HSH.out.mono ?_
            rintro e w7 ⟨hpost, hb7⟩
            rw [if_pos HFO2.out] at hpost
            obtain ⟨y, rfl, hyj⟩ := hpost
            have HSJ := Hold.mk hyj
            obtain ⟨sk, sn, st, snm, sit, sna, snc, sia, sic, _, rfl, _⟩ := hyj.open
            obtain ⟨sb, hsb⟩ : ∃ sb, sb = w7.heap.size := ⟨_, rfl⟩
            obtain ⟨W8, hW8⟩ : ∃ W8, W8 = w7.alloc (.cells #[.int .i64 sk, .int .i64 sn, .string st, .slice sna snm.length snc, .slice sia sit.length sic] 55) := ⟨_, rfl⟩
            have hb8 : Below w7.heap.size w7 W8 := by rw [hW8]; exact (Below.refl _ w7).alloc (Nat.le_refl _) _
            have HSK : Hold (W8.heap[sb]? = some (.cells #[.int .i64 sk, .int .i64 sn, .string st, .slice sna snm.length snc, .slice sia sit.length sic] 55 (0, 0))) := ⟨by rw [hW8, hsb]; exact heap_alloc_new w7 _⟩
            have HB68 := Hold.mk (hb7.trans (hb8.mono hb7.size))
            have HBQ8 := Hold.mk (HBQ6.out.trans (HB68.out.mono HBQ6.out.size))
            have HR8 := Hold.mk (kept HRB6.out HB68.out)
            have HO8 := Hold.mk (HRO6.out.kept (row := none) (grownZ_below HB68.out) (by cases (Value.slice ia 2 icap).ownBlock <;> simp))
            have HJ8 : Hold (JAt (cfA W6.heap.size W8) (showJ ⟨iname, fl, u⟩) (.agg #[.int .i64 sk, .int .i64 sn, .string st, .slice sna snm.length snc, .slice sia sit.length sic])) := ⟨HSJ.out.mono (cfA_below hb8)⟩
            clear hb7 hb8 hyj HSH x2 p0 p1 p2
            go_upto_region 14 with (fail)
            rw [← hW8, ← hsb]
            clear hW8 hsb
            obtain ⟨_, _, _, _, r4⟩ := cells_five HR8.out
            obtain ⟨s0, s1, s2, s3, s4⟩ := cells_five HSK.out
            have HOT := Hold.mk (own_triv HO8.out (by simp) (by decide) (by have := HNR2.out; have := HB68.out.size; omega))
            go_wp2_with (at_builtin; refine push_new (R := RTriv) (fun _ _ _ _ _ h => h) rfl _ _ rfl infoVal Tryz.underlying53 rfl (by decide) _ _ _ 2 _ _ HOT.out rfl _ [.int .i64 sk, .int .i64 sn, .string st, .slice sna snm.length snc, .slice sia sit.length sic] rfl rfl (by simp [Value.oneCell']) () trivial _ rfl rfl (by decide) (by decide) ?_)
            intro sl3 wA hoA hgA
            obtain ⟨ra, rc, rfl⟩ := hoA.shape
            have HOA : Hold (wA.ownsRow NR 55 5 (.slice ra 3 rc) 3 [.int .i64 4, .int .i64 0, .string nm, .slice none 0 0, .slice none 0 0, .int .i64 3, .int .i64 isp, .string ⟨#[]⟩, .slice none 0 0, .slice none 0 0, .int .i64 sk, .int .i64 sn, .string st, .slice sna snm.length snc, .slice sia sit.length sic]) := ⟨by simpa using hoA.own⟩
            have hlow := HO8.out.lt
            have HRA : Hold (wA.heap[rb]? = some (.cells #[.int .i64 5, .int .i64 0, .string ⟨#[]⟩, .slice none 0 0, .slice ia 2 icap] 55 (0, 0))) := ⟨hgA.kept HR8.out (fun g hg e => HRN.out g hg e.symm)⟩
            have HBQA : Hold (Below wq.heap.size wq wA) := ⟨HBQ8.out.trans (hgA.below HBQ8.out.size (fun g hg => Nat.le_trans HNR.out (hlow g hg).1))⟩
            have HB8A : Hold (∀ b, b < W8.heap.size → (Value.slice ia 2 icap).ownBlock ≠ some b → wA.heap[b]? = W8.heap[b]?) := ⟨fun b hb h2 => hgA.by_.block b hb (fun e => h2 e.symm)⟩
            have HRNA : Hold (∀ g, (Value.slice ra 3 rc).ownBlock = some g → g ≠ rb) := ⟨fun g hg => by
              rcases hgA.own g (by simpa using hg) with h | h
              · exact HRN.out g h
              · have := heap_lt HR8.out; omega⟩
            have HJA : Hold (JAt (cfA W6.heap.size wA) (showJ ⟨iname, fl, u⟩) (.agg #[.int .i64 sk, .int .i64 sn, .string st, .slice sna snm.length snc, .slice sia sit.length sic])) := ⟨HJ8.out.mono (fun b o u' e => by
              unfold cfA at e ⊢
              split at e
              · rename_i hc
                have h1 := lt_of_cell e
                rw [if_pos hc, World.cell?_of_block (HB8A.out b h1 (fun e2 => by have := HRL.out b e2; omega))]; exact e
              · cases e)⟩
            obtain ⟨_, _, _, _, u4⟩ := cells_five HRA.out
            have f4 := free_box HRA.out 4
            clear hoA hgA hlow r4 s0 s1 s2 s3 s4 HOT
            go_upto_region 15 with (fail)
            clear u4 f4
            obtain ⟨WC, hWC⟩ : ∃ WC, WC = wA.setCell ⟨rb, 4, none⟩ (.slice ra 3 rc) := ⟨_, rfl⟩
            first | rw [← hWC] | (simp only [Nat.reduceAdd]; rw [← hWC])
            have HRC : Hold (WC.heap[rb]? = some (.cells #[.int .i64 5, .int .i64 0, .string ⟨#[]⟩, .slice none 0 0, .slice ra 3 rc] 55 (0, 0))) := ⟨by
              rw [hWC]
              have := set_self (o := 4) (c := .slice ra 3 rc) HRA.out
              simpa using this⟩
            have hgC : wA.grownBy WC (some rb) := by rw [hWC]; exact grownZ_set _ _ _ _
            have HOC : Hold (WC.ownsRow NR 55 5 (.slice ra 3 rc) 3 [.int .i64 4, .int .i64 0, .string nm, .slice none 0 0, .slice none 0 0, .int .i64 3, .int .i64 isp, .string ⟨#[]⟩, .slice none 0 0, .slice none 0 0, .int .i64 sk, .int .i64 sn, .string st, .slice sna snm.length snc, .slice sia sit.length sic]) := ⟨HOA.out.kept hgC (by
              cases e : (Value.slice ra 3 rc).ownBlock with
              | none => exact .inl rfl
              | some g => exact .inr (fun e2 => HRNA.out g e (Option.some.inj e2)))⟩
            have HBQC : Hold (Below wq.heap.size wq WC) := ⟨HBQA.out.trans (below_grownZ hgC HRG.out HBQA.out.size)⟩
            have HJC : Hold (JAt (cfA wq.heap.size WC) (showJ ⟨iname, fl, u⟩) (.agg #[.int .i64 sk, .int .i64 sn, .string st, .slice sna snm.length snc, .slice sia sit.length sic])) := ⟨HJA.out.mono (fun b o u' e => by
              unfold cfA at e ⊢
              split at e
              · rename_i hc
                have h1 := lt_of_cell e
                have h2 := HBQ6.out.size
                have h3 := heap_lt HRB6.out
                rw [if_pos (by omega), World.cell?_of_block (hgC.block b h1 (fun e2 => by have := Option.some.inj e2; omega))]; exact e
              · cases e)⟩
            have HJR : Hold (JAt (cfA wq.heap.size WC) (rowJ nm isp [showJ ⟨iname, fl, u⟩]) (.agg #[.int .i64 5, .int .i64 0, .string ⟨#[]⟩, .slice none 0 0, .slice ra 3 rc])) := ⟨JAt.shut (by kernel_rfl) (by kernel_rfl) (by decide) (strs_no _) (items_of_ownA (l := [strJ nm, intJ isp, showJ ⟨iname, fl, u⟩]) HNR.out HOC.out ((row_items HXN.out.1 HIW.out).snoc HJC.out))⟩
            have HAVC := Hold.mk (HAV.out.quiet HBQC.out)
            have HXKC := Hold.mk (kept HXK.out HBQC.out)
            have HOV := Hold.mk (own_triv HAVC.out.own HAVC.out.own.1 (by decide) (by have := heap_lt HAVC.out.box; omega))
            obtain ⟨_, _, _, _, v4⟩ := cells_five HAVC.out.box
            obtain ⟨r0, r1, r2, r3, r4⟩ := cells_five HRC.out
            clear hWC hgC
            go_wp2_with (at_builtin; refine push_new (R := RTriv) (fun _ _ _ _ _ h => h) rfl _ _ rfl infoVal Tryz.underlying53 rfl (by decide) _ _ _ n' _ _ HOV.out rfl _ [.int .i64 5, .int .i64 0, .string ⟨#[]⟩, .slice none 0 0, .slice ra 3 rc] rfl rfl (by simp [Value.oneCell']) () trivial _ rfl rfl (by have := HNQ.out; have := HXF.out.1; omega) (by decide) ?_)
            intro sl5 wD hoD hgD
            obtain ⟨pa, pc, rfl⟩ := hoD.shape
            have HN := Hold.mk (HAV.out.push HBQC.out (Nat.le_refl _) HJR.out hgD.by_ hgD.own hoD.own)
            have HVD : Hold (wD.heap[vb]? = some (.cells #[.int .i64 5, .int .i64 0, .string ⟨#[]⟩, .slice none 0 0, .slice sla' n' slc'] 55 (0, 0))) := ⟨hgD.kept HAVC.out.box (fun g hg e => by have := (HAVC.out.own.lt g hg).1; omega)⟩
            have HXKB : Hold ((wD.setCell ⟨vb, 4, none⟩ (.slice pa (n' + 1) pc)).heap[xb]? = some (.cells #[.string nm, .int .i64 sp, .slice (some ⟨b2, off2, none⟩) xs.length xcap] 77 (0, 0))) := ⟨by
              rw [Below.heap_setCell _ _ _ _ (show xb ≠ vb by have := HVX.out; omega)]
              exact hgD.kept HXKC.out (own_ne HAVC.out.own HXKC.out (by decide))⟩
            have HN3 : Hold (AV W2 (wD.setCell ⟨vb, 4, none⟩ (.slice pa (n' + 1) pc)) vb (.slice pa (n' + 1) pc) (n' + 1) ((l.take j).flatMap rowsX ++ rowJ nm sp [] :: (xs.take (q + 1)).map fun p => rowJ nm p.sp [showJ p.ix]) _) := ⟨by
              have := HN.out
              rw [HTP.out, List.map_append]
              simpa using this⟩
            clear hoD hgD v4 r0 r1 r2 r3 r4
            obtain ⟨_, _, _, _, v4⟩ := cells_five HVD.out
            have f4 := free_box HVD.out 4
            clear HOV HAVC HN
            go_wp2_with fail
            exact ⟨⟨q + 1, n' + 1, _, _, by go_num, hlt2, HN3.out, by have := HNQ.out; omega, HXKB.out⟩, by simp [intOf]; omega⟩
          · go_wp2_with fail
            obtain ⟨rb, hrb⟩ : ∃ rb, rb = v9.heap.size := ⟨_, rfl⟩
            obtain ⟨W5, hW5⟩ : ∃ W5, W5 = v9.alloc (.cells zero5 55) := ⟨_, rfl⟩
            rw [← hW5, ← hrb]
            have hb5 : Below v9.heap.size v9 W5 := by rw [hW5]; exact (Below.refl _ v9).alloc (Nat.le_refl _) _
            have hk5 : W5.heap[rb]? = some (.cells zero5 55 (0, 0)) := by rw [hW5, hrb]; exact heap_alloc_new v9 _
            have HB5 := Hold.mk (HDW.out.trans (hb5.mono HDW.out.size))
            have HRG : Hold (wq.heap.size ≤ rb) := ⟨by rw [hrb]; exact HDW.out.size⟩
            have HROW := Hold.mk (rrow_any nm isp W5)
            have HK5 := Hold.mk hk5
            clear hW5 hrb hb5 hk5
            refine mixl_act (i := 8) rfl (by kernel_rfl) (growBC HB5.out) rfl (fun K hK => ?_)
            go_wp2_with fail
            refine HROW.out.mono ?_
            rintro e w10 ⟨ia, icap, rfl, hro, hb10⟩
            have HBP := Hold.mk (HB5.out.trans (hb10.mono HB5.out.size))
            obtain ⟨NR, hNR⟩ : ∃ NR, NR = W5.heap.size := ⟨_, rfl⟩
            rw [← hNR] at hro
            have HNR : Hold (wq.heap.size ≤ NR) := ⟨by rw [hNR]; exact HB5.out.size⟩
            have hkr := kept HK5.out hb10
            have HROP := Hold.mk hro
            have HRN : Hold (∀ g, (Value.slice ia 2 icap).ownBlock = some g → g ≠ rb) := ⟨fun g hg => by have := (hro.lt g hg).1; have := heap_lt HK5.out; omega⟩
            have HNRP : Hold (NR ≤ w10.heap.size) := ⟨by rw [hNR]; exact hb10.size⟩
            clear hro hb10 hNR HROW
            go_wp2_with fail
            have hf0 := free_box hkr 0
            have hf1 := free_box hkr 1
            have hf2 := free_box hkr 2
            have hf3 := free_box hkr 3
            have hf4 := free_box hkr 4
            obtain ⟨q0, q1, q2, q3, q4⟩ := cells_five hkr
            have HKR := Hold.mk hkr
            clear hkr
            refine mixl_act (i := 10) rfl (by kernel_rfl) (growBC HBP.out) rfl (fun K hK => ?_)
            go_wp2_with fail
            clear hf0 hf1 hf2 hf3 hf4 q0 q1 q2 q3 q4
            obtain ⟨W6, hW6⟩ : ∃ W6, W6 = (((((w10.setCell ⟨rb, 0, none⟩ (.int .i64 5)).setCell ⟨rb, 1, none⟩ (.int .i64 0)).setCell ⟨rb, 2, none⟩ (.string ⟨#[]⟩)).setCell ⟨rb, 3, none⟩ (.slice none 0 0)).setCell ⟨rb, 4, none⟩ (.slice ia 2 icap)) := ⟨_, rfl⟩
            rw [← hW6]
            have HRB6 : Hold (W6.heap[rb]? = some (.cells #[.int .i64 5, .int .i64 0, .string ⟨#[]⟩, .slice none 0 0, .slice ia 2 icap] 55 (0, 0))) := ⟨by rw [hW6]; exact set5_self HKR.out⟩
            have HBQ6 : Hold (Below wq.heap.size wq W6) := ⟨by rw [hW6]; exact set5_below HBP.out HRG.out⟩
            have hz6 : W6.heap.size = w10.heap.size := by rw [hW6]; simp
            have HRO6 : Hold (W6.ownsRow NR 55 5 (.slice ia 2 icap) 2 [.int .i64 4, .int .i64 0, .string nm, .slice none 0 0, .slice none 0 0, .int .i64 3, .int .i64 isp, .string ⟨#[]⟩, .slice none 0 0, .slice none 0 0]) := ⟨HROP.out.kept (row := some rb) (by
              have h1 := set5_below (a := w10) (w := w10) (B := 0) (k := rb) (c0 := .int .i64 5) (c1 := .int .i64 0) (c2 := .string ⟨#[]⟩) (c3 := .slice none 0 0) (c4 := .slice ia 2 icap) (Below.refl _ _) (Nat.zero_le _)
              rw [hW6]
              exact ⟨h1.os, h1.tape, h1.output, h1.size, fun b _ hb => set5_other (fun e => hb (by rw [e]))⟩) (by
              cases e : (Value.slice ia 2 icap).ownBlock with
              | none => exact .inl rfl
              | some g => exact .inr (fun e2 => HRN.out g e (Option.some.inj e2)))⟩
            have HNR2 : Hold (NR ≤ W6.heap.size) := ⟨by rw [hz6]; exact HNRP.out⟩
            have HRL : Hold (∀ b, (Value.slice ia 2 icap).ownBlock = some b → b < W6.heap.size) := ⟨fun b hb => by rw [hz6]; exact (HROP.out.lt b hb).2⟩
            clear hW6 hz6 HROP HBP HKR
            refine mix_done (by kernel_rfl) (growBC HBQ6.out) ?_
            have HXK6 := Hold.mk (kept HXK.out HBQ6.out)
            obtain ⟨_, _, x2⟩ := cells_three HXK6.out
            obtain ⟨p0, p1, p2, _⟩ := HPC.out W6 HBQ6.out
            have HSH := Hold.mk (rShowA_any ⟨iname, fl, u⟩ (.agg #[.string iname, .slice fa fl.length fcap, .bool u]) W6 ⟨HIN.out, _, rfl, HPF.out.mono (cle_below HBQ6.out)⟩ HSMP.out)
            go_wp2_with fail
            refine HSH.out.mono ?_
            rintro e w7 ⟨hpost, hb7⟩
            rw [if_pos HFO2.out] at hpost
            obtain ⟨y, rfl, hyj⟩ := hpost
            have HSJ := Hold.mk hyj
            obtain ⟨sk, sn, st, snm, sit, sna, snc, sia, sic, _, rfl, _⟩ := hyj.open
            obtain ⟨sb, hsb⟩ : ∃ sb, sb = w7.heap.size := ⟨_, rfl⟩
            obtain ⟨W8, hW8⟩ : ∃ W8, W8 = w7.alloc (.cells #[.int .i64 sk, .int .i64 sn, .string st, .slice sna snm.length snc, .slice sia sit.length sic] 55) := ⟨_, rfl⟩
            have hb8 : Below w7.heap.size w7 W8 := by rw [hW8]; exact (Below.refl _ w7).alloc (Nat.le_refl _) _
            have HSK : Hold (W8.heap[sb]? = some (.cells #[.int .i64 sk, .int .i64 sn, .string st, .slice sna snm.length snc, .slice sia sit.length sic] 55 (0, 0))) := ⟨by rw [hW8, hsb]; exact heap_alloc_new w7 _⟩
            have HB68 := Hold.mk (hb7.trans (hb8.mono hb7.size))
            have HBQ8 := Hold.mk (HBQ6.out.trans (HB68.out.mono HBQ6.out.size))
            have HR8 := Hold.mk (kept HRB6.out HB68.out)
            have HO8 := Hold.mk (HRO6.out.kept (row := none) (grownZ_below HB68.out) (by cases (Value.slice ia 2 icap).ownBlock <;> simp))
            have HJ8 : Hold (JAt (cfA W6.heap.size W8) (showJ ⟨iname, fl, u⟩) (.agg #[.int .i64 sk, .int .i64 sn, .string st, .slice sna snm.length snc, .slice sia sit.length sic])) := ⟨HSJ.out.mono (cfA_below hb8)⟩
            clear hb7 hb8 hyj HSH x2 p0 p1 p2
            go_upto_region 14 with (fail)
            rw [← hW8, ← hsb]
            clear hW8 hsb
            obtain ⟨_, _, _, _, r4⟩ := cells_five HR8.out
            obtain ⟨s0, s1, s2, s3, s4⟩ := cells_five HSK.out
            have HOT := Hold.mk (own_triv HO8.out (by simp) (by decide) (by have := HNR2.out; have := HB68.out.size; omega))
            go_wp2_with (at_builtin; refine push_new (R := RTriv) (fun _ _ _ _ _ h => h) rfl _ _ rfl infoVal Tryz.underlying53 rfl (by decide) _ _ _ 2 _ _ HOT.out rfl _ [.int .i64 sk, .int .i64 sn, .string st, .slice sna snm.length snc, .slice sia sit.length sic] rfl rfl (by simp [Value.oneCell']) () trivial _ rfl rfl (by decide) (by decide) ?_)
            intro sl3 wA hoA hgA
            obtain ⟨ra, rc, rfl⟩ := hoA.shape
            have HOA : Hold (wA.ownsRow NR 55 5 (.slice ra 3 rc) 3 [.int .i64 4, .int .i64 0, .string nm, .slice none 0 0, .slice none 0 0, .int .i64 3, .int .i64 isp, .string ⟨#[]⟩, .slice none 0 0, .slice none 0 0, .int .i64 sk, .int .i64 sn, .string st, .slice sna snm.length snc, .slice sia sit.length sic]) := ⟨by simpa using hoA.own⟩
            have hlow := HO8.out.lt
            have HRA : Hold (wA.heap[rb]? = some (.cells #[.int .i64 5, .int .i64 0, .string ⟨#[]⟩, .slice none 0 0, .slice ia 2 icap] 55 (0, 0))) := ⟨hgA.kept HR8.out (fun g hg e => HRN.out g hg e.symm)⟩
            have HBQA : Hold (Below wq.heap.size wq wA) := ⟨HBQ8.out.trans (hgA.below HBQ8.out.size (fun g hg => Nat.le_trans HNR.out (hlow g hg).1))⟩
            have HB8A : Hold (∀ b, b < W8.heap.size → (Value.slice ia 2 icap).ownBlock ≠ some b → wA.heap[b]? = W8.heap[b]?) := ⟨fun b hb h2 => hgA.by_.block b hb (fun e => h2 e.symm)⟩
            have HRNA : Hold (∀ g, (Value.slice ra 3 rc).ownBlock = some g → g ≠ rb) := ⟨fun g hg => by
              rcases hgA.own g (by simpa using hg) with h | h
              · exact HRN.out g h
              · have := heap_lt HR8.out; omega⟩
            have HJA : Hold (JAt (cfA W6.heap.size wA) (showJ ⟨iname, fl, u⟩) (.agg #[.int .i64 sk, .int .i64 sn, .string st, .slice sna snm.length snc, .slice sia sit.length sic])) := ⟨HJ8.out.mono (fun b o u' e => by
              unfold cfA at e ⊢
              split at e
              · rename_i hc
                have h1 := lt_of_cell e
                rw [if_pos hc, World.cell?_of_block (HB8A.out b h1 (fun e2 => by have := HRL.out b e2; omega))]; exact e
              · cases e)⟩
            obtain ⟨_, _, _, _, u4⟩ := cells_five HRA.out
            have f4 := free_box HRA.out 4
            clear hoA hgA hlow r4 s0 s1 s2 s3 s4 HOT
            go_upto_region 15 with (fail)
            clear u4 f4
            obtain ⟨WC, hWC⟩ : ∃ WC, WC = wA.setCell ⟨rb, 4, none⟩ (.slice ra 3 rc) := ⟨_, rfl⟩
            first | rw [← hWC] | (simp only [Nat.reduceAdd]; rw [← hWC])
            have HRC : Hold (WC.heap[rb]? = some (.cells #[.int .i64 5, .int .i64 0, .string ⟨#[]⟩, .slice none 0 0, .slice ra 3 rc] 55 (0, 0))) := ⟨by
              rw [hWC]
              have := set_self (o := 4) (c := .slice ra 3 rc) HRA.out
              simpa using this⟩
            have hgC : wA.grownBy WC (some rb) := by rw [hWC]; exact grownZ_set _ _ _ _
            have HOC : Hold (WC.ownsRow NR 55 5 (.slice ra 3 rc) 3 [.int .i64 4, .int .i64 0, .string nm, .slice none 0 0, .slice none 0 0, .int .i64 3, .int .i64 isp, .string ⟨#[]⟩, .slice none 0 0, .slice none 0 0, .int .i64 sk, .int .i64 sn, .string st, .slice sna snm.length snc, .slice sia sit.length sic]) := ⟨HOA.out.kept hgC (by
              cases e : (Value.slice ra 3 rc).ownBlock with
              | none => exact .inl rfl
              | some g => exact .inr (fun e2 => HRNA.out g e (Option.some.inj e2)))⟩
            have HBQC : Hold (Below wq.heap.size wq WC) := ⟨HBQA.out.trans (below_grownZ hgC HRG.out HBQA.out.size)⟩
            have HJC : Hold (JAt (cfA wq.heap.size WC) (showJ ⟨iname, fl, u⟩) (.agg #[.int .i64 sk, .int .i64 sn, .string st, .slice sna snm.length snc, .slice sia sit.length sic])) := ⟨HJA.out.mono (fun b o u' e => by
              unfold cfA at e ⊢
              split at e
              · rename_i hc
                have h1 := lt_of_cell e
                have h2 := HBQ6.out.size
                have h3 := heap_lt HRB6.out
                rw [if_pos (by omega), World.cell?_of_block (hgC.block b h1 (fun e2 => by have := Option.some.inj e2; omega))]; exact e
              · cases e)⟩
            have HJR : Hold (JAt (cfA wq.heap.size WC) (rowJ nm isp [showJ ⟨iname, fl, u⟩]) (.agg #[.int .i64 5, .int .i64 0, .string ⟨#[]⟩, .slice none 0 0, .slice ra 3 rc])) := ⟨JAt.shut (by kernel_rfl) (by kernel_rfl) (by decide) (strs_no _) (items_of_ownA (l := [strJ nm, intJ isp, showJ ⟨iname, fl, u⟩]) HNR.out HOC.out ((row_items HXN.out.1 HIW.out).snoc HJC.out))⟩
            have HAVC := Hold.mk (HAV.out.quiet HBQC.out)
            have HXKC := Hold.mk (kept HXK.out HBQC.out)
            have HOV := Hold.mk (own_triv HAVC.out.own HAVC.out.own.1 (by decide) (by have := heap_lt HAVC.out.box; omega))
            obtain ⟨_, _, _, _, v4⟩ := cells_five HAVC.out.box
            obtain ⟨r0, r1, r2, r3, r4⟩ := cells_five HRC.out
            clear hWC hgC
            go_wp2_with (at_builtin; refine push_new (R := RTriv) (fun _ _ _ _ _ h => h) rfl _ _ rfl infoVal Tryz.underlying53 rfl (by decide) _ _ _ n' _ _ HOV.out rfl _ [.int .i64 5, .int .i64 0, .string ⟨#[]⟩, .slice none 0 0, .slice ra 3 rc] rfl rfl (by simp [Value.oneCell']) () trivial _ rfl rfl (by have := HNQ.out; have := HXF.out.1; omega) (by decide) ?_)
            intro sl5 wD hoD hgD
            obtain ⟨pa, pc, rfl⟩ := hoD.shape
            have HN := Hold.mk (HAV.out.push HBQC.out (Nat.le_refl _) HJR.out hgD.by_ hgD.own hoD.own)
            have HVD : Hold (wD.heap[vb]? = some (.cells #[.int .i64 5, .int .i64 0, .string ⟨#[]⟩, .slice none 0 0, .slice sla' n' slc'] 55 (0, 0))) := ⟨hgD.kept HAVC.out.box (fun g hg e => by have := (HAVC.out.own.lt g hg).1; omega)⟩
            have HXKB : Hold ((wD.setCell ⟨vb, 4, none⟩ (.slice pa (n' + 1) pc)).heap[xb]? = some (.cells #[.string nm, .int .i64 sp, .slice (some ⟨b2, off2, none⟩) xs.length xcap] 77 (0, 0))) := ⟨by
              rw [Below.heap_setCell _ _ _ _ (show xb ≠ vb by have := HVX.out; omega)]
              exact hgD.kept HXKC.out (own_ne HAVC.out.own HXKC.out (by decide))⟩
            have HN3 : Hold (AV W2 (wD.setCell ⟨vb, 4, none⟩ (.slice pa (n' + 1) pc)) vb (.slice pa (n' + 1) pc) (n' + 1) ((l.take j).flatMap rowsX ++ rowJ nm sp [] :: (xs.take (q + 1)).map fun p => rowJ nm p.sp [showJ p.ix]) _) := ⟨by
              have := HN.out
              rw [HTP.out, List.map_append]
              simpa using this⟩
            clear hoD hgD v4 r0 r1 r2 r3 r4
            obtain ⟨_, _, _, _, v4⟩ := cells_five HVD.out
            have f4 := free_box HVD.out 4
            clear HOV HAVC HN
            go_wp2_with fail
            exact ⟨⟨q + 1, n' + 1, _, _, by go_num, hlt2, HN3.out, by have := HNQ.out; omega, HXKB.out⟩, by simp [intOf]; omega⟩
        · obtain rfl : q = xs.length := by omega
          have HE2 : Hold (AV W2 wq vb (.slice sla' n' slc') n' ((l.take (j + 1)).flatMap rowsX) cs') := ⟨by
            have := HAV.out
            rw [List.take_of_length_le (Nat.le_refl _)] at this
            rw [HRS.out]; exact this⟩
          go_wp2_with fail
          exact ⟨⟨j + 1, n', _, cs', by go_num, hlt, HE2.out⟩, by simp [intOf]; omega⟩
    · obtain rfl : j = l.length := by omega
      have HTK : Hold (l.take l.length = l) := ⟨List.take_of_length_le (Nat.le_refl _)⟩
      rw [HTK.out] at HAV
      obtain ⟨_, hrb, hbw⟩ := HSRC.out wr HAV.out.bel
      have HRB2 := Hold.mk hrb
      have HBW2 := Hold.mk hbw
      obtain ⟨yc0, _, _⟩ := HSRC.out wr HAV.out.bel
      obtain ⟨z0, z1, z2, z3, z4⟩ := cells_five HAV.out.box
      obtain ⟨r0, r1, r2, r3, r4⟩ := cells_five hrb
      have f0 := free_box hrb 0
      have f1 := free_box hrb 1
      have f2 := free_box hrb 2
      have f3 := free_box hrb 3
      have f4 := free_box hrb 4
      clear hrb hbw
      go_wp2_with fail
      obtain ⟨W3, hW3⟩ : ∃ W3, W3 = (((((wr.setCell ⟨w.heap.size + 1, 0, none⟩ (.int .i64 5)).setCell ⟨w.heap.size + 1, 1, none⟩ (.int .i64 0)).setCell ⟨w.heap.size + 1, 2, none⟩ (.string ⟨#[]⟩)).setCell ⟨w.heap.size + 1, 3, none⟩ (.slice none 0 0)).setCell ⟨w.heap.size + 1, 4, none⟩ (.slice sla n slc)) := ⟨_, rfl⟩
      rw [← hW3]
      have hbk : W3.heap[w.heap.size + 1]? = some (.cells #[.int .i64 5, .int .i64 0, .string ⟨#[]⟩, .slice none 0 0, .slice sla n slc] 55 (0, 0)) := by rw [hW3]; exact set5_self HRB2.out
      have hbw : Below w.heap.size w W3 := by rw [hW3]; exact set5_below HBW2.out (by omega)
      have how : W3.ownsRow (vb + 1) 55 5 (.slice sla n slc) n cs := by rw [hW3]; exact own_set5 HAV.out.own (by have := HVB.out; omega)
      have hvr : VRow (cf W3) (l.flatMap rowsX) cs := HAV.out.row.mono (fun b o u e => by
        unfold cfV at e
        split at e
        · rename_i hc
          show W3.cell? ⟨b, o, none⟩ = some u
          rw [hW3]
          exact (set5_cells (show b ≠ w.heap.size + 1 by have := HVB.out; omega)).trans e
        · cases e)
      have hln := HAV.out.len
      clear hW3 r0 r1 r2 r3 r4 f0 f1 f2 f3 f4 z0 z1 z2 z3 z4
      obtain ⟨c0, c1, c2, c3, c4⟩ := cells_five hbk
      subst hln
      exact bodyPost_ret (v := .tuple #[.agg #[.int .i64 5, .int .i64 0, .string ⟨#[]⟩, .slice none 0 0, .slice sla (l.flatMap rowsX).length slc], .int .i64 0]) (by simp [results, Tryz.results21, go_sem, c0, c1, c2, c3, c4]) rfl ⟨by rw [if_pos HF.out]; exact ⟨_, rfl, JAt.shut (by kernel_rfl) (by kernel_rfl) (by decide) (strs_no _) (items_of_own how hvr)⟩, hbw⟩
end Go.Proofs.YtfpphpjobkhalaaGreatDoor
