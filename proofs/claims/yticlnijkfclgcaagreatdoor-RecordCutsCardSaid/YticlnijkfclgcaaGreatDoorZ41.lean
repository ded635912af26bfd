/- Catalogs: Parse of the program (printed by genXCBH.py). -/
import Derived.Test.YticlnijkfclgcaaGreatDoorZ40
namespace Go.Proofs.YticlnijkfclgcaaGreatDoor
open Go.Shelf Go.RowKit

set_option maxRecDepth 100000 in
set_option maxHeartbeats 32000000 in
theorem ParseC_any (v : JV) (xv : Value) (w : World) (hx : JAt (cf w) v xv) (hp : ∀ r ∈ v.items, ∀ c ∈ r.items, parsable c) (hl : v.items.length ≤ 1000) (hT : Tabs w) :
    Calls Tryz.prog 19 #[xv] w (CatPost w (parseC v)) := by
  have HX := Hold.mk hx
  obtain ⟨k, n, t, nm, it, na, ncap, ia, icap, hve, rfl, _, _, _, _, hit⟩ := hx.open
  obtain ⟨W0, hW0, hB, e0, e1, e2⟩ := threeE w (.cells #[.int .i64 k, .int .i64 n, .string t, .slice na nm.length ncap, .slice ia it.length icap] 58) (.cells #[.slice none 0 0] 63) (.cells #[.slice none 0 0] 63)
  have HB0 := Hold.mk hB
  have HV0 := Hold.mk e0
  have HR0 := Hold.mk e1
  have HT := Hold.mk hT
  have HIT := Hold.mk hit
  have HVE : Hold (v.items = it) := ⟨by rw [hve]; rfl⟩
  have HP : Hold (∀ r ∈ it, ∀ c ∈ r.items, parsable c) := ⟨by rw [← HVE.out]; exact hp⟩
  have HL : Hold (it.length ≤ 1000) := ⟨by rw [← HVE.out]; exact hl⟩
  have HP0 : Hold (PS w W0 W0 nilS [] [] nilS [] 0) := ⟨⟨Below.refl _ _, e2, OwnCat.start (by omega) (by rw [hW0]; simp), Nat.le_refl _, fun x hx => by simp at hx, fun x hx => by simp at hx⟩⟩
  clear hx hp hl hT hB e0 e1 e2 hit hve
  go_enter Tryz.func19, Tryz.ntmps19
  go_upto_region 2 with (fail)
  rw [← hW0]
  clear hW0
  obtain ⟨y0, y1, y2, y3, y4⟩ := cells_five HV0.out
  go_wp2_with fail
  clear y0 y1 y2 y3 y4
  go_loopw [15] (fun i wr => ∃ (j : Nat) (sl : Value) (acc : List CX) (cs : List Value) (ik : Value) (ics : List Value), i = .int .i64 j ∧ j ≤ it.length ∧ parseL [] (it.take j) = some acc ∧ PS w W0 wr sl acc cs ik ics j) (fun i _ => it.length - (intOf i).toNat)
  case atStart => exact ⟨0, _, _, _, _, _, rfl, Nat.zero_le _, rfl, HP0.out⟩
  case round =>
    clear HP0
    obtain ⟨j, sl, acc, cs, ik, ics, rfl, hj, hpl, hps⟩ := hrel
    obtain ⟨sla, slc, rfl⟩ := own_shapeZ hps.oc.own
    have HPS := Hold.mk hps
    have HPL := Hold.mk hpl
    clear hps hpl
    have HRX := Hold.mk (keptB HR0.out (by omega) HPS.out.bel)
    have HBX : Hold (Below w.heap.size w wr) := ⟨HB0.out.trans (HPS.out.bel.mono (by omega))⟩
    by_cases hlt : j < it.length
    · have hj9 : j ≤ 1000 := by have := HL.out; omega
      obtain ⟨r, hr⟩ : ∃ r, it[j]? = some r := ⟨it[j], List.getElem?_eq_getElem hlt⟩
      obtain ⟨b, off, rk, rn, rt, rnm, rit, rna, rncap, ra, rcap, rfl, hre, d0, d1, d2, d3, d4, _, hri, _, _⟩ := items_open HIT.out hr
      have HRI := Hold.mk hri
      have HRE : Hold (r.items = rit) := ⟨by rw [hre]; rfl⟩
      have HSTEP := Hold.mk (parse_step HPL.out hr)
      have HPR := Hold.mk (HP.out r (List.mem_of_getElem? hr))
      have hcl := cle_below HBX.out
      have z0 := hcl _ _ _ d0
      have z1 := hcl _ _ _ d1
      have z2 := hcl _ _ _ d2
      have z3 := hcl _ _ _ d3
      have z4 := hcl _ _ _ d4
      unfold cf at z0 z1 z2 z3 z4
      clear d0 d1 d2 d3 d4 hri hre hcl
      have hcase : (∃ a b, rit = [a, b]) ∨ (∃ a b c, rit = [a, b, c]) ∨ (rit.length ≠ 2 ∧ rit.length ≠ 3) := by
        match rit with
        | [a, b] => exact .inl ⟨a, b, rfl⟩
        | [a, b, c] => exact .inr (.inl ⟨a, b, c, rfl⟩)
        | [] => exact .inr (.inr (by simp))
        | [a] => exact .inr (.inr (by simp))
        | a :: b :: c :: d :: l => exact .inr (.inr (by simp))
      rcases hcase with ⟨a, c, rfl⟩ | ⟨a, c, e, rfl⟩ | ⟨h2, h3⟩

      · -- two items: a further collection
        obtain ⟨b1, off1, k1, n1, t1, nm1, it1, na1, nc1, ia1, ic1, rfl, ha, d0, d1, d2, d3, d4, _, _, ht1, _⟩ := items_open HRI.out (j := 0) rfl
        obtain ⟨_, _, k2, n2, t2, nm2, it2, na2, nc2, ia2, ic2, e, hc, e0, e1, e2, e3, e4, _, _, _, hw2⟩ := items_open HRI.out (j := 1) rfl
        cases e
        have HT1 := Hold.mk ht1
        have HW2 := Hold.mk hw2
        have HNX : Hold (parseL [] (it.take (j + 1)) = some (acc ++ [⟨t1, n2, []⟩])) := ⟨by rw [HSTEP.out, row_is2 HRE.out, ha, hc]; rfl⟩
        have hb1 := lt_of_cell d2
        have u2 := cle_below HBX.out _ _ _ d2
        have u6 := cle_below HBX.out _ _ _ e1
        unfold cf at u2 u6
        simp only [Nat.zero_mul, Nat.one_mul, Nat.add_zero, Nat.add_assoc, Nat.reduceAdd] at u2 u6
        simp only [List.length_cons, List.length_nil, Nat.zero_add, Nat.reduceAdd] at z4 ⊢
        clear d0 d1 d2 d3 d4 e0 e1 e2 e3 e4 ht1 hw2 ha hc HSTEP HPR HRI HRE
        obtain ⟨rb, hrb⟩ : ∃ rb, rb = wr.heap.size := ⟨_, rfl⟩
        obtain ⟨W3, hW3⟩ : ∃ W3, W3 = wr.alloc (.cells #[.int .i64 rk, .int .i64 rn, .string rt, .slice rna rnm.length rncap, .slice (some ⟨b1, off1, none⟩) 2 rcap] 58) := ⟨_, rfl⟩
        have hb3 : Below wr.heap.size wr W3 := by rw [hW3]; exact (Below.refl _ wr).alloc (Nat.le_refl _) _
        have HRK : Hold (W3.heap[rb]? = some (.cells #[.int .i64 rk, .int .i64 rn, .string rt, .slice rna rnm.length rncap, .slice (some ⟨b1, off1, none⟩) 2 rcap] 58 (0, 0))) := ⟨by rw [hW3, hrb]; exact heap_alloc_new wr _⟩
        have HB3 := Hold.mk hb3
        have HQ := Hold.mk (HPS.out.quiet hb3)
        have HRX3 := Hold.mk (kept HRX.out hb3)
        have HBX3 := Hold.mk (HBX.out.trans (hb3.mono HBX.out.size))
        have HLOW : Hold (w.heap.size + 3 ≤ rb ∧ (∀ q, (Value.slice sla acc.length slc).ownBlock = some q → w.heap.size + 3 ≤ q ∧ q < rb) ∧ (∀ q, ik.ownBlock = some q → w.heap.size + 3 ≤ q ∧ q < rb)) := ⟨by rw [hrb]; exact ⟨by have := heap_lt HPS.out.box; omega, fun q hq => HPS.out.low.1 q hq, fun q hq => HPS.out.low.2 q hq⟩⟩
        clear hb3
        have y0 : W3.cell? ⟨w.heap.size + 1 + 1, 0, none⟩ = some (.slice sla acc.length slc) := by have := HQ.out.box; simp [World.cell?, this]
        go_upto_region 5 with (fail)
        rw [← hW3, ← hrb]
        clear hW3 hrb z0 z1 z2 z3 z4
        go_upto_region 7 with (fail)
        clear y0
        obtain ⟨_, _, _, _, x4⟩ := cells_five HRK.out
        replace u2 := cle_below HB3.out _ _ _ u2
        replace u6 := cle_below HB3.out _ _ _ u6
        unfold cf at u2 u6
        have g0 := OthT.cell (zb := w.heap.size + 1 + 1) (sv := .slice sla acc.length slc) x4 (by have := HLOW.out.1; omega) (fun e => by have := (HLOW.out.2.1 _ e).2; omega)
        have g1 := OthT.cell (zb := w.heap.size + 1 + 1) (sv := .slice sla acc.length slc) u2 (by omega) (fun e => by have := (HLOW.out.2.1 _ e).1; omega)
        have g2 := OthT.cell (zb := w.heap.size + 1 + 1) (sv := .slice sla acc.length slc) u6 (by omega) (fun e => by have := (HLOW.out.2.1 _ e).1; omega)
        have h1 : ∀ e : BoxOT (w.heap.size + 1 + 1) W3, e.val.cell? ⟨w.heap.size + 1 + 1, 0, none⟩ = some (.slice sla acc.length slc) := BoxOT.cell (by have := HQ.out.box; simp [World.cell?, this])
        go_upto_region 8 with (fail)
        clear x4 u2 u6
        refine wp_region_mixL (KeepO (w.heap.size + 1 + 1) (.slice sla acc.length slc) W3 [14]) 17 rfl (by kernel_rfl) ?_
        obtain ⟨w9, hw9⟩ : ∃ w9, w9 = W3.drew := ⟨_, rfl⟩
        have hb9 : Below W3.heap.size W3 w9 := by rw [hw9]; exact (Below.refl _ _).drew
        have HB9 := Hold.mk hb9
        rw [← hw9]
        clear hw9 hb9
        refine mixL_seg (by kernel_rfl) (fun _ _ d _ _ h => by cases d <;> exact h) (OthC (w.heap.size + 1 + 1) (.slice sla acc.length slc) W3) keepO_base [0, 2, 3, 4, 5, 6, 7, 8, 9, 10, 11, 12] (keepO_back rfl) [_, _, _, _, _, _, _, _, _, _, _, _] 5 17 rfl _ _ _ rfl (by kernel_rfl) ?_
        repeat (go_big_quiet_step (fail))
        refine wpQuiet_nil ?_
        refine mixL_one (by kernel_rfl) (fun _ _ d _ _ h => by cases d <;> exact h) (BoxOC (w.heap.size + 1 + 1) W3) 14 (keepO_box (by decide)) 1 (fun l w => keepO_back (is := [1]) rfl 1 (by simp) l w) _ 4 _ _ _ rfl (by kernel_rfl) (by kernel_rfl) (by kernel_rfl) ?_
        repeat (go_big_quiet_step (fail))
        refine wpQuiet_nil ?_
        clear h1 g0 g1 g2
        have HOS := Hold.mk (own_triv (HQ.out.oc.own.kept (row := none) (grownZ_below HB9.out) (by cases (Value.slice sla acc.length slc).ownBlock <;> simp)) HQ.out.oc.own.1 (by decide) (by have := HB9.out.size; have := heap_lt HQ.out.box; omega))
        refine mixL_act (i := 13) rfl (by kernel_rfl) (keepO_on (fun b hb _ _ => HB9.out.block b hb) (HB9.out.block (w.heap.size + 1 + 1) (heap_lt HQ.out.box))) rfl (fun K hK => ?_)
        go_wp2_with fail
        have HB11 : Hold (Below W3.heap.size W3 (w9.alloc (.cells #[.string t1, .int .i64 n2, .slice none 0 0] 78))) := ⟨HB9.out.alloc HB9.out.size _⟩
        refine mixL_act (i := 14) rfl (by kernel_rfl) (keepO_on (fun b hb _ _ => HB11.out.block b hb) (HB11.out.block (w.heap.size + 1 + 1) (heap_lt HQ.out.box))) rfl (fun K hK => ?_)
        refine wp_push (R := RTriv) (fun _ _ _ _ _ h => h) _ _ rfl infoCX Tryz.underlying61 rfl (by decide) _ w9 _ acc.length _ cs HOS.out rfl #[.string t1, .int .i64 n2, .slice none 0 0] [.string t1, .int .i64 n2, .slice none 0 0] rfl rfl (by simp [Value.oneCell']) () trivial _ rfl rfl (by have := HQ.out.len; have := HL.out; omega) (by decide) ?_
        intro sl2 wA hoA hgA
        obtain ⟨pa, pc, rfl⟩ := hoA.shape
        have HN := Hold.mk (HQ.out.two HB9.out hgA.by_ HT1.out HW2.out hoA.own)
        have hlow := HQ.out.oc.own.lt
        have HOA : Hold (∀ b, b < W3.heap.size → b ≠ w.heap.size + 1 + 1 → (Value.slice sla acc.length slc).ownBlock ≠ some b → wA.heap[b]? = W3.heap[b]?) := ⟨fun b hb _ h2 => by
          rw [hgA.by_.block b (Nat.lt_of_lt_of_le hb HB9.out.size) (fun e => h2 e.symm)]; exact HB9.out.block b hb⟩
        have HBX9 : Hold (wA.heap[w.heap.size + 1 + 1]? = some (.cells #[.slice sla acc.length slc] 63 (0, 0))) := ⟨hgA.kept (kept HQ.out.box HB9.out) (fun g hg e => by have := (hlow g hg).1; omega)⟩
        clear hoA hgA hlow
        go_wp2_with fail
        refine mixL_seg (by kernel_rfl) (fun _ _ d _ _ h => by cases d <;> exact h) (OthC (w.heap.size + 1 + 1) (.slice sla acc.length slc) W3) keepO_base [15] (keepO_back rfl) [_] 1 2 rfl _ _ _ rfl (by kernel_rfl) ?_
        repeat (go_big_quiet_step (fail))
        refine wpQuiet_nil ?_
        refine mixL_act (i := 16) rfl (by kernel_rfl) (keepO_off HOA.out (by kernel_rfl)) rfl (fun K hK => ?_)
        have f4 := free_box HBX9.out 0
        have v4 : wA.cell? ⟨w.heap.size + 1 + 1, 0, none⟩ = some (.slice sla acc.length slc) := by have := HBX9.out; simp [World.cell?, this]
        go_wp2_with fail
        clear f4 v4
        obtain ⟨wB, hwB⟩ : ∃ wB, wB = wA.setCell ⟨w.heap.size + 1 + 1, 0, none⟩ (.slice pa (acc.length + 1) pc) := ⟨_, rfl⟩
        rw [← hwB]
        rw [← hwB] at HN
        have HOB : Hold (∀ b, b < W3.heap.size → b ≠ w.heap.size + 1 + 1 → (Value.slice sla acc.length slc).ownBlock ≠ some b → wB.heap[b]? = W3.heap[b]?) := ⟨fun b h1 h2 h3 => by
          rw [hwB, Below.heap_setCell _ _ _ _ h2]; exact HOA.out b h1 h2 h3⟩
        clear hwB HOA HBX9
        refine mixL_done (by kernel_rfl) (keepO_off HOB.out (by kernel_rfl)) ?_
        clear HOB
        go_wp2_with fail
        exact ⟨⟨j + 1, _, _, _, _, _, by go_num, hlt, HNX.out, HN.out⟩, by simp [intOf]; omega⟩
      · -- three items: a further index of the last collection
        obtain ⟨b1, off1, k1, n1, t1, nm1, it1, na1, nc1, ia1, ic1, rfl, ha, d0, d1, d2, d3, d4, _, _, ht1, _⟩ := items_open HRI.out (j := 0) rfl
        obtain ⟨_, _, k2, n2, t2, nm2, it2, na2, nc2, ia2, ic2, eq, hc, e0, e1, e2, e3, e4, _, _, _, hw2⟩ := items_open HRI.out (j := 1) rfl
        cases eq
        obtain ⟨_, _, k3, n3, t3, nm3, it3, na3, nc3, ia3, ic3, eq, he, f0, f1, f2, f3, f4, hje, _, _, _⟩ := items_open HRI.out (j := 2) rfl
        cases eq
        have HW2 := Hold.mk hw2
        have HJE := Hold.mk (hje.mono (cle_below HBX.out))
        have HPE := Hold.mk (HPR.out e (by rw [HRE.out]; simp))
        have HCN : Hold (c.n = n2) := ⟨by rw [hc]; rfl⟩
        have hb1 := lt_of_cell d2
        have hcl := cle_below HBX.out
        have u6 := hcl _ _ _ e1
        have q0 := hcl _ _ _ f0
        have q1 := hcl _ _ _ f1
        have q2 := hcl _ _ _ f2
        have q3 := hcl _ _ _ f3
        have q4 := hcl _ _ _ f4
        unfold cf at u6 q0 q1 q2 q3 q4
        simp only [Nat.one_mul, Nat.add_assoc, Nat.reduceAdd, Nat.reduceMul] at u6 q0 q1 q2 q3 q4
        simp only [List.length_cons, List.length_nil, Nat.zero_add, Nat.reduceAdd] at z4 ⊢
        clear d0 d1 d2 d3 d4 e0 e1 e2 e3 e4 f0 f1 f2 f3 f4 ht1 hw2 ha hc he HPR HRI hje hcl
        by_cases hac : acc = []
        · subst hac
          have HNX : Hold (parseL [] (it.take (j + 1)) = none) := ⟨by rw [HSTEP.out]; exact row_nil HRE.out⟩
          clear HSTEP HRE u6 q0 q1 q2 q3 q4 HW2 HJE HPE HCN

          obtain ⟨rb, hrb⟩ : ∃ rb, rb = wr.heap.size := ⟨_, rfl⟩
          obtain ⟨W3, hW3⟩ : ∃ W3, W3 = wr.alloc (.cells #[.int .i64 rk, .int .i64 rn, .string rt, .slice rna rnm.length rncap, .slice (some ⟨b1, off1, none⟩) 3 rcap] 58) := ⟨_, rfl⟩
          have hb3 : Below wr.heap.size wr W3 := by rw [hW3]; exact (Below.refl _ wr).alloc (Nat.le_refl _) _
          have HRK : Hold (W3.heap[rb]? = some (.cells #[.int .i64 rk, .int .i64 rn, .string rt, .slice rna rnm.length rncap, .slice (some ⟨b1, off1, none⟩) 3 rcap] 58 (0, 0))) := ⟨by rw [hW3, hrb]; exact heap_alloc_new wr _⟩
          have HB3 := Hold.mk hb3
          have HQ := Hold.mk (HPS.out.quiet hb3)
          have HRX3 := Hold.mk (kept HRX.out hb3)
          have HBX3 := Hold.mk (HBX.out.trans (hb3.mono HBX.out.size))
          have HLOW : Hold (w.heap.size + 3 ≤ rb ∧ (∀ q, (Value.slice sla ([] : List CX).length slc).ownBlock = some q → w.heap.size + 3 ≤ q ∧ q < rb) ∧ (∀ q, ik.ownBlock = some q → w.heap.size + 3 ≤ q ∧ q < rb)) := ⟨by rw [hrb]; exact ⟨by have := heap_lt HPS.out.box; omega, fun q hq => HPS.out.low.1 q hq, fun q hq => HPS.out.low.2 q hq⟩⟩
          clear hb3
          have y0 : W3.cell? ⟨w.heap.size + 1 + 1, 0, none⟩ = some (.slice sla ([] : List CX).length slc) := by have := HQ.out.box; simp [World.cell?, this]
          go_upto_region 5 with (fail)
          rw [← hW3, ← hrb]
          clear hW3 hrb z0 z1 z2 z3 z4
          go_upto_region 7 with (fail)
          obtain ⟨x0, x1, x2, x3, x4⟩ := cells_five HRK.out
          have hlast : ((([] : List CX).length : Int) - 1) = -1 := rfl
          have HE : Hold (parseC v = ([], 2)) := ⟨parse_stop HVE.out HNX.out⟩
          have hf1 : W3.frozen? ⟨w.heap.size + 1, 0, none⟩ = false := free_box HRX3.out 0
          have hx1 : W3.cell? ⟨w.heap.size + 1, 0, none⟩ = some (.slice none 0 0) := by have := HRX3.out; simp [World.cell?, this]
          go_wp2_with fail
          clear hf1 hx1
          obtain ⟨W8, hW8⟩ : ∃ W8, W8 = W3.setCell ⟨w.heap.size + 1, 0, none⟩ (.slice none 0 0) := ⟨_, rfl⟩
          rw [← hW8]
          have hk8 : W8.heap[w.heap.size + 1]? = some (.cells #[.slice none 0 0] 63 (0, 0)) := by
            rw [hW8]
            have := set_self (o := 0) (c := .slice none 0 0) HRX3.out
            simpa using this
          have hx8 : W8.cell? ⟨w.heap.size + 1, 0, none⟩ = some (.slice none 0 0) := by simp [World.cell?, hk8]
          have hb8 : Below w.heap.size w W8 := by rw [hW8]; exact bsetZ HBX3.out (by omega)
          refine bodyPost_ret (v := .tuple #[.agg #[.slice none 0 0], .int .i64 2]) (by simp [results, Tryz.results19, go_sem, hx8]) rfl ?_
          exact cat_err HE.out hb8
        obtain ⟨m, hm⟩ : ∃ m, acc.length = m + 1 := ⟨acc.length - 1, by have : acc.length ≠ 0 := fun e => hac (List.length_eq_zero_iff.1 e); omega⟩
        obtain ⟨y, hy⟩ : ∃ y, acc[m]? = some y := ⟨acc[m]'(by omega), List.getElem?_eq_getElem _⟩
        have HY := Hold.mk hy
        have HM := Hold.mk hm
        have HNX : Hold (parseL [] (it.take (j + 1)) = some (acc.set m ⟨y.name, y.sp, y.ixs ++ [⟨parseX e, n2⟩]⟩)) := ⟨by rw [HSTEP.out, row_is3 HRE.out hm hy, HCN.out]⟩
        obtain ⟨g, rfl⟩ := own_placeZ HPS.out.oc.own (by omega)
        have hlast : ((acc.length : Int) - 1) = (m : Int) := by omega
        have hml : (m : Int) < (acc.length : Int) := by omega
        have hm9 : m ≤ 1000 := by have := HPS.out.len; omega
        clear HSTEP HRE HCN hac hy hm
        obtain ⟨rb, hrb⟩ : ∃ rb, rb = wr.heap.size := ⟨_, rfl⟩
        obtain ⟨W3, hW3⟩ : ∃ W3, W3 = wr.alloc (.cells #[.int .i64 rk, .int .i64 rn, .string rt, .slice rna rnm.length rncap, .slice (some ⟨b1, off1, none⟩) 3 rcap] 58) := ⟨_, rfl⟩
        have hb3 : Below wr.heap.size wr W3 := by rw [hW3]; exact (Below.refl _ wr).alloc (Nat.le_refl _) _
        have HRK : Hold (W3.heap[rb]? = some (.cells #[.int .i64 rk, .int .i64 rn, .string rt, .slice rna rnm.length rncap, .slice (some ⟨b1, off1, none⟩) 3 rcap] 58 (0, 0))) := ⟨by rw [hW3, hrb]; exact heap_alloc_new wr _⟩
        have HB3 := Hold.mk hb3
        have HQ := Hold.mk (HPS.out.quiet hb3)
        have HRX3 := Hold.mk (kept HRX.out hb3)
        have HBX3 := Hold.mk (HBX.out.trans (hb3.mono HBX.out.size))
        have HLOW : Hold (w.heap.size + 3 ≤ rb ∧ (∀ q, (Value.slice (some ⟨g, 0, none⟩) acc.length slc).ownBlock = some q → w.heap.size + 3 ≤ q ∧ q < rb) ∧ (∀ q, ik.ownBlock = some q → w.heap.size + 3 ≤ q ∧ q < rb)) := ⟨by rw [hrb]; exact ⟨by have := heap_lt HPS.out.box; omega, fun q hq => HPS.out.low.1 q hq, fun q hq => HPS.out.low.2 q hq⟩⟩
        clear hb3
        have y0 : W3.cell? ⟨w.heap.size + 1 + 1, 0, none⟩ = some (.slice (some ⟨g, 0, none⟩) acc.length slc) := by have := HQ.out.box; simp [World.cell?, this]
        go_upto_region 5 with (fail)
        rw [← hW3, ← hrb]
        clear hW3 hrb z0 z1 z2 z3 z4
        go_upto_region 7 with (fail)
        clear hlast
        have HOM : Hold (W3.ownsRow (w.heap.size + 3) 85 4 ik y.ixs.length ics) := ⟨by
          have h1 := HQ.out.oc
          rw [show acc.length - 1 = m by have := HM.out; omega] at h1
          exact (h1.mine y HY.out).2.2.2.1⟩
        have HIX : Hold (y.ixs.length ≤ 1000) := ⟨by have := HQ.out.ixl y (List.mem_of_getElem? HY.out); have := HL.out; omega⟩
        obtain ⟨ika, ikc, rfl⟩ := own_shapeZ HOM.out
        obtain ⟨x0, x1, x2, x3, x4⟩ := cells_five HRK.out
        have hcl := cle_below HB3.out
        replace u6 := hcl _ _ _ u6
        replace q0 := hcl _ _ _ q0
        replace q1 := hcl _ _ _ q1
        replace q2 := hcl _ _ _ q2
        replace q3 := hcl _ _ _ q3
        replace q4 := hcl _ _ _ q4
        unfold cf at u6 q0 q1 q2 q3 q4
        have HPA := Hold.mk (ParseO_any e _ W3 (HJE.out.mono hcl) HPE.out (HT.out.below HBX3.out))
        clear HJE HPE hcl
        go_wp2_with fail
        refine HPA.out.mono ?_
        rintro en w4 hpo
        obtain ⟨fa, fcap, en2, rfl, hpn, hpf, hfo, hb4⟩ := parseX_post hpo
        have HB4 := Hold.mk hb4
        have HPN := Hold.mk hpn
        have HPF := Hold.mk hpf
        have HFO := Hold.mk hfo
        generalize parseX e = px at *
        obtain ⟨pn, pf, pu⟩ := px
        simp only at *
        obtain ⟨xb, hxb⟩ : ∃ xb, xb = w4.heap.size := ⟨_, rfl⟩
        obtain ⟨W5, hW5⟩ : ∃ W5, W5 = w4.alloc (.cells #[.string pn, .slice fa pf.length fcap, .bool pu] 81) := ⟨_, rfl⟩
        have hb5 : Below w4.heap.size w4 W5 := by rw [hW5]; exact (Below.refl _ w4).alloc (Nat.le_refl _) _
        have HXK : Hold (W5.heap[xb]? = some (.cells #[.string pn, .slice fa pf.length fcap, .bool pu] 81 (0, 0))) := ⟨by rw [hW5, hxb]; exact heap_alloc_new w4 _⟩
        have HB5 := Hold.mk (hb4.trans (hb5.mono hb4.size))
        have HXB : Hold (rb < xb) := ⟨by have := heap_lt HRK.out; have := hb4.size; omega⟩
        have HFO5 := Hold.mk (HFO.out.kept (row := none) (grownZ_below hb5) (by cases (Value.slice fa pf.length fcap).ownBlock <;> simp))
        have HQ5 := Hold.mk (HQ.out.quiet HB5.out)
        have HOM5 := Hold.mk (HOM.out.kept (row := none) (grownZ_below HB5.out) (by cases (Value.slice ika y.ixs.length ikc).ownBlock <;> simp))
        have HRK5 := Hold.mk (kept HRK.out HB5.out)
        replace u6 := cle_below HB5.out _ _ _ u6
        unfold cf at u6
        clear hpo hpn hpf hfo hb4 hb5 q0 q1 q2 q3 q4 x0 x1 x2 x3 x4 y0
        go_upto_region 11 with (fail)
        rw [← hW5, ← hxb]
        clear hW5 hxb
        obtain ⟨_, _, _, _, x4⟩ := cells_five HRK5.out
        obtain ⟨p0, p1, p2⟩ := cells_three HXK.out
        have y0 : W5.cell? ⟨w.heap.size + 1 + 1, 0, none⟩ = some (.slice (some ⟨g, 0, none⟩) acc.length slc) := by have := HQ5.out.box; simp [World.cell?, this]
        have HGG : Hold (w.heap.size + 3 ≤ g ∧ g < rb) := ⟨HLOW.out.2.1 g rfl⟩
        have g0 := OthT.cell (zb := g) (sv := .slice ika y.ixs.length ikc) x4 (by have := HGG.out; omega) (fun e => by have := HLOW.out.2.2 _ e; omega)
        have g1 := OthT.cell (zb := g) (sv := .slice ika y.ixs.length ikc) u6 (by have := HGG.out; omega) (fun e => by have := HLOW.out.2.2 _ e; omega)
        have g2 := OthT.cell (zb := g) (sv := .slice ika y.ixs.length ikc) y0 (by have := HGG.out; omega) (fun e => by have := HLOW.out.2.2 _ e; omega)
        have g3 := OthT.cell (zb := g) (sv := .slice ika y.ixs.length ikc) p0 (by have := HGG.out; have := HXB.out; omega) (fun e => by have := HLOW.out.2.2 _ e; have := HXB.out; omega)
        have g4 := OthT.cell (zb := g) (sv := .slice ika y.ixs.length ikc) p1 (by have := HGG.out; have := HXB.out; omega) (fun e => by have := HLOW.out.2.2 _ e; have := HXB.out; omega)
        have g5 := OthT.cell (zb := g) (sv := .slice ika y.ixs.length ikc) p2 (by have := HGG.out; have := HXB.out; omega) (fun e => by have := HLOW.out.2.2 _ e; have := HXB.out; omega)
        have HIK : Hold (W5.cell? ⟨g, m * 3 + 2, none⟩ = some (.slice ika y.ixs.length ikc)) := ⟨by
          have h0 := HQ5.out.oc
          rw [show acc.length - 1 = m by have := HM.out; omega] at h0
          have := h0.own.cells (g := g) rfl (m * 3 + 2) _ ((h0.mine y HY.out).1 2 _ rfl)
          rw [addr_at] at this; exact this⟩
        have h1 : ∀ e : BoxOT g W5, e.val.cell? ⟨g, m * 3 + 2, none⟩ = some (.slice ika y.ixs.length ikc) := BoxOT.cell HIK.out
        clear x4 u6 y0 p0 p1 p2
        refine wp_region_mixL (KeepO g (.slice ika y.ixs.length ikc) W5 [17]) 21 rfl (by kernel_rfl) ?_
        obtain ⟨w9, hw9⟩ : ∃ w9, w9 = W5.drew := ⟨_, rfl⟩
        have hb9 : Below W5.heap.size W5 w9 := by rw [hw9]; exact (Below.refl _ _).drew
        have HB9 := Hold.mk hb9
        rw [← hw9]
        clear hw9 hb9
        have hgl5 : g < W5.heap.size := (HQ5.out.low.1 g rfl).2
        refine mixL_seg (by kernel_rfl) (fun _ _ d _ _ h => by cases d <;> exact h) (OthC g (.slice ika y.ixs.length ikc) W5) keepO_base [0, 1, 2, 3, 4, 5, 6, 7, 9, 10, 11, 12, 13, 14] (keepO_back rfl) [_, _, _, _, _, _, _, _, _, _, _, _, _, _] 7 21 rfl _ _ _ rfl (by kernel_rfl) ?_
        repeat (go_big_quiet_step (fail))
        refine wpQuiet_nil ?_
        refine mixL_one (by kernel_rfl) (fun _ _ d _ _ h => by cases d <;> exact h) (BoxOC g W5) 17 (keepO_box (by decide)) 8 (fun l w => keepO_back (is := [8]) rfl 8 (by simp) l w) _ 6 _ _ _ rfl (by kernel_rfl) (by kernel_rfl) (by kernel_rfl) ?_
        repeat (go_big_quiet_step (fail))
        refine wpQuiet_nil ?_
        refine mixL_seg (by kernel_rfl) (fun _ _ d _ _ h => by cases d <;> exact h) (OthC g (.slice ika y.ixs.length ikc) W5) keepO_base [15] (keepO_back rfl) [_] 5 6 rfl _ _ _ rfl (by kernel_rfl) ?_
        repeat (go_big_quiet_step (fail))
        refine wpQuiet_nil ?_
        clear h1 g0 g1 g2 g3 g4 g5
        have HOS := Hold.mk (own_triv (HOM5.out.kept (row := none) (grownZ_below HB9.out) (by cases (Value.slice ika y.ixs.length ikc).ownBlock <;> simp)) HOM5.out.1 (by decide) (by have := HB9.out.size; have := heap_lt HQ5.out.box; omega))
        refine mixL_act (i := 16) rfl (by kernel_rfl) (keepO_on (fun b hb _ _ => HB9.out.block b hb) (HB9.out.block g hgl5)) rfl (fun K hK => ?_)
        go_wp2_with fail
        have HB11 : Hold (Below W5.heap.size W5 (w9.alloc (.cells #[.string pn, .slice fa pf.length fcap, .bool pu, .int .i64 n2] 85))) := ⟨HB9.out.alloc HB9.out.size _⟩
        refine mixL_act (i := 17) rfl (by kernel_rfl) (keepO_on (fun b hb _ _ => HB11.out.block b hb) (HB11.out.block g hgl5)) rfl (fun K hK => ?_)
        refine wp_push (R := RTriv) (fun _ _ _ _ _ h => h) _ _ rfl infoPX Tryz.underlying76 rfl (by decide) _ w9 _ y.ixs.length _ ics HOS.out rfl #[.string pn, .slice fa pf.length fcap, .bool pu, .int .i64 n2] [.string pn, .slice fa pf.length fcap, .bool pu, .int .i64 n2] rfl rfl (by simp [Value.oneCell']) () trivial _ rfl rfl (by have := HIX.out; omega) (by decide) ?_
        intro sl2 wA hoA hgA
        obtain ⟨pa, pc, rfl⟩ := hoA.shape
        have HN := Hold.mk (HQ5.out.three HB9.out HM.out HY.out hgA.by_ hgA.own (p := ⟨⟨pn, pf, pu⟩, n2⟩) HPN.out HW2.out HPF.out (HFO5.out.kept (row := none) (grownZ_below HB9.out) (by cases (Value.slice fa pf.length fcap).ownBlock <;> simp)) hoA.own)
        have HOA : Hold (∀ b, b < W5.heap.size → b ≠ g → (Value.slice ika y.ixs.length ikc).ownBlock ≠ some b → wA.heap[b]? = W5.heap[b]?) := ⟨fun b hb _ h2 => by
          rw [hgA.by_.block b (Nat.lt_of_lt_of_le hb HB9.out.size) (fun e => h2 e.symm)]; exact HB9.out.block b hb⟩
        have HOG : Hold (wA.heap[g]? = w9.heap[g]?) := ⟨hgA.by_.block g (Nat.lt_of_lt_of_le hgl5 HB9.out.size) (fun e => by
          have h0 := HQ5.out.oc
          rw [show acc.length - 1 = m by have := HM.out; omega] at h0
          rcases own_blocks h0.own (h0.mine y HY.out).2.2.2.1 (by decide) with h2 | h2
          · rw [h2] at e; cases e
          · exact h2 e.symm)⟩
        have HG9 : Hold (wA.cell? ⟨g, m * 3 + 2, none⟩ = some (.slice ika y.ixs.length ikc) ∧ wA.frozen? ⟨g, m * 3 + 2, none⟩ = false) := ⟨by
          have h3 : wA.heap[g]? = W5.heap[g]? := by rw [HOG.out]; exact HB9.out.block g hgl5
          refine ⟨by rw [World.cell?_of_block h3]; exact HIK.out, ?_⟩
          rcases HQ5.out.oc.own.2 with ⟨hv, _⟩ | ⟨q, cap, cur, hv, _, hgg, _⟩
          · cases hv
          · injection hv with e1
            injection e1 with e1
            injection e1 with e1
            subst e1
            exact free_box (h3.trans hgg) _⟩
        clear hoA hgA HIK
        go_wp2_with fail
        refine mixL_seg (by kernel_rfl) (fun _ _ d _ _ h => by cases d <;> exact h) (OthC g (.slice ika y.ixs.length ikc) W5) keepO_base [18, 19] (keepO_back rfl) [_, _] 1 3 rfl _ _ _ rfl (by kernel_rfl) ?_
        repeat (go_big_quiet_step (fail))
        refine wpQuiet_nil ?_
        obtain ⟨hg9, hf9⟩ := HG9.out
        refine mixL_act (i := 20) rfl (by kernel_rfl) (keepO_off HOA.out (by kernel_rfl)) rfl (fun K hK => ?_)
        go_wp2_with fail
        clear hg9 hf9
        obtain ⟨wB, hwB⟩ : ∃ wB, wB = wA.setCell ⟨g, m * 3 + 2, none⟩ (.slice pa (y.ixs.length + 1) pc) := ⟨_, rfl⟩
        rw [← hwB]
        rw [← hwB] at HN
        have HOB : Hold (∀ b, b < W5.heap.size → b ≠ g → (Value.slice ika y.ixs.length ikc).ownBlock ≠ some b → wB.heap[b]? = W5.heap[b]?) := ⟨fun b h1 h2 h3 => by
          rw [hwB, Below.heap_setCell _ _ _ _ h2]; exact HOA.out b h1 h2 h3⟩
        clear hwB HOA HG9 HOG
        refine mixL_done (by kernel_rfl) (keepO_off HOB.out (by kernel_rfl)) ?_
        clear HOB
        go_wp2_with fail
        exact ⟨⟨j + 1, _, _, _, _, _, by go_num, hlt, HNX.out, HN.out⟩, by simp [intOf]; omega⟩
      · -- another row: an error
        have HNX : Hold (parseL [] (it.take (j + 1)) = none) := ⟨by rw [HSTEP.out]; exact row_bad (by rw [HRE.out]; exact h2) (by rw [HRE.out]; exact h3)⟩
        have b2 : ((rit.length : Int) == 2) = false := by rw [beq_eq_false_iff_ne]; omega
        have b3 : ((rit.length : Int) == 3) = false := by rw [beq_eq_false_iff_ne]; omega
        clear HSTEP HRE HRI HPR h2 h3
        obtain ⟨rb, hrb⟩ : ∃ rb, rb = wr.heap.size := ⟨_, rfl⟩
        obtain ⟨W3, hW3⟩ : ∃ W3, W3 = wr.alloc (.cells #[.int .i64 rk, .int .i64 rn, .string rt, .slice rna rnm.length rncap, .slice ra rit.length rcap] 58) := ⟨_, rfl⟩
        have hb3 : Below wr.heap.size wr W3 := by rw [hW3]; exact (Below.refl _ wr).alloc (Nat.le_refl _) _
        have HRK : Hold (W3.heap[rb]? = some (.cells #[.int .i64 rk, .int .i64 rn, .string rt, .slice rna rnm.length rncap, .slice ra rit.length rcap] 58 (0, 0))) := ⟨by rw [hW3, hrb]; exact heap_alloc_new wr _⟩
        have HB3 := Hold.mk hb3
        have HQ := Hold.mk (HPS.out.quiet hb3)
        have HRX3 := Hold.mk (kept HRX.out hb3)
        have HBX3 := Hold.mk (HBX.out.trans (hb3.mono HBX.out.size))
        have HLOW : Hold (w.heap.size + 3 ≤ rb ∧ (∀ q, (Value.slice sla acc.length slc).ownBlock = some q → w.heap.size + 3 ≤ q ∧ q < rb) ∧ (∀ q, ik.ownBlock = some q → w.heap.size + 3 ≤ q ∧ q < rb)) := ⟨by rw [hrb]; exact ⟨by have := heap_lt HPS.out.box; omega, fun q hq => HPS.out.low.1 q hq, fun q hq => HPS.out.low.2 q hq⟩⟩
        clear hb3
        have y0 : W3.cell? ⟨w.heap.size + 1 + 1, 0, none⟩ = some (.slice sla acc.length slc) := by have := HQ.out.box; simp [World.cell?, this]
        go_upto_region 5 with (fail)
        rw [← hW3, ← hrb]
        clear hW3 hrb z0 z1 z2 z3 z4
        go_upto_region 7 with (fail)
        obtain ⟨x0, x1, x2, x3, x4⟩ := cells_five HRK.out
        have HE : Hold (parseC v = ([], 2)) := ⟨parse_stop HVE.out HNX.out⟩
        have hf1 : W3.frozen? ⟨w.heap.size + 1, 0, none⟩ = false := free_box HRX3.out 0
        have hx1 : W3.cell? ⟨w.heap.size + 1, 0, none⟩ = some (.slice none 0 0) := by have := HRX3.out; simp [World.cell?, this]
        go_wp2_with fail
        clear hf1 hx1
        obtain ⟨W8, hW8⟩ : ∃ W8, W8 = W3.setCell ⟨w.heap.size + 1, 0, none⟩ (.slice none 0 0) := ⟨_, rfl⟩
        rw [← hW8]
        have hk8 : W8.heap[w.heap.size + 1]? = some (.cells #[.slice none 0 0] 63 (0, 0)) := by
          rw [hW8]
          have := set_self (o := 0) (c := .slice none 0 0) HRX3.out
          simpa using this
        have hx8 : W8.cell? ⟨w.heap.size + 1, 0, none⟩ = some (.slice none 0 0) := by simp [World.cell?, hk8]
        have hb8 : Below w.heap.size w W8 := by rw [hW8]; exact bsetZ HBX3.out (by omega)
        refine bodyPost_ret (v := .tuple #[.agg #[.slice none 0 0], .int .i64 2]) (by simp [results, Tryz.results19, go_sem, hx8]) rfl ?_
        exact cat_err HE.out hb8
    · -- all rows are read
      obtain rfl : j = it.length := by omega
      have HPE : Hold (parseL [] v.items = some acc) := ⟨by rw [HVE.out]; have := HPL.out; rwa [List.take_of_length_le (Nat.le_refl _)] at this⟩
      have y0 : wr.cell? ⟨w.heap.size + 1 + 1, 0, none⟩ = some (.slice sla acc.length slc) := by have := HPS.out.box; simp [World.cell?, this]
      have HVW := Hold.mk (keptB HV0.out (by omega) HPS.out.bel)
      have HSH := Hold.mk (ShowC_any acc (.agg #[.slice sla acc.length slc]) wr ⟨_, _, rfl, sat_cat HPS.out.oc.own HPS.out.oc.rows⟩ HPS.out.sml (HT.out.below HBX.out))
      go_wp2_with fail
      refine HSH.out.mono ?_
      rintro en w3 ⟨hpo, hb3⟩
      have HB3 := Hold.mk (HBX.out.trans (hb3.mono HBX.out.size))
      have HR3 := Hold.mk (kept HRX.out hb3)
      have HV3 := Hold.mk (kept HVW.out hb3)
      have HP3 := Hold.mk (HPS.out.quiet hb3)
      clear hb3 HSH y0
      cases hfo : formC acc with
      | false =>
        rw [if_neg (by rw [hfo]; decide)] at hpo
        subst hpo
        have HEE : Hold (parseC v = ([], 2)) := ⟨by rw [parse_end HPE.out, if_neg]; rintro ⟨h1, _⟩; rw [hfo] at h1; cases h1⟩
        obtain ⟨W6, hW6⟩ : ∃ W6, W6 = w3.alloc (.cells #[.int .i64 0, .int .i64 0, .string ⟨#[]⟩, .slice none 0 0, .slice none 0 0] 58) := ⟨_, rfl⟩
        have hb6 : Below w3.heap.size w3 W6 := by rw [hW6]; exact (Below.refl _ w3).alloc (Nat.le_refl _) _
        have HR6 := Hold.mk (kept HR3.out hb6)
        have HB6 := Hold.mk (HB3.out.trans (hb6.mono HB3.out.size))
        clear hfo hb6
        go_upto_region 14 with (fail)
        rw [← hW6]
        clear hW6
        have HE : Hold (parseC v = ([], 2)) := ⟨HEE.out⟩
        have hf1 : W6.frozen? ⟨w.heap.size + 1, 0, none⟩ = false := free_box HR6.out 0
        have hx1 : W6.cell? ⟨w.heap.size + 1, 0, none⟩ = some (.slice none 0 0) := by have := HR6.out; simp [World.cell?, this]
        go_wp2_with fail
        clear hf1 hx1
        obtain ⟨W8, hW8⟩ : ∃ W8, W8 = W6.setCell ⟨w.heap.size + 1, 0, none⟩ (.slice none 0 0) := ⟨_, rfl⟩
        rw [← hW8]
        have hk8 : W8.heap[w.heap.size + 1]? = some (.cells #[.slice none 0 0] 63 (0, 0)) := by
          rw [hW8]
          have := set_self (o := 0) (c := .slice none 0 0) HR6.out
          simpa using this
        have hx8 : W8.cell? ⟨w.heap.size + 1, 0, none⟩ = some (.slice none 0 0) := by simp [World.cell?, hk8]
        have hb8 : Below w.heap.size w W8 := by rw [hW8]; exact bsetZ HB6.out (by omega)
        refine bodyPost_ret (v := .tuple #[.agg #[.slice none 0 0], .int .i64 2]) (by simp [results, Tryz.results19, go_sem, hx8]) rfl ?_
        exact cat_err HE.out hb8
      | true =>
        rw [if_pos hfo] at hpo
        have HF := Hold.mk hfo
        clear hfo
        obtain ⟨y, rfl, hy⟩ := hpo
        obtain ⟨k5, n5, t5, nm5, it5, na5, ncap5, ia5, icap5, hye, rfl, _⟩ := hy.open
        have HY := Hold.mk hy
        clear hy hye
        obtain ⟨W6, hW6⟩ : ∃ W6, W6 = w3.alloc (.cells #[.int .i64 k5, .int .i64 n5, .string t5, .slice na5 nm5.length ncap5, .slice ia5 it5.length icap5] 58) := ⟨_, rfl⟩
        have hb6 : Below w3.heap.size w3 W6 := by rw [hW6]; exact (Below.refl _ w3).alloc (Nat.le_refl _) _
        have hyb : W6.heap[w3.heap.size]? = some (.cells #[.int .i64 k5, .int .i64 n5, .string t5, .slice na5 nm5.length ncap5, .slice ia5 it5.length icap5] 58 (0, 0)) := by rw [hW6]; exact heap_alloc_new w3 _
        have HR6 := Hold.mk (kept HR3.out hb6)
        have HV6 := Hold.mk (kept HV3.out hb6)
        have HB6 := Hold.mk (HB3.out.trans (hb6.mono HB3.out.size))
        have HP6 := Hold.mk (HP3.out.quiet hb6)
        have HSA := Hold.mk (Same_any v (showC acc) _ _ W6 (HX.out.mono (cle_below HB6.out)) (HY.out.mono (cle_below hb6)))
        go_upto_region 14 with (fail)
        rw [← hW6]
        clear hW6 hb6
        obtain ⟨y0, y1, y2, y3, y4⟩ := cells_five HV6.out
        obtain ⟨x0, x1, x2, x3, x4⟩ := cells_five hyb
        go_wp2_with fail
        refine HSA.out.mono ?_
        rintro en w7 ⟨rfl, hb7⟩
        have HR7 := Hold.mk (kept HR6.out hb7)
        have HB7 := Hold.mk (HB6.out.trans (hb7.mono HB6.out.size))
        have HP7 := Hold.mk (HP6.out.quiet hb7)
        clear hb7 hyb HSA HY y0 y1 y2 y3 y4 x0 x1 x2 x3 x4
        by_cases hsv : v = showC acc
        · rw [sameB_true hsv]
          have HEE : Hold (parseC v = (acc, 0)) := ⟨by rw [parse_end HPE.out, if_pos ⟨HF.out, hsv⟩]⟩
          clear hsv
          have y0 : w7.cell? ⟨w.heap.size + 1 + 1, 0, none⟩ = some (.slice sla acc.length slc) := by have := HP7.out.box; simp [World.cell?, this]
          have hf1 : w7.frozen? ⟨w.heap.size + 1, 0, none⟩ = false := free_box HR7.out 0
          have hx1 : w7.cell? ⟨w.heap.size + 1, 0, none⟩ = some (.slice none 0 0) := by have := HR7.out; simp [World.cell?, this]
          go_wp2_with fail
          clear hf1 hx1 y0
          obtain ⟨W8, hW8⟩ : ∃ W8, W8 = w7.setCell ⟨w.heap.size + 1, 0, none⟩ (.slice sla acc.length slc) := ⟨_, rfl⟩
          rw [← hW8]
          have hg8 : w7.grownBy W8 (some (w.heap.size + 1)) := by rw [hW8]; exact grownZ_set _ _ _ _
          have hk8 : W8.heap[w.heap.size + 1]? = some (.cells #[.slice sla acc.length slc] 63 (0, 0)) := by
            rw [hW8]
            have := set_self (o := 0) (c := .slice sla acc.length slc) HR7.out
            simpa using this
          have hx8 : W8.cell? ⟨w.heap.size + 1, 0, none⟩ = some (.slice sla acc.length slc) := by simp [World.cell?, hk8]
          refine bodyPost_ret (v := .tuple #[.agg #[.slice sla acc.length slc], .int .i64 0]) (by simp [results, Tryz.results19, go_sem, hx8]) rfl ?_
          exact cat_ok HEE.out (sat_end HP7.out.oc.own HP7.out.oc.rows HR7.out (by omega) hg8) (HB7.out.trans (below_grownZ hg8 (by omega) HB7.out.size))
        · rw [sameB_false hsv]
          have HEE : Hold (parseC v = ([], 2)) := ⟨by rw [parse_end HPE.out, if_neg (fun h => hsv h.2)]⟩
          clear hsv
          have HE : Hold (parseC v = ([], 2)) := ⟨HEE.out⟩
          have hf1 : w7.frozen? ⟨w.heap.size + 1, 0, none⟩ = false := free_box HR7.out 0
          have hx1 : w7.cell? ⟨w.heap.size + 1, 0, none⟩ = some (.slice none 0 0) := by have := HR7.out; simp [World.cell?, this]
          go_wp2_with fail
          clear hf1 hx1
          obtain ⟨W8, hW8⟩ : ∃ W8, W8 = w7.setCell ⟨w.heap.size + 1, 0, none⟩ (.slice none 0 0) := ⟨_, rfl⟩
          rw [← hW8]
          have hk8 : W8.heap[w.heap.size + 1]? = some (.cells #[.slice none 0 0] 63 (0, 0)) := by
            rw [hW8]
            have := set_self (o := 0) (c := .slice none 0 0) HR7.out
            simpa using this
          have hx8 : W8.cell? ⟨w.heap.size + 1, 0, none⟩ = some (.slice none 0 0) := by simp [World.cell?, hk8]
          have hb8 : Below w.heap.size w W8 := by rw [hW8]; exact bsetZ HB7.out (by omega)
          refine bodyPost_ret (v := .tuple #[.agg #[.slice none 0 0], .int .i64 2]) (by simp [results, Tryz.results19, go_sem, hx8]) rfl ?_
          exact cat_err HE.out hb8
end Go.Proofs.YticlnijkfclgcaaGreatDoor
