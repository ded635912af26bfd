/- Catalogs: Parse of the reference (printed by genXCBJ.py). -/
import Derived.Test.YtfpphpjobkhalaaGreatDoorZ30
import Derived.Test.YtfpphpjobkhalaaGreatDoorZ45
import Derived.Test.YtfpphpjobkhalaaGreatDoorZ46
namespace Go.Proofs.YtfpphpjobkhalaaGreatDoor
open Go.Shelf Go.RowKit

theorem bsetR {w w' : World} {k o : Nat} {c : Value} (h : Below w.heap.size w w') (hk : w.heap.size ≤ k) : Below w.heap.size w (w'.setCell ⟨k, o, none⟩ c) := h.setCell (p := ⟨k, o, none⟩) hk _
theorem spaces_last (p : PX) : ∀ l : List CX, l ≠ [] → (spacesC (addLast p l)).length = (spacesC l).length + 1
  | [], h => absurd rfl h
  | [x], _ => by simp [addLast, spacesC, spacesX]
  | x :: y :: l, _ => by
    have := spaces_last p (y :: l) (by simp)
    show (spacesC (x :: addLast p (y :: l))).length = _
    unfold spacesC at this ⊢
    rw [List.flatMap_cons, List.flatMap_cons, List.length_append, List.length_append, this]; omega
theorem spaces_parse : ∀ (l : List JV) (acc acc2 : List CX), parseL acc l = some acc2 → (spacesC acc2).length = (spacesC acc).length + l.length
  | [], acc, acc2, h => by obtain rfl := Option.some.inj h; simp
  | r :: l, acc, acc2, h => by
    have h' : (match parseR acc r with | some a => parseL a l | none => none) = some acc2 := h
    cases e : parseR acc r with
    | none => rw [e] at h'; cases h'
    | some a =>
      rw [e] at h'
      have h1 := spaces_parse l a acc2 h'
      have h2 : (spacesC a).length = (spacesC acc).length + 1 := by
        unfold parseR at e
        split at e
        · obtain rfl := Option.some.inj e
          unfold spacesC; rw [List.flatMap_append, List.length_append]; simp [spacesX]
        · split at e
          · cases e
          · rename_i hne
            obtain rfl := Option.some.inj e
            exact spaces_last _ _ hne
        · cases e
      rw [h1, h2, List.length_cons]; omega
set_option maxRecDepth 100000 in
set_option maxHeartbeats 32000000 in
theorem rParseC_any (v : JV) (xv : Value) (w : World) (hx : JAt (cf w) v xv) (hp : ∀ r ∈ v.items, ∀ c ∈ r.items, parsable c) (hl : v.items.length ≤ 1000) :
    Calls Tryz.prog 23 #[xv] w (CatPost w (parseC v)) := by
  have HX := Hold.mk hx
  obtain ⟨k, n, t, nm, it, na, ncap, ia, icap, hve, rfl, _, _, _, _, hit⟩ := hx.open
  obtain ⟨W0, hW0, hB, e0, e1, e2⟩ := threeE w (.cells #[.int .i64 k, .int .i64 n, .string t, .slice na nm.length ncap, .slice ia it.length icap] 55) (.cells #[.slice none 0 0] 31) (.cells #[.slice none 0 0] 31)
  have HB0 := Hold.mk hB
  have HV0 := Hold.mk e0
  have HR0 := Hold.mk e1
  have HIT := Hold.mk hit
  have HVE : Hold (v.items = it) := ⟨by rw [hve]; rfl⟩
  have HP : Hold (∀ r ∈ it, ∀ c ∈ r.items, parsable c) := ⟨by rw [← HVE.out]; exact hp⟩
  have HL : Hold (it.length ≤ 1000) := ⟨by rw [← HVE.out]; exact hl⟩
  have HP0 : Hold (PR w W0 W0 nilS [] [] nilS [] 0) := ⟨⟨Below.refl _ _, e2, ROwnCat.start (by omega) (by rw [hW0]; simp), Nat.le_refl _, fun x hx => by simp at hx, fun x hx => by simp at hx⟩⟩
  clear hx hp hl hB e0 e1 e2 hit hve
  go_enter Tryz.func23, Tryz.ntmps23
  go_upto_region 2 with (fail)
  rw [← hW0]
  clear hW0
  go_wp2_with fail
  go_loopw [5] (fun i wr => ∃ (j : Nat) (sl : Value) (acc : List CX) (cs : List Value) (ik : Value) (ics : List Value), i = .int .i64 j ∧ j ≤ it.length ∧ parseL [] (it.take j) = some acc ∧ PR w W0 wr sl acc cs ik ics j) (fun i _ => it.length - (intOf i).toNat)
  case atStart => exact ⟨0, _, _, _, _, _, rfl, Nat.zero_le _, rfl, HP0.out⟩
  case round =>
    clear HP0
    obtain ⟨j, sl, acc, cs, ik, ics, rfl, hj, hpl, hps⟩ := hrel
    obtain ⟨sla, slc, rfl⟩ := own_shapeZ hps.oc.own
    have HPS := Hold.mk hps
    have HPL := Hold.mk hpl
    clear hps hpl
    have HRX := Hold.mk (keptB HR0.out (by omega) HPS.out.bel)
    have HVX := Hold.mk (keptB HV0.out (by omega) HPS.out.bel)
    have HBX : Hold (Below w.heap.size w wr) := ⟨HB0.out.trans (HPS.out.bel.mono (by omega))⟩
    have HVW := HVX
    obtain ⟨_, _, _, _, v4⟩ := cells_five HVX.out
    by_cases hlt : j < it.length
    · have hj9 : j ≤ 1000 := by have := HL.out; omega
      obtain ⟨r, hr⟩ : ∃ r, it[j]? = some r := ⟨it[j], List.getElem?_eq_getElem hlt⟩
      obtain ⟨b, off, rk, rn, rt, rnm, rit, rna, rncap, ra, rcap, rfl, hre, d0, d1, d2, d3, d4, _, hri, _, _⟩ := items_open HIT.out hr
      have HRI := Hold.mk hri
      have HRE : Hold (r.items = rit) := ⟨by rw [hre]; rfl⟩
      have HSTEP := Hold.mk (parse_step HPL.out hr)
      have HPR := Hold.mk (HP.out r (List.mem_of_getElem? hr))
      have hcl := cle_below HBX.out
      have z4 := hcl _ _ _ d4
      unfold cf at z4
      have HLOW : Hold ((∀ q, (Value.slice sla acc.length slc).ownBlock = some q → w.heap.size + 3 ≤ q ∧ q < wr.heap.size) ∧ (∀ q, ik.ownBlock = some q → w.heap.size + 3 ≤ q ∧ q < wr.heap.size)) := ⟨fun q hq => HPS.out.low.1 q hq, fun q hq => HPS.out.low.2 q hq⟩
      have y0 : wr.cell? ⟨w.heap.size + 1 + 1, 0, none⟩ = some (.slice sla acc.length slc) := by have := HPS.out.box; simp [World.cell?, this]
      clear d0 d1 d2 d3 d4 hri hre hcl
      have hcase : (∃ a b, rit = [a, b]) ∨ (∃ a b c, rit = [a, b, c]) ∨ rit.length < 2 ∨ 3 < rit.length := by
        match rit with
        | [a, b] => exact .inl ⟨a, b, rfl⟩
        | [a, b, c] => exact .inr (.inl ⟨a, b, c, rfl⟩)
        | [] => exact .inr (.inr (.inl (by simp)))
        | [a] => exact .inr (.inr (.inl (by simp)))
        | a :: b :: c :: d :: l => exact .inr (.inr (.inr (by simp)))
      rcases hcase with ⟨a, c, rfl⟩ | ⟨a, c, e, rfl⟩ | h23
      · -- two items: a further collection
        obtain ⟨b1, off1, k1, n1, t1, nm1, it1, na1, nc1, ia1, ic1, rfl, ha, d0, d1, d2, d3, d4, _, _, ht1, _⟩ := items_open HRI.out (j := 0) rfl
        obtain ⟨_, _, k2, n2, t2, nm2, it2, na2, nc2, ia2, ic2, e, hc, e0, e1, e2, e3, e4, _, _, _, hw2⟩ := items_open HRI.out (j := 1) rfl
        cases e
        have HT1 := Hold.mk ht1
        have HW2 := Hold.mk hw2
        have HNX : Hold (parseL [] (it.take (j + 1)) = some (acc ++ [⟨t1, n2, []⟩])) := ⟨by rw [HSTEP.out, row_is2 HRE.out, ha, hc]; rfl⟩
        have hb1 := lt_of_cell d2
        have u2 := cle_below HBX.out _ _ _ d2
        have u6 := cle_below HBX.out _ _ _ e1
        unfold cf at u2 u6
        simp only [Nat.zero_mul, Nat.one_mul, Nat.add_zero, Nat.add_assoc, Nat.reduceAdd] at u2 u6
        simp only [List.length_cons, List.length_nil, Nat.zero_add, Nat.reduceAdd] at z4 ⊢
        clear d0 d1 d2 d3 d4 e0 e1 e2 e3 e4 ht1 hw2 ha hc HSTEP HPR HRI HRE
        have hal : acc.length ≤ 1000 := by have := HPS.out.len; omega
        go_upto_region 9 with (fail)
        go_upto_region 10 with (fail)
        clear v4 z4
        have g1 := OthT.cell (zb := w.heap.size + 1 + 1) (sv := .slice sla acc.length slc) u2 (by omega) (fun e => by have := (HLOW.out.1 _ e).1; omega)
        have g2 := OthT.cell (zb := w.heap.size + 1 + 1) (sv := .slice sla acc.length slc) u6 (by omega) (fun e => by have := (HLOW.out.1 _ e).1; omega)
        have h1 : ∀ e : BoxOT (w.heap.size + 1 + 1) wr, e.val.cell? ⟨w.heap.size + 1 + 1, 0, none⟩ = some (.slice sla acc.length slc) := BoxOT.cell y0
        clear u2 u6 y0
        refine wp_region_mixL (KeepO (w.heap.size + 1 + 1) (.slice sla acc.length slc) wr [12]) 15 rfl (by kernel_rfl) ?_
        obtain ⟨w9, hw9⟩ : ∃ w9, w9 = wr.drew := ⟨_, rfl⟩
        have hb9 : Below wr.heap.size wr w9 := by rw [hw9]; exact (Below.refl _ _).drew
        have HB9 := Hold.mk hb9
        rw [← hw9]
        clear hw9 hb9
        refine mixL_seg (by kernel_rfl) (fun _ _ d _ _ h => by cases d <;> exact h) (OthC (w.heap.size + 1 + 1) (.slice sla acc.length slc) wr) keepO_base [0, 2, 3, 4, 5, 6, 7, 8, 9, 10] (keepO_back rfl) [_, _, _, _, _, _, _, _, _, _] 5 15 rfl _ _ _ rfl (by kernel_rfl) ?_
        repeat (go_big_quiet_step (fail))
        refine wpQuiet_nil ?_
        refine mixL_one (by kernel_rfl) (fun _ _ d _ _ h => by cases d <;> exact h) (BoxOC (w.heap.size + 1 + 1) wr) 12 (keepO_box (by decide)) 1 (fun l w => keepO_back (is := [1]) rfl 1 (by simp) l w) _ 4 _ _ _ rfl (by kernel_rfl) (by kernel_rfl) (by kernel_rfl) ?_
        repeat (go_big_quiet_step (fail))
        refine wpQuiet_nil ?_
        clear h1 g1 g2
        have HOS := Hold.mk (own_triv (HPS.out.oc.own.kept (row := none) (grownZ_below HB9.out) (by cases (Value.slice sla acc.length slc).ownBlock <;> simp)) HPS.out.oc.own.1 (by decide) (by have := HB9.out.size; have := heap_lt HPS.out.box; omega))
        refine mixL_act (i := 11) rfl (by kernel_rfl) (keepO_on (fun b hb _ _ => HB9.out.block b hb) (HB9.out.block (w.heap.size + 1 + 1) (heap_lt HPS.out.box))) rfl (fun K hK => ?_)
        go_wp2_with fail
        have HB11 : Hold (Below wr.heap.size wr (w9.alloc (.cells #[.string t1, .int .i64 n2, .slice none 0 0] 77))) := ⟨HB9.out.alloc HB9.out.size _⟩
        refine mixL_act (i := 12) rfl (by kernel_rfl) (keepO_on (fun b hb _ _ => HB11.out.block b hb) (HB11.out.block (w.heap.size + 1 + 1) (heap_lt HPS.out.box))) rfl (fun K hK => ?_)
        refine wp_push (R := RTriv) (fun _ _ _ _ _ h => h) _ _ rfl infoCXr Tryz.underlying29 rfl (by decide) _ w9 _ acc.length _ cs HOS.out rfl #[.string t1, .int .i64 n2, .slice none 0 0] [.string t1, .int .i64 n2, .slice none 0 0] rfl rfl (by simp [Value.oneCell']) () trivial _ rfl rfl (by omega) (by decide) ?_
        intro sl2 wA hoA hgA
        obtain ⟨pa, pc, rfl⟩ := hoA.shape
        have HN := Hold.mk (HPS.out.two HB9.out hgA.by_ HT1.out HW2.out hoA.own)
        have hlow := HPS.out.oc.own.lt
        have HOA : Hold (∀ b, b < wr.heap.size → b ≠ w.heap.size + 1 + 1 → (Value.slice sla acc.length slc).ownBlock ≠ some b → wA.heap[b]? = wr.heap[b]?) := ⟨fun b hb _ h2 => by
          rw [hgA.by_.block b (Nat.lt_of_lt_of_le hb HB9.out.size) (fun e => h2 e.symm)]; exact HB9.out.block b hb⟩
        have HBX9 : Hold (wA.heap[w.heap.size + 1 + 1]? = some (.cells #[.slice sla acc.length slc] 31 (0, 0))) := ⟨hgA.kept (kept HPS.out.box HB9.out) (fun g hg e => by have := (hlow g hg).1; omega)⟩
        clear hoA hgA hlow
        go_wp2_with fail
        refine mixL_seg (by kernel_rfl) (fun _ _ d _ _ h => by cases d <;> exact h) (OthC (w.heap.size + 1 + 1) (.slice sla acc.length slc) wr) keepO_base [13] (keepO_back rfl) [_] 1 2 rfl _ _ _ rfl (by kernel_rfl) ?_
        repeat (go_big_quiet_step (fail))
        refine wpQuiet_nil ?_
        refine mixL_act (i := 14) rfl (by kernel_rfl) (keepO_off HOA.out (by kernel_rfl)) rfl (fun K hK => ?_)
        have f4 := free_box HBX9.out 0
        have v4 : wA.cell? ⟨w.heap.size + 1 + 1, 0, none⟩ = some (.slice sla acc.length slc) := by have := HBX9.out; simp [World.cell?, this]
        go_wp2_with fail
        clear f4 v4
        obtain ⟨wB, hwB⟩ : ∃ wB, wB = wA.setCell ⟨w.heap.size + 1 + 1, 0, none⟩ (.slice pa (acc.length + 1) pc) := ⟨_, rfl⟩
        rw [← hwB]
        rw [← hwB] at HN
        have HOB : Hold (∀ b, b < wr.heap.size → b ≠ w.heap.size + 1 + 1 → (Value.slice sla acc.length slc).ownBlock ≠ some b → wB.heap[b]? = wr.heap[b]?) := ⟨fun b h1 h2 h3 => by
          rw [hwB, Below.heap_setCell _ _ _ _ h2]; exact HOA.out b h1 h2 h3⟩
        clear hwB HOA HBX9
        refine mixL_done (by kernel_rfl) (keepO_off HOB.out (by kernel_rfl)) ?_
        clear HOB
        go_wp2_with fail
        exact ⟨⟨j + 1, _, _, _, _, _, by go_num, hlt, HNX.out, HN.out⟩, by simp [intOf]; omega⟩
      · -- three items: a further index of the last collection
        obtain ⟨b1, off1, k1, n1, t1, nm1, it1, na1, nc1, ia1, ic1, rfl, ha, d0, d1, d2, d3, d4, _, _, ht1, _⟩ := items_open HRI.out (j := 0) rfl
        obtain ⟨_, _, k2, n2, t2, nm2, it2, na2, nc2, ia2, ic2, eq, hc, e0, e1, e2, e3, e4, _, _, _, hw2⟩ := items_open HRI.out (j := 1) rfl
        cases eq
        obtain ⟨_, _, k3, n3, t3, nm3, it3, na3, nc3, ia3, ic3, eq, he, f0, f1, f2, f3, f4, hje, _, _, _⟩ := items_open HRI.out (j := 2) rfl
        cases eq
        have HW2 := Hold.mk hw2
        have HJE := Hold.mk (hje.mono (cle_below HBX.out))
        have HPE := Hold.mk (HPR.out e (by rw [HRE.out]; simp))
        have HCN : Hold (c.n = n2) := ⟨by rw [hc]; rfl⟩
        have hb1 := lt_of_cell d2
        have hcl := cle_below HBX.out
        have u6 := hcl _ _ _ e1
        have q0 := hcl _ _ _ f0
        have q1 := hcl _ _ _ f1
        have q2 := hcl _ _ _ f2
        have q3 := hcl _ _ _ f3
        have q4 := hcl _ _ _ f4
        unfold cf at u6 q0 q1 q2 q3 q4
        simp only [Nat.one_mul, Nat.add_assoc, Nat.reduceAdd, Nat.reduceMul] at u6 q0 q1 q2 q3 q4
        simp only [List.length_cons, List.length_nil, Nat.zero_add, Nat.reduceAdd] at z4 ⊢
        clear d0 d1 d2 d3 d4 e0 e1 e2 e3 e4 f0 f1 f2 f3 f4 ht1 hw2 ha hc he HPR HRI hje hcl
        by_cases hac : acc = []
        · subst hac
          have HNX : Hold (parseL [] (it.take (j + 1)) = none) := ⟨by rw [HSTEP.out]; exact row_nil HRE.out⟩
          clear HSTEP HRE u6 q0 q1 q2 q3 q4 HW2 HJE HPE HCN HLOW
          have HE : Hold (parseC v = ([], 2)) := ⟨parse_stop HVE.out HNX.out⟩
          have hf1 : wr.frozen? ⟨w.heap.size + 1, 0, none⟩ = false := free_box HRX.out 0
          have hx1 : wr.cell? ⟨w.heap.size + 1, 0, none⟩ = some (.slice none 0 0) := by have := HRX.out; simp [World.cell?, this]
          go_wp2_with fail
          clear hf1 hx1
          obtain ⟨W8, hW8⟩ : ∃ W8, W8 = wr.setCell ⟨w.heap.size + 1, 0, none⟩ (.slice none 0 0) := ⟨_, rfl⟩
          rw [← hW8]
          have hk8 : W8.heap[w.heap.size + 1]? = some (.cells #[.slice none 0 0] 31 (0, 0)) := by
            rw [hW8]
            have := set_self (o := 0) (c := .slice none 0 0) HRX.out
            simpa using this
          have hx8 : W8.cell? ⟨w.heap.size + 1, 0, none⟩ = some (.slice none 0 0) := by simp [World.cell?, hk8]
          have hb8 : Below w.heap.size w W8 := by rw [hW8]; exact bsetR HBX.out (by omega)
          refine bodyPost_ret (v := .tuple #[.agg #[.slice none 0 0], .int .i64 2]) (by simp [results, Tryz.results23, go_sem, hx8]) rfl ?_
          exact cat_err HE.out hb8
        obtain ⟨m, hm⟩ : ∃ m, acc.length = m + 1 := ⟨acc.length - 1, by have : acc.length ≠ 0 := fun e => hac (List.length_eq_zero_iff.1 e); omega⟩
        obtain ⟨y, hy⟩ : ∃ y, acc[m]? = some y := ⟨acc[m]'(by omega), List.getElem?_eq_getElem _⟩
        have HY := Hold.mk hy
        have HM := Hold.mk hm
        have HNX : Hold (parseL [] (it.take (j + 1)) = some (acc.set m ⟨y.name, y.sp, y.ixs ++ [⟨parseX e, n2⟩]⟩)) := ⟨by rw [HSTEP.out, row_is3 HRE.out hm hy, HCN.out]⟩
        obtain ⟨g, rfl⟩ := own_placeZ HPS.out.oc.own (by omega)
        have hlast : ((acc.length : Int) - 1) = (m : Int) := by omega
        have hml : (m : Int) < (acc.length : Int) := by omega
        have hm9 : m ≤ 1000 := by have := HPS.out.len; omega
        have hal0 : ((acc.length : Int) == 0) = false := by rw [beq_eq_false_iff_ne]; omega
        have hal : acc.length ≤ 1001 := by omega
        clear HSTEP HRE HCN hac hy hm
        have HOM : Hold (wr.ownsRow (w.heap.size + 3) 79 4 ik y.ixs.length ics) := ⟨by
          have h1 := HPS.out.oc
          rw [show acc.length - 1 = m by have := HM.out; omega] at h1
          exact (h1.mine y HY.out).2.2.2.1⟩
        have HIX : Hold (y.ixs.length ≤ 1000) := ⟨by have := HPS.out.ixl y (List.mem_of_getElem? HY.out); have := HL.out; omega⟩
        obtain ⟨ika, ikc, rfl⟩ := own_shapeZ HOM.out
        have HPA := Hold.mk (rParseO_any e _ wr HJE.out HPE.out)
        clear HJE HPE
        go_upto_region 9 with (fail)
        clear hal0 v4 z4 y0
        go_wp2_with fail
        refine HPA.out.mono ?_
        rintro en w4 hpo
        obtain ⟨fa, fcap, en2, rfl, hpn, hpf, hfo, hb4⟩ := parseX_post hpo
        have HPN := Hold.mk hpn
        have HPF := Hold.mk hpf
        have HFO := Hold.mk hfo
        generalize parseX e = px at *
        obtain ⟨pn, pf, pu⟩ := px
        simp only at *
        obtain ⟨xb, hxb⟩ : ∃ xb, xb = w4.heap.size := ⟨_, rfl⟩
        obtain ⟨W5, hW5⟩ : ∃ W5, W5 = w4.alloc (.cells #[.string pn, .slice fa pf.length fcap, .bool pu] 73) := ⟨_, rfl⟩
        have hb5 : Below w4.heap.size w4 W5 := by rw [hW5]; exact (Below.refl _ w4).alloc (Nat.le_refl _) _
        have HXB0 : wr.heap.size ≤ xb := by have := hb4.size; omega
        have HXK : Hold (W5.heap[xb]? = some (.cells #[.string pn, .slice fa pf.length fcap, .bool pu] 73 (0, 0))) := ⟨by rw [hW5, hxb]; exact heap_alloc_new w4 _⟩
        have HB5 := Hold.mk (hb4.trans (hb5.mono hb4.size))
        have HFO5 := Hold.mk (HFO.out.kept (row := none) (grownZ_below hb5) (by cases (Value.slice fa pf.length fcap).ownBlock <;> simp))
        have HQ5 := Hold.mk (HPS.out.quiet HB5.out)
        have HOM5 := Hold.mk (HOM.out.kept (row := none) (grownZ_below HB5.out) (by cases (Value.slice ika y.ixs.length ikc).ownBlock <;> simp))
        replace u6 := cle_below HB5.out _ _ _ u6
        unfold cf at u6
        have y0 : W5.cell? ⟨w.heap.size + 1 + 1, 0, none⟩ = some (.slice (some ⟨g, 0, none⟩) acc.length slc) := by have := HQ5.out.box; simp [World.cell?, this]
        have HIK : Hold (W5.cell? ⟨g, m * 3 + 2, none⟩ = some (.slice ika y.ixs.length ikc)) := ⟨by
          have h0 := HQ5.out.oc
          rw [show acc.length - 1 = m by have := HM.out; omega] at h0
          have := h0.own.cells (g := g) rfl (m * 3 + 2) _ ((h0.mine y HY.out).1 2 _ rfl)
          rw [addr_at] at this; exact this⟩
        have ik0 := HIK.out
        clear hpo hpn hpf hfo hb4 hb5 q0 q1 q2 q3 q4
        go_upto_region 12 with (fail)
        rw [← hW5, ← hxb]
        clear hW5 hxb
        go_upto_region 13 with (fail)
        obtain ⟨p0, p1, p2⟩ := cells_three HXK.out
        have HGG : Hold (w.heap.size + 3 ≤ g ∧ g < wr.heap.size) := ⟨HLOW.out.1 g rfl⟩
        have HXB : Hold (wr.heap.size ≤ xb) := ⟨HXB0⟩
        have g0 := OthT.cell (zb := g) (sv := .slice ika y.ixs.length ikc) u6 (by have := HGG.out; omega) (fun e => by have := HLOW.out.2 _ e; omega)
        have g3 := OthT.cell (zb := g) (sv := .slice ika y.ixs.length ikc) p0 (by have := HGG.out; have := HXB.out; omega) (fun e => by have := HLOW.out.2 _ e; have := HXB.out; omega)
        have g4 := OthT.cell (zb := g) (sv := .slice ika y.ixs.length ikc) p1 (by have := HGG.out; have := HXB.out; omega) (fun e => by have := HLOW.out.2 _ e; have := HXB.out; omega)
        have g5 := OthT.cell (zb := g) (sv := .slice ika y.ixs.length ikc) p2 (by have := HGG.out; have := HXB.out; omega) (fun e => by have := HLOW.out.2 _ e; have := HXB.out; omega)
        clear u6 y0 ik0 p0 p1 p2 HXB0
        refine wp_region_mixL (KeepO g (.slice ika y.ixs.length ikc) W5 [8]) 10 rfl (by kernel_rfl) ?_
        obtain ⟨w9, hw9⟩ : ∃ w9, w9 = W5.drew := ⟨_, rfl⟩
        have hb9 : Below W5.heap.size W5 w9 := by rw [hw9]; exact (Below.refl _ _).drew
        have HB9 := Hold.mk hb9
        rw [← hw9]
        clear hw9 hb9
        have hgl5 : g < W5.heap.size := (HQ5.out.low.1 g rfl).2
        refine mixL_seg (by kernel_rfl) (fun _ _ d _ _ h => by cases d <;> exact h) (OthC g (.slice ika y.ixs.length ikc) W5) keepO_base [0, 1, 2, 3, 4, 5, 6] (keepO_back rfl) [_, _, _, _, _, _, _] 3 10 rfl _ _ _ rfl (by kernel_rfl) ?_
        repeat (go_big_quiet_step (fail))
        refine wpQuiet_nil ?_
        clear g0 g3 g4 g5
        have HOS := Hold.mk (own_triv (HOM5.out.kept (row := none) (grownZ_below HB9.out) (by cases (Value.slice ika y.ixs.length ikc).ownBlock <;> simp)) HOM5.out.1 (by decide) (by have := HB9.out.size; have := heap_lt HQ5.out.box; omega))
        refine mixL_act (i := 7) rfl (by kernel_rfl) (keepO_on (fun b hb _ _ => HB9.out.block b hb) (HB9.out.block g hgl5)) rfl (fun K hK => ?_)
        go_wp2_with fail
        have HB11 : Hold (Below W5.heap.size W5 (w9.alloc (.cells #[.string pn, .slice fa pf.length fcap, .bool pu, .int .i64 n2] 79))) := ⟨HB9.out.alloc HB9.out.size _⟩
        refine mixL_act (i := 8) rfl (by kernel_rfl) (keepO_on (fun b hb _ _ => HB11.out.block b hb) (HB11.out.block g hgl5)) rfl (fun K hK => ?_)
        refine wp_push (R := RTriv) (fun _ _ _ _ _ h => h) _ _ rfl infoPXr Tryz.underlying75 rfl (by decide) _ w9 _ y.ixs.length _ ics HOS.out rfl #[.string pn, .slice fa pf.length fcap, .bool pu, .int .i64 n2] [.string pn, .slice fa pf.length fcap, .bool pu, .int .i64 n2] rfl rfl (by simp [Value.oneCell']) () trivial _ rfl rfl (by have := HIX.out; omega) (by decide) ?_
        intro sl2 wA hoA hgA
        obtain ⟨pa, pc, rfl⟩ := hoA.shape
        have HN := Hold.mk (HQ5.out.three HB9.out HM.out HY.out hgA.by_ hgA.own (p := ⟨⟨pn, pf, pu⟩, n2⟩) HPN.out HW2.out HPF.out (HFO5.out.kept (row := none) (grownZ_below HB9.out) (by cases (Value.slice fa pf.length fcap).ownBlock <;> simp)) hoA.own)
        have HOG : Hold (wA.heap[g]? = w9.heap[g]?) := ⟨hgA.by_.block g (Nat.lt_of_lt_of_le hgl5 HB9.out.size) (fun e => by
          have h0 := HQ5.out.oc
          rw [show acc.length - 1 = m by have := HM.out; omega] at h0
          rcases own_blocks h0.own (h0.mine y HY.out).2.2.2.1 (by decide) with h2 | h2
          · rw [h2] at e; cases e
          · exact h2 e.symm)⟩
        have HG9 : Hold (wA.cell? ⟨g, m * 3 + 2, none⟩ = some (.slice ika y.ixs.length ikc) ∧ wA.frozen? ⟨g, m * 3 + 2, none⟩ = false) := ⟨by
          have h3 : wA.heap[g]? = W5.heap[g]? := by rw [HOG.out]; exact HB9.out.block g hgl5
          refine ⟨by rw [World.cell?_of_block h3]; exact HIK.out, ?_⟩
          rcases HQ5.out.oc.own.2 with ⟨hv, _⟩ | ⟨q, cap, cur, hv, _, hgg, _⟩
          · cases hv
          · injection hv with e1
            injection e1 with e1
            injection e1 with e1
            subst e1
            exact free_box (h3.trans hgg) _⟩
        have HOA : Hold (∀ b, b < W5.heap.size → b ≠ g → (Value.slice ika y.ixs.length ikc).ownBlock ≠ some b → wA.heap[b]? = W5.heap[b]?) := ⟨fun b hb _ h2 => by
          rw [hgA.by_.block b (Nat.lt_of_lt_of_le hb HB9.out.size) (fun e => h2 e.symm)]; exact HB9.out.block b hb⟩
        have HCB : Hold (wA.heap[w.heap.size + 1 + 1]? = some (.cells #[.slice (some ⟨g, 0, none⟩) acc.length slc] 31 (0, 0))) := ⟨hgA.kept (kept HQ5.out.box HB9.out) (fun q hq e => by have := (HLOW.out.2 q hq).1; omega)⟩
        have y0 : wA.cell? ⟨w.heap.size + 1 + 1, 0, none⟩ = some (.slice (some ⟨g, 0, none⟩) acc.length slc) := by have := HCB.out; simp [World.cell?, this]
        obtain ⟨hg9, hf9⟩ := HG9.out
        clear hoA hgA HIK HCB
        go_wp2_with fail
        refine mixL_seg (by kernel_rfl) (fun _ _ d _ _ h => by cases d <;> exact h) (OthC g (.slice ika y.ixs.length ikc) W5) keepO_base [9] (keepO_back rfl) [_] 0 1 rfl _ _ _ rfl (by kernel_rfl) ?_
        repeat (go_big_quiet_step (fail))
        refine wpQuiet_nil ?_
        refine mixL_done (by kernel_rfl) (keepO_off HOA.out (by kernel_rfl)) ?_
        clear HOA
        go_wp2_with fail
        exact ⟨⟨j + 1, _, _, _, _, _, by go_num, hlt, HNX.out, HN.out⟩, by simp [intOf]; omega⟩
      · -- another row: an error
        have HNX : Hold (parseL [] (it.take (j + 1)) = none) := ⟨by rw [HSTEP.out]; exact row_bad (by rw [HRE.out]; omega) (by rw [HRE.out]; omega)⟩
        have hbad : (decide ((rit.length : Int) < 2) = true) ∨ (decide ((rit.length : Int) < 2) = false ∧ decide ((3 : Int) < (rit.length : Int)) = true) := by
          rcases h23 with h | h
          · exact .inl (decide_eq_true (by omega))
          · exact .inr ⟨decide_eq_false (by omega), decide_eq_true (by omega)⟩
        clear HSTEP HRE HRI HPR h23 HLOW
        rcases hbad with hb2 | ⟨hb2, hb3⟩

        · have HE : Hold (parseC v = ([], 2)) := ⟨parse_stop HVE.out HNX.out⟩
          have hf1 : wr.frozen? ⟨w.heap.size + 1, 0, none⟩ = false := free_box HRX.out 0
          have hx1 : wr.cell? ⟨w.heap.size + 1, 0, none⟩ = some (.slice none 0 0) := by have := HRX.out; simp [World.cell?, this]
          go_wp2_with fail
          clear hf1 hx1
          obtain ⟨W8, hW8⟩ : ∃ W8, W8 = wr.setCell ⟨w.heap.size + 1, 0, none⟩ (.slice none 0 0) := ⟨_, rfl⟩
          rw [← hW8]
          have hk8 : W8.heap[w.heap.size + 1]? = some (.cells #[.slice none 0 0] 31 (0, 0)) := by
            rw [hW8]
            have := set_self (o := 0) (c := .slice none 0 0) HRX.out
            simpa using this
          have hx8 : W8.cell? ⟨w.heap.size + 1, 0, none⟩ = some (.slice none 0 0) := by simp [World.cell?, hk8]
          have hb8 : Below w.heap.size w W8 := by rw [hW8]; exact bsetR HBX.out (by omega)
          refine bodyPost_ret (v := .tuple #[.agg #[.slice none 0 0], .int .i64 2]) (by simp [results, Tryz.results23, go_sem, hx8]) rfl ?_
          exact cat_err HE.out hb8
        · have HE : Hold (parseC v = ([], 2)) := ⟨parse_stop HVE.out HNX.out⟩
          have hf1 : wr.frozen? ⟨w.heap.size + 1, 0, none⟩ = false := free_box HRX.out 0
          have hx1 : wr.cell? ⟨w.heap.size + 1, 0, none⟩ = some (.slice none 0 0) := by have := HRX.out; simp [World.cell?, this]
          go_wp2_with fail
          clear hf1 hx1
          obtain ⟨W8, hW8⟩ : ∃ W8, W8 = wr.setCell ⟨w.heap.size + 1, 0, none⟩ (.slice none 0 0) := ⟨_, rfl⟩
          rw [← hW8]
          have hk8 : W8.heap[w.heap.size + 1]? = some (.cells #[.slice none 0 0] 31 (0, 0)) := by
            rw [hW8]
            have := set_self (o := 0) (c := .slice none 0 0) HRX.out
            simpa using this
          have hx8 : W8.cell? ⟨w.heap.size + 1, 0, none⟩ = some (.slice none 0 0) := by simp [World.cell?, hk8]
          have hb8 : Below w.heap.size w W8 := by rw [hW8]; exact bsetR HBX.out (by omega)
          refine bodyPost_ret (v := .tuple #[.agg #[.slice none 0 0], .int .i64 2]) (by simp [results, Tryz.results23, go_sem, hx8]) rfl ?_
          exact cat_err HE.out hb8
    · -- all rows are read
      obtain rfl : j = it.length := by omega
      have HPE : Hold (parseL [] v.items = some acc) := ⟨by rw [HVE.out]; have := HPL.out; rwa [List.take_of_length_le (Nat.le_refl _)] at this⟩
      have HNS : Hold ((spacesC acc).length ≤ 1000000) := ⟨by have := spaces_parse _ _ _ HPE.out; rw [HVE.out] at this; have := HL.out; simp [spacesC] at *; omega⟩
      have y0 : wr.cell? ⟨w.heap.size + 1 + 1, 0, none⟩ = some (.slice sla acc.length slc) := by have := HPS.out.box; simp [World.cell?, this]
      have HSH := Hold.mk (rShowC_any acc (.agg #[.slice sla acc.length slc]) wr ⟨_, _, rfl, rsat_cat HPS.out.oc.own HPS.out.oc.rows⟩ HPS.out.sml HNS.out)
      go_wp2_with fail
      refine HSH.out.mono ?_
      rintro en w3 ⟨hpo, hb3⟩
      have HB3 := Hold.mk (HBX.out.trans (hb3.mono HBX.out.size))
      have HR3 := Hold.mk (kept HRX.out hb3)
      have HV3 := Hold.mk (kept HVW.out hb3)
      have HP3 := Hold.mk (HPS.out.quiet hb3)
      clear hb3 HSH y0 v4
      cases hfo : formC acc with
      | false =>
        rw [if_neg (by rw [hfo]; decide)] at hpo
        subst hpo
        have HEE : Hold (parseC v = ([], 2)) := ⟨by rw [parse_end HPE.out, if_neg]; rintro ⟨h1, _⟩; rw [hfo] at h1; cases h1⟩
        obtain ⟨W6, hW6⟩ : ∃ W6, W6 = w3.alloc (.cells #[.int .i64 0, .int .i64 0, .string ⟨#[]⟩, .slice none 0 0, .slice none 0 0] 55) := ⟨_, rfl⟩
        have hb6 : Below w3.heap.size w3 W6 := by rw [hW6]; exact (Below.refl _ w3).alloc (Nat.le_refl _) _
        have HR6 := Hold.mk (kept HR3.out hb6)
        have HB6 := Hold.mk (HB3.out.trans (hb6.mono HB3.out.size))
        clear hfo hb6
        go_upto_region 16 with (fail)
        rw [← hW6]
        clear hW6
        have HE : Hold (parseC v = ([], 2)) := ⟨HEE.out⟩
        have hf1 : W6.frozen? ⟨w.heap.size + 1, 0, none⟩ = false := free_box HR6.out 0
        have hx1 : W6.cell? ⟨w.heap.size + 1, 0, none⟩ = some (.slice none 0 0) := by have := HR6.out; simp [World.cell?, this]
        go_wp2_with fail
        clear hf1 hx1
        obtain ⟨W8, hW8⟩ : ∃ W8, W8 = W6.setCell ⟨w.heap.size + 1, 0, none⟩ (.slice none 0 0) := ⟨_, rfl⟩
        rw [← hW8]
        have hk8 : W8.heap[w.heap.size + 1]? = some (.cells #[.slice none 0 0] 31 (0, 0)) := by
          rw [hW8]
          have := set_self (o := 0) (c := .slice none 0 0) HR6.out
          simpa using this
        have hx8 : W8.cell? ⟨w.heap.size + 1, 0, none⟩ = some (.slice none 0 0) := by simp [World.cell?, hk8]
        have hb8 : Below w.heap.size w W8 := by rw [hW8]; exact bsetR HB6.out (by omega)
        refine bodyPost_ret (v := .tuple #[.agg #[.slice none 0 0], .int .i64 2]) (by simp [results, Tryz.results23, go_sem, hx8]) rfl ?_
        exact cat_err HE.out hb8
      | true =>
        rw [if_pos hfo] at hpo
        have HF := Hold.mk hfo
        clear hfo
        obtain ⟨y, rfl, hy⟩ := hpo
        obtain ⟨k5, n5, t5, nm5, it5, na5, ncap5, ia5, icap5, hye, rfl, _⟩ := hy.open
        have HY := Hold.mk hy
        clear hy hye
        obtain ⟨W6, hW6⟩ : ∃ W6, W6 = w3.alloc (.cells #[.int .i64 k5, .int .i64 n5, .string t5, .slice na5 nm5.length ncap5, .slice ia5 it5.length icap5] 55) := ⟨_, rfl⟩
        have hb6 : Below w3.heap.size w3 W6 := by rw [hW6]; exact (Below.refl _ w3).alloc (Nat.le_refl _) _
        have hyb : W6.heap[w3.heap.size]? = some (.cells #[.int .i64 k5, .int .i64 n5, .string t5, .slice na5 nm5.length ncap5, .slice ia5 it5.length icap5] 55 (0, 0)) := by rw [hW6]; exact heap_alloc_new w3 _
        have HR6 := Hold.mk (kept HR3.out hb6)
        have HV6 := Hold.mk (kept HV3.out hb6)
        have HB6 := Hold.mk (HB3.out.trans (hb6.mono HB3.out.size))
        have HP6 := Hold.mk (HP3.out.quiet hb6)
        have HSA := Hold.mk (rSame_any v (showC acc) _ _ W6 (HX.out.mono (cle_below HB6.out)) (HY.out.mono (cle_below hb6)))
        go_upto_region 16 with (fail)
        rw [← hW6]
        clear hW6 hb6
        obtain ⟨y0, y1, y2, y3, y4⟩ := cells_five HV6.out
        obtain ⟨x0, x1, x2, x3, x4⟩ := cells_five hyb
        go_wp2_with fail
        refine HSA.out.mono ?_
        rintro en w7 ⟨rfl, hb7⟩
        have HR7 := Hold.mk (kept HR6.out hb7)
        have HB7 := Hold.mk (HB6.out.trans (hb7.mono HB6.out.size))
        have HP7 := Hold.mk (HP6.out.quiet hb7)
        clear hb7 hyb HSA HY y0 y1 y2 y3 y4 x0 x1 x2 x3 x4
        by_cases hsv : v = showC acc
        · rw [sameB_true hsv]
          have HEE : Hold (parseC v = (acc, 0)) := ⟨by rw [parse_end HPE.out, if_pos ⟨HF.out, hsv⟩]⟩
          clear hsv
          have y0 : w7.cell? ⟨w.heap.size + 1 + 1, 0, none⟩ = some (.slice sla acc.length slc) := by have := HP7.out.box; simp [World.cell?, this]
          have hf1 : w7.frozen? ⟨w.heap.size + 1, 0, none⟩ = false := free_box HR7.out 0
          have hx1 : w7.cell? ⟨w.heap.size + 1, 0, none⟩ = some (.slice none 0 0) := by have := HR7.out; simp [World.cell?, this]
          go_wp2_with fail
          clear hf1 hx1 y0
          obtain ⟨W8, hW8⟩ : ∃ W8, W8 = w7.setCell ⟨w.heap.size + 1, 0, none⟩ (.slice sla acc.length slc) := ⟨_, rfl⟩
          rw [← hW8]
          have hg8 : w7.grownBy W8 (some (w.heap.size + 1)) := by rw [hW8]; exact grownZ_set _ _ _ _
          have hk8 : W8.heap[w.heap.size + 1]? = some (.cells #[.slice sla acc.length slc] 31 (0, 0)) := by
            rw [hW8]
            have := set_self (o := 0) (c := .slice sla acc.length slc) HR7.out
            simpa using this
          have hx8 : W8.cell? ⟨w.heap.size + 1, 0, none⟩ = some (.slice sla acc.length slc) := by simp [World.cell?, hk8]
          refine bodyPost_ret (v := .tuple #[.agg #[.slice sla acc.length slc], .int .i64 0]) (by simp [results, Tryz.results23, go_sem, hx8]) rfl ?_
          exact cat_ok HEE.out (rsat_end HP7.out.oc.own HP7.out.oc.rows HR7.out (by omega) hg8) (HB7.out.trans (below_grownZ hg8 (by omega) HB7.out.size))
        · rw [sameB_false hsv]
          have HEE : Hold (parseC v = ([], 2)) := ⟨by rw [parse_end HPE.out, if_neg (fun h => hsv h.2)]⟩
          clear hsv
          have HE : Hold (parseC v = ([], 2)) := ⟨HEE.out⟩
          have hf1 : w7.frozen? ⟨w.heap.size + 1, 0, none⟩ = false := free_box HR7.out 0
          have hx1 : w7.cell? ⟨w.heap.size + 1, 0, none⟩ = some (.slice none 0 0) := by have := HR7.out; simp [World.cell?, this]
          go_wp2_with fail
          clear hf1 hx1
          obtain ⟨W8, hW8⟩ : ∃ W8, W8 = w7.setCell ⟨w.heap.size + 1, 0, none⟩ (.slice none 0 0) := ⟨_, rfl⟩
          rw [← hW8]
          have hk8 : W8.heap[w.heap.size + 1]? = some (.cells #[.slice none 0 0] 31 (0, 0)) := by
            rw [hW8]
            have := set_self (o := 0) (c := .slice none 0 0) HR7.out
            simpa using this
          have hx8 : W8.cell? ⟨w.heap.size + 1, 0, none⟩ = some (.slice none 0 0) := by simp [World.cell?, hk8]
          have hb8 : Below w.heap.size w W8 := by rw [hW8]; exact bsetR HB7.out (by omega)
          refine bodyPost_ret (v := .tuple #[.agg #[.slice none 0 0], .int .i64 2]) (by simp [results, Tryz.results23, go_sem, hx8]) rfl ?_
          exact cat_err HE.out hb8
end Go.Proofs.YtfpphpjobkhalaaGreatDoor
