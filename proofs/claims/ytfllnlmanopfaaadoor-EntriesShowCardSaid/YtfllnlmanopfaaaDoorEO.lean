/- EntriesShow, walked. -/
import Derived.Test.YtfllnlmanopfaaaDoorEN
import Derived.Test.YtfllnlmanopfaaaDoorJMix
namespace Go.Proofs.YtfllnlmanopfaaaDoor
open Go.RowKit

/-- the two boxes of what comes in -/
structure TB (w wr : World) (o0 o1 : Obj) : Prop where
  bel : Below w.heap.size w wr
  one : wr.heap[w.heap.size]? = some o0
  two : wr.heap[w.heap.size + 1]? = some o1
theorem TB.next {w wr w2 : World} {o0 o1 : Obj} (h : TB w wr o0 o1) (hb : Below wr.heap.size wr w2) : TB w w2 o0 o1 := ⟨h.bel.trans (hb.mono h.bel.size), kept h.one hb, kept h.two hb⟩
/-- a new box ahead of all that follows -/
theorem oneE (w : World) (o : Obj) : ∃ W, W = w.alloc o ∧ Below w.heap.size w W ∧ W.heap[w.heap.size]? = some o :=
  ⟨_, rfl, (Below.refl w.heap.size w).alloc (Nat.le_refl _) o, heap_alloc_new w o⟩

theorem parseX_len (v : JV) : (parseX v).fields.length ≤ 3 := by
  unfold parseX parseF
  split
  · split
    · rename_i h; exact (form_parts h.1).2.1.2
    · simp [zeroX]
  · simp [zeroX]

set_option maxRecDepth 100000 in
set_option maxHeartbeats 16000000 in
theorem entriesShow_walk (x : IX) (xv : Value) (v : JV) (vv : Value) (w : World) (hx : IAt (cf w) x xv) (hv : JAt (cf w) v vv) (hT : Tabs w) (PS : formI x = true → parseF (showJ x) = some x ∧ formedF 6 (showJ x) = true) :
    Calls Tryd.prog 8 #[xv, vv] w fun e w' => e = .returned (.bool true) ∧ Below w.heap.size w w' := by
  have HX := Hold.mk hx
  have HV := Hold.mk hv
  have HT := Hold.mk hT
  have HPS := Hold.mk PS
  obtain ⟨hnm, fv, rfl, a, cap, rfl, hlen, hcap, hel⟩ := hx
  obtain ⟨k, n, t, nm, it, na, ncap, ia, icap, hve, rfl, _, _, _, hst, hit⟩ := hv.open
  obtain ⟨W, hW, hB, e0, e1⟩ := twoE w (.cells #[.string x.name, .slice a x.fields.length cap, .bool x.uniq] 37) (.cells #[.int .i64 k, .int .i64 n, .string t, .slice na nm.length ncap, .slice ia it.length icap] 25)
  have HB := Hold.mk (TB.mk hB e0 e1)
  clear hel hnm hT hve hst hit hv hB e0 e1 PS hlen hcap
  go_enter Tryd.func8, Tryd.ntmps8
  go_wp2_with fail
  rw [← hW]
  clear hW
  refine (awake17_any _ (HT.out.below HB.out.bel)).mono ?_
  rintro e w1 ⟨rfl, hb1⟩
  replace HB := Hold.mk (HB.out.next hb1)
  clear hb1
  obtain ⟨y0, y1, y2⟩ := cells_three HB.out.one
  go_wp2_with fail
  clear y0 y1 y2
  refine (lfew_any x _ _ (HX.out.mono (cle_below HB.out.bel))).mono ?_
  rintro e w2 ⟨rfl, hb2⟩
  replace HB := Hold.mk (HB.out.next hb2)
  clear hb2
  cases hfew : fewI x with
  | false =>
    clear hfew
    go_wp2_with fail
    refine (awake17_any _ (HT.out.below HB.out.bel)).mono ?_
    rintro e w3 ⟨rfl, hb3⟩
    replace HB := Hold.mk (HB.out.next hb3)
    clear hb3
    go_wp2_with fail
    go_ret
    exact ⟨rfl, HB.out.bel⟩
  | true =>
    have HFW := Hold.mk hfew
    clear hfew
    obtain ⟨y0, y1, y2, y3, y4⟩ := cells_five HB.out.two
    go_wp2_with fail
    clear y0 y1 y2 y3 y4
    refine (few_any HV.out _ (cle_below HB.out.bel)).mono ?_
    rintro e w3 ⟨rfl, hb3⟩
    replace HB := Hold.mk (HB.out.next hb3)
    clear hb3
    cases hfv : fewF v with
    | false =>
      clear hfv
      go_wp2_with fail
      refine (awake17_any _ (HT.out.below HB.out.bel)).mono ?_
      rintro e w4 ⟨rfl, hb3⟩
      replace HB := Hold.mk (HB.out.next hb3)
      clear hb3
      go_wp2_with fail
      go_ret
      exact ⟨rfl, HB.out.bel⟩
    | true =>
      have HFV := Hold.mk (few_parsable hfv)
      clear hfv
      obtain ⟨y0, y1, y2⟩ := cells_three HB.out.one
      go_wp2_with fail
      clear y0 y1 y2
      refine (Show_any x _ _ (HX.out.mono (cle_below HB.out.bel)) (fewI_small HFW.out) (HT.out.below HB.out.bel)).mono ?_
      rintro e w4 hpo
      obtain ⟨y, rfl, hy, hb⟩ := show_post hpo
      replace HB := Hold.mk (HB.out.next hb)
      have HA := Hold.mk hy
      obtain ⟨ak, an, at', anm, ait, ana, ancap, aia, aicap, _, rfl, _⟩ := hy.open
      clear hb hpo hy
      obtain ⟨WA, hWA, hb, e0⟩ := oneE w4 (.cells #[.int .i64 ak, .int .i64 an, .string at', .slice ana anm.length ancap, .slice aia ait.length aicap] 25)
      have HBA := Hold.mk e0
      have HWA := Hold.mk hb
      clear hb e0
      obtain ⟨y0, y1, y2⟩ := cells_three HB.out.one
      have hl0 := heap_lt HB.out.one
      go_wp2_with fail
      clear y0 y1 y2 hl0
      rw [← hWA]
      clear hWA
      replace HB := Hold.mk (HB.out.next HWA.out)
      replace HA := Hold.mk (HA.out.mono (cle_below HWA.out))
      clear HWA
      generalize w4.heap.size = ka at HBA ⊢
      refine (lplain_any x _ _ (HX.out.mono (cle_below HB.out.bel)) (by have := fewI_len HFW.out; omega)).mono ?_
      rintro e w5 ⟨y, rfl, hy, hb⟩
      replace HB := Hold.mk (HB.out.next hb)
      replace HA := Hold.mk (HA.out.mono (cle_below hb))
      replace HBA := Hold.mk (kept HBA.out hb)
      have HY := Hold.mk hy
      clear hb hy
      go_wp2_with fail
      refine (rShow_any x _ _ HY.out (fewI_small HFW.out)).mono ?_
      rintro e w6 hpo
      obtain ⟨y, rfl, hy, hb⟩ := show_post hpo
      replace HB := Hold.mk (HB.out.next hb)
      replace HA := Hold.mk (HA.out.mono (cle_below hb))
      replace HBA := Hold.mk (kept HBA.out hb)
      have HC := Hold.mk hy
      obtain ⟨ck, cn, ct', cnm, cit, cna, cncap, cia, cicap, _, rfl, _⟩ := hy.open
      clear hb hpo hy HY
      obtain ⟨WC, hWC, hb, e0⟩ := oneE w6 (.cells #[.int .i64 ck, .int .i64 cn, .string ct', .slice cna cnm.length cncap, .slice cia cit.length cicap] 25)
      have HBC := Hold.mk e0
      have HWC := Hold.mk hb
      clear hb e0
      obtain ⟨y0, y1, y2, y3, y4⟩ := cells_five HB.out.two
      have hl0 := heap_lt HB.out.two
      go_wp2_with fail
      clear y0 y1 y2 y3 y4 hl0
      rw [← hWC]
      clear hWC
      replace HB := Hold.mk (HB.out.next HWC.out)
      replace HA := Hold.mk (HA.out.mono (cle_below HWC.out))
      replace HBA := Hold.mk (kept HBA.out HWC.out)
      replace HC := Hold.mk (HC.out.mono (cle_below HWC.out))
      clear HWC
      generalize w6.heap.size = kc at HBC ⊢
      refine (Parse_any v _ _ (HV.out.mono (cle_below HB.out.bel)) HFV.out (HT.out.below HB.out.bel)).mono ?_
      rintro e w7 hpo
      obtain ⟨y, rfl, hy, hb⟩ := parse_post hpo
      replace HB := Hold.mk (HB.out.next hb)
      replace HA := Hold.mk (HA.out.mono (cle_below hb))
      replace HBA := Hold.mk (kept HBA.out hb)
      replace HC := Hold.mk (HC.out.mono (cle_below hb))
      replace HBC := Hold.mk (kept HBC.out hb)
      have HP := Hold.mk hy
      obtain ⟨_, fp, rfl, pa, pcap, rfl, _⟩ := hy
      clear hb hpo
      obtain ⟨WP, hWP, hb, e0⟩ := oneE w7 (.cells #[.string (parseX v).name, .slice pa (parseX v).fields.length pcap, .bool (parseX v).uniq] 37)
      have HBP := Hold.mk e0
      have HWP := Hold.mk hb
      clear hb e0
      obtain ⟨y0, y1, y2, y3, y4⟩ := cells_five HB.out.two
      have hl0 := heap_lt HB.out.two
      go_wp2_with fail
      clear y0 y1 y2 y3 y4 hl0
      rw [← hWP]
      clear hWP
      replace HB := Hold.mk (HB.out.next HWP.out)
      replace HA := Hold.mk (HA.out.mono (cle_below HWP.out))
      replace HBA := Hold.mk (kept HBA.out HWP.out)
      replace HC := Hold.mk (HC.out.mono (cle_below HWP.out))
      replace HBC := Hold.mk (kept HBC.out HWP.out)
      replace HP := Hold.mk (HP.out.mono (cle_below HWP.out))
      clear HWP
      generalize w7.heap.size = kp at HBP ⊢
      refine (rParse_any v _ _ (HV.out.mono (cle_below HB.out.bel)) HFV.out).mono ?_
      rintro e w8 hpo
      obtain ⟨y, rfl, hy, hb⟩ := parse_post hpo
      replace HB := Hold.mk (HB.out.next hb)
      replace HA := Hold.mk (HA.out.mono (cle_below hb))
      replace HBA := Hold.mk (kept HBA.out hb)
      replace HC := Hold.mk (HC.out.mono (cle_below hb))
      replace HBC := Hold.mk (kept HBC.out hb)
      replace HP := Hold.mk (HP.out.mono (cle_below hb))
      replace HBP := Hold.mk (kept HBP.out hb)
      have HQ := Hold.mk hy
      obtain ⟨_, fq, rfl, qa, qcap, rfl, _⟩ := hy
      clear hb hpo
      obtain ⟨WQ, hWQ, hb, e0⟩ := oneE w8 (.cells #[.string (parseX v).name, .slice qa (parseX v).fields.length qcap, .bool (parseX v).uniq] 42)
      have HBQ := Hold.mk e0
      have HWQ := Hold.mk hb
      clear hb e0
      go_wp2_with fail
      rw [← hWQ]
      clear hWQ
      replace HB := Hold.mk (HB.out.next HWQ.out)
      replace HA := Hold.mk (HA.out.mono (cle_below HWQ.out))
      replace HBA := Hold.mk (kept HBA.out HWQ.out)
      replace HC := Hold.mk (HC.out.mono (cle_below HWQ.out))
      replace HBC := Hold.mk (kept HBC.out HWQ.out)
      replace HP := Hold.mk (HP.out.mono (cle_below HWQ.out))
      replace HBP := Hold.mk (kept HBP.out HWQ.out)
      replace HQ := Hold.mk (HQ.out.mono (cle_below HWQ.out))
      clear HWQ
      generalize w8.heap.size = kq at HBQ ⊢
      obtain ⟨ea, hea⟩ : ∃ q, errI (formI x) = q := ⟨_, rfl⟩
      rw [hea]
      have HEA := Hold.mk hea
      clear hea
      generalize errI (parseF v).isSome = ep
      obtain ⟨y0, y1, y2, y3, y4⟩ := cells_five HBA.out
      have g0 := Grow.cell y0
      have g1 := Grow.cell y1
      have g2 := Grow.cell y2
      have g3 := Grow.cell y3
      have g4 := Grow.cell y4
      clear y0 y1 y2 y3 y4
      obtain ⟨y0, y1, y2, y3, y4⟩ := cells_five HBC.out
      have u0 := Grow.cell y0
      have u1 := Grow.cell y1
      have u2 := Grow.cell y2
      have u3 := Grow.cell y3
      have u4 := Grow.cell y4
      clear y0 y1 y2 y3 y4
      obtain ⟨y0, y1, y2⟩ := cells_three HBP.out
      have p0 := Grow.cell y0
      have p1 := Grow.cell y1
      have p2 := Grow.cell y2
      clear y0 y1 y2
      obtain ⟨y0, y1, y2⟩ := cells_three HBQ.out
      have q0 := Grow.cell y0
      have q1 := Grow.cell y1
      have q2 := Grow.cell y2
      clear y0 y1 y2
      refine wp_region_mix 21 rfl (by kernel_rfl) ?_
      rintro w9 hb3
      have HB3 := Hold.mk hb3
      clear hb3
      refine mixl_seg (by kernel_rfl) (fun _ _ d _ _ h => by cases d <;> exact h) [0, 1, 2, 3, 4, 5] [_, _, _, _, _, _] 15 21 rfl _ _ _ rfl (by kernel_rfl) (growC HB3.out) ?_
      repeat (go_big_quiet_step (fail))
      refine wpQuiet_nil ?_
      refine mixl_act (i := 6) rfl (by kernel_rfl) (growC HB3.out) rfl (fun K hK => ?_)
      go_wp2_with fail
      refine (rSame_any (showX x) (showX x) _ _ w9 (HA.out.mono (cle_below HB3.out)) (HC.out.mono (cle_below HB3.out))).mono ?_
      rintro e w10 ⟨rfl, hb4⟩
      replace HB3 := Hold.mk (HB3.out.trans (hb4.mono HB3.out.size))
      clear hb4
      rw [sameB_true rfl]
      go_wp2_with fail
      refine mixl_seg (by kernel_rfl) (fun _ _ d _ _ h => by cases d <;> exact h) [7, 8, 9, 10, 11, 12, 13, 14, 15, 17] [_, _, _, _, _, _, _, _, _, _] 4 14 rfl _ _ _ rfl (by kernel_rfl) (growC HB3.out) ?_
      repeat (go_big_quiet_step (fail))
      refine wpQuiet_nil ?_
      refine mixl_act (i := 16) rfl (by kernel_rfl) (growC HB3.out) rfl (fun K hK => ?_)
      go_wp2_with fail
      refine (lplain_any (parseX v) _ _ (HP.out.mono (cle_below HB3.out)) (by have := parseX_len v; omega)).mono ?_
      rintro e w11 ⟨y, rfl, hy, hb4⟩
      replace HB3 := Hold.mk (HB3.out.trans (hb4.mono HB3.out.size))
      have HY := Hold.mk (rSameI_any (parseX v) (parseX v) y _ w11 hy (HQ.out.mono (cle_below HB3.out)))
      clear hb4 hy
      rw [sameI_yes rfl] at HY
      go_wp2_with fail
      refine mixl_act (i := 18) rfl (by kernel_rfl) (growC HB3.out) rfl (fun K hK => ?_)
      go_wp2_with fail
      refine HY.out.mono ?_
      rintro e w12 ⟨rfl, hb4⟩
      replace HB3 := Hold.mk (HB3.out.trans (hb4.mono HB3.out.size))
      clear hb4 HY
      go_wp2_with fail
      refine mixl_seg (by kernel_rfl) (fun _ _ d _ _ h => by cases d <;> exact h) [19, 20] [_, _] 0 2 rfl _ _ _ rfl (by kernel_rfl) (growC HB3.out) ?_
      repeat (go_big_quiet_step (fail))
      refine wpQuiet_nil ?_
      refine mix_done (by kernel_rfl) (growC HB3.out) ?_
      replace HB := Hold.mk (HB.out.next HB3.out)
      replace HA := Hold.mk (HA.out.mono (cle_below HB3.out))
      replace HBA := Hold.mk (kept HBA.out HB3.out)
      clear HB3 HC HBC HP HBP HQ HBQ g0 g1 g2 g3 g4 u0 u1 u2 u3 u4 p0 p1 p2 q0 q1 q2
      cases hf : formI x with
      | false =>
        obtain rfl : ea = 2 := by rw [← HEA.out, hf]; rfl
        clear hf HEA
        go_wp2_with fail
        go_ret
        exact ⟨rfl, HB.out.bel⟩
      | true =>
        obtain rfl : ea = 0 := by rw [← HEA.out, hf]; rfl
        obtain ⟨hps, hfs⟩ := HPS.out hf
        replace HA : Hold (JAt _ (showJ x) _) := ⟨by have := HA.out; unfold showX at this; rw [if_pos hf] at this; exact this⟩
        have HPA := Hold.mk (show_parsable hf)
        have HPX : Hold (parseX (showJ x) = x) := ⟨by unfold parseX; rw [hps]; rfl⟩
        have HPE : Hold (errI (parseF (showJ x)).isSome = 0) := ⟨by rw [hps]; rfl⟩
        have HFS := Hold.mk hfs
        clear hps hfs hf HEA HPS
        obtain ⟨y0, y1, y2, y3, y4⟩ := cells_five HBA.out
        go_wp2_with fail
        clear y0 y1 y2 y3 y4
        refine (Parse_any (showJ x) _ _ HA.out HPA.out (HT.out.below HB.out.bel)).mono ?_
        rintro e w13 hpo
        obtain ⟨y, rfl, hy, hb⟩ := parse_post hpo
        rw [HPX.out] at hy
        rw [HPE.out]
        replace HB := Hold.mk (HB.out.next hb)
        replace HA := Hold.mk (HA.out.mono (cle_below hb))
        replace HBA := Hold.mk (kept HBA.out hb)
        have HP := Hold.mk hy
        obtain ⟨_, fp, rfl, pa, pcap, rfl, _⟩ := hy
        clear hb hpo
        obtain ⟨WP, hWP, hb, e0⟩ := oneE w13 (.cells #[.string x.name, .slice pa x.fields.length pcap, .bool x.uniq] 37)
        have HBP := Hold.mk e0
        have HWP := Hold.mk hb
        clear hb e0
        go_wp2_with fail
        rw [← hWP]
        clear hWP
        replace HB := Hold.mk (HB.out.next HWP.out)
        replace HA := Hold.mk (HA.out.mono (cle_below HWP.out))
        replace HBA := Hold.mk (kept HBA.out HWP.out)
        replace HP := Hold.mk (HP.out.mono (cle_below HWP.out))
        clear HWP
        generalize w13.heap.size = kw at HBP ⊢
        obtain ⟨y0, y1, y2, y3, y4⟩ := cells_five HBA.out
        have g0 := Grow.cell y0
        have g1 := Grow.cell y1
        have g2 := Grow.cell y2
        have g3 := Grow.cell y3
        have g4 := Grow.cell y4
        clear y0 y1 y2 y3 y4
        obtain ⟨y0, y1, y2⟩ := cells_three HBP.out
        have p0 := Grow.cell y0
        have p1 := Grow.cell y1
        have p2 := Grow.cell y2
        clear y0 y1 y2
        obtain ⟨y0, y1, y2⟩ := cells_three HB.out.one
        have q0 := Grow.cell y0
        have q1 := Grow.cell y1
        have q2 := Grow.cell y2
        clear y0 y1 y2
        refine wp_region_mix 14 rfl (by kernel_rfl) ?_
        rintro w9 hb3
        have HB3 := Hold.mk hb3
        clear hb3
        refine mixl_seg (by kernel_rfl) (fun _ _ d _ _ h => by cases d <;> exact h) [0, 1, 2, 3, 5] [_, _, _, _, _] 9 14 rfl _ _ _ rfl (by kernel_rfl) (growC HB3.out) ?_
        repeat (go_big_quiet_step (fail))
        refine wpQuiet_nil ?_
        refine mixl_act (i := 4) rfl (by kernel_rfl) (growC HB3.out) rfl (fun K hK => ?_)
        go_wp2_with fail
        refine (lplain_any x _ _ (HP.out.mono (cle_below HB3.out)) (by have := fewI_len HFW.out; omega)).mono ?_
        rintro e w14 ⟨y, rfl, hy, hb4⟩
        replace HB3 := Hold.mk (HB3.out.trans (hb4.mono HB3.out.size))
        have HY := Hold.mk hy
        clear hb4 hy
        go_wp2_with fail
        refine mixl_act (i := 6) rfl (by kernel_rfl) (growC HB3.out) rfl (fun K hK => ?_)
        go_wp2_with fail
        refine (lplain_any x _ _ ((HX.out.mono (cle_below HB.out.bel)).mono (cle_below HB3.out)) (by have := fewI_len HFW.out; omega)).mono ?_
        rintro e w15 ⟨z, rfl, hz, hb4⟩
        replace HB3 := Hold.mk (HB3.out.trans (hb4.mono HB3.out.size))
        have HZ := Hold.mk (rSameI_any x x y z w15 (HY.out.mono (cle_below hb4)) hz)
        clear hb4 hz HY
        rw [sameI_yes rfl] at HZ
        go_wp2_with fail
        refine mixl_act (i := 7) rfl (by kernel_rfl) (growC HB3.out) rfl (fun K hK => ?_)
        go_wp2_with fail
        refine HZ.out.mono ?_
        rintro e w16 ⟨rfl, hb4⟩
        replace HB3 := Hold.mk (HB3.out.trans (hb4.mono HB3.out.size))
        clear hb4 HZ
        go_wp2_with fail
        refine mixl_seg (by kernel_rfl) (fun _ _ d _ _ h => by cases d <;> exact h) [8, 9, 10] [_, _, _] 3 6 rfl _ _ _ rfl (by kernel_rfl) (growC HB3.out) ?_
        repeat (go_big_quiet_step (fail))
        refine wpQuiet_nil ?_
        refine mixl_act (i := 11) rfl (by kernel_rfl) (growC HB3.out) rfl (fun K hK => ?_)
        go_wp2_with fail
        refine (Formed_any (showJ x) _ _ (HA.out.mono (cle_below HB3.out)) (HT.out.below (HB.out.next HB3.out).bel)).mono ?_
        rintro e w17 ⟨rfl, hb4⟩
        replace HB3 := Hold.mk (HB3.out.trans (hb4.mono HB3.out.size))
        clear hb4
        rw [HFS.out]
        go_wp2_with fail
        refine mixl_seg (by kernel_rfl) (fun _ _ d _ _ h => by cases d <;> exact h) [12, 13] [_, _] 0 2 rfl _ _ _ rfl (by kernel_rfl) (growC HB3.out) ?_
        repeat (go_big_quiet_step (fail))
        refine wpQuiet_nil ?_
        refine mix_done (by kernel_rfl) (growC HB3.out) ?_
        replace HB := Hold.mk (HB.out.next HB3.out)
        go_wp2_with fail
        go_ret
        exact ⟨rfl, HB.out.bel⟩

end Go.Proofs.YtfllnlmanopfaaaDoor
