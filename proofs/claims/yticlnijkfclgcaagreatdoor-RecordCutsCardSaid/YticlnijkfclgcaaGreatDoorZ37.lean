/- Indexes: Parse of the program. -/
import Derived.Test.YticlnijkfclgcaaGreatDoorZ09
import Derived.Test.YticlnijkfclgcaaGreatDoorZ36
namespace Go.Proofs.YticlnijkfclgcaaGreatDoor
open Go.RowKit

set_option maxRecDepth 100000 in
set_option maxHeartbeats 16000000 in
theorem ParseO_any (v : JV) (xv : Value) (w : World) (hx : JAt (cf w) v xv) (hp : parsable v) (hT : Tabs w) :
    Calls Tryz.prog 27 #[xv] w (ParsePostO 112 v w) := by
  have HX := Hold.mk hx
  obtain ⟨k, n, t, nm, it, na, ncap, ia, icap, hve, rfl, _, _, _, hst, hit⟩ := hx.open
  obtain ⟨W, hW, hB, e0, e1⟩ := twoE w (.cells #[.int .i64 k, .int .i64 n, .string t, .slice na nm.length ncap, .slice ia it.length icap] 58) (.cells zeroI 81)
  have HB := Hold.mk hB
  have HVB := Hold.mk e0
  have HRB := Hold.mk e1
  have HT := Hold.mk hT
  have HP := Hold.mk hp
  have HST := Hold.mk hst
  have HIT := Hold.mk hit
  have HVE := Hold.mk hve
  clear hx hp hT hB e0 e1 hst hit hve
  have ERR : ∀ (wr : World), wr.heap[w.heap.size + 1]? = some (.cells zeroI 81 (0, 0)) → Below w.heap.size w wr → ∃ W2, W2 = (((wr.setCell ⟨w.heap.size + 1, 0, none⟩ (.string ⟨#[]⟩)).setCell ⟨w.heap.size + 1, 1, none⟩ (.slice none 0 0)).setCell ⟨w.heap.size + 1, 2, none⟩ (.bool false)) ∧ W2.cell? ⟨w.heap.size + 1, 0, none⟩ = some (.string ⟨#[]⟩) ∧ W2.cell? ⟨w.heap.size + 1, 1, none⟩ = some (.slice none 0 0) ∧ W2.cell? ⟨w.heap.size + 1, 2, none⟩ = some (.bool false) ∧ Below w.heap.size w W2 := fun wr h hb => by
    have h1 := set3_self (c0 := .string ⟨#[]⟩) (c1 := .slice none 0 0) (c2 := .bool false) h
    obtain ⟨c0, c1, c2⟩ := cells_three h1
    exact ⟨_, rfl, c0, c1, c2, set3_below hb (by omega)⟩
  have HERR := Hold.mk ERR
  clear ERR
  by_cases hk : k = 6
  · subst hk
    go_enter Tryz.func27, Tryz.ntmps27
    go_wp2_with (refine stop_buildE ((w.alloc _).alloc _) ?_)
    refine ⟨?_⟩
    rw [← hW]
    clear hW
    go_wp2_with fail
    have hB2 := (Below.refl W.heap.size W).alloc (Nat.le_refl _) (.cells #[.string wFields, .string wName, .string wUnique] 9)
    have hnb : (W.alloc (.cells #[.string wFields, .string wName, .string wUnique] 9)).heap[W.heap.size]? = some (.cells #[.string wFields, .string wName, .string wUnique] 9 (0, 0)) := heap_alloc_new W _
    have heq := strsEq_any _ _ nm [wFields, wName, wUnique] _ ((HST.out.mono (cle_below HB.out)).mono (cle_below hB2)) (strs_block (l := [wFields, wName, wUnique]) hnb rfl (by decide) (by decide))
    refine heq.mono ?_
    clear heq
    rintro e w1 ⟨rfl, hb1⟩
    replace hb1 := hB2.trans (hb1.mono hB2.size)
    replace HVB := Hold.mk (kept HVB.out hb1)
    replace HRB := Hold.mk (kept HRB.out hb1)
    replace HB := Hold.mk (HB.out.trans (hb1.mono HB.out.size))
    clear hb1 hB2 hnb
    by_cases hn : nm = [wFields, wName, wUnique]
    · rw [decide_eq_true hn]
      have HNE := Hold.mk hn
      clear hn
      obtain ⟨y0, y1, y2, y3, y4⟩ := cells_five HVB.out
      by_cases h3 : it.length = 3
      · have b3 : ((it.length : Int) != 3) = false := by rw [h3]; rfl
        obtain ⟨i0, i1, i2, hi3⟩ : ∃ i0 i1 i2, it = [i0, i1, i2] := by
          match it, h3 with
          | [a, b, c], _ => exact ⟨a, b, c, rfl⟩
        obtain ⟨ia', icap', e, hil, hel⟩ := HIT.out
        cases e
        obtain ⟨b, off, k0, n0, t0, nm0, it0, na0, ncap0, ia0, icap0, rfl, hx0, a0, a1, a2, a3, a4, hj0⟩ := hel 0 i0 (by rw [hi3]; rfl)
        obtain ⟨b', off', k1, n1, t1, nm1, it1, na1, ncap1, ia1, icap1, e1, hx1, p0, p1, p2, p3, p4, hj1⟩ := hel 1 i1 (by rw [hi3]; rfl)
        cases e1
        obtain ⟨b', off', k2, n2, t2, nm2, it2, na2, ncap2, ia2, icap2, e2, hx2, q0, q1, q2, q3, q4, hj2⟩ := hel 2 i2 (by rw [hi3]; rfl)
        cases e2
        have hcl := cle_below HB.out
        obtain ⟨bu, hbu⟩ : ∃ bu, decide (k2 = 2) = bu := ⟨_, rfl⟩
        have hbq : (k2 == 2) = bu := hbu
        have g0 := Grow.cell y4
        have g1 : ∀ e : Grow w1, e.val.cell? ⟨b, off + 7, none⟩ = some (.string t1) := Grow.cell (by have := hcl _ _ _ p2; simpa [cf] using this)
        have g2 : ∀ e : Grow w1, e.val.cell? ⟨b, off + 10, none⟩ = some (.int .i64 k2) := Grow.cell (by have := hcl _ _ _ q0; simpa [cf] using this)
        have hl3 : it.length = 3 := h3
        have HRD : Hold (readI i0 i1 i2 = ⟨t1, it0.map (fun j => cutF j.text), bu⟩) := ⟨by unfold readI; rw [hx0, hx1, hx2]; show IX.mk t1 _ (decide (k2 = 2)) = _; rw [hbu]; rfl⟩
        have HI3 : Hold (v.items = [i0, i1, i2]) := ⟨by rw [HVE.out]; exact hi3⟩
        have HT1 : Hold (t1.size ≤ 9223372036854775807) := ⟨by obtain ⟨_, _, _, _, _, _, _, _, _, e, e2, _, _, h, _⟩ := hj1.open; rw [hx1] at e; cases e; exact h⟩
        have HJ0 := Hold.mk hj0
        have HA4 := Hold.mk a4
        have HX0 := Hold.mk hx0
        have HQ0 : Hold (it0.length ≤ 1000 ∧ ∀ j ∈ it0, j.text.size ≤ 1000000) := ⟨by have := HP.out i0 (by rw [HI3.out]; simp); rw [hx0] at this; exact this⟩
        clear hcl p0 p1 p2 p3 p4 q0 q1 q2 q3 q4 a0 a1 a2 a3 a4 hj0 hj1 hj2 hx0 hx1 hx2 hbu hel hi3 h3
        go_wp2_with fail
        clear y0 y1 y2 y3 y4 b3
        refine wp_region_mix 14 rfl (by kernel_rfl) ?_
        rintro w2 hb2
        have HB2 := Hold.mk hb2
        replace HB := Hold.mk (HB.out.trans (hb2.mono HB.out.size))
        replace HVB := Hold.mk (kept HVB.out hb2)
        replace HRB := Hold.mk (kept HRB.out hb2)
        clear hb2
        refine mixl_seg (by kernel_rfl) (fun _ _ d _ _ h => by cases d <;> exact h) [0, 1, 2, 3, 4, 5, 6, 7, 8, 9, 10, 11] [_, _, _, _, _, _, _, _, _, _, _, _] 2 14 rfl _ _ _ rfl (by kernel_rfl) (growC HB2.out) ?_
        repeat (go_big_quiet_step (fail))
        refine wpQuiet_nil ?_
        refine mixl_act (i := 12) rfl (by kernel_rfl) (growC HB2.out) rfl (fun K hK => ?_)
        go_wp2_with fail
        refine mixl_act (i := 13) rfl (by kernel_rfl) (growC (HB2.out.alloc HB2.out.size _)) rfl (fun K hK => ?_)
        go_wp2_with fail
        refine mix_done (by kernel_rfl) (growC (HB2.out.alloc HB2.out.size _)) ?_
        have HAI : Hold (AI 81 112 (w2.alloc (.cells #[.string t1, .slice none 0 0, .bool bu] 81)) w2.heap.size (.string t1) (.bool bu) (.slice none 0 0) 0 (fcells ((it0.take 0).map fun j => cutF j.text))) := ⟨⟨heap_alloc_new w2 _, World.ownsRow_nil _ _ _ _⟩⟩
        have HBA : Hold (Below w2.heap.size w2 (w2.alloc (.cells #[.string t1, .slice none 0 0, .bool bu] 81))) := ⟨(Below.refl _ w2).alloc (Nat.le_refl _) _⟩
        have hn1 := heap_lt HRB.out
        have hn0 := heap_lt HVB.out
        obtain ⟨y0, y1, y2, y3, y4⟩ := cells_five HVB.out
        have z4 : w2.cell? ⟨b, off + 4, none⟩ = some (.slice ia0 it0.length icap0) := by have := (cle_below HB.out) _ _ _ HA4.out; simpa [cf] using this
        have hbl : b < w2.heap.size := lt_of_cell z4
        obtain ⟨_, _, _, _, _, _, _, _, _, e, e2, _, _, _, _, hit0⟩ := HJ0.out.open
        rw [HX0.out] at e
        cases e
        simp only [Value.agg.injEq, Array.mk.injEq, List.cons.injEq, and_true, Value.slice.injEq, true_and] at e2
        obtain ⟨_, _, _, ⟨rfl, rfl⟩, rfl, rfl⟩ := e2
        obtain ⟨ia', icap', e, hil0, hel0⟩ := hit0
        cases e
        have HEL := Hold.mk hel0
        have hq0 : it0.length ≤ 1000 := HQ0.out.1
        clear hel0 g0 g1 g2
        go_wp2_with fail
        clear y0 y1 y2 y3 y4 z4
        obtain ⟨i9, hi, hz0, hz1, hz2⟩ := info_parts infoFe
        have HI := Hold.mk (And.intro hi (And.intro hz0 (And.intro hz1 hz2)))
        clear hi hz0 hz1 hz2
        go_loopw [46] (fun i wr => ∃ (j : Nat) (sv : Value), i = .int .i64 j ∧ j ≤ it0.length ∧ AI 81 112 wr w2.heap.size (.string t1) (.bool bu) sv j (fcells ((it0.take j).map fun j => cutF j.text)) ∧ Below w2.heap.size w2 wr) (fun i _ => it0.length - (intOf i).toNat)
        case atStart => exact ⟨0, _, rfl, Nat.zero_le _, HAI.out, HBA.out⟩
        case round =>
          obtain ⟨j, sv, rfl, hj, hai, hbl2⟩ := hrel
          clear HAI HBA
          obtain ⟨cs, hcs⟩ : ∃ cs, fcells ((it0.take j).map fun j => cutF j.text) = cs := ⟨_, rfl⟩
          rw [hcs] at hai
          have HCS := Hold.mk hcs
          clear hcs
          have HAI := Hold.mk hai
          have HBL := Hold.mk hbl2
          clear hai hbl2
          obtain ⟨sa, scap, rfl⟩ := own_form2 HAI.out.own
          by_cases hlt : j < it0.length
          · obtain ⟨x, hx⟩ : ∃ x, it0[j]? = some x := ⟨it0[j], List.getElem?_eq_getElem hlt⟩
            obtain ⟨b3, off3, k3, n3, t3, nm3, it3, na3, ncap3, ia3, icap3, rfl, hxe, d0, d1, d2, d3, d4, hxj⟩ := HEL.out j x hx
            have hcl := (cle_below HB.out).trans (cle_below HBL.out)
            have z0 := hcl _ _ _ d0
            have z1 := hcl _ _ _ d1
            have z2 := hcl _ _ _ d2
            have z3 := hcl _ _ _ d3
            have z4 := hcl _ _ _ d4
            unfold cf at z0 z1 z2 z3 z4
            have HTK : Hold (fcells ((it0.take (j + 1)).map (fun j => cutF j.text)) = cs ++ [.string (cutF t3).1, .bool (cutF t3).2]) := ⟨by rw [List.take_add_one, hx, List.map_append]; show fcells (_ ++ [cutF x.text]) = _; rw [fcells_snoc, hxe, HCS.out]; rfl⟩
            clear d0 d1 d2 d3 d4 hcl hx hxe hxj
            have HA2 := Hold.mk (HAI.out.alloc (.cells #[.int .i64 k3, .int .i64 n3, .string t3, .slice na3 nm3.length ncap3, .slice ia3 it3.length icap3] 58))
            obtain ⟨y0, y1, y2⟩ := cells_three HA2.out.box
            have hkl := heap_lt HAI.out.box
            have HCP := Hold.mk (fun w => Any.strings_CutPrefix Tryz.laysCP t3 ⟨#[45]⟩ w)
            change Hold (∀ w, Calls _ _ _ w fun e w' => e = .returned (.tuple #[.string (cutF t3).1, .bool (cutF t3).2]) ∧ w' = w) at HCP
            generalize cutF t3 = p at HCP HTK
            obtain ⟨s, dn⟩ := p
            simp only at HCP HTK
            have HA3 := Hold.mk (HA2.out.alloc (.cells #[.string s, .bool dn] 112))
            have HBB : Hold (Below w2.heap.size w2 ((wr.alloc (.cells #[.int .i64 k3, .int .i64 n3, .string t3, .slice na3 nm3.length ncap3, .slice ia3 it3.length icap3] 58)).alloc (.cells #[.string s, .bool dn] 112))) := ⟨(HBL.out.alloc HBL.out.size _).alloc (by have := HBL.out.size; simp; omega) _⟩
            have HN3 : Hold (((wr.alloc (.cells #[.int .i64 k3, .int .i64 n3, .string t3, .slice na3 nm3.length ncap3, .slice ia3 it3.length icap3] 58)).alloc (.cells #[.string s, .bool dn] 112)).heap[wr.heap.size + 1]? = some (.cells #[.string s, .bool dn] 112 (0, 0))) := ⟨by have := heap_alloc_new (wr.alloc (.cells #[.int .i64 k3, .int .i64 n3, .string t3, .slice na3 nm3.length ncap3, .slice ia3 it3.length icap3] 58)) (.cells #[.string s, .bool dn] 112); simpa using this⟩
            go_wp2_with fail
            refine (HCP.out _).mono ?_
            rintro e w3 ⟨rfl, hw3⟩
            subst hw3
            go_wp2_with (at_builtin; refine wpList_append_lies _ rfl (.tmp 57) (.tmp 61) 79 rfl (w2.heap.size + 1) 112 i9 (.agg #[.string ⟨#[]⟩, .bool false]) 2 24 Tryz.underlying79 HI.out.1 HI.out.2.1 HI.out.2.2.1 HI.out.2.2.2 rfl (by decide) (.slice sa j scap) j _ rfl HA3.out.own ⟨wr.heap.size + 1, 0, none⟩ 1 1 [.string s, .bool dn] rfl rfl (World.news_of_block HN3.out) (by simp [Value.oneCell']) (by decide) (by unfold maxLen; omega) (by omega) (by simp; omega) _ rfl ?_)
            intro g cap2 w3 hown hgr _ _
            have hy3 := HA3.out.mid hgr
            have HPU := Hold.mk (HA3.out.push hgr hown)
            rw [← HTK.out] at HPU
            obtain ⟨v0, v1, v2⟩ := cells_three hy3
            have vf := free_box hy3 1
            clear hown hgr hy3 y0 y1 y2
            go_wp2_with fail
            exact ⟨⟨j + 1, _, by go_num, hlt, HPU.out.1, HBB.out.trans HPU.out.2⟩, by simp [intOf]; omega⟩
          · obtain rfl : j = it0.length := by omega
            replace HVB := Hold.mk (keptB HVB.out hn0 HBL.out)
            replace HRB := Hold.mk (keptB HRB.out hn1 HBL.out)
            have HBW : Hold (Below w.heap.size w wr) := ⟨HB.out.trans (HBL.out.mono HB.out.size)⟩
            have HIA : Hold (IAt (cf wr) (readI i0 i1 i2) (.agg #[.string t1, .slice sa it0.length scap, .bool bu])) := ⟨by
              rw [HRD.out]
              refine ⟨HT1.out, _, rfl, ?_⟩
              have ho := HAI.out.own
              rw [← HCS.out, List.take_of_length_le (Nat.le_refl _)] at ho
              have e : it0.length = (it0.map fun j => cutF j.text).length := by simp
              rw [e] at ho ⊢
              exact fields_of_own ho (fun p hp => by
                obtain ⟨q, hq, rfl⟩ := List.mem_map.1 hp
                have := cut_size q.text
                have := HQ0.out.2 q hq
                omega)⟩
            have HSM : Hold (∀ f ∈ (readI i0 i1 i2).fields, f.1.size ≤ 1000000) := ⟨fun f hf => by
              rw [HRD.out] at hf
              obtain ⟨q, hq, rfl⟩ := List.mem_map.1 hf
              have := cut_size q.text
              have := HQ0.out.2 q hq
              omega⟩
            have HXI := Hold.mk HAI.out.box
            have HOW := Hold.mk HAI.out.own
            obtain ⟨y0, y1, y2⟩ := cells_three HXI.out
            clear HAI HB HEL
            go_wp2_with fail
            refine (Show_any (readI i0 i1 i2) _ wr HIA.out HSM.out (HT.out.below HBW.out)).mono ?_
            rintro e w3 ⟨hpo, hb3⟩
            have HB := Hold.mk (HBW.out.trans (hb3.mono HBW.out.size))
            replace HVB := Hold.mk (kept HVB.out hb3)
            replace HRB := Hold.mk (kept HRB.out hb3)
            replace HXI := Hold.mk (kept HXI.out hb3)
            replace HOW := Hold.mk (own_below HOW.out hb3 (fun g hg => (HOW.out.lt g hg).2))
            clear hb3 HBW y0 y1 y2
            cases hf : formI (readI i0 i1 i2) with
            | false =>
              rw [if_neg (by rw [hf]; simp)] at hpo
              subst hpo
              have HR : Hold (parseF v = none) := ⟨parse_bad HI3.out (fun h => by rw [hf] at h; cases h.1)⟩
              clear hf
              obtain ⟨r0, r1, r2⟩ := cells_three HRB.out
              have f0 := free_box HRB.out 0
              have f1 := free_box HRB.out 1
              have f2 := free_box HRB.out 2
              have hlr := heap_lt HRB.out
              go_wp2_with fail
              obtain ⟨W2, hW2, c0, c1, c2, hb2⟩ := HERR.out w3 HRB.out HB.out
              rw [← hW2]
              clear hW2 r0 r1 r2 f0 f1 f2 hlr
              have hb5 := (Below.refl W2.heap.size W2).alloc (Nat.le_refl _) (.cells zero5 58)
              replace c0 := (cle_below hb5) _ _ _ c0
              replace c1 := (cle_below hb5) _ _ _ c1
              replace c2 := (cle_below hb5) _ _ _ c2
              unfold cf at c0 c1 c2
              replace hb2 := hb2.trans (hb5.mono hb2.size)
              generalize W2.alloc (.cells zero5 58) = W6 at c0 c1 c2 hb2 ⊢
              exact bodyPost_ret (v := .tuple #[.agg zeroI, .int .i64 2]) (by simp [results, Tryz.results27, go_sem, c0, c1, c2]) rfl (parse_err HR.out hb2)
            | true =>
              rw [if_pos hf] at hpo
              have HF := Hold.mk hf
              clear hf
              obtain ⟨y, rfl, hy⟩ := hpo
              obtain ⟨k5, n5, t5, nm5, it5, na5, ncap5, ia5, icap5, hye, rfl, _⟩ := hy.open
              have HY := Hold.mk hy
              clear hy hye
              have hb5 := (Below.refl w3.heap.size w3).alloc (Nat.le_refl _) (.cells #[.int .i64 k5, .int .i64 n5, .string t5, .slice na5 nm5.length ncap5, .slice ia5 it5.length icap5] 58)
              have hwb : (w3.alloc (.cells #[.int .i64 k5, .int .i64 n5, .string t5, .slice na5 nm5.length ncap5, .slice ia5 it5.length icap5] 58)).heap[w3.heap.size]? = some (.cells #[.int .i64 k5, .int .i64 n5, .string t5, .slice na5 nm5.length ncap5, .slice ia5 it5.length icap5] 58 (0, 0)) := heap_alloc_new w3 _
              obtain ⟨W3, hW3⟩ : ∃ W3, W3 = w3.alloc (.cells #[.int .i64 k5, .int .i64 n5, .string t5, .slice na5 nm5.length ncap5, .slice ia5 it5.length icap5] 58) := ⟨_, rfl⟩
              rw [← hW3] at hb5 hwb
              have HWB := Hold.mk hwb
              have HB5 := Hold.mk hb5
              clear hwb hb5
              obtain ⟨y0, y1, y2, y3, y4⟩ := cells_five HVB.out
              have hlv := heap_lt HVB.out
              go_wp2_with fail
              rw [← hW3]
              clear hW3 y0 y1 y2 y3 y4 hlv
              rw [hl3] at HX
              refine (Same_any v (showJ (readI i0 i1 i2)) _ _ W3 ((HX.out.mono (cle_below HB.out)).mono (cle_below HB5.out)) (HY.out.mono (cle_below HB5.out))).mono ?_
              rintro e w4 ⟨rfl, hb4⟩
              replace hb4 := HB5.out.trans (hb4.mono HB5.out.size)
              replace HB := Hold.mk (HB.out.trans (hb4.mono HB.out.size))
              replace HRB := Hold.mk (kept HRB.out hb4)
              replace HXI := Hold.mk (kept HXI.out hb4)
              replace HOW := Hold.mk (own_below HOW.out hb4 (fun g hg => (HOW.out.lt g hg).2))
              clear hb4 HB5 HWB HY
              obtain ⟨r0, r1, r2⟩ := cells_three HRB.out
              have f0 := free_box HRB.out 0
              have f1 := free_box HRB.out 1
              have f2 := free_box HRB.out 2
              by_cases hsv : v = showJ (readI i0 i1 i2)
              · rw [sameB_true hsv]
                have HR := Hold.mk (parse_some HI3.out HF.out hsv)
                clear hsv
                obtain ⟨x0, x1, x2⟩ := cells_three HXI.out
                go_wp2_with fail
                obtain ⟨W6, hW6⟩ : ∃ W6, W6 = (((w4.setCell ⟨w.heap.size + 1, 0, none⟩ (.string t1)).setCell ⟨w.heap.size + 1, 1, none⟩ (.slice sa it0.length scap)).setCell ⟨w.heap.size + 1, 2, none⟩ (.bool bu)) := ⟨_, rfl⟩
                rw [← hW6]
                have hbk : W6.heap[w.heap.size + 1]? = some (.cells #[.string t1, .slice sa it0.length scap, .bool bu] 81 (0, 0)) := by rw [hW6]; exact set3_self HRB.out
                have hbw : Below w.heap.size w W6 := by rw [hW6]; exact set3_below HB.out (by omega)
                have how : W6.ownsRow (w2.heap.size + 1) 112 2 (.slice sa it0.length scap) it0.length cs := by rw [hW6]; exact own_set (own_set (own_set HOW.out (by omega)) (by omega)) (by omega)
                clear hW6 r0 r1 r2 f0 f1 f2 x0 x1 x2
                obtain ⟨c0, c1, c2⟩ := cells_three hbk
                exact bodyPost_ret (v := .tuple #[.agg #[.string t1, .slice sa it0.length scap, .bool bu], .int .i64 0]) (by simp [results, Tryz.results27, go_sem, c0, c1, c2]) rfl (parse_done HR.out HRD.out (by simp) HT1.out HSM.out (by omega) how (by rw [← HCS.out, List.take_of_length_le (Nat.le_refl _)]) hbw)
              · rw [sameB_false hsv]
                have HR : Hold (parseF v = none) := ⟨parse_bad HI3.out (fun h => hsv h.2)⟩
                clear hsv
                go_wp2_with fail
                obtain ⟨W2, hW2, c0, c1, c2, hb2⟩ := HERR.out w4 HRB.out HB.out
                rw [← hW2]
                clear hW2 r0 r1 r2 f0 f1 f2
                exact bodyPost_ret (v := .tuple #[.agg zeroI, .int .i64 2]) (by simp [results, Tryz.results27, go_sem, c0, c1, c2]) rfl (parse_err HR.out hb2)
      · have b3 : ((it.length : Int) != 3) = true := by simp; omega
        have HR : Hold (parseF v = none) := ⟨parse_len (by rw [HVE.out]; exact h3)⟩
        clear h3
        obtain ⟨r0, r1, r2⟩ := cells_three HRB.out
        have f0 := free_box HRB.out 0
        have f1 := free_box HRB.out 1
        have f2 := free_box HRB.out 2
        go_wp2_with fail
        obtain ⟨W2, hW2, c0, c1, c2, hb2⟩ := HERR.out _ HRB.out HB.out
        rw [← hW2]
        clear hW2 r0 r1 r2 f0 f1 f2
        exact bodyPost_ret (v := .tuple #[.agg zeroI, .int .i64 2]) (by simp [results, Tryz.results27, go_sem, c0, c1, c2]) rfl (parse_err HR.out hb2)
    · rw [decide_eq_false hn]
      have HR : Hold (parseF v = none) := ⟨parse_names (by rw [HVE.out]; exact hn)⟩
      clear hn
      obtain ⟨r0, r1, r2⟩ := cells_three HRB.out
      have f0 := free_box HRB.out 0
      have f1 := free_box HRB.out 1
      have f2 := free_box HRB.out 2
      go_wp2_with fail
      obtain ⟨W2, hW2, c0, c1, c2, hb2⟩ := HERR.out _ HRB.out HB.out
      rw [← hW2]
      clear hW2 r0 r1 r2 f0 f1 f2
      exact bodyPost_ret (v := .tuple #[.agg zeroI, .int .i64 2]) (by simp [results, Tryz.results27, go_sem, c0, c1, c2]) rfl (parse_err HR.out hb2)
  · have HR : Hold (parseF v = none) := ⟨parse_kind (by rw [HVE.out]; exact hk)⟩
    have bk : (k != 6) = true := by simpa using hk
    clear hk
    go_enter Tryz.func27, Tryz.ntmps27
    go_wp2_with fail
    rw [← hW]
    obtain ⟨c0, c1, c2⟩ := cells_three HRB.out
    exact bodyPost_ret (v := .tuple #[.agg zeroI, .int .i64 2]) (by simp [results, Tryz.results27, go_sem, c0, c1, c2]) rfl (parse_err HR.out HB.out)
end Go.Proofs.YticlnijkfclgcaaGreatDoor
