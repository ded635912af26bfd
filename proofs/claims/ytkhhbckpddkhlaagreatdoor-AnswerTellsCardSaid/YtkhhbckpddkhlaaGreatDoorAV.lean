/- Answers: Check of the reference. -/
import Derived.Test.YtkhhbckpddkhlaaGreatDoorAD
import Derived.Test.YtkhhbckpddkhlaaGreatDoorAN
namespace Go.Proofs.YtkhhbckpddkhlaaGreatDoor
open Go.Shelf Go.RowKit

theorem any_none {α : Type} {l : List α} {f : α → Bool} (h : (l.take l.length).any f = false) : l.any f = false := by rwa [List.take_of_length_le (Nat.le_refl _)] at h
theorem any_step {α : Type} {l : List α} {f : α → Bool} {j : Nat} {x : α} (hx : l[j]? = some x) (h : (l.take j).any f = false) (hf : f x = false) : (l.take (j + 1)).any f = false := by
  rw [take_nextW hx, List.any_append, h]; simp [hf]
theorem any_hit {α : Type} {l : List α} {f : α → Bool} {j : Nat} {x : α} (hx : l[j]? = some x) (hf : f x = true) : l.any f = true := List.any_eq_true.2 ⟨x, List.mem_of_getElem? hx, hf⟩

set_option maxRecDepth 100000 in
set_option maxHeartbeats 16000000 in
theorem rqCheck_any (q : QR) (d : List Value) (w : World) (hq : QAt (cf w) q d) (hsz : ∀ o ∈ q.sort, o.path.size ≤ 1000000) (hfz : ∀ p ∈ q.fields, p.size ≤ 1000000) :
    Calls Tryz.prog 18 #[.agg d.toArray] w fun e w' => e = .returned (.int .i64 (qcheckF q)) ∧ Below w.heap.size w w' := by
  obtain ⟨k, n, t, na, nl, nc, ia, il, ic, sv, fv, rfl, hj, hs, hf⟩ := hq
  obtain ⟨sa, scap, rfl, hsl, hsc, hse⟩ := hs
  obtain ⟨fa, fcap, rfl, hfl, hfc, hfe⟩ := hf
  have HSE := Hold.mk hse
  have HFE := Hold.mk hfe
  have HSZ := Hold.mk hsz
  have HFZ := Hold.mk hfz
  have hsl3 : q.sort.length ≤ 9223372036854775807 := by omega
  have hfl3 : q.fields.length ≤ 9223372036854775807 := by omega
  obtain ⟨W, hW⟩ : ∃ W, W = w.alloc (.cells #[.int .i64 k, .int .i64 n, .string t, .slice na nl nc, .slice ia il ic, .slice sa q.sort.length scap, .slice fa q.fields.length fcap, .int .i64 q.skip, .int .i64 q.lim] 40) := ⟨_, rfl⟩
  have hb : Below w.heap.size w W := by rw [hW]; exact (Below.refl _ w).alloc (Nat.le_refl _) _
  have HX : Hold (W.heap[w.heap.size]? = some (.cells #[.int .i64 k, .int .i64 n, .string t, .slice na nl nc, .slice ia il ic, .slice sa q.sort.length scap, .slice fa q.fields.length fcap, .int .i64 q.skip, .int .i64 q.lim] 40 (0, 0))) := ⟨by rw [hW]; exact heap_alloc_new w _⟩
  have HB := Hold.mk hb
  have HC := Hold.mk (rCheck_any q.flt _ W (hj.mono (cle_below hb)))
  clear hb hj hsz hfz hse hfe
  go_enter Tryz.func18, Tryz.ntmps18
  go_upto_region 1 with (fail)
  rw [← hW]
  clear hW
  obtain ⟨y0, y1, y2, y3, y4, y5, y6, y7, y8⟩ := cells9A HX.out
  go_wp2_with fail
  refine HC.out.mono ?_
  rintro e w1 ⟨rfl, hb1⟩
  replace HX := Hold.mk (kept HX.out hb1)
  replace HB := Hold.mk (HB.out.trans (hb1.mono HB.out.size))
  clear hb1 HC y0 y1 y2 y3 y4 y5 y6 y7 y8
  obtain ⟨y0, y1, y2, y3, y4, y5, y6, y7, y8⟩ := cells9A HX.out
  by_cases h1 : checkF q.flt = 0
  case neg =>
    have HQ := Hold.mk (qcheck_1 h1)
    have HBF := HB.out
    generalize checkF q.flt = r at h1 HQ ⊢
    go_wp2_with fail
    go_ret
    exact ⟨qret HQ.out, HBF⟩
  have H1 := Hold.mk h1
  rw [h1]
  clear h1
  by_cases h2 : 3 < q.sort.length
  · have HQ := Hold.mk (qcheck_2 H1.out (.inl h2))
    have k2 : (3 : Int) < (q.sort.length : Int) := by omega
    have HBF := HB.out
    go_wp2_with fail
    go_ret
    exact ⟨qret HQ.out, HBF⟩
  by_cases h3 : 8 < q.fields.length
  · have HQ := Hold.mk (qcheck_2 H1.out (.inr h3))
    have k2 : ¬ (3 : Int) < (q.sort.length : Int) := by omega
    have k3 : (8 : Int) < (q.fields.length : Int) := by omega
    have HBF := HB.out
    go_wp2_with fail
    go_ret
    exact ⟨qret HQ.out, HBF⟩
  have H2 := Hold.mk h2
  have H3 := Hold.mk h3
  have k2 : ¬ (3 : Int) < (q.sort.length : Int) := by omega
  have k3 : ¬ (8 : Int) < (q.fields.length : Int) := by omega
  clear h2 h3
  go_wp2_with fail
  clear k2 k3 y0 y1 y2 y3 y4 y5 y6 y7 y8
  go_loopw [4] (fun i wr => ∃ j : Nat, i = .int .i64 j ∧ j ≤ q.sort.length ∧ ((q.sort.take j).any fun o => badF o.path) = false ∧ Below w.heap.size w wr ∧ wr.heap[w.heap.size]? = some (.cells #[.int .i64 k, .int .i64 n, .string t, .slice na nl nc, .slice ia il ic, .slice sa q.sort.length scap, .slice fa q.fields.length fcap, .int .i64 q.skip, .int .i64 q.lim] 40 (0, 0))) (fun i _ => q.sort.length - (intOf i).toNat)
  case atStart => exact ⟨0, rfl, Nat.zero_le _, by simp, HB.out, HX.out⟩
  case round =>
    obtain ⟨j, rfl, hj, hin, hb, hx⟩ := hrel
    clear HB HX
    have HB := Hold.mk hb
    have HX := Hold.mk hx
    have HIN := Hold.mk hin
    clear hb hx hin
    obtain ⟨y0, y1, y2, y3, y4, y5, y6, y7, y8⟩ := cells9A HX.out
    by_cases hlt : j < q.sort.length
    · obtain ⟨o, ho⟩ : ∃ o, q.sort[j]? = some o := ⟨q.sort[j], List.getElem?_eq_getElem hlt⟩
      obtain ⟨b, off, d, rfl, hd, hc, hoi⟩ := HSE.out j o ho
      have hop := HSZ.out o (List.mem_of_getElem? ho)
      have HOO := Hold.mk ho
      obtain ⟨op, dn⟩ := o
      obtain ⟨rfl, _⟩ := hoi
      simp only at hop
      have z0 := cle_below HB.out _ _ _ (hc 0 _ rfl)
      unfold cf at z0
      rw [Nat.add_zero] at z0
      have HWY := Hold.mk (way_any op wr hop)
      obtain ⟨bo, hbo⟩ : ∃ bo, badF op = bo := ⟨_, rfl⟩
      rw [hbo] at HWY
      have HBO := Hold.mk hbo
      clear ho hd hc hbo
      go_wp2_with fail
      refine HWY.out.mono ?_
      rintro e w2 ⟨rfl, hb2⟩
      replace HX := Hold.mk (kept HX.out hb2)
      replace HB := Hold.mk (HB.out.trans (hb2.mono HB.out.size))
      clear hb2 HWY y0 y1 y2 y3 y4 y5 y6 y7 y8 z0
      cases bo with
      | true =>
        have HQ := Hold.mk (qcheck_3 H1.out H2.out H3.out (.inl (any_hit HOO.out HBO.out)))
        have HBF := HB.out
        go_wp2_with fail
        go_ret
        exact ⟨qret HQ.out, HBF⟩
      | false =>
        have HNI := Hold.mk (any_step (f := fun o : OR => badF o.path) HOO.out HIN.out HBO.out)
        have HXF := HX.out
        have HBF := HB.out
        go_wp2_with fail
        exact ⟨⟨j + 1, by go_num, hlt, HNI.out, HBF, HXF⟩, by simp [intOf]; omega⟩
    · obtain rfl : j = q.sort.length := by omega
      have H4 := Hold.mk (any_none HIN.out)
      clear HIN
      go_wp2_with fail
      clear y0 y1 y2 y3 y4 y5 y6 y7 y8
      go_loopw [5] (fun i wr => ∃ j : Nat, i = .int .i64 j ∧ j ≤ q.fields.length ∧ (q.fields.take j).any badF = false ∧ Below w.heap.size w wr ∧ wr.heap[w.heap.size]? = some (.cells #[.int .i64 k, .int .i64 n, .string t, .slice na nl nc, .slice ia il ic, .slice sa q.sort.length scap, .slice fa q.fields.length fcap, .int .i64 q.skip, .int .i64 q.lim] 40 (0, 0))) (fun i _ => q.fields.length - (intOf i).toNat)
      case atStart => exact ⟨0, rfl, Nat.zero_le _, by simp, HB.out, HX.out⟩
      case round =>
        obtain ⟨j, rfl, hj, hin, hb, hx⟩ := hrel
        clear HB HX
        have HB := Hold.mk hb
        have HX := Hold.mk hx
        have HIN := Hold.mk hin
        clear hb hx hin
        obtain ⟨y0, y1, y2, y3, y4, y5, y6, y7, y8⟩ := cells9A HX.out
        by_cases hlt : j < q.fields.length
        · obtain ⟨p, hp⟩ : ∃ p, q.fields[j]? = some p := ⟨q.fields[j], List.getElem?_eq_getElem hlt⟩
          obtain ⟨b, off, d, rfl, hd, hc, hpi⟩ := HFE.out j p hp
          have hop := HFZ.out p (List.mem_of_getElem? hp)
          have HOO := Hold.mk hp
          obtain ⟨rfl, _⟩ := hpi
          have z0 := cle_below HB.out _ _ _ (hc 0 _ rfl)
          unfold cf at z0
          rw [Nat.add_zero, Nat.mul_one] at z0
          have HWY := Hold.mk (way_any p wr hop)
          obtain ⟨bo, hbo⟩ : ∃ bo, badF p = bo := ⟨_, rfl⟩
          rw [hbo] at HWY
          have HBO := Hold.mk hbo
          clear hp hd hc hbo
          go_wp2_with fail
          refine HWY.out.mono ?_
          rintro e w2 ⟨rfl, hb2⟩
          replace HX := Hold.mk (kept HX.out hb2)
          replace HB := Hold.mk (HB.out.trans (hb2.mono HB.out.size))
          clear hb2 HWY y0 y1 y2 y3 y4 y5 y6 y7 y8 z0
          cases bo with
          | true =>
            have HQ := Hold.mk (qcheck_3 H1.out H2.out H3.out (.inr (any_hit HOO.out HBO.out)))
            have HBF := HB.out
            go_wp2_with fail
            go_ret
            exact ⟨qret HQ.out, HBF⟩
          | false =>
            have HNI := Hold.mk (any_step (f := badF) HOO.out HIN.out HBO.out)
            have HXF := HX.out
            have HBF := HB.out
            go_wp2_with fail
            exact ⟨⟨j + 1, by go_num, hlt, HNI.out, HBF, HXF⟩, by simp [intOf]; omega⟩
        · obtain rfl : j = q.fields.length := by omega
          have H5 := Hold.mk (any_none HIN.out)
          have HBF := HB.out
          clear HIN
          by_cases h6 : q.skip < 0
          · have HQ := Hold.mk (qcheck_4 H1.out H2.out H3.out H4.out H5.out (.inl h6))
            go_wp2_with fail
            go_ret
            exact ⟨qret HQ.out, HBF⟩
          by_cases h7 : q.lim < 0
          · have HQ := Hold.mk (qcheck_4 H1.out H2.out H3.out H4.out H5.out (.inr h7))
            go_wp2_with fail
            go_ret
            exact ⟨qret HQ.out, HBF⟩
          by_cases h8 : 100 < q.skip
          · have HQ := Hold.mk (qcheck_5 H1.out H2.out H3.out H4.out H5.out h6 h7 (.inl h8))
            go_wp2_with fail
            go_ret
            exact ⟨qret HQ.out, HBF⟩
          by_cases h9 : 100 < q.lim
          · have HQ := Hold.mk (qcheck_5 H1.out H2.out H3.out H4.out H5.out h6 h7 (.inr h9))
            go_wp2_with fail
            go_ret
            exact ⟨qret HQ.out, HBF⟩
          have HQ := Hold.mk (qcheck_6 H1.out H2.out H3.out H4.out H5.out h6 h7 h8 h9)
          go_wp2_with fail
          go_ret
          exact ⟨qret HQ.out, HBF⟩

end Go.Proofs.YtkhhbckpddkhlaaGreatDoor
