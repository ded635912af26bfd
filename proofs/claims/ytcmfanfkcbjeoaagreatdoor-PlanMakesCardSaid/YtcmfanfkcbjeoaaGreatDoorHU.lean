/- Plans: span of the reference (printed by genXHU.py). -/
import Derived.Test.YtcmfanfkcbjeoaaGreatDoorHT
namespace Go.Proofs.YtcmfanfkcbjeoaaGreatDoor
open Go.Shelf Go.RowKit

/-- an own row stands while a box of the reference is written -/
theorem BRow.butR {B ob : Nat} {w w' : World} {sv : Value} {l : List UInt8} (h : BRow B w sv l) {cs : Array Value} (hob : w.heap[ob]? = some (.cells cs 35 (0, 0))) (k : w.grownBy w' (some ob)) : BRow B w' sv l := by
  refine ⟨h.own.kept k ?_, Nat.le_trans h.le k.size⟩
  rcases h.own.2 with ⟨hv, _⟩ | ⟨g, cap, cur, hv, _, hg, _⟩
  · rw [hv]; exact .inl rfl
  · rw [hv]
    refine .inr (fun e => ?_)
    obtain rfl : g = ob := Option.some.inj e
    rw [hob] at hg
    have := Option.some.inj hg
    injection this with _ h2
    revert h2
    decide
/-- a result's cell is written -/
theorem span_done {w wr W : World} {q : Nat} {fv tv : Value} {fl tl : List UInt8} (hb : Below w.heap.size w wr) (hq : w.heap.size ≤ q) (hr : wr.heap[q]? = some (.cells #[.int .i64 0, .slice none 0 0, .slice none 0 0] 35 (0, 0))) (hf : BRow w.heap.size wr fv fl) (ht : BRow w.heap.size wr tv tl)
    (hW : W = ((wr.setCell ⟨q, 0, none⟩ (.int .i64 0)).setCell ⟨q, 1, none⟩ fv).setCell ⟨q, 2, none⟩ tv) : W.heap[q]? = some (.cells #[.int .i64 0, fv, tv] 35 (0, 0)) ∧ BRow w.heap.size W fv fl ∧ BRow w.heap.size W tv tl ∧ Below w.heap.size w W := by
  have hk : wr.grownBy W (some q) := by rw [hW]; exact grown_trans (grown_trans (grown_set _ _ _ _) (grown_set _ _ _ _)) (grown_set _ _ _ _)
  exact ⟨by rw [hW, setP (setP (setP hr))]; rfl, hf.butR hr hk, ht.butR hr hk, hb.trans (grown_low hk hb.size hq)⟩

set_option maxRecDepth 100000 in
set_option maxHeartbeats 32000000 in
theorem rspan_any (f : JV) (fx : Value) (x : IX) (v : Value) (c : CF) (w : World) (hf : formedF 6 f = true) (hfx : JAt c f fx) (hx : IAt c x v) (hc : CLe c (cf w)) (hs : ∀ p ∈ x.fields, signF p.1 = false) (h100 : x.fields.length ≤ 90) :
    Calls Tryz.prog 48 #[fx, v] w (SpanPost (spanF (asksF 6 f) x.fields) w) := by
  have HFI := Hold.mk (fun (s tq : ByteArray) (hs : signF s = false) (W : World) (hb : Below w.heap.size w W) => (show Calls Tryz.prog 105 #[fx, .string s, .string tq] W (FirstPost c (firstF (asksF 6 f) s tq) W) by
    have h := rfirst_any 6 f fx s tq c W hf hfx (hc.trans (cle_below hb)) hs
    rw [first_law tq hs] at h
    exact h))
  have HSV := Hold.mk (fun (W : World) (hb : Below w.heap.size w W) => rserves_any f fx x v c W hf hfx hx (hc.trans (cle_below hb)) hs)
  have HBN := Hold.mk (fun (B : Nat) (pv : Value) (pl : List UInt8) (p : Fd) (n1 n2 : ByteArray) (one : Bool) (W : World) (hb : Below w.heap.size w W) (hp : BRow B W pv pl) (hl : pl.length ≤ 20000000000000) (hs : signF p.1 = false) (hne : n1.toList ≠ n2.toList) => rbound_any f fx B pv pl p n1 n2 one c W hf hfx (hc.trans (cle_below hb)) hp hl hs hne)
  have HFO := Hold.mk (asks_formed 6 f hf)
  obtain ⟨k, n, t, nm, it, na, ncap, ia, icap, hfe, rfl, _⟩ := id hfx.open
  clear hfe
  obtain ⟨hnm, fv0, rfl, a, cap, rfl, hlen, hcap, hel⟩ := hx
  obtain ⟨xn, l, xu⟩ := x
  simp only at *
  obtain ⟨L, hL⟩ : ∃ L, L = asksF 6 f := ⟨_, rfl⟩
  rw [← hL] at HFI HSV HBN HFO ⊢
  obtain ⟨sr, hsr⟩ : ∃ sr, sr = spanF L l := ⟨_, rfl⟩
  rw [← hsr]
  obtain ⟨W0, hW0⟩ : ∃ W0, W0 = ((w.alloc (.cells #[.int .i64 k, .int .i64 n, .string t, .slice na nm.length ncap, .slice ia it.length icap] 25)).alloc (.cells #[.string xn, .slice a l.length cap, .bool xu] 48)).alloc (.cells #[.int .i64 0, .slice none 0 0, .slice none 0 0] 35) := ⟨_, rfl⟩
  have hb0 : Below w.heap.size w W0 := by rw [hW0]; exact (((Below.refl _ w).alloc (Nat.le_refl _) _).alloc (by simp) _).alloc (by simp; omega) _
  have e0 : W0.heap[w.heap.size]? = some (.cells #[.int .i64 k, .int .i64 n, .string t, .slice na nm.length ncap, .slice ia it.length icap] 25 (0, 0)) := by
    rw [hW0]
    exact kept (kept (heap_alloc_new w _) ((Below.refl _ _).alloc (Nat.le_refl _) _)) ((Below.refl _ _).alloc (Nat.le_refl _) _)
  have e1 : W0.heap[w.heap.size + 1]? = some (.cells #[.string xn, .slice a l.length cap, .bool xu] 48 (0, 0)) := by
    rw [hW0]
    have := heap_alloc_new (w.alloc (.cells #[.int .i64 k, .int .i64 n, .string t, .slice na nm.length ncap, .slice ia it.length icap] 25)) (.cells #[.string xn, .slice a l.length cap, .bool xu] 48)
    exact kept (by simpa using this) ((Below.refl _ _).alloc (Nat.le_refl _) _)
  have e2 : W0.heap[w.heap.size + 2]? = some (.cells #[.int .i64 0, .slice none 0 0, .slice none 0 0] 35 (0, 0)) := by
    rw [hW0]
    have := heap_alloc_new ((w.alloc (.cells #[.int .i64 k, .int .i64 n, .string t, .slice na nm.length ncap, .slice ia it.length icap] 25)).alloc (.cells #[.string xn, .slice a l.length cap, .bool xu] 48)) (.cells #[.int .i64 0, .slice none 0 0, .slice none 0 0] 35)
    simpa using this
  have HE0 := Hold.mk e0
  have HE1 := Hold.mk e1
  have HE2 := Hold.mk e2
  have HB0 := Hold.mk hb0
  have HC := Hold.mk hc
  have HE := Hold.mk hel
  have HSG := Hold.mk hs
  have HSR := Hold.mk hsr
  have H100 := Hold.mk h100
  obtain ⟨y0, y1, y2, y3, y4⟩ := cells_five e0
  obtain ⟨x0, x1, x2⟩ := cells_three e1
  clear hb0 e0 e1 e2 hc hs hL hf hfx hel hsr h100
  go_enter Tryz.func48, Tryz.ntmps48
  go_upto_region 1 with (fail)
  rw [← hW0]
  clear hW0
  go_wp2_with fail
  refine (HSV.out W0 HB0.out).mono ?_
  rintro e W1 ⟨rfl, hb1⟩
  have HB1 := Hold.mk (HB0.out.trans (hb1.mono HB0.out.size))
  replace HE0 := Hold.mk (kept HE0.out hb1)
  replace HE1 := Hold.mk (kept HE1.out hb1)
  replace HE2 := Hold.mk (kept HE2.out hb1)
  clear hb1 HSV HB0 y0 y1 y2 y3 y4 x0 x1 x2
  cases hal : (l.all fun p => someB L p.1) with
  | false =>
    have HSZ : Hold (sr = (([], []), 0)) := ⟨by rw [HSR.out]; unfold spanF; rw [if_neg (by rw [hal]; simp)]⟩
    obtain ⟨r0, r1, r2⟩ := cells_three HE2.out
    have f0 := free_box HE2.out 0
    have f1 := free_box HE2.out 1
    have f2 := free_box HE2.out 2
    clear hal
    go_wp2_with fail
    obtain ⟨W, hW⟩ : ∃ W, W = ((W1.setCell ⟨w.heap.size + 2, 0, none⟩ (.int .i64 0)).setCell ⟨w.heap.size + 2, 1, none⟩ (.slice none 0 0)).setCell ⟨w.heap.size + 2, 2, none⟩ (.slice none 0 0) := ⟨_, rfl⟩
    rw [← hW]
    have hn : BRow w.heap.size W1 (.slice none 0 0) [] := ⟨World.ownsRow_nil _ _ _ _, HB1.out.size⟩
    obtain ⟨hbk, h1, h2, hbw⟩ := span_done HB1.out (by omega) HE2.out hn hn hW
    obtain ⟨c0, c1, c2⟩ := cells_three hbk
    refine bodyPost_ret (v := .tuple #[.agg #[.int .i64 0, .slice none 0 0, .slice none 0 0], .int .i64 0]) (by simp [results, Tryz.results48, go_sem, c0, c1, c2]) rfl ?_
    rw [HSZ.out]
    exact ⟨_, _, rfl, h1, h2, hbw⟩
  | true =>
  have HSP0 : Hold (sr = spanP L (l.drop 0) [] 0) := ⟨by rw [HSR.out]; unfold spanF; rw [if_pos hal, List.drop_zero]⟩
  have HP0 : Hold (BRow w.heap.size W1 (.slice none 0 0) []) := ⟨⟨World.ownsRow_nil _ _ _ _, HB1.out.size⟩⟩
  clear hal
  go_upto_region 5 with (fail)
  iterate 8 (first | go_values | go_skip | go_guarded | go_step | go_upon | go_back)
  go_cut [6, 7, 8] (fun s6 s7 s8 wx => ∃ (j r : Nat) (pl : List UInt8), s8 = .int .i64 j ∧ s7 = .int .i64 r ∧ j ≤ l.length ∧ r ≤ 200 ∧ pl.length ≤ 20000000000000 ∧ BRow w.heap.size wx s6 pl ∧ Below W1.heap.size W1 wx ∧ ((j = l.length ∧ sr = ((pl, pl ++ [255]), r)) ∨ ∃ fd, l[j]? = some fd ∧ sr = spanE L pl r fd))
  case first =>
    go_wp2_with fail
    go_loopw [6, 7, 8] (fun pv rv i wr => ∃ (j r : Nat) (pl : List UInt8), i = .int .i64 j ∧ rv = .int .i64 r ∧ j ≤ l.length ∧ r ≤ 2 * j ∧ pl.length ≤ j * 200000000000 ∧ sr = spanP L (l.drop j) pl r ∧ BRow w.heap.size wr pv pl ∧ Below W1.heap.size W1 wr) (fun _ _ i _ => l.length - (intOf i).toNat)
    case atStart => exact ⟨0, 0, [], rfl, rfl, Nat.zero_le _, Nat.zero_le _, Nat.zero_le _, HSP0.out, HP0.out, Below.refl _ _⟩
    case round =>
      obtain ⟨j, r, pl, rfl, rfl, hj, hr, hpll, hsp, hpr, hbl⟩ := hrel
      obtain ⟨pa, pcap, rfl, _⟩ := hpr.shape
      have HBL := Hold.mk hbl
      have HBW : Hold (Below w.heap.size w wr) := ⟨HB1.out.trans (hbl.mono HB1.out.size)⟩
      have HP := Hold.mk hpr
      have HSP := Hold.mk hsp
      have HPL : Hold (pl.length ≤ 20000000000000) := ⟨by have := H100.out; omega⟩
      have HPJ := Hold.mk hpll
      have HRJ := Hold.mk hr
      have hr200 : r ≤ 200 := by have := H100.out; omega
      clear hbl hpr hsp hpll HSP0 HP0
      obtain ⟨y0, y1, y2⟩ := cells_three (kept HE1.out HBL.out)
      by_cases hlt : j < l.length
      · obtain ⟨p, hp⟩ : ∃ p, l[j]? = some p := ⟨l[j], List.getElem?_eq_getElem hlt⟩
        obtain ⟨hps, b, off, rfl, x0, x1⟩ := HE.out j p hp
        have HSS := Hold.mk (HSG.out p (List.mem_of_getElem? hp))
        have HPX := Hold.mk hp
        have HST := Hold.mk (HSP.out.trans (spanP_step hp pl r))
        have HX0 := Hold.mk x0
        have HX1 := Hold.mk x1
        obtain ⟨s, dn⟩ := p
        simp only at *
        obtain ⟨v0, v1, v2, v3, v4⟩ := cells_five (kept HE0.out HBL.out)
        have z0 := (HC.out.trans (cle_below HBW.out)) _ _ _ x0
        unfold cf at z0
        have g0 := Grow.cell v0
        have g1 := Grow.cell v1
        have g2 := Grow.cell v2
        have g3 := Grow.cell v3
        have g4 := Grow.cell v4
        have g5 := Grow.cell y1
        have g6 := Grow.cell z0
        clear hp x0 x1
        go_upto_region 7 with (fail)
        clear v0 v1 v2 v3 v4 y0 y1 y2 z0
        go_cut [9, 10] (fun s1 s2 wx => FBox c (firstF L s bEq) wr s1 s2 wx)
        case first =>
          refine wp_region_mix 14 rfl (by kernel_rfl) ?_
          rintro w3 hb3
          refine mixl_seg (by kernel_rfl) (fun _ _ d _ _ h => by cases d <;> exact h) [0, 1, 2, 3, 4, 5, 6] [_, _, _, _, _, _, _] 7 14 rfl _ _ _ rfl (by kernel_rfl) (growC hb3) ?_
          repeat (go_big_quiet_step (fail))
          refine wpQuiet_nil ?_
          clear g0 g1 g2 g3 g4 g5 g6
          have HG4 := Hold.mk hb3
          clear hb3
          refine mixl_two (i := 7) (j := 11) rfl rfl (by kernel_rfl) (growC HG4.out) rfl rfl (fun K hK => ?_) (fun K hK => ?_)
          · go_wp2_with fail
            refine (HFI.out s bEq HSS.out w3 (HBW.out.trans (HG4.out.mono HBW.out.size))).mono ?_
            rintro e w5 hg
            obtain ⟨k2, n2, t2, na2, nl2, nc2, ia2, il2, ic2, rfl, hu, hb5⟩ := first_opt hg
            have HOU := Hold.mk hu
            have HG6 : Hold (Below wr.heap.size wr w5) := ⟨HG4.out.trans (hb5.mono HG4.out.size)⟩
            clear hb5 hg hu
            go_wp2_with fail
            refine mixl_seg (by kernel_rfl) (fun _ _ d _ _ h => by cases d <;> exact h) [8, 9, 10] [_, _, _] 3 6 rfl _ _ _ rfl (by kernel_rfl) (growC HG6.out) ?_
            repeat (go_big_quiet_step (fail))
            refine wpQuiet_nil ?_
            refine mixl_act (i := 11) rfl (by kernel_rfl) (growC HG6.out) rfl (fun K hK => ?_)
            go_wp2_with fail
            have HWL : Hold (wr.heap.size ≤ w5.heap.size) := ⟨HG6.out.size⟩
            replace HG6 := Hold.mk (HG6.out.alloc HG6.out.size (.cells #[.int .i64 0, .int .i64 0, .string ⟨#[]⟩, .slice none 0 0, .slice none 0 0] 25))
            have HZB := Hold.mk (heap_alloc_new w5 (.cells #[.int .i64 0, .int .i64 0, .string ⟨#[]⟩, .slice none 0 0, .slice none 0 0] 25))
            generalize w5.alloc (.cells #[.int .i64 0, .int .i64 0, .string ⟨#[]⟩, .slice none 0 0, .slice none 0 0] 25) = w6 at HG6 HZB ⊢
            generalize w5.heap.size = zb at HZB HWL ⊢
            refine mixl_act (i := 12) rfl (by kernel_rfl) (growC HG6.out) rfl (fun K hK => ?_)
            obtain ⟨v0, v1, v2, v3, v4⟩ := cells_five HZB.out
            have q0 := free_box HZB.out 0
            have q1 := free_box HZB.out 1
            have q2 := free_box HZB.out 2
            have q3 := free_box HZB.out 3
            have q4 := free_box HZB.out 4
            go_wp2_with fail
            clear v0 v1 v2 v3 v4 q0 q1 q2 q3 q4
            have HZ6 := Hold.mk (set5_self (c0 := .int .i64 k2) (c1 := .int .i64 n2) (c2 := .string t2) (c3 := .slice na2 nl2 nc2) (c4 := .slice ia2 il2 ic2) HZB.out)
            replace HG6 := Hold.mk (set5_below (k := zb) (c0 := .int .i64 k2) (c1 := .int .i64 n2) (c2 := .string t2) (c3 := .slice na2 nl2 nc2) (c4 := .slice ia2 il2 ic2) HG6.out HWL.out)
            unfold set5 at HZ6 HG6
            generalize hw8 : ((((w6.setCell ⟨zb, 0, none⟩ (.int .i64 k2)).setCell ⟨zb, 1, none⟩ (.int .i64 n2)).setCell ⟨zb, 2, none⟩ (.string t2)).setCell ⟨zb, 3, none⟩ (.slice na2 nl2 nc2)).setCell ⟨zb, 4, none⟩ (.slice ia2 il2 ic2) = w8 at HZ6 HG6 ⊢
            clear hw8
            refine mixl_seg (by kernel_rfl) (fun _ _ d _ _ h => by cases d <;> exact h) [13] [_] 0 1 rfl _ _ _ rfl (by kernel_rfl) (growC HG6.out) ?_
            repeat (go_big_quiet_step (fail))
            refine wpQuiet_nil ?_
            refine mix_done (by kernel_rfl) (growC HG6.out) ?_
            have HVX : Hold (FBox c (firstF L s bEq) wr (.pointer (some ⟨zb, 0, none⟩)) (.bool (firstF L s bEq).isSome) w8) := ⟨zb, k2, n2, t2, na2, nl2, nc2, ia2, il2, ic2, rfl, rfl, HZ6.out, HOU.out, HG6.out⟩
            go_wp2_with fail
            go_meet
            case rel => exact HVX.out
          · go_wp2_with fail
            have HZB := Hold.mk (heap_alloc_new w3 (.cells #[.int .i64 0, .int .i64 0, .string ⟨#[]⟩, .slice none 0 0, .slice none 0 0] 25))
            have HWL : Hold (wr.heap.size ≤ w3.heap.size) := ⟨HG4.out.size⟩
            have HGZ := Hold.mk (HG4.out.alloc HG4.out.size (.cells #[.int .i64 0, .int .i64 0, .string ⟨#[]⟩, .slice none 0 0, .slice none 0 0] 25))
            generalize w3.alloc (.cells #[.int .i64 0, .int .i64 0, .string ⟨#[]⟩, .slice none 0 0, .slice none 0 0] 25) = wz at HZB HGZ ⊢
            generalize w3.heap.size = zb at HZB HWL ⊢
            refine mixl_act (i := 7) rfl (by kernel_rfl) (growC HGZ.out) rfl (fun K hK => ?_)
            go_wp2_with fail
            refine (HFI.out s bEq HSS.out wz (HBW.out.trans (HGZ.out.mono HBW.out.size))).mono ?_
            rintro e w5 hg
            obtain ⟨k2, n2, t2, na2, nl2, nc2, ia2, il2, ic2, rfl, hu, hb5⟩ := first_opt hg
            have HOU := Hold.mk hu
            have HG6 : Hold (Below wr.heap.size wr w5) := ⟨HGZ.out.trans (hb5.mono HGZ.out.size)⟩
            replace HZB := Hold.mk (kept HZB.out hb5)
            clear hb5 hg hu
            go_wp2_with fail
            refine mixl_seg (by kernel_rfl) (fun _ _ d _ _ h => by cases d <;> exact h) [8, 9, 10] [_, _, _] 2 5 rfl _ _ _ rfl (by kernel_rfl) (growC HG6.out) ?_
            repeat (go_big_quiet_step (fail))
            refine wpQuiet_nil ?_
            refine mixl_act (i := 12) rfl (by kernel_rfl) (growC HG6.out) rfl (fun K hK => ?_)
            obtain ⟨v0, v1, v2, v3, v4⟩ := cells_five HZB.out
            have q0 := free_box HZB.out 0
            have q1 := free_box HZB.out 1
            have q2 := free_box HZB.out 2
            have q3 := free_box HZB.out 3
            have q4 := free_box HZB.out 4
            go_wp2_with fail
            clear v0 v1 v2 v3 v4 q0 q1 q2 q3 q4
            have HZ6 := Hold.mk (set5_self (c0 := .int .i64 k2) (c1 := .int .i64 n2) (c2 := .string t2) (c3 := .slice na2 nl2 nc2) (c4 := .slice ia2 il2 ic2) HZB.out)
            replace HG6 := Hold.mk (set5_below (k := zb) (c0 := .int .i64 k2) (c1 := .int .i64 n2) (c2 := .string t2) (c3 := .slice na2 nl2 nc2) (c4 := .slice ia2 il2 ic2) HG6.out HWL.out)
            unfold set5 at HZ6 HG6
            generalize hw8 : ((((w5.setCell ⟨zb, 0, none⟩ (.int .i64 k2)).setCell ⟨zb, 1, none⟩ (.int .i64 n2)).setCell ⟨zb, 2, none⟩ (.string t2)).setCell ⟨zb, 3, none⟩ (.slice na2 nl2 nc2)).setCell ⟨zb, 4, none⟩ (.slice ia2 il2 ic2) = w8 at HZ6 HG6 ⊢
            clear hw8
            refine mixl_seg (by kernel_rfl) (fun _ _ d _ _ h => by cases d <;> exact h) [13] [_] 0 1 rfl _ _ _ rfl (by kernel_rfl) (growC HG6.out) ?_
            repeat (go_big_quiet_step (fail))
            refine wpQuiet_nil ?_
            refine mix_done (by kernel_rfl) (growC HG6.out) ?_
            have HVX : Hold (FBox c (firstF L s bEq) wr (.pointer (some ⟨zb, 0, none⟩)) (.bool (firstF L s bEq).isSome) w8) := ⟨zb, k2, n2, t2, na2, nl2, nc2, ia2, il2, ic2, rfl, rfl, HZ6.out, HOU.out, HG6.out⟩
            go_wp2_with fail
            go_meet
            case rel => exact HVX.out
        case rest =>
          clear g0 g1 g2 g3 g4 g5 g6
          obtain ⟨zb, k2, n2q, t2, na2, nl2, nc2, ia2, il2, ic2, rfl, rfl, hzb, hvj, hbx⟩ := hcut
          generalize wc = w5 at *
          have HBL5 := Hold.mk (HBL.out.trans (hbx.mono HBL.out.size))
          have HBW5 := Hold.mk (HBW.out.trans (hbx.mono HBW.out.size))
          have HP5 := Hold.mk (HP.out.quiet hbx)
          have HZB := Hold.mk hzb
          have HVJ := Hold.mk hvj
          clear hzb hvj hbx
          cases hfe : firstF L s bEq with
          | none =>
            have HSN : Hold (sr = spanE L pl r (s, dn)) := ⟨by rw [HST.out, hfe]⟩
            clear hfe
            go_wp2_with fail
            go_meet
            case rel => exact ⟨j, r, pl, rfl, rfl, hj, hr200, HPL.out, HP5.out, HBL5.out, .inr ⟨_, HPX.out, HSN.out⟩⟩
          | some v =>
            have HSN : Hold (sr = spanP L (l.drop (j + 1)) (pl ++ partK v dn) (r + 2)) := ⟨by rw [HST.out, hfe]⟩
            have HFV : Hold (formedF 6 v = true) := ⟨by
              obtain ⟨a, ha, e⟩ := first_mem hfe
              rw [← e]; exact HFO.out a ha⟩
            have HVV := Hold.mk (HVJ.out v hfe)
            obtain ⟨v0, v1, v2, v3, v4⟩ := cells_five HZB.out
            obtain ⟨y0, y1, y2⟩ := cells_three (kept HE1.out HBL5.out)
            have z1 := (HC.out.trans (cle_below HBW5.out)) _ _ _ HX1.out
            unfold cf at z1
            have g0 := Grow.cell v0
            have g1 := Grow.cell v1
            have g2 := Grow.cell v2
            have g3 := Grow.cell v3
            have g4 := Grow.cell v4
            have g5 := Grow.cell y1
            have g6 := Grow.cell z1
            have HPF : Hold ((putF v).length ≤ 200000000000) := ⟨Nat.le_trans (putF_len 6 v HFV.out) keyB_six⟩
            have HNL : Hold ((pl ++ partK v dn).length ≤ (j + 1) * 200000000000) := ⟨by rw [List.length_append, partK_len]; have := HPF.out; have := HPJ.out; omega⟩
            clear hfe HVJ v0 v1 v2 v3 v4 y0 y1 y2 z1
            go_upto_region 9 with (fail)
            refine wp_region_mix 10 rfl (by kernel_rfl) ?_
            rintro w6 hb6
            refine mixl_seg (by kernel_rfl) (fun _ _ d _ _ h => by cases d <;> exact h) [0, 1, 2, 3, 4, 5, 6, 7] [_, _, _, _, _, _, _, _] 2 10 rfl _ _ _ rfl (by kernel_rfl) (growC hb6) ?_
            repeat (go_big_quiet_step (fail))
            refine wpQuiet_nil ?_
            clear g0 g1 g2 g3 g4 g5 g6
            have HB6 := Hold.mk hb6
            have HPT := Hold.mk (rpart_any _ _ pl v _ dn false c w6 (HP5.out.quiet hb6) HPL.out HFV.out HVV.out ((HC.out.trans (cle_below HBW5.out)).trans (cle_below hb6)))
            clear hb6
            refine mixl_act (i := 8) rfl (by kernel_rfl) (growC HB6.out) rfl (fun K hK => ?_)
            go_wp2_with fail
            refine HPT.out.mono ?_
            rintro e w7 ⟨sv, rfl, hsv, hb7⟩
            have HN : Hold (BRow w.heap.size w7 sv (pl ++ partK v dn)) := ⟨by
              have h := hsv.bel (Nat.le_trans HBW5.out.size HB6.out.size)
              simpa using h⟩
            have HB7 := Hold.mk (HB6.out.trans (hb7.mono HB6.out.size))
            have HBL7 := Hold.mk (HBL5.out.trans (HB7.out.mono HBL5.out.size))
            clear hsv hb7 HPT
            go_wp2_with fail
            refine mixl_seg (by kernel_rfl) (fun _ _ d _ _ h => by cases d <;> exact h) [9] [_] 0 1 rfl _ _ _ rfl (by kernel_rfl) (growC HB7.out) ?_
            repeat (go_big_quiet_step (fail))
            refine wpQuiet_nil ?_
            refine mix_done (by kernel_rfl) (growC HB7.out) ?_
            have hr2 := HRJ.out
            go_wp2_with fail
            exact ⟨⟨j + 1, r + 2, _, by go_num, by go_num, hlt, by omega, HNL.out, HSN.out, HN.out, HBL7.out⟩, by simp [intOf]; omega⟩
      · obtain rfl : j = l.length := by omega
        have HSN : Hold (sr = ((pl, pl ++ [255]), r)) := ⟨by rw [HSP.out, List.drop_length, spanP]⟩
        go_wp2_with fail
        go_meet
        case rel => exact ⟨l.length, r, pl, rfl, rfl, Nat.le_refl _, hr200, HPL.out, HP.out, HBL.out, .inl ⟨rfl, HSN.out⟩⟩
  case rest =>
    obtain ⟨j, r, pl, rfl, rfl, hj, hr, hpl, hpr, hbl, hor⟩ := hcut
    generalize wc = w5 at *
    generalize u6 = pv at *
    obtain ⟨pa, pcap, rfl, _⟩ := hpr.shape
    have HOR := Hold.mk hor
    have HP := Hold.mk hpr
    have HPL := Hold.mk hpl
    have HBL := Hold.mk hbl
    have HBW : Hold (Below w.heap.size w w5) := ⟨HB1.out.trans (hbl.mono HB1.out.size)⟩
    obtain ⟨i0, hi, hz0, hz1, hz2⟩ := info_parts infoB
    have HI := Hold.mk (And.intro hi (And.intro hz0 (And.intro hz1 hz2)))
    clear hor hpr hpl hbl hi hz0 hz1 hz2 HSP0 HP0
    go_upto_region 13 with (fail)
    go_cut [11] (fun s9 wx => BRow w5.heap.size wx s9 pl ∧ Below w5.heap.size w5 wx)
    case first =>
      rcases id HP.out.own.2 with ⟨hv, hn⟩ | ⟨g, cap2, cur, hv, hgb, hg, h1, h2, h3, h4⟩
      · have e0 := List.length_eq_zero_iff.1 hn
        subst e0
        simp only [Value.slice.injEq] at hv
        obtain ⟨rfl, _, rfl⟩ := hv
        have HEM := Hold.mk (BRow.empty w5)
        clear hn
        go_wp2_with fail
        go_meet
        case rel => exact ⟨HEM.out, Below.refl _ _⟩
      · simp only [Value.slice.injEq] at hv
        obtain ⟨rfl, _, rfl⟩ := hv
        have HCC : Hold (∀ (j : Nat) u, (bv pl)[j]? = some u → w5.cell? (Addr.add ⟨g, 0, none⟩ j) = some u) := ⟨fun j u hu => HP.out.own.cells (g := g) rfl j u hu⟩
        clear hg h1 h2 h3 h4
        go_wp2_with (at_builtin; refine wpList_append_own _ rfl _ _ 29 rfl w5.heap.size 5 i0 (.int .u8 0) 1 1 Tryz.underlying29 HI.out.1 HI.out.2.1 HI.out.2.2.1 HI.out.2.2.2 rfl (by decide) _ _ _ rfl (World.ownsRow_nil w5 w5.heap.size _ _) ⟨g, 0, none⟩ pl.length pcap (bv pl) rfl ?qc1 ?qc2 ?qc3 ?qc4 ?qc5 ?qc6 ?_)
        case qc1 => rw [bv_len]; omega
        case qc2 => exact HCC.out
        case qc3 => exact bv_one pl
        case qc4 => have := HPL.out; unfold maxLen; omega
        case qc5 => have := HPL.out; omega
        case qc6 => simp
        intro v' w6 hown hgrow hnil
        have hb := (Below.refl w5.heap.size w5).grown hgrow (Nat.le_refl _) (by intro k hk; simp [Value.ownBlock] at hk)
        have HPQ : Hold (BRow w5.heap.size w6 v' pl ∧ Below w5.heap.size w5 w6) := ⟨⟨by simpa using hown, hb.size⟩, hb⟩
        clear hown hgrow hb hnil
        go_wp2_with fail
        go_meet
        case rel => exact HPQ.out
    case rest =>
      obtain ⟨ho6, hb6⟩ := hcut
      generalize wc = w6 at *
      generalize u11 = tv0 at *
      obtain ⟨oa, ocap, rfl, _⟩ := ho6.shape
      have HO6 := Hold.mk ho6
      have HQ6 := Hold.mk hb6
      clear ho6 hb6
      go_wp2_with (at_builtin; refine app_new rfl _ _ rfl _ _ _ _ HO6.out rfl _ [255] rfl _ rfl (by simp) (Nat.succ_pos _) (by have := HPL.out; simp; omega) ?_)
      intro TV w7 hb7 hg7
      obtain ⟨pt, hpt⟩ : ∃ pt, pt = pl ++ [255] := ⟨_, rfl⟩
      rw [← hpt] at hb7
      obtain ⟨ta, tcap, rfl, _⟩ := hb7.shape
      have HPT := Hold.mk hpt
      have hq7 := HQ6.out.trans (HO6.out.below hg7)
      have HBL7 := Hold.mk (HBL.out.trans (hq7.mono HBL.out.size))
      have HTV := Hold.mk (hb7.bel HBW.out.size)
      have HP7 := Hold.mk (HP.out.quiet hq7)
      obtain ⟨W8, hW8⟩ : ∃ W8, W8 = w7.alloc (.cells #[.int .i64 0, .slice pa pl.length pcap, .slice ta pt.length tcap] 35) := ⟨_, rfl⟩
      have hb8 : Below w7.heap.size w7 W8 := by rw [hW8]; exact (Below.refl _ w7).alloc (Nat.le_refl _) _
      have HO8 : Hold (W8.heap[w7.heap.size]? = some (.cells #[.int .i64 0, .slice pa pl.length pcap, .slice ta pt.length tcap] 35 (0, 0))) := ⟨by rw [hW8]; exact heap_alloc_new w7 _⟩
      have HP8 := Hold.mk (HP7.out.quiet hb8)
      have HT8 := Hold.mk (HTV.out.quiet hb8)
      have HBL8 := Hold.mk (HBL7.out.trans (hb8.mono HBL7.out.size))
      have HBW8 : Hold (Below w.heap.size w W8) := ⟨HB1.out.trans (HBL8.out.mono HB1.out.size)⟩
      have HOB : Hold (w.heap.size + 2 < w7.heap.size) := ⟨by have h1 := heap_lt HE2.out; have h2 := HBL7.out.size; omega⟩
      have HOB1 : Hold (W1.heap.size ≤ w7.heap.size) := ⟨HBL7.out.size⟩
      clear hb7 hg7 hpt hq7 hb8 HO6 HQ6 HP HP7 HTV
      go_upto_region 16 with (fail)
      rw [← hW8]
      clear hW8
      generalize w7.heap.size = ob at *
      obtain ⟨y0, y1, y2⟩ := cells_three (kept HE1.out HBL8.out)
      rcases HOR.out with ⟨hjl, hsr⟩ | ⟨fd, hfd, hsr⟩
      · have HSE := Hold.mk hsr
        have hjb : ((j : Int) == (l.length : Int)) = true := by rw [hjl]; simp
        have HRR := Hold.mk (kept HE2.out HBL8.out)
        obtain ⟨c0, c1, c2⟩ := cells_three HO8.out
        obtain ⟨r0, r1, r2⟩ := cells_three HRR.out
        have f0 := free_box HRR.out 0
        have f1 := free_box HRR.out 1
        have f2 := free_box HRR.out 2
        clear hjl hsr
        go_wp2_with fail
        obtain ⟨W, hW⟩ : ∃ W, W = ((W8.setCell ⟨w.heap.size + 2, 0, none⟩ (.int .i64 0)).setCell ⟨w.heap.size + 2, 1, none⟩ (.slice pa pl.length pcap)).setCell ⟨w.heap.size + 2, 2, none⟩ (.slice ta pt.length tcap) := ⟨_, rfl⟩
        rw [← hW]
        obtain ⟨hbk, h1, h2, hbw⟩ := span_done HBW8.out (by omega) HRR.out HP8.out HT8.out hW
        clear c0 c1 c2
        obtain ⟨c0, c1, c2⟩ := cells_three hbk
        refine bodyPost_ret (v := .tuple #[.agg #[.int .i64 0, .slice pa pl.length pcap, .slice ta pt.length tcap], .int .i64 (r : Int)]) (by simp [results, Tryz.results48, go_sem, c0, c1, c2]) rfl ?_
        rw [HSE.out, ← HPT.out]
        exact ⟨_, _, rfl, h1, h2, hbw⟩
      · have HSE := Hold.mk hsr
        have HFD := Hold.mk hfd
        have hjlt : j < l.length := (List.getElem?_eq_some_iff.1 hfd).1
        have hjb : ((j : Int) == (l.length : Int)) = false := by rw [beq_eq_false_iff_ne]; omega
        have HSS := Hold.mk (HSG.out fd (List.mem_of_getElem? hfd))
        obtain ⟨hps, b, off, rfl, x0, x1⟩ := HE.out j fd hfd
        have HX0 := Hold.mk x0
        have HX1 := Hold.mk x1
        obtain ⟨s, dn⟩ := fd
        simp only at *
        clear hfd hsr x0 x1
        have hGE : ([36, 103, 116] : List UInt8) ≠ [36, 103, 101] := by decide
        obtain ⟨W9, hW9⟩ : ∃ W9, W9 = (W8.alloc (.cells (nm2 bGt bGe) 163)).alloc (.cells (nm2 bLt bLe) 163) := ⟨_, rfl⟩
        have hb9 : Below W8.heap.size W8 W9 := by rw [hW9]; exact ((Below.refl _ W8).alloc (Nat.le_refl _) _).alloc (by simp) _
        have HGB : Hold (W9.heap[W8.heap.size]? = some (.cells (nm2 bGt bGe) 163 (0, 0))) := ⟨by rw [hW9]; exact kept (heap_alloc_new W8 _) ((Below.refl _ _).alloc (Nat.le_refl _) _)⟩
        have HLB : Hold (W9.heap[W8.heap.size + 1]? = some (.cells (nm2 bLt bLe) 163 (0, 0))) := ⟨by
          rw [hW9]
          have := heap_alloc_new (W8.alloc (.cells (nm2 bGt bGe) 163)) (.cells (nm2 bLt bLe) 163)
          simpa using this⟩
        have HO9 := Hold.mk (kept HO8.out hb9)
        have HP9 := Hold.mk (HP8.out.quiet hb9)
        have HT9 := Hold.mk (HT8.out.quiet hb9)
        have HBL9 := Hold.mk (HBL8.out.trans (hb9.mono HBL8.out.size))
        clear hb9 hGE
        go_upto_region 19 with (fail)
        rw [← hW9]
        clear hW9 y0 y1 y2
        generalize W8.heap.size = gb at *

        have HBW9 : Hold (Below w.heap.size w W9) := ⟨HB1.out.trans (HBL9.out.mono HB1.out.size)⟩
        obtain ⟨v0, v1, v2, v3, v4⟩ := cells_five (kept HE0.out HBL9.out)
        obtain ⟨y0, y1, y2⟩ := cells_three (kept HE1.out HBL9.out)
        have z0 := (HC.out.trans (cle_below HBW9.out)) _ _ _ HX0.out
        have z1 := (HC.out.trans (cle_below HBW9.out)) _ _ _ HX1.out
        unfold cf at z0 z1
        obtain ⟨u0, u1⟩ := cells_two HGB.out
        have g0 := Grow.cell v0
        have g1 := Grow.cell v1
        have g2 := Grow.cell v2
        have g3 := Grow.cell v3
        have g4 := Grow.cell v4
        have g5 := Grow.cell y1
        have g6 := Grow.cell z0
        have g7 := Grow.cell z1
        have g8 := Grow.cell u0
        have g9 := Grow.cell u1
        go_upto_region 19 with (fail)
        clear v0 v1 v2 v3 v4 y0 y1 y2 z0 z1 u0 u1
        refine wp_region_mix 14 rfl (by kernel_rfl) ?_
        rintro w10 hb10
        refine mixl_seg (by kernel_rfl) (fun _ _ d _ _ h => by cases d <;> exact h) [0, 1, 2, 3, 4, 5, 6, 7] [_, _, _, _, _, _, _, _] 6 14 rfl _ _ _ rfl (by kernel_rfl) (growC hb10) ?_
        repeat (go_big_quiet_step (fail))
        refine wpQuiet_nil ?_
        clear g0 g1 g2 g3 g4 g5 g6 g7 g8 g9
        have HB10 := Hold.mk hb10
        have HBD : Hold (Calls Tryz.prog 107 #[.agg #[.int .i64 k, .int .i64 n, .string t, .slice na nm.length ncap, .slice ia it.length icap], .slice pa pl.length pcap, .agg #[.string s, .bool dn], .agg #[.string bGt, .string bGe], .string bGt] w10 fun e w' => ∃ sv, e = .returned (.tuple #[sv, .bool (boundF L pl (s, dn) bGt bGe true).isSome]) ∧ BRow w10.heap.size w' sv ((boundF L pl (s, dn) bGt bGe true).getD []) ∧ Below w10.heap.size w10 w') := ⟨HBN.out _ _ pl (s, dn) bGt bGe true w10 (HBW9.out.trans (hb10.mono HBW9.out.size)) (HP9.out.quiet hb10) HPL.out HSS.out (list_ne (by decide))⟩
        obtain ⟨o21, ho21⟩ : ∃ o21, o21 = boundF L pl (s, dn) bGt bGe true := ⟨_, rfl⟩
        rw [← ho21] at HBD
        have HOE21 := Hold.mk ho21
        clear hb10 ho21
        refine mixl_act (i := 8) rfl (by kernel_rfl) (growC HB10.out) rfl (fun K hK => ?_)
        go_wp2_with fail
        refine HBD.out.mono ?_
        rintro e W21 ⟨sv, rfl, hsv, hb11⟩
        obtain ⟨l21, hl21⟩ : ∃ l21, l21 = o21.getD [] := ⟨_, rfl⟩
        rw [← hl21] at hsv
        obtain ⟨a21, c21, rfl, _⟩ := hsv.shape
        have HLE21 := Hold.mk hl21
        have HB11 := Hold.mk (HB10.out.trans (hb11.mono HB10.out.size))
        have HRW21 : Hold (BRow w.heap.size W21 (.slice a21 l21.length c21) l21) := ⟨hsv.bel (Nat.le_trans HBW9.out.size HB10.out.size)⟩
        have HO21 := Hold.mk (kept HO9.out HB11.out)
        have HP21 := Hold.mk (HP9.out.quiet HB11.out)
        have HT21 := Hold.mk (HT9.out.quiet HB11.out)
        have HBL21 := Hold.mk (HBL9.out.trans (HB11.out.mono HBL9.out.size))
        have HGB21 := Hold.mk (kept HGB.out HB11.out)
        have HLB21 := Hold.mk (kept HLB.out HB11.out)
        have HS21 := Hold.mk (HB11.out)
        clear hsv hb11 hl21 HBD
        go_wp2_with fail
        refine mixl_seg (by kernel_rfl) (fun _ _ d _ _ h => by cases d <;> exact h) [9, 10, 11, 12, 13] [_, _, _, _, _] 0 5 rfl _ _ _ rfl (by kernel_rfl) (growC HB11.out) ?_
        repeat (go_big_quiet_step (fail))
        refine wpQuiet_nil ?_
        refine mix_done (by kernel_rfl) (growC HB11.out) ?_
        clear HB10 HB11
        have HBW21 : Hold (Below w.heap.size w W21) := ⟨HB1.out.trans (HBL21.out.mono HB1.out.size)⟩
        obtain ⟨v0, v1, v2, v3, v4⟩ := cells_five (kept HE0.out HBL21.out)
        obtain ⟨y0, y1, y2⟩ := cells_three (kept HE1.out HBL21.out)
        have z0 := (HC.out.trans (cle_below HBW21.out)) _ _ _ HX0.out
        have z1 := (HC.out.trans (cle_below HBW21.out)) _ _ _ HX1.out
        unfold cf at z0 z1
        obtain ⟨u0, u1⟩ := cells_two HLB21.out
        have g0 := Grow.cell v0
        have g1 := Grow.cell v1
        have g2 := Grow.cell v2
        have g3 := Grow.cell v3
        have g4 := Grow.cell v4
        have g5 := Grow.cell y1
        have g6 := Grow.cell z0
        have g7 := Grow.cell z1
        have g8 := Grow.cell u0
        have g9 := Grow.cell u1
        go_upto_region 20 with (fail)
        clear v0 v1 v2 v3 v4 y0 y1 y2 z0 z1 u0 u1
        refine wp_region_mix 14 rfl (by kernel_rfl) ?_
        rintro w10 hb10
        refine mixl_seg (by kernel_rfl) (fun _ _ d _ _ h => by cases d <;> exact h) [0, 1, 2, 3, 4, 5, 6, 7] [_, _, _, _, _, _, _, _] 6 14 rfl _ _ _ rfl (by kernel_rfl) (growC hb10) ?_
        repeat (go_big_quiet_step (fail))
        refine wpQuiet_nil ?_
        clear g0 g1 g2 g3 g4 g5 g6 g7 g8 g9
        have HB10 := Hold.mk hb10
        have HBD : Hold (Calls Tryz.prog 107 #[.agg #[.int .i64 k, .int .i64 n, .string t, .slice na nm.length ncap, .slice ia it.length icap], .slice pa pl.length pcap, .agg #[.string s, .bool dn], .agg #[.string bLt, .string bLe], .string bLe] w10 fun e w' => ∃ sv, e = .returned (.tuple #[sv, .bool (boundF L pl (s, dn) bLt bLe false).isSome]) ∧ BRow w10.heap.size w' sv ((boundF L pl (s, dn) bLt bLe false).getD []) ∧ Below w10.heap.size w10 w') := ⟨HBN.out _ _ pl (s, dn) bLt bLe false w10 (HBW21.out.trans (hb10.mono HBW21.out.size)) (HP21.out.quiet hb10) HPL.out HSS.out (list_ne (by decide))⟩
        obtain ⟨o22, ho22⟩ : ∃ o22, o22 = boundF L pl (s, dn) bLt bLe false := ⟨_, rfl⟩
        rw [← ho22] at HBD
        have HOE22 := Hold.mk ho22
        clear hb10 ho22
        refine mixl_act (i := 8) rfl (by kernel_rfl) (growC HB10.out) rfl (fun K hK => ?_)
        go_wp2_with fail
        refine HBD.out.mono ?_
        rintro e W22 ⟨sv, rfl, hsv, hb11⟩
        obtain ⟨l22, hl22⟩ : ∃ l22, l22 = o22.getD [] := ⟨_, rfl⟩
        rw [← hl22] at hsv
        obtain ⟨a22, c22, rfl, _⟩ := hsv.shape
        have HLE22 := Hold.mk hl22
        have HB11 := Hold.mk (HB10.out.trans (hb11.mono HB10.out.size))
        have HRW22 : Hold (BRow w.heap.size W22 (.slice a22 l22.length c22) l22) := ⟨hsv.bel (Nat.le_trans HBW21.out.size HB10.out.size)⟩
        have HO22 := Hold.mk (kept HO21.out HB11.out)
        have HP22 := Hold.mk (HP21.out.quiet HB11.out)
        have HT22 := Hold.mk (HT21.out.quiet HB11.out)
        have HBL22 := Hold.mk (HBL21.out.trans (HB11.out.mono HBL21.out.size))
        have HGB22 := Hold.mk (kept HGB21.out HB11.out)
        have HLB22 := Hold.mk (kept HLB21.out HB11.out)
        have HRW21_22 := Hold.mk (HRW21.out.quiet HB11.out)
        have HS22 := Hold.mk (HB11.out)
        clear hsv hb11 hl22 HBD
        go_wp2_with fail
        refine mixl_seg (by kernel_rfl) (fun _ _ d _ _ h => by cases d <;> exact h) [9, 10, 11, 12, 13] [_, _, _, _, _] 0 5 rfl _ _ _ rfl (by kernel_rfl) (growC HB11.out) ?_
        repeat (go_big_quiet_step (fail))
        refine wpQuiet_nil ?_
        refine mix_done (by kernel_rfl) (growC HB11.out) ?_
        clear HB10 HB11
        have HBW22 : Hold (Below w.heap.size w W22) := ⟨HB1.out.trans (HBL22.out.mono HB1.out.size)⟩
        obtain ⟨y0, y1, y2⟩ := cells_three (kept HE1.out HBL22.out)
        have z1 := (HC.out.trans (cle_below HBW22.out)) _ _ _ HX1.out
        unfold cf at z1
        go_upto_if 102 with (fail)
        clear y0 y1 y2 z1
        go_cut [15, 16, 17, 18] (fun s15 s16 s17 s18 wx => s16 = .bool (lowF L pl (s, dn)).isSome ∧ s18 = .bool (highF L pl (s, dn)).isSome ∧ BRow w.heap.size wx s15 ((lowF L pl (s, dn)).getD []) ∧ BRow w.heap.size wx s17 ((highF L pl (s, dn)).getD []) ∧ Below W22.heap.size W22 wx)
        case first =>
          cases dn with
          | false =>
            have HLO : Hold (lowF L pl (s, false) = o21) := ⟨by rw [HOE21.out]; unfold lowF; rw [if_neg (by simp)]⟩
            have HHI : Hold (highF L pl (s, false) = o22) := ⟨by rw [HOE22.out]; unfold highF; rw [if_neg (by simp)]⟩
            go_wp2_with fail
            go_meet
            case rel => exact ⟨by rw [HLO.out], by rw [HHI.out], by rw [HLO.out, ← HLE21.out]; exact HRW21_22.out, by rw [HHI.out, ← HLE22.out]; exact HRW22.out, Below.refl _ _⟩
          | true =>
            have HLOD : Hold (lowF L pl (s, true) = boundF L pl (s, true) bLt bLe true) := ⟨by unfold lowF; rw [if_pos rfl]⟩
            have HHID : Hold (highF L pl (s, true) = boundF L pl (s, true) bGt bGe false) := ⟨by unfold highF; rw [if_pos rfl]⟩
            have HBW22 : Hold (Below w.heap.size w W22) := ⟨HB1.out.trans (HBL22.out.mono HB1.out.size)⟩
            obtain ⟨v0, v1, v2, v3, v4⟩ := cells_five (kept HE0.out HBL22.out)
            obtain ⟨y0, y1, y2⟩ := cells_three (kept HE1.out HBL22.out)
            have z0 := (HC.out.trans (cle_below HBW22.out)) _ _ _ HX0.out
            have z1 := (HC.out.trans (cle_below HBW22.out)) _ _ _ HX1.out
            unfold cf at z0 z1
            obtain ⟨u0, u1⟩ := cells_two HLB22.out
            have g0 := Grow.cell v0
            have g1 := Grow.cell v1
            have g2 := Grow.cell v2
            have g3 := Grow.cell v3
            have g4 := Grow.cell v4
            have g5 := Grow.cell y1
            have g6 := Grow.cell z0
            have g7 := Grow.cell z1
            have g8 := Grow.cell u0
            have g9 := Grow.cell u1
            go_upto_region 22 with (fail)
            clear v0 v1 v2 v3 v4 y0 y1 y2 z0 z1 u0 u1
            refine wp_region_mix 14 rfl (by kernel_rfl) ?_
            rintro w10 hb10
            refine mixl_seg (by kernel_rfl) (fun _ _ d _ _ h => by cases d <;> exact h) [0, 1, 2, 3, 4, 5, 6, 7] [_, _, _, _, _, _, _, _] 6 14 rfl _ _ _ rfl (by kernel_rfl) (growC hb10) ?_
            repeat (go_big_quiet_step (fail))
            refine wpQuiet_nil ?_
            clear g0 g1 g2 g3 g4 g5 g6 g7 g8 g9
            have HB10 := Hold.mk hb10
            have HBD : Hold (Calls Tryz.prog 107 #[.agg #[.int .i64 k, .int .i64 n, .string t, .slice na nm.length ncap, .slice ia it.length icap], .slice pa pl.length pcap, .agg #[.string s, .bool true], .agg #[.string bLt, .string bLe], .string bLt] w10 fun e w' => ∃ sv, e = .returned (.tuple #[sv, .bool (boundF L pl (s, true) bLt bLe true).isSome]) ∧ BRow w10.heap.size w' sv ((boundF L pl (s, true) bLt bLe true).getD []) ∧ Below w10.heap.size w10 w') := ⟨HBN.out _ _ pl (s, true) bLt bLe true w10 (HBW22.out.trans (hb10.mono HBW22.out.size)) (HP22.out.quiet hb10) HPL.out HSS.out (list_ne (by decide))⟩
            obtain ⟨o23, ho23⟩ : ∃ o23, o23 = boundF L pl (s, true) bLt bLe true := ⟨_, rfl⟩
            rw [← ho23] at HBD
            have HOE23 := Hold.mk ho23
            clear hb10 ho23
            refine mixl_act (i := 8) rfl (by kernel_rfl) (growC HB10.out) rfl (fun K hK => ?_)
            go_wp2_with fail
            refine HBD.out.mono ?_
            rintro e W23 ⟨sv, rfl, hsv, hb11⟩
            obtain ⟨l23, hl23⟩ : ∃ l23, l23 = o23.getD [] := ⟨_, rfl⟩
            rw [← hl23] at hsv
            obtain ⟨a23, c23, rfl, _⟩ := hsv.shape
            have HLE23 := Hold.mk hl23
            have HB11 := Hold.mk (HB10.out.trans (hb11.mono HB10.out.size))
            have HRW23 : Hold (BRow w.heap.size W23 (.slice a23 l23.length c23) l23) := ⟨hsv.bel (Nat.le_trans HBW22.out.size HB10.out.size)⟩
            have HO23 := Hold.mk (kept HO22.out HB11.out)
            have HP23 := Hold.mk (HP22.out.quiet HB11.out)
            have HT23 := Hold.mk (HT22.out.quiet HB11.out)
            have HBL23 := Hold.mk (HBL22.out.trans (HB11.out.mono HBL22.out.size))
            have HGB23 := Hold.mk (kept HGB22.out HB11.out)
            have HLB23 := Hold.mk (kept HLB22.out HB11.out)
            have HS23 := Hold.mk (HB11.out)
            clear hsv hb11 hl23 HBD
            go_wp2_with fail
            refine mixl_seg (by kernel_rfl) (fun _ _ d _ _ h => by cases d <;> exact h) [9, 10, 11, 12, 13] [_, _, _, _, _] 0 5 rfl _ _ _ rfl (by kernel_rfl) (growC HB11.out) ?_
            repeat (go_big_quiet_step (fail))
            refine wpQuiet_nil ?_
            refine mix_done (by kernel_rfl) (growC HB11.out) ?_
            clear HB10 HB11
            have HBW23 : Hold (Below w.heap.size w W23) := ⟨HB1.out.trans (HBL23.out.mono HB1.out.size)⟩
            obtain ⟨v0, v1, v2, v3, v4⟩ := cells_five (kept HE0.out HBL23.out)
            obtain ⟨y0, y1, y2⟩ := cells_three (kept HE1.out HBL23.out)
            have z0 := (HC.out.trans (cle_below HBW23.out)) _ _ _ HX0.out
            have z1 := (HC.out.trans (cle_below HBW23.out)) _ _ _ HX1.out
            unfold cf at z0 z1
            obtain ⟨u0, u1⟩ := cells_two HGB23.out
            have g0 := Grow.cell v0
            have g1 := Grow.cell v1
            have g2 := Grow.cell v2
            have g3 := Grow.cell v3
            have g4 := Grow.cell v4
            have g5 := Grow.cell y1
            have g6 := Grow.cell z0
            have g7 := Grow.cell z1
            have g8 := Grow.cell u0
            have g9 := Grow.cell u1
            go_upto_region 23 with (fail)
            clear v0 v1 v2 v3 v4 y0 y1 y2 z0 z1 u0 u1
            refine wp_region_mix 14 rfl (by kernel_rfl) ?_
            rintro w10 hb10
            refine mixl_seg (by kernel_rfl) (fun _ _ d _ _ h => by cases d <;> exact h) [0, 1, 2, 3, 4, 5, 6, 7] [_, _, _, _, _, _, _, _] 6 14 rfl _ _ _ rfl (by kernel_rfl) (growC hb10) ?_
            repeat (go_big_quiet_step (fail))
            refine wpQuiet_nil ?_
            clear g0 g1 g2 g3 g4 g5 g6 g7 g8 g9
            have HB10 := Hold.mk hb10
            have HBD : Hold (Calls Tryz.prog 107 #[.agg #[.int .i64 k, .int .i64 n, .string t, .slice na nm.length ncap, .slice ia it.length icap], .slice pa pl.length pcap, .agg #[.string s, .bool true], .agg #[.string bGt, .string bGe], .string bGe] w10 fun e w' => ∃ sv, e = .returned (.tuple #[sv, .bool (boundF L pl (s, true) bGt bGe false).isSome]) ∧ BRow w10.heap.size w' sv ((boundF L pl (s, true) bGt bGe false).getD []) ∧ Below w10.heap.size w10 w') := ⟨HBN.out _ _ pl (s, true) bGt bGe false w10 (HBW23.out.trans (hb10.mono HBW23.out.size)) (HP23.out.quiet hb10) HPL.out HSS.out (list_ne (by decide))⟩
            obtain ⟨o24, ho24⟩ : ∃ o24, o24 = boundF L pl (s, true) bGt bGe false := ⟨_, rfl⟩
            rw [← ho24] at HBD
            have HOE24 := Hold.mk ho24
            clear hb10 ho24
            refine mixl_act (i := 8) rfl (by kernel_rfl) (growC HB10.out) rfl (fun K hK => ?_)
            go_wp2_with fail
            refine HBD.out.mono ?_
            rintro e W24 ⟨sv, rfl, hsv, hb11⟩
            obtain ⟨l24, hl24⟩ : ∃ l24, l24 = o24.getD [] := ⟨_, rfl⟩
            rw [← hl24] at hsv
            obtain ⟨a24, c24, rfl, _⟩ := hsv.shape
            have HLE24 := Hold.mk hl24
            have HB11 := Hold.mk (HB10.out.trans (hb11.mono HB10.out.size))
            have HRW24 : Hold (BRow w.heap.size W24 (.slice a24 l24.length c24) l24) := ⟨hsv.bel (Nat.le_trans HBW23.out.size HB10.out.size)⟩
            have HO24 := Hold.mk (kept HO23.out HB11.out)
            have HP24 := Hold.mk (HP23.out.quiet HB11.out)
            have HT24 := Hold.mk (HT23.out.quiet HB11.out)
            have HBL24 := Hold.mk (HBL23.out.trans (HB11.out.mono HBL23.out.size))
            have HGB24 := Hold.mk (kept HGB23.out HB11.out)
            have HLB24 := Hold.mk (kept HLB23.out HB11.out)
            have HRW23_24 := Hold.mk (HRW23.out.quiet HB11.out)
            have HS24 := Hold.mk (HB11.out)
            clear hsv hb11 hl24 HBD
            go_wp2_with fail
            refine mixl_seg (by kernel_rfl) (fun _ _ d _ _ h => by cases d <;> exact h) [9, 10, 11, 12, 13] [_, _, _, _, _] 0 5 rfl _ _ _ rfl (by kernel_rfl) (growC HB11.out) ?_
            repeat (go_big_quiet_step (fail))
            refine wpQuiet_nil ?_
            refine mix_done (by kernel_rfl) (growC HB11.out) ?_
            clear HB10 HB11
            have hbb := HS23.out.trans (HS24.out.mono HS23.out.size)
            go_wp2_with fail
            go_meet
            case rel => exact ⟨by rw [HLOD.out, HOE23.out], by rw [HHID.out, HOE24.out], by rw [HLOD.out, ← HOE23.out, ← HLE23.out]; exact HRW23_24.out, by rw [HHID.out, ← HOE24.out, ← HLE24.out]; exact HRW24.out, hbb⟩
        case rest =>
          obtain ⟨rfl, rfl, hlr, hhr, hbq⟩ := hcut
          generalize wc = W30 at *
          generalize u15 = lv at *
          generalize u17 = hv at *
          obtain ⟨lo, hlo⟩ : ∃ lo, lo = lowF L pl (s, dn) := ⟨_, rfl⟩
          obtain ⟨hi, hhi⟩ : ∃ hi, hi = highF L pl (s, dn) := ⟨_, rfl⟩
          rw [← hlo] at hlr ⊢
          rw [← hhi] at hhr ⊢
          obtain ⟨ll, hll⟩ : ∃ ll, ll = lo.getD [] := ⟨_, rfl⟩
          obtain ⟨hl2, hhl⟩ : ∃ hl2, hl2 = hi.getD [] := ⟨_, rfl⟩
          rw [← hll] at hlr
          rw [← hhl] at hhr
          obtain ⟨lva, lvc, rfl, _⟩ := hlr.shape
          obtain ⟨hva, hvc, rfl, _⟩ := hhr.shape
          have HSF : Hold (sr = ((lo.getD pl, hi.getD (pl ++ [255])), if (lo.isSome || hi.isSome) = true then r + 1 else r)) := ⟨by rw [HSE.out, hlo, hhi]; rfl⟩
          have HLL := Hold.mk hll
          have HHL := Hold.mk hhl
          have HLR := Hold.mk hlr
          have HHR := Hold.mk hhr
          have HO30 := Hold.mk (kept HO22.out hbq)
          have HP30 := Hold.mk (HP22.out.quiet hbq)
          have HT30 := Hold.mk (HT22.out.quiet hbq)
          have HBL30 := Hold.mk (HBL22.out.trans (hbq.mono HBL22.out.size))
          have HBW30 : Hold (Below w.heap.size w W30) := ⟨HB1.out.trans (HBL30.out.mono HB1.out.size)⟩
          clear hlo hhi hll hhl hlr hhr hbq
          go_upto_if 127 with (fail)
          go_cut [] (fun wx => ∃ gv : Value, wx.heap[ob]? = some (.cells #[.int .i64 0, gv, .slice ta pt.length tcap] 35 (0, 0)) ∧ BRow w.heap.size wx gv (lo.getD pl) ∧ W30.grownBy wx (some ob))
          case first =>
            cases lo with
            | none =>
              go_wp2_with fail
              go_meet
              case rel => exact ⟨_, HO30.out, HP30.out, grown_below (Below.refl _ _)⟩
            | some q =>
              obtain ⟨c0, c1, c2⟩ := cells_three HO30.out
              have f1 := free_box HO30.out 1
              have HRL : Hold (W30.grownBy (W30.setCell ⟨ob, 1, none⟩ (.slice lva ll.length lvc)) (some ob)) := ⟨grown_set _ _ _ _⟩
              have HRO : Hold ((W30.setCell ⟨ob, 1, none⟩ (.slice lva ll.length lvc)).heap[ob]? = some (.cells #[.int .i64 0, .slice lva ll.length lvc, .slice ta pt.length tcap] 35 (0, 0))) := ⟨by
                have := set_self (o := 1) (c := .slice lva ll.length lvc) HO30.out
                simpa using this⟩
              have HRB : Hold (BRow w.heap.size (W30.setCell ⟨ob, 1, none⟩ (.slice lva ll.length lvc)) (.slice lva ll.length lvc) q) := ⟨by
                have h := HLR.out.butR HO30.out HRL.out
                have e : ll = q := HLL.out
                rw [e] at h ⊢
                exact h⟩
              go_wp2_with fail
              go_meet
              case rel => exact ⟨_, HRO.out, HRB.out, HRL.out⟩
          case rest =>
            obtain ⟨gv, ho31, hg31, hk31⟩ := hcut
            generalize wc = W31 at *
            obtain ⟨gl, hgl⟩ : ∃ gl, gl = lo.getD pl := ⟨_, rfl⟩
            rw [← hgl] at hg31
            obtain ⟨ga, gcap, rfl, _⟩ := hg31.shape
            have HGL := Hold.mk hgl
            have HO31 := Hold.mk ho31
            have HG31 := Hold.mk hg31
            have HT31 := Hold.mk (HT30.out.butR HO30.out hk31)
            have HH31 := Hold.mk (HHR.out.butR HO30.out hk31)
            have HBL31 := Hold.mk (HBL30.out.trans (grown_low hk31 HBL30.out.size (by have := HOB1.out; omega)))
            clear hgl ho31 hg31 hk31
            go_upto_if 130 with (fail)
            go_cut [] (fun wx => ∃ gv : Value, wx.heap[ob]? = some (.cells #[.int .i64 0, .slice ga gl.length gcap, gv] 35 (0, 0)) ∧ BRow w.heap.size wx gv (hi.getD pt) ∧ W31.grownBy wx (some ob))
            case first =>
              cases hi with
              | none =>
                go_wp2_with fail
                go_meet
                case rel => exact ⟨_, HO31.out, HT31.out, grown_below (Below.refl _ _)⟩
              | some q =>
                obtain ⟨c0, c1, c2⟩ := cells_three HO31.out
                have f2 := free_box HO31.out 2
                have HRL : Hold (W31.grownBy (W31.setCell ⟨ob, 2, none⟩ (.slice hva hl2.length hvc)) (some ob)) := ⟨grown_set _ _ _ _⟩
                have HRO : Hold ((W31.setCell ⟨ob, 2, none⟩ (.slice hva hl2.length hvc)).heap[ob]? = some (.cells #[.int .i64 0, .slice ga gl.length gcap, .slice hva hl2.length hvc] 35 (0, 0))) := ⟨by
                  have := set_self (o := 2) (c := .slice hva hl2.length hvc) HO31.out
                  simpa using this⟩
                have HRB : Hold (BRow w.heap.size (W31.setCell ⟨ob, 2, none⟩ (.slice hva hl2.length hvc)) (.slice hva hl2.length hvc) q) := ⟨by
                  have h := HH31.out.butR HO31.out HRL.out
                  have e : hl2 = q := HHL.out
                  rw [e] at h ⊢
                  exact h⟩
                go_wp2_with fail
                go_meet
                case rel => exact ⟨_, HRO.out, HRB.out, HRL.out⟩
            case rest =>
              obtain ⟨gv, ho32, hg32, hk32⟩ := hcut
              generalize wc = W32 at *
              obtain ⟨ul, hul⟩ : ∃ ul, ul = hi.getD pt := ⟨_, rfl⟩
              rw [← hul] at hg32
              obtain ⟨ua, ucap, rfl, _⟩ := hg32.shape
              have HG32 := Hold.mk (HG31.out.butR HO31.out hk32)
              have HU32 := Hold.mk hg32
              have HBL32 := Hold.mk (HBL31.out.trans (grown_low hk32 HBL31.out.size (by have := HOB1.out; omega)))
              have HBW32 : Hold (Below w.heap.size w W32) := ⟨HB1.out.trans (HBL32.out.mono HB1.out.size)⟩
              have HRR := Hold.mk (kept HE2.out HBL32.out)
              have HUL := Hold.mk hul
              obtain ⟨c0, c1, c2⟩ := cells_three ho32
              obtain ⟨r0, r1, r2⟩ := cells_three HRR.out
              have f0 := free_box HRR.out 0
              have f1 := free_box HRR.out 1
              have f2 := free_box HRR.out 2
              obtain ⟨b1, hb1⟩ : ∃ b1, b1 = lo.isSome := ⟨_, rfl⟩
              obtain ⟨b2, hb2⟩ : ∃ b2, b2 = hi.isSome := ⟨_, rfl⟩
              have HBB := Hold.mk (And.intro hb1 hb2)
              rw [← hb1, ← hb2]
              clear ho32 hg32 hk32 hul hb1 hb2
              obtain ⟨W, hW⟩ : ∃ W, W = ((W32.setCell ⟨w.heap.size + 2, 0, none⟩ (.int .i64 0)).setCell ⟨w.heap.size + 2, 1, none⟩ (.slice ga gl.length gcap)).setCell ⟨w.heap.size + 2, 2, none⟩ (.slice ua ul.length ucap) := ⟨_, rfl⟩
              have HDN := Hold.mk (span_done HBW32.out (by omega) HRR.out HG32.out HU32.out hW)
              have HWW := Hold.mk hW
              clear hW
              cases b1 with
              | false =>
                cases b2 with
                | false =>
                  have HRES : Hold (sr = ((gl, ul), r)) := ⟨by
                    rw [HSF.out, HGL.out, HUL.out, HPT.out, ← HBB.out.1, ← HBB.out.2]; rfl⟩
                  go_wp2_with fail
                  rw [← HWW.out]
                  clear c0 c1 c2
                  obtain ⟨c0, c1, c2⟩ := cells_three HDN.out.1
                  refine bodyPost_ret (v := .tuple #[.agg #[.int .i64 0, .slice ga gl.length gcap, .slice ua ul.length ucap], .int .i64 ((r : Nat) : Int)]) (by simp [results, Tryz.results48, go_sem, c0, c1, c2]) rfl ?_
                  rw [HRES.out]
                  exact ⟨_, _, rfl, HDN.out.2.1, HDN.out.2.2.1, HDN.out.2.2.2⟩
                | true =>
                  have HRES : Hold (sr = ((gl, ul), r + 1)) := ⟨by
                    rw [HSF.out, HGL.out, HUL.out, HPT.out, ← HBB.out.1, ← HBB.out.2]; rfl⟩
                  go_wp2_with fail
                  rw [← HWW.out]
                  clear c0 c1 c2
                  obtain ⟨c0, c1, c2⟩ := cells_three HDN.out.1
                  refine bodyPost_ret (v := .tuple #[.agg #[.int .i64 0, .slice ga gl.length gcap, .slice ua ul.length ucap], .int .i64 ((r + 1 : Nat) : Int)]) (by simp [results, Tryz.results48, go_sem, c0, c1, c2]) rfl ?_
                  rw [HRES.out]
                  exact ⟨_, _, rfl, HDN.out.2.1, HDN.out.2.2.1, HDN.out.2.2.2⟩
              | true =>
                cases b2 with
                | false =>
                  have HRES : Hold (sr = ((gl, ul), r + 1)) := ⟨by
                    rw [HSF.out, HGL.out, HUL.out, HPT.out, ← HBB.out.1, ← HBB.out.2]; rfl⟩
                  go_wp2_with fail
                  rw [← HWW.out]
                  clear c0 c1 c2
                  obtain ⟨c0, c1, c2⟩ := cells_three HDN.out.1
                  refine bodyPost_ret (v := .tuple #[.agg #[.int .i64 0, .slice ga gl.length gcap, .slice ua ul.length ucap], .int .i64 ((r + 1 : Nat) : Int)]) (by simp [results, Tryz.results48, go_sem, c0, c1, c2]) rfl ?_
                  rw [HRES.out]
                  exact ⟨_, _, rfl, HDN.out.2.1, HDN.out.2.2.1, HDN.out.2.2.2⟩
                | true =>
                  have HRES : Hold (sr = ((gl, ul), r + 1)) := ⟨by
                    rw [HSF.out, HGL.out, HUL.out, HPT.out, ← HBB.out.1, ← HBB.out.2]; rfl⟩
                  go_wp2_with fail
                  rw [← HWW.out]
                  clear c0 c1 c2
                  obtain ⟨c0, c1, c2⟩ := cells_three HDN.out.1
                  refine bodyPost_ret (v := .tuple #[.agg #[.int .i64 0, .slice ga gl.length gcap, .slice ua ul.length ucap], .int .i64 ((r + 1 : Nat) : Int)]) (by simp [results, Tryz.results48, go_sem, c0, c1, c2]) rfl ?_
                  rw [HRES.out]
                  exact ⟨_, _, rfl, HDN.out.2.1, HDN.out.2.2.1, HDN.out.2.2.2⟩

end Go.Proofs.YtcmfanfkcbjeoaaGreatDoor
