/- Answers: how the reference orders two documents. (printed by genXAC.py) -/
import Derived.Test.YtkhhbckpddkhlaaGreatDoorAB
import Derived.Test.YtkhhbckpddkhlaaGreatDoorFF
import Derived.Deep.DeepCutAuto
namespace Go.Proofs.YtkhhbckpddkhlaaGreatDoor
open Go.Shelf Go.RowKit

/-- a box of what Get handed back -/
def OBox (c : CF) (o : Option JV) (wr : World) (p q : Value) (wx : World) : Prop := ∃ (zb : Nat) (k n : Int) (t : ByteArray) (na : Option Addr) (nl nc : Nat) (ia : Option Addr) (il ic : Nat), p = .pointer (some ⟨zb, 0, none⟩) ∧ q = .bool o.isSome ∧
  wx.heap[zb]? = some (.cells #[.int .i64 k, .int .i64 n, .string t, .slice na nl nc, .slice ia il ic] 25 (0, 0)) ∧ (∀ u, o = some u → JAt c u (.agg #[.int .i64 k, .int .i64 n, .string t, .slice na nl nc, .slice ia il ic])) ∧ Below wr.heap.size wr wx
theorem get_optC {c : CF} {v : JV} {p : ByteArray} {w w' : World} {e : Ending} (h : GetPostC c v p w e w') : ∃ k n t na nl nc ia il ic, e = .returned (.tuple #[.agg #[.int .i64 k, .int .i64 n, .string t, .slice na nl nc, .slice ia il ic], .bool (getJ v p).isSome]) ∧ (∀ u, getJ v p = some u → JAt c u (.agg #[.int .i64 k, .int .i64 n, .string t, .slice na nl nc, .slice ia il ic])) ∧ Below w.heap.size w w' := by
  unfold GetPostC at h
  cases hg : getJ v p with
  | none =>
    rw [hg] at h
    obtain ⟨rfl, hb⟩ := h
    exact ⟨_, _, _, _, _, _, _, _, _, rfl, (fun u hu => by cases hu), hb⟩
  | some u =>
    rw [hg] at h
    obtain ⟨⟨x, rfl, hx⟩, hb⟩ := h
    have hx2 := hx
    obtain ⟨k, n, t, nm, it, na, nc, ia, ic, _, rfl, _⟩ := hx2.open
    exact ⟨k, n, t, na, nm.length, nc, ia, it.length, ic, rfl, (fun u' hu => by cases hu; exact hx), hb⟩

theorem cmpS_ltA (a b : ByteArray) : cmpS a b < 0 ↔ strLt a b = true := by
  unfold cmpS
  cases h : strLt a b with
  | true => simp
  | false => by_cases e : a = b <;> simp [e]

set_option maxRecDepth 100000 in
set_option maxHeartbeats 16000000 in
theorem rqLess_any (q : QR) (a b : DR) (d da db : List Value) (w : World) (hq : QAt (cf w) q d) (ha : RD (cf w) a da) (hb : RD (cf w) b db) (hsz : ∀ o ∈ q.sort, o.path.size ≤ 1000000) :
    Calls Tryz.prog 20 #[.agg d.toArray, .agg da.toArray, .agg db.toArray] w fun e w' => e = .returned (.bool (decide (docC q.sort a b < 0))) ∧ Below w.heap.size w w' := by
  obtain ⟨qk, qn, qt, qna, qnl, qnc, qia, qil, qic, sv, fv, rfl, _, hs, _⟩ := hq
  obtain ⟨sa, scap, rfl, hsle, hscap, hsel⟩ := hs
  obtain ⟨k, n, t, na, nl, ncap, ia, il, icap, rfl, _, _, hja⟩ := ha
  obtain ⟨k2, n2, t2, na2, nl2, ncap2, ia2, il2, icap2, rfl, _, _, hjb⟩ := hb
  have hsl3 : q.sort.length ≤ 9223372036854775807 := by omega
  have HSE := Hold.mk hsel
  have HJA := Hold.mk hja
  have HJB := Hold.mk hjb
  have HSZ := Hold.mk hsz
  have H3 := Hold.mk (ThreeA.refl w #[.int .i64 qk, .int .i64 qn, .string qt, .slice qna qnl qnc, .slice qia qil qic, .slice sa q.sort.length scap, fv, .int .i64 q.skip, .int .i64 q.lim] #[.string a.id, .int .i64 k, .int .i64 n, .string t, .slice na nl ncap, .slice ia il icap] #[.string b.id, .int .i64 k2, .int .i64 n2, .string t2, .slice na2 nl2 ncap2, .slice ia2 il2 icap2] 40 50 50)
  clear hsel hja hjb hsz
  go_enter Tryz.func20, Tryz.ntmps20
  go_upto_region 1 with (fail)
  obtain ⟨W, hW⟩ : ∃ W, W = (((w.alloc (.cells #[.int .i64 qk, .int .i64 qn, .string qt, .slice qna qnl qnc, .slice qia qil qic, .slice sa q.sort.length scap, fv, .int .i64 q.skip, .int .i64 q.lim] 40)).alloc (.cells #[.string a.id, .int .i64 k, .int .i64 n, .string t, .slice na nl ncap, .slice ia il icap] 50)).alloc (.cells #[.string b.id, .int .i64 k2, .int .i64 n2, .string t2, .slice na2 nl2 ncap2, .slice ia2 il2 icap2] 50)) := ⟨_, rfl⟩
  rw [← hW] at H3 ⊢
  clear hW
  go_wp2_with fail
  go_loopw [7] (fun i wr => ∃ j : Nat, i = .int .i64 j ∧ j ≤ q.sort.length ∧ sortC (q.sort.drop j) a b = sortC q.sort a b ∧ ThreeA w wr #[.int .i64 qk, .int .i64 qn, .string qt, .slice qna qnl qnc, .slice qia qil qic, .slice sa q.sort.length scap, fv, .int .i64 q.skip, .int .i64 q.lim] #[.string a.id, .int .i64 k, .int .i64 n, .string t, .slice na nl ncap, .slice ia il icap] #[.string b.id, .int .i64 k2, .int .i64 n2, .string t2, .slice na2 nl2 ncap2, .slice ia2 il2 icap2] 40 50 50) (fun i _ => q.sort.length - (intOf i).toNat)
  case atStart => exact ⟨0, rfl, Nat.zero_le _, rfl, H3.out⟩
  case round =>
    obtain ⟨j, rfl, hj, hst, h3⟩ := hrel
    clear H3
    have H3 := Hold.mk h3
    have HST := Hold.mk hst
    clear h3 hst
    obtain ⟨y0, y1, y2, y3, y4, y5, y6, y7, y8⟩ := cells9A H3.out.one
    by_cases hlt : j < q.sort.length
    · obtain ⟨o, ho⟩ : ∃ o, q.sort[j]? = some o := ⟨q.sort[j], List.getElem?_eq_getElem hlt⟩
      obtain ⟨ob, off, d, rfl, hd, hc, hoi⟩ := HSE.out j o ho
      have HSS := Hold.mk (sort_step (a := a) (b := b) ho)
      have hop := HSZ.out o (List.mem_of_getElem? ho)
      obtain ⟨op, dn⟩ := o
      obtain ⟨rfl, _⟩ := hoi
      simp only at hop
      have HC0 := Hold.mk (hc 0 _ rfl)
      have HC1 := Hold.mk (hc 1 _ rfl)
      clear ho hd hc
      go_upto_region 4 with (fail)
      clear y0 y1 y2 y3 y4 y5 y6 y7 y8
      go_cut [8, 9] (fun s1 s2 wx => OBox (cf w) (getJ a.v op) wr s1 s2 wx)
      case first =>
        have HBW := Hold.mk H3.out.bel
        obtain ⟨y0, y1, y2, y3, y4, y5, y6, y7, y8⟩ := cells9A H3.out.one
        obtain ⟨v0, v1, v2, v3, v4, v5⟩ := cells6D H3.out.two
        have g0 := Grow.cell y1
        have g1 := Grow.cell y5
        have g2 := Grow.cell v1
        have g3 := Grow.cell v2
        have g4 := Grow.cell v3
        have g5 := Grow.cell v4
        have g6 := Grow.cell v5
        have hcl := cle_below H3.out.bel
        have u0 := hcl _ _ _ HC0.out
        unfold cf at u0
        rw [Nat.add_zero] at u0
        have g7 := Grow.cell u0
        clear y0 y1 y2 y3 y4 y5 y6 y7 y8 v0 v1 v2 v3 v4 v5 u0 hcl
        refine wp_region_mix 15 rfl (by kernel_rfl) ?_
        rintro w3 hb3
        refine mixl_seg (by kernel_rfl) (fun _ _ d _ _ h => by cases d <;> exact h) [0, 1, 2, 3, 4, 5, 6, 7] [_, _, _, _, _, _, _, _] 7 15 rfl _ _ _ rfl (by kernel_rfl) (growC hb3) ?_
        repeat (go_big_quiet_step (fail))
        refine wpQuiet_nil ?_
        clear g0 g1 g2 g3 g4 g5 g6 g7
        have HG4 := Hold.mk hb3
        clear hb3
        refine mixl_two (i := 8) (j := 12) rfl rfl (by kernel_rfl) (growC HG4.out) rfl rfl (fun K hK => ?_) (fun K hK => ?_)
        · go_wp2_with fail
          refine (rGetC_any (cf w) a.v _ op w3 ((cle_below (HBW.out.trans (HG4.out.mono HBW.out.size))).trans (cle_cfU _)) HJA.out hop).mono ?_
          rintro e w5 hg
          obtain ⟨k2, n2, t2, na2, nl2, nc2, ia2, il2, ic2, rfl, hu, hb5⟩ := get_optC hg
          have HOU := Hold.mk hu
          have HG6 : Hold (Below wr.heap.size wr w5) := ⟨HG4.out.trans (hb5.mono HG4.out.size)⟩
          clear hb5 hg hu
          go_wp2_with fail
          refine mixl_seg (by kernel_rfl) (fun _ _ d _ _ h => by cases d <;> exact h) [9, 10, 11] [_, _, _] 3 6 rfl _ _ _ rfl (by kernel_rfl) (growC HG6.out) ?_
          repeat (go_big_quiet_step (fail))
          refine wpQuiet_nil ?_
          refine mixl_act (i := 12) rfl (by kernel_rfl) (growC HG6.out) rfl (fun K hK => ?_)
          go_wp2_with fail
          have HWL : Hold (wr.heap.size ≤ w5.heap.size) := ⟨HG6.out.size⟩
          replace HG6 := Hold.mk (HG6.out.alloc HG6.out.size (.cells #[.int .i64 0, .int .i64 0, .string ⟨#[]⟩, .slice none 0 0, .slice none 0 0] 25))
          have HZB := Hold.mk (heap_alloc_new w5 (.cells #[.int .i64 0, .int .i64 0, .string ⟨#[]⟩, .slice none 0 0, .slice none 0 0] 25))
          generalize w5.alloc (.cells #[.int .i64 0, .int .i64 0, .string ⟨#[]⟩, .slice none 0 0, .slice none 0 0] 25) = w6 at HG6 HZB ⊢
          generalize w5.heap.size = zb at HZB HWL ⊢
          refine mixl_act (i := 13) rfl (by kernel_rfl) (growC HG6.out) rfl (fun K hK => ?_)
          obtain ⟨v0, v1, v2, v3, v4⟩ := cells_five HZB.out
          have q0 := free_box HZB.out 0
          have q1 := free_box HZB.out 1
          have q2 := free_box HZB.out 2
          have q3 := free_box HZB.out 3
          have q4 := free_box HZB.out 4
          go_wp2_with fail
          clear v0 v1 v2 v3 v4 q0 q1 q2 q3 q4
          have HZ6 := Hold.mk (set5_self (c0 := .int .i64 k2) (c1 := .int .i64 n2) (c2 := .string t2) (c3 := .slice na2 nl2 nc2) (c4 := .slice ia2 il2 ic2) HZB.out)
          replace HG6 := Hold.mk (set5_below (k := zb) (c0 := .int .i64 k2) (c1 := .int .i64 n2) (c2 := .string t2) (c3 := .slice na2 nl2 nc2) (c4 := .slice ia2 il2 ic2) HG6.out HWL.out)
          unfold set5 at HZ6 HG6
          generalize hw8 : ((((w6.setCell ⟨zb, 0, none⟩ (.int .i64 k2)).setCell ⟨zb, 1, none⟩ (.int .i64 n2)).setCell ⟨zb, 2, none⟩ (.string t2)).setCell ⟨zb, 3, none⟩ (.slice na2 nl2 nc2)).setCell ⟨zb, 4, none⟩ (.slice ia2 il2 ic2) = w8 at HZ6 HG6 ⊢
          clear hw8
          refine mixl_seg (by kernel_rfl) (fun _ _ d _ _ h => by cases d <;> exact h) [14] [_] 0 1 rfl _ _ _ rfl (by kernel_rfl) (growC HG6.out) ?_
          repeat (go_big_quiet_step (fail))
          refine wpQuiet_nil ?_
          refine mix_done (by kernel_rfl) (growC HG6.out) ?_
          have HVX : Hold (OBox (cf w) (getJ a.v op) wr (.pointer (some ⟨zb, 0, none⟩)) (.bool (getJ a.v op).isSome) w8) := ⟨zb, k2, n2, t2, na2, nl2, nc2, ia2, il2, ic2, rfl, rfl, HZ6.out, HOU.out, HG6.out⟩
          go_wp2_with fail
          go_meet
          case rel => exact HVX.out
        · go_wp2_with fail
          have HZB := Hold.mk (heap_alloc_new w3 (.cells #[.int .i64 0, .int .i64 0, .string ⟨#[]⟩, .slice none 0 0, .slice none 0 0] 25))
          have HWL : Hold (wr.heap.size ≤ w3.heap.size) := ⟨HG4.out.size⟩
          have HGZ := Hold.mk (HG4.out.alloc HG4.out.size (.cells #[.int .i64 0, .int .i64 0, .string ⟨#[]⟩, .slice none 0 0, .slice none 0 0] 25))
          generalize w3.alloc (.cells #[.int .i64 0, .int .i64 0, .string ⟨#[]⟩, .slice none 0 0, .slice none 0 0] 25) = wz at HZB HGZ ⊢
          generalize w3.heap.size = zb at HZB HWL ⊢
          refine mixl_act (i := 8) rfl (by kernel_rfl) (growC HGZ.out) rfl (fun K hK => ?_)
          go_wp2_with fail
          refine (rGetC_any (cf w) a.v _ op wz ((cle_below (HBW.out.trans (HGZ.out.mono HBW.out.size))).trans (cle_cfU _)) HJA.out hop).mono ?_
          rintro e w5 hg
          obtain ⟨k2, n2, t2, na2, nl2, nc2, ia2, il2, ic2, rfl, hu, hb5⟩ := get_optC hg
          have HOU := Hold.mk hu
          have HG6 : Hold (Below wr.heap.size wr w5) := ⟨HGZ.out.trans (hb5.mono HGZ.out.size)⟩
          replace HZB := Hold.mk (kept HZB.out hb5)
          clear hb5 hg hu
          go_wp2_with fail
          refine mixl_seg (by kernel_rfl) (fun _ _ d _ _ h => by cases d <;> exact h) [9, 10, 11] [_, _, _] 2 5 rfl _ _ _ rfl (by kernel_rfl) (growC HG6.out) ?_
          repeat (go_big_quiet_step (fail))
          refine wpQuiet_nil ?_
          refine mixl_act (i := 13) rfl (by kernel_rfl) (growC HG6.out) rfl (fun K hK => ?_)
          obtain ⟨v0, v1, v2, v3, v4⟩ := cells_five HZB.out
          have q0 := free_box HZB.out 0
          have q1 := free_box HZB.out 1
          have q2 := free_box HZB.out 2
          have q3 := free_box HZB.out 3
          have q4 := free_box HZB.out 4
          go_wp2_with fail
          clear v0 v1 v2 v3 v4 q0 q1 q2 q3 q4
          have HZ6 := Hold.mk (set5_self (c0 := .int .i64 k2) (c1 := .int .i64 n2) (c2 := .string t2) (c3 := .slice na2 nl2 nc2) (c4 := .slice ia2 il2 ic2) HZB.out)
          replace HG6 := Hold.mk (set5_below (k := zb) (c0 := .int .i64 k2) (c1 := .int .i64 n2) (c2 := .string t2) (c3 := .slice na2 nl2 nc2) (c4 := .slice ia2 il2 ic2) HG6.out HWL.out)
          unfold set5 at HZ6 HG6
          generalize hw8 : ((((w5.setCell ⟨zb, 0, none⟩ (.int .i64 k2)).setCell ⟨zb, 1, none⟩ (.int .i64 n2)).setCell ⟨zb, 2, none⟩ (.string t2)).setCell ⟨zb, 3, none⟩ (.slice na2 nl2 nc2)).setCell ⟨zb, 4, none⟩ (.slice ia2 il2 ic2) = w8 at HZ6 HG6 ⊢
          clear hw8
          refine mixl_seg (by kernel_rfl) (fun _ _ d _ _ h => by cases d <;> exact h) [14] [_] 0 1 rfl _ _ _ rfl (by kernel_rfl) (growC HG6.out) ?_
          repeat (go_big_quiet_step (fail))
          refine wpQuiet_nil ?_
          refine mix_done (by kernel_rfl) (growC HG6.out) ?_
          have HVX : Hold (OBox (cf w) (getJ a.v op) wr (.pointer (some ⟨zb, 0, none⟩)) (.bool (getJ a.v op).isSome) w8) := ⟨zb, k2, n2, t2, na2, nl2, nc2, ia2, il2, ic2, rfl, rfl, HZ6.out, HOU.out, HG6.out⟩
          go_wp2_with fail
          go_meet
          case rel => exact HVX.out
      case rest =>
      obtain ⟨za, gk, gn, gt, gna, gnl, gnc, gia, gil, gic, rfl, rfl, hza, hou, hbx⟩ := hcut
      have HZA := Hold.mk hza
      have HOA := Hold.mk hou
      replace H3 := Hold.mk (H3.out.next hbx)
      clear hza hou hbx
      generalize wc = wq at *
      go_upto_region 5 with (fail)
      go_cut [10, 11] (fun s1 s2 wx => OBox (cf w) (getJ b.v op) wq s1 s2 wx)
      case first =>
        have HBW := Hold.mk H3.out.bel
        obtain ⟨y0, y1, y2, y3, y4, y5, y6, y7, y8⟩ := cells9A H3.out.one
        obtain ⟨v0, v1, v2, v3, v4, v5⟩ := cells6D H3.out.three
        have g0 := Grow.cell y1
        have g1 := Grow.cell y5
        have g2 := Grow.cell v1
        have g3 := Grow.cell v2
        have g4 := Grow.cell v3
        have g5 := Grow.cell v4
        have g6 := Grow.cell v5
        have hcl := cle_below H3.out.bel
        have u0 := hcl _ _ _ HC0.out
        unfold cf at u0
        rw [Nat.add_zero] at u0
        have g7 := Grow.cell u0
        clear y0 y1 y2 y3 y4 y5 y6 y7 y8 v0 v1 v2 v3 v4 v5 u0 hcl
        refine wp_region_mix 15 rfl (by kernel_rfl) ?_
        rintro w3 hb3
        refine mixl_seg (by kernel_rfl) (fun _ _ d _ _ h => by cases d <;> exact h) [0, 1, 2, 3, 4, 5, 6, 7] [_, _, _, _, _, _, _, _] 7 15 rfl _ _ _ rfl (by kernel_rfl) (growC hb3) ?_
        repeat (go_big_quiet_step (fail))
        refine wpQuiet_nil ?_
        clear g0 g1 g2 g3 g4 g5 g6 g7
        have HG4 := Hold.mk hb3
        clear hb3
        refine mixl_two (i := 8) (j := 12) rfl rfl (by kernel_rfl) (growC HG4.out) rfl rfl (fun K hK => ?_) (fun K hK => ?_)
        · go_wp2_with fail
          refine (rGetC_any (cf w) b.v _ op w3 ((cle_below (HBW.out.trans (HG4.out.mono HBW.out.size))).trans (cle_cfU _)) HJB.out hop).mono ?_
          rintro e w5 hg
          obtain ⟨k2, n2, t2, na2, nl2, nc2, ia2, il2, ic2, rfl, hu, hb5⟩ := get_optC hg
          have HOU := Hold.mk hu
          have HG6 : Hold (Below wq.heap.size wq w5) := ⟨HG4.out.trans (hb5.mono HG4.out.size)⟩
          clear hb5 hg hu
          go_wp2_with fail
          refine mixl_seg (by kernel_rfl) (fun _ _ d _ _ h => by cases d <;> exact h) [9, 10, 11] [_, _, _] 3 6 rfl _ _ _ rfl (by kernel_rfl) (growC HG6.out) ?_
          repeat (go_big_quiet_step (fail))
          refine wpQuiet_nil ?_
          refine mixl_act (i := 12) rfl (by kernel_rfl) (growC HG6.out) rfl (fun K hK => ?_)
          go_wp2_with fail
          have HWL : Hold (wq.heap.size ≤ w5.heap.size) := ⟨HG6.out.size⟩
          replace HG6 := Hold.mk (HG6.out.alloc HG6.out.size (.cells #[.int .i64 0, .int .i64 0, .string ⟨#[]⟩, .slice none 0 0, .slice none 0 0] 25))
          have HZB := Hold.mk (heap_alloc_new w5 (.cells #[.int .i64 0, .int .i64 0, .string ⟨#[]⟩, .slice none 0 0, .slice none 0 0] 25))
          generalize w5.alloc (.cells #[.int .i64 0, .int .i64 0, .string ⟨#[]⟩, .slice none 0 0, .slice none 0 0] 25) = w6 at HG6 HZB ⊢
          generalize w5.heap.size = zb at HZB HWL ⊢
          refine mixl_act (i := 13) rfl (by kernel_rfl) (growC HG6.out) rfl (fun K hK => ?_)
          obtain ⟨v0, v1, v2, v3, v4⟩ := cells_five HZB.out
          have q0 := free_box HZB.out 0
          have q1 := free_box HZB.out 1
          have q2 := free_box HZB.out 2
          have q3 := free_box HZB.out 3
          have q4 := free_box HZB.out 4
          go_wp2_with fail
          clear v0 v1 v2 v3 v4 q0 q1 q2 q3 q4
          have HZ6 := Hold.mk (set5_self (c0 := .int .i64 k2) (c1 := .int .i64 n2) (c2 := .string t2) (c3 := .slice na2 nl2 nc2) (c4 := .slice ia2 il2 ic2) HZB.out)
          replace HG6 := Hold.mk (set5_below (k := zb) (c0 := .int .i64 k2) (c1 := .int .i64 n2) (c2 := .string t2) (c3 := .slice na2 nl2 nc2) (c4 := .slice ia2 il2 ic2) HG6.out HWL.out)
          unfold set5 at HZ6 HG6
          generalize hw8 : ((((w6.setCell ⟨zb, 0, none⟩ (.int .i64 k2)).setCell ⟨zb, 1, none⟩ (.int .i64 n2)).setCell ⟨zb, 2, none⟩ (.string t2)).setCell ⟨zb, 3, none⟩ (.slice na2 nl2 nc2)).setCell ⟨zb, 4, none⟩ (.slice ia2 il2 ic2) = w8 at HZ6 HG6 ⊢
          clear hw8
          refine mixl_seg (by kernel_rfl) (fun _ _ d _ _ h => by cases d <;> exact h) [14] [_] 0 1 rfl _ _ _ rfl (by kernel_rfl) (growC HG6.out) ?_
          repeat (go_big_quiet_step (fail))
          refine wpQuiet_nil ?_
          refine mix_done (by kernel_rfl) (growC HG6.out) ?_
          have HVX : Hold (OBox (cf w) (getJ b.v op) wq (.pointer (some ⟨zb, 0, none⟩)) (.bool (getJ b.v op).isSome) w8) := ⟨zb, k2, n2, t2, na2, nl2, nc2, ia2, il2, ic2, rfl, rfl, HZ6.out, HOU.out, HG6.out⟩
          go_wp2_with fail
          go_meet
          case rel => exact HVX.out
        · go_wp2_with fail
          have HZB := Hold.mk (heap_alloc_new w3 (.cells #[.int .i64 0, .int .i64 0, .string ⟨#[]⟩, .slice none 0 0, .slice none 0 0] 25))
          have HWL : Hold (wq.heap.size ≤ w3.heap.size) := ⟨HG4.out.size⟩
          have HGZ := Hold.mk (HG4.out.alloc HG4.out.size (.cells #[.int .i64 0, .int .i64 0, .string ⟨#[]⟩, .slice none 0 0, .slice none 0 0] 25))
          generalize w3.alloc (.cells #[.int .i64 0, .int .i64 0, .string ⟨#[]⟩, .slice none 0 0, .slice none 0 0] 25) = wz at HZB HGZ ⊢
          generalize w3.heap.size = zb at HZB HWL ⊢
          refine mixl_act (i := 8) rfl (by kernel_rfl) (growC HGZ.out) rfl (fun K hK => ?_)
          go_wp2_with fail
          refine (rGetC_any (cf w) b.v _ op wz ((cle_below (HBW.out.trans (HGZ.out.mono HBW.out.size))).trans (cle_cfU _)) HJB.out hop).mono ?_
          rintro e w5 hg
          obtain ⟨k2, n2, t2, na2, nl2, nc2, ia2, il2, ic2, rfl, hu, hb5⟩ := get_optC hg
          have HOU := Hold.mk hu
          have HG6 : Hold (Below wq.heap.size wq w5) := ⟨HGZ.out.trans (hb5.mono HGZ.out.size)⟩
          replace HZB := Hold.mk (kept HZB.out hb5)
          clear hb5 hg hu
          go_wp2_with fail
          refine mixl_seg (by kernel_rfl) (fun _ _ d _ _ h => by cases d <;> exact h) [9, 10, 11] [_, _, _] 2 5 rfl _ _ _ rfl (by kernel_rfl) (growC HG6.out) ?_
          repeat (go_big_quiet_step (fail))
          refine wpQuiet_nil ?_
          refine mixl_act (i := 13) rfl (by kernel_rfl) (growC HG6.out) rfl (fun K hK => ?_)
          obtain ⟨v0, v1, v2, v3, v4⟩ := cells_five HZB.out
          have q0 := free_box HZB.out 0
          have q1 := free_box HZB.out 1
          have q2 := free_box HZB.out 2
          have q3 := free_box HZB.out 3
          have q4 := free_box HZB.out 4
          go_wp2_with fail
          clear v0 v1 v2 v3 v4 q0 q1 q2 q3 q4
          have HZ6 := Hold.mk (set5_self (c0 := .int .i64 k2) (c1 := .int .i64 n2) (c2 := .string t2) (c3 := .slice na2 nl2 nc2) (c4 := .slice ia2 il2 ic2) HZB.out)
          replace HG6 := Hold.mk (set5_below (k := zb) (c0 := .int .i64 k2) (c1 := .int .i64 n2) (c2 := .string t2) (c3 := .slice na2 nl2 nc2) (c4 := .slice ia2 il2 ic2) HG6.out HWL.out)
          unfold set5 at HZ6 HG6
          generalize hw8 : ((((w5.setCell ⟨zb, 0, none⟩ (.int .i64 k2)).setCell ⟨zb, 1, none⟩ (.int .i64 n2)).setCell ⟨zb, 2, none⟩ (.string t2)).setCell ⟨zb, 3, none⟩ (.slice na2 nl2 nc2)).setCell ⟨zb, 4, none⟩ (.slice ia2 il2 ic2) = w8 at HZ6 HG6 ⊢
          clear hw8
          refine mixl_seg (by kernel_rfl) (fun _ _ d _ _ h => by cases d <;> exact h) [14] [_] 0 1 rfl _ _ _ rfl (by kernel_rfl) (growC HG6.out) ?_
          repeat (go_big_quiet_step (fail))
          refine wpQuiet_nil ?_
          refine mix_done (by kernel_rfl) (growC HG6.out) ?_
          have HVX : Hold (OBox (cf w) (getJ b.v op) wq (.pointer (some ⟨zb, 0, none⟩)) (.bool (getJ b.v op).isSome) w8) := ⟨zb, k2, n2, t2, na2, nl2, nc2, ia2, il2, ic2, rfl, rfl, HZ6.out, HOU.out, HG6.out⟩
          go_wp2_with fail
          go_meet
          case rel => exact HVX.out
      case rest =>
      obtain ⟨zb, hk, hn, ht, hna, hnl, hnc, hia, hil, hic, rfl, rfl, hzb, hou, hbx⟩ := hcut
      have HZB := Hold.mk hzb
      have HOB := Hold.mk hou
      replace HZA := Hold.mk (kept HZA.out hbx)
      replace H3 := Hold.mk (H3.out.next hbx)
      clear hzb hou hbx
      generalize wc = we at *
      obtain ⟨c, hc⟩ : ∃ c, atF op a.v b.v = c := ⟨_, rfl⟩
      have hcb := atF_small op a.v b.v
      rw [hc] at hcb
      have HC := Hold.mk hc
      clear hc
      obtain ⟨oa, hoa⟩ : ∃ oa, getJ a.v op = oa := ⟨_, rfl⟩
      obtain ⟨ob2, hob⟩ : ∃ ob2, getJ b.v op = ob2 := ⟨_, rfl⟩
      rw [hoa] at HOA ⊢
      rw [hob] at HOB ⊢
      have HEA := Hold.mk hoa
      have HEB := Hold.mk hob
      clear hoa hob
      go_upto_region 7 with (fail)
      go_cut [47] (fun s wx => s = .bool (oa.isSome && ob2.isSome) ∧ wx = we)
      case first =>
        cases oa with
        | none =>
          go_wp2_with fail
          go_meet
          case rel => exact ⟨rfl, rfl⟩
        | some va =>
          go_wp2_with fail
          go_meet
          case rel => exact ⟨by simp, rfl⟩
      case rest =>
      obtain ⟨rfl, hwc⟩ := hcut
      generalize wc = wd at *
      subst hwc
      rename World => we
      go_upto_if 47 with (fail)
      go_cut [12] (fun s wx => s = .int .i64 c ∧ Below we.heap.size we wx)
      case first =>
        obtain ⟨y0, y1, y2, y3, y4⟩ := cells_five HZA.out
        obtain ⟨z0, z1, z2, z3, z4⟩ := cells_five HZB.out
        cases oa with
        | some va =>
          cases ob2 with
          | some vb =>
            have HPL := Hold.mk (plain_any 6 va vb _ _ we (get_formed HEA.out) (get_formed HEB.out) ((HOA.out va rfl).mono (cle_below H3.out.bel)) ((HOB.out vb rfl).mono (cle_below H3.out.bel)))
            rw [← at_some HEA.out HEB.out, HC.out] at HPL
            simp only [Option.isSome_some, Bool.and_true]
            go_wp2_with fail
            refine HPL.out.mono ?_
            rintro e w7 ⟨rfl, hb7⟩
            have HX7 := Hold.mk hb7
            clear hb7 y0 y1 y2 y3 y4 z0 z1 z2 z3 z4 HPL
            go_wp2_with fail
            go_meet
            case rel => exact ⟨rfl, HX7.out⟩
          | none =>
            have HR : Hold (c = 1) := ⟨by rw [← HC.out]; exact at_left HEA.out HEB.out⟩
            have HX7 := Hold.mk (Below.refl we.heap.size we)
            clear y0 y1 y2 y3 y4 z0 z1 z2 z3 z4
            simp only [Option.isSome_some, Option.isSome_none, Bool.and_false]
            go_wp2_with fail
            go_meet
            case rel => exact ⟨by rw [HR.out], HX7.out⟩
        | none =>
          cases ob2 with
          | some vb =>
            have HR : Hold (c = -1) := ⟨by rw [← HC.out]; exact at_right HEA.out HEB.out⟩
            have HX7 := Hold.mk (Below.refl we.heap.size we)
            clear y0 y1 y2 y3 y4 z0 z1 z2 z3 z4
            simp only [Option.isSome_some, Option.isSome_none, Bool.and_true]
            go_wp2_with fail
            go_meet
            case rel => exact ⟨by rw [HR.out], HX7.out⟩
          | none =>
            have HR : Hold (c = 0) := ⟨by rw [← HC.out]; exact at_none HEA.out HEB.out⟩
            have HX7 := Hold.mk (Below.refl we.heap.size we)
            clear y0 y1 y2 y3 y4 z0 z1 z2 z3 z4
            simp only [Option.isSome_none, Bool.and_false]
            go_wp2_with fail
            go_meet
            case rel => exact ⟨by rw [HR.out], HX7.out⟩
      case rest =>
      obtain ⟨rfl, hbx⟩ := hcut
      replace H3 := Hold.mk (H3.out.next hbx)
      clear hbx HOA HOB HZA HZB HEA HEB
      generalize wc = wf at *
      obtain ⟨y0, y1, y2, y3, y4, y5, y6, y7, y8⟩ := cells9A H3.out.one
      have u1 := cle_below H3.out.bel _ _ _ HC1.out
      unfold cf at u1
      have hc3 : c = -1 ∨ c = 0 ∨ c = 1 := by omega
      clear hcb
      cases dn with
      | true =>
        rcases hc3 with rfl | rfl | rfl
        · have HR : Hold (docC q.sort a b = 1) := ⟨by unfold docC; rw [← HST.out, HSS.out, HC.out]; rfl⟩
          have HBF := H3.out.bel
          go_wp2_with fail
          go_ret
          exact ⟨by rw [HR.out] <;> rfl, HBF⟩
        · have HN : Hold (sortC (q.sort.drop (j + 1)) a b = sortC q.sort a b) := ⟨by rw [← HST.out, HSS.out, HC.out]; rfl⟩
          have HTF := H3.out
          go_wp2_with fail
          exact ⟨⟨j + 1, by go_num, hlt, HN.out, HTF⟩, by simp [intOf]; omega⟩
        · have HR : Hold (docC q.sort a b = -1) := ⟨by unfold docC; rw [← HST.out, HSS.out, HC.out]; rfl⟩
          have HBF := H3.out.bel
          go_wp2_with fail
          go_ret
          exact ⟨by rw [HR.out] <;> rfl, HBF⟩
      | false =>
        rcases hc3 with rfl | rfl | rfl
        · have HR : Hold (docC q.sort a b = -1) := ⟨by unfold docC; rw [← HST.out, HSS.out, HC.out]; rfl⟩
          have HBF := H3.out.bel
          go_wp2_with fail
          go_ret
          exact ⟨by rw [HR.out] <;> rfl, HBF⟩
        · have HN : Hold (sortC (q.sort.drop (j + 1)) a b = sortC q.sort a b) := ⟨by rw [← HST.out, HSS.out, HC.out]; rfl⟩
          have HTF := H3.out
          go_wp2_with fail
          exact ⟨⟨j + 1, by go_num, hlt, HN.out, HTF⟩, by simp [intOf]; omega⟩
        · have HR : Hold (docC q.sort a b = 1) := ⟨by unfold docC; rw [← HST.out, HSS.out, HC.out]; rfl⟩
          have HBF := H3.out.bel
          go_wp2_with fail
          go_ret
          exact ⟨by rw [HR.out] <;> rfl, HBF⟩
    · obtain rfl : j = q.sort.length := by omega
      obtain ⟨v0, v1, v2, v3, v4, v5⟩ := cells6D H3.out.two
      obtain ⟨t0, t1, t2', t3, t4, t5⟩ := cells6D H3.out.three
      have HBF := H3.out.bel
      have HR : Hold (decide (docC q.sort a b < 0) = strLt a.id b.id) := ⟨by
        have h1 : docC q.sort a b = cmpS a.id b.id := by unfold docC; rw [← HST.out, List.drop_length]; rfl
        rw [h1, Bool.eq_iff_iff]; simp only [decide_eq_true_eq]; exact cmpS_ltA a.id b.id⟩
      unfold strLt at HR
      go_wp2_with fail
      go_ret
      exact ⟨by rw [HR.out] <;> rfl, HBF⟩

end Go.Proofs.YtkhhbckpddkhlaaGreatDoor
