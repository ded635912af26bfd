/- Plans: serves and span of the reference (printed by genXHT.py). -/
import Derived.Test.YtcmfanfkcbjeoaaGreatDoorHS
namespace Go.Proofs.YtcmfanfkcbjeoaaGreatDoor
open Go.Shelf Go.RowKit

theorem any_step {α : Type} {l : List α} {p : α → Bool} {q : Nat} {x : α} (h : l[q]? = some x) : (l.take (q + 1)).any p = ((l.take q).any p || p x) := by rw [take_succ h, List.any_append]; simp
theorem nm5_cellA {w : World} {b : Nat} {T : TypeId} (h : w.heap[b]? = some (.cells #[.string bEq, .string bGt, .string bGe, .string bLt, .string bLe] T (0, 0))) (q : Nat) (t : ByteArray) (hq : nm5[q]? = some t) : w.cell? ⟨b, q, none⟩ = some (.string t) := by
  match q, hq with
  | 0, hq => cases hq; simp [World.cell?, h]
  | 1, hq => cases hq; simp [World.cell?, h]
  | 2, hq => cases hq; simp [World.cell?, h]
  | 3, hq => cases hq; simp [World.cell?, h]
  | 4, hq => cases hq; simp [World.cell?, h]
  | q + 5, hq => simp at hq

set_option maxRecDepth 100000 in
set_option maxHeartbeats 8000000 in
theorem rserves_any (f : JV) (fx : Value) (x : IX) (v : Value) (c : CF) (w : World) (hf : formedF 6 f = true) (hfx : JAt c f fx) (hx : IAt c x v) (hc : CLe c (cf w)) (hs : ∀ p ∈ x.fields, signF p.1 = false) :
    Calls Tryz.prog 104 #[fx, v] w fun e w' => e = .returned (.bool (x.fields.all fun p => someB (asksF 6 f) p.1)) ∧ Below w.heap.size w w' := by
  have HFI := Hold.mk (fun (s tq : ByteArray) (hs : signF s = false) (W : World) (hb : Below w.heap.size w W) => (show Calls Tryz.prog 105 #[fx, .string s, .string tq] W (FirstPost c (firstF (asksF 6 f) s tq) W) by
    have h := rfirst_any 6 f fx s tq c W hf hfx (hc.trans (cle_below hb)) hs
    rw [first_law tq hs] at h
    exact h))
  obtain ⟨k, n, t, nm, it, na, ncap, ia, icap, hfe, rfl, _⟩ := id hfx.open
  clear hfe
  obtain ⟨hnm, fv0, rfl, a, cap, rfl, hlen, hcap, hel⟩ := hx
  obtain ⟨xn, l, xu⟩ := x
  simp only at *
  obtain ⟨L, hL⟩ : ∃ L, L = asksF 6 f := ⟨_, rfl⟩
  rw [← hL] at HFI ⊢
  obtain ⟨W0, hW0⟩ : ∃ W0, W0 = (w.alloc (.cells #[.int .i64 k, .int .i64 n, .string t, .slice na nm.length ncap, .slice ia it.length icap] 25)).alloc (.cells #[.string xn, .slice a l.length cap, .bool xu] 48) := ⟨_, rfl⟩
  have hb0 : Below w.heap.size w W0 := by rw [hW0]; exact ((Below.refl _ w).alloc (Nat.le_refl _) _).alloc (by simp) _
  have e0 : W0.heap[w.heap.size]? = some (.cells #[.int .i64 k, .int .i64 n, .string t, .slice na nm.length ncap, .slice ia it.length icap] 25 (0, 0)) := by
    rw [hW0]
    exact kept (heap_alloc_new w _) ((Below.refl _ _).alloc (Nat.le_refl _) _)
  have e1 : W0.heap[w.heap.size + 1]? = some (.cells #[.string xn, .slice a l.length cap, .bool xu] 48 (0, 0)) := by
    rw [hW0]
    have := heap_alloc_new (w.alloc (.cells #[.int .i64 k, .int .i64 n, .string t, .slice na nm.length ncap, .slice ia it.length icap] 25)) (.cells #[.string xn, .slice a l.length cap, .bool xu] 48)
    simpa using this
  have HE0 := Hold.mk e0
  have HE1 := Hold.mk e1
  have HB0 := Hold.mk hb0
  have HC := Hold.mk hc
  have HE := Hold.mk hel
  have HSG := Hold.mk hs
  clear hb0 e0 e1 hc hs hL hf hfx hel
  go_enter Tryz.func104, Tryz.ntmps104
  go_upto_region 1 with (fail)
  rw [← hW0]
  clear hW0
  go_wp2_with fail
  go_loopw [5] (fun i wr => ∃ j : Nat, i = .int .i64 j ∧ j ≤ l.length ∧ (∀ (q : Nat) p, q < j → l[q]? = some p → someB L p.1 = true) ∧ Below W0.heap.size W0 wr) (fun i _ => l.length - (intOf i).toNat)
  case atStart => exact ⟨0, rfl, Nat.zero_le _, fun _ _ h => by omega, Below.refl _ _⟩
  case round =>
    obtain ⟨j, rfl, hj, hall, hbl⟩ := hrel
    have HALL := Hold.mk hall
    have HBL := Hold.mk hbl
    have HBW : Hold (Below w.heap.size w wr) := ⟨HB0.out.trans (hbl.mono HB0.out.size)⟩
    clear hall hbl
    obtain ⟨y0, y1, y2⟩ := cells_three (kept HE1.out HBL.out)
    by_cases hlt : j < l.length
    · obtain ⟨p, hp⟩ : ∃ p, l[j]? = some p := ⟨l[j], List.getElem?_eq_getElem hlt⟩
      obtain ⟨hps, b, off, rfl, x0, x1⟩ := HE.out j p hp
      have HSS := Hold.mk (HSG.out p (List.mem_of_getElem? hp))
      have HPX := Hold.mk hp
      have HX0 := Hold.mk x0
      obtain ⟨s, dn⟩ := p
      simp only at *
      obtain ⟨W1, hW1⟩ : ∃ W1, W1 = wr.alloc (.cells #[.string bEq, .string bGt, .string bGe, .string bLt, .string bLe] 9) := ⟨_, rfl⟩
      have hb1 : Below wr.heap.size wr W1 := by rw [hW1]; exact (Below.refl _ wr).alloc (Nat.le_refl _) _
      have HN1 : Hold (W1.heap[wr.heap.size]? = some (.cells #[.string bEq, .string bGt, .string bGe, .string bLt, .string bLe] 9 (0, 0))) := ⟨by rw [hW1]; exact heap_alloc_new wr _⟩
      replace HBL := Hold.mk (HBL.out.trans (hb1.mono HBL.out.size))
      replace HBW := Hold.mk (HBW.out.trans (hb1.mono HBW.out.size))
      clear hp x0 x1 hb1
      go_upto_region 6 with (fail)
      rw [← hW1]
      clear hW1 y0 y1 y2
      go_wp2_with fail
      go_loopw [6, 8] (fun sa i wq => ∃ q : Nat, i = .int .i64 q ∧ q ≤ 5 ∧ sa = .bool ((nm5.take q).any fun t => (firstF L s t).isSome) ∧ Below W1.heap.size W1 wq) (fun _ i _ => 5 - (intOf i).toNat)
      case atStart => exact ⟨0, rfl, Nat.zero_le _, rfl, Below.refl _ _⟩
      case round =>
        rename World => wq
        obtain ⟨q, rfl, hq, rfl, hbq⟩ := hrel
        have HBQ := Hold.mk hbq
        have HBW2 : Hold (Below w.heap.size w wq) := ⟨HBW.out.trans (hbq.mono HBW.out.size)⟩
        have HBL2 : Hold (Below W0.heap.size W0 wq) := ⟨HBL.out.trans (hbq.mono HBL.out.size)⟩
        clear hbq
        by_cases hlt2 : q < 5
        · obtain ⟨tq, htq⟩ : ∃ tq, nm5[q]? = some tq := ⟨_, List.getElem?_eq_getElem (by simpa using hlt2)⟩
          have zc := nm5_cellA (kept HN1.out HBQ.out) q tq htq
          have HAN := Hold.mk (any_step (p := fun t => (firstF L s t).isSome) htq)
          obtain ⟨b1, hb1⟩ : ∃ b1, b1 = (nm5.take q).any fun t => (firstF L s t).isSome := ⟨_, rfl⟩
          rw [← hb1] at HAN ⊢
          obtain ⟨v0, v1, v2, v3, v4⟩ := cells_five (kept HE0.out HBL2.out)
          obtain ⟨y0, y1, y2⟩ := cells_three (kept HE1.out HBL2.out)
          have z0 := (HC.out.trans (cle_below HBW2.out)) _ _ _ HX0.out
          unfold cf at z0
          have g0 := Grow.cell v0
          have g1 := Grow.cell v1
          have g2 := Grow.cell v2
          have g3 := Grow.cell v3
          have g4 := Grow.cell v4
          have g5 := Grow.cell y1
          have g6 := Grow.cell z0
          have g7 := Grow.cell zc
          clear htq hb1 v0 v1 v2 v3 v4 y0 y1 y2 z0 zc
          go_upto_region 9 with (fail)
          go_cut [9, 10] (fun s1 s2 wx => FBox c (firstF L s tq) wq s1 s2 wx)
          case first =>
            refine wp_region_mix 18 rfl (by kernel_rfl) ?_
            rintro w3 hb3
            refine mixl_seg (by kernel_rfl) (fun _ _ d _ _ h => by cases d <;> exact h) [0, 1, 2, 3, 4, 5, 6, 7, 8, 9, 10] [_, _, _, _, _, _, _, _, _, _, _] 7 18 rfl _ _ _ rfl (by kernel_rfl) (growC hb3) ?_
            repeat (go_big_quiet_step (fail))
            refine wpQuiet_nil ?_
            clear g0 g1 g2 g3 g4 g5 g6 g7
            have HG4 := Hold.mk hb3
            clear hb3
            refine mixl_two (i := 11) (j := 15) rfl rfl (by kernel_rfl) (growC HG4.out) rfl rfl (fun K hK => ?_) (fun K hK => ?_)
            · go_wp2_with fail
              refine (HFI.out s tq HSS.out w3 (HBW2.out.trans (HG4.out.mono HBW2.out.size))).mono ?_
              rintro e w5 hg
              obtain ⟨k2, n2, t2, na2, nl2, nc2, ia2, il2, ic2, rfl, hu, hb5⟩ := first_opt hg
              have HOU := Hold.mk hu
              have HG6 : Hold (Below wq.heap.size wq w5) := ⟨HG4.out.trans (hb5.mono HG4.out.size)⟩
              clear hb5 hg hu
              go_wp2_with fail
              refine mixl_seg (by kernel_rfl) (fun _ _ d _ _ h => by cases d <;> exact h) [12, 13, 14] [_, _, _] 3 6 rfl _ _ _ rfl (by kernel_rfl) (growC HG6.out) ?_
              repeat (go_big_quiet_step (fail))
              refine wpQuiet_nil ?_
              refine mixl_act (i := 15) rfl (by kernel_rfl) (growC HG6.out) rfl (fun K hK => ?_)
              go_wp2_with fail
              have HWL : Hold (wq.heap.size ≤ w5.heap.size) := ⟨HG6.out.size⟩
              replace HG6 := Hold.mk (HG6.out.alloc HG6.out.size (.cells #[.int .i64 0, .int .i64 0, .string ⟨#[]⟩, .slice none 0 0, .slice none 0 0] 25))
              have HZB := Hold.mk (heap_alloc_new w5 (.cells #[.int .i64 0, .int .i64 0, .string ⟨#[]⟩, .slice none 0 0, .slice none 0 0] 25))
              generalize w5.alloc (.cells #[.int .i64 0, .int .i64 0, .string ⟨#[]⟩, .slice none 0 0, .slice none 0 0] 25) = w6 at HG6 HZB ⊢
              generalize w5.heap.size = zb at HZB HWL ⊢
              refine mixl_act (i := 16) rfl (by kernel_rfl) (growC HG6.out) rfl (fun K hK => ?_)
              obtain ⟨v0, v1, v2, v3, v4⟩ := cells_five HZB.out
              have q0 := free_box HZB.out 0
              have q1 := free_box HZB.out 1
              have q2 := free_box HZB.out 2
              have q3 := free_box HZB.out 3
              have q4 := free_box HZB.out 4
              go_wp2_with fail
              clear v0 v1 v2 v3 v4 q0 q1 q2 q3 q4
              have HZ6 := Hold.mk (set5_self (c0 := .int .i64 k2) (c1 := .int .i64 n2) (c2 := .string t2) (c3 := .slice na2 nl2 nc2) (c4 := .slice ia2 il2 ic2) HZB.out)
              replace HG6 := Hold.mk (set5_below (k := zb) (c0 := .int .i64 k2) (c1 := .int .i64 n2) (c2 := .string t2) (c3 := .slice na2 nl2 nc2) (c4 := .slice ia2 il2 ic2) HG6.out HWL.out)
              unfold set5 at HZ6 HG6
              generalize hw8 : ((((w6.setCell ⟨zb, 0, none⟩ (.int .i64 k2)).setCell ⟨zb, 1, none⟩ (.int .i64 n2)).setCell ⟨zb, 2, none⟩ (.string t2)).setCell ⟨zb, 3, none⟩ (.slice na2 nl2 nc2)).setCell ⟨zb, 4, none⟩ (.slice ia2 il2 ic2) = w8 at HZ6 HG6 ⊢
              clear hw8
              refine mixl_seg (by kernel_rfl) (fun _ _ d _ _ h => by cases d <;> exact h) [17] [_] 0 1 rfl _ _ _ rfl (by kernel_rfl) (growC HG6.out) ?_
              repeat (go_big_quiet_step (fail))
              refine wpQuiet_nil ?_
              refine mix_done (by kernel_rfl) (growC HG6.out) ?_
              have HVX : Hold (FBox c (firstF L s tq) wq (.pointer (some ⟨zb, 0, none⟩)) (.bool (firstF L s tq).isSome) w8) := ⟨zb, k2, n2, t2, na2, nl2, nc2, ia2, il2, ic2, rfl, rfl, HZ6.out, HOU.out, HG6.out⟩
              go_wp2_with fail
              go_meet
              case rel => exact HVX.out
            · go_wp2_with fail
              have HZB := Hold.mk (heap_alloc_new w3 (.cells #[.int .i64 0, .int .i64 0, .string ⟨#[]⟩, .slice none 0 0, .slice none 0 0] 25))
              have HWL : Hold (wq.heap.size ≤ w3.heap.size) := ⟨HG4.out.size⟩
              have HGZ := Hold.mk (HG4.out.alloc HG4.out.size (.cells #[.int .i64 0, .int .i64 0, .string ⟨#[]⟩, .slice none 0 0, .slice none 0 0] 25))
              generalize w3.alloc (.cells #[.int .i64 0, .int .i64 0, .string ⟨#[]⟩, .slice none 0 0, .slice none 0 0] 25) = wz at HZB HGZ ⊢
              generalize w3.heap.size = zb at HZB HWL ⊢
              refine mixl_act (i := 11) rfl (by kernel_rfl) (growC HGZ.out) rfl (fun K hK => ?_)
              go_wp2_with fail
              refine (HFI.out s tq HSS.out wz (HBW2.out.trans (HGZ.out.mono HBW2.out.size))).mono ?_
              rintro e w5 hg
              obtain ⟨k2, n2, t2, na2, nl2, nc2, ia2, il2, ic2, rfl, hu, hb5⟩ := first_opt hg
              have HOU := Hold.mk hu
              have HG6 : Hold (Below wq.heap.size wq w5) := ⟨HGZ.out.trans (hb5.mono HGZ.out.size)⟩
              replace HZB := Hold.mk (kept HZB.out hb5)
              clear hb5 hg hu
              go_wp2_with fail
              refine mixl_seg (by kernel_rfl) (fun _ _ d _ _ h => by cases d <;> exact h) [12, 13, 14] [_, _, _] 2 5 rfl _ _ _ rfl (by kernel_rfl) (growC HG6.out) ?_
              repeat (go_big_quiet_step (fail))
              refine wpQuiet_nil ?_
              refine mixl_act (i := 16) rfl (by kernel_rfl) (growC HG6.out) rfl (fun K hK => ?_)
              obtain ⟨v0, v1, v2, v3, v4⟩ := cells_five HZB.out
              have q0 := free_box HZB.out 0
              have q1 := free_box HZB.out 1
              have q2 := free_box HZB.out 2
              have q3 := free_box HZB.out 3
              have q4 := free_box HZB.out 4
              go_wp2_with fail
              clear v0 v1 v2 v3 v4 q0 q1 q2 q3 q4
              have HZ6 := Hold.mk (set5_self (c0 := .int .i64 k2) (c1 := .int .i64 n2) (c2 := .string t2) (c3 := .slice na2 nl2 nc2) (c4 := .slice ia2 il2 ic2) HZB.out)
              replace HG6 := Hold.mk (set5_below (k := zb) (c0 := .int .i64 k2) (c1 := .int .i64 n2) (c2 := .string t2) (c3 := .slice na2 nl2 nc2) (c4 := .slice ia2 il2 ic2) HG6.out HWL.out)
              unfold set5 at HZ6 HG6
              generalize hw8 : ((((w5.setCell ⟨zb, 0, none⟩ (.int .i64 k2)).setCell ⟨zb, 1, none⟩ (.int .i64 n2)).setCell ⟨zb, 2, none⟩ (.string t2)).setCell ⟨zb, 3, none⟩ (.slice na2 nl2 nc2)).setCell ⟨zb, 4, none⟩ (.slice ia2 il2 ic2) = w8 at HZ6 HG6 ⊢
              clear hw8
              refine mixl_seg (by kernel_rfl) (fun _ _ d _ _ h => by cases d <;> exact h) [17] [_] 0 1 rfl _ _ _ rfl (by kernel_rfl) (growC HG6.out) ?_
              repeat (go_big_quiet_step (fail))
              refine wpQuiet_nil ?_
              refine mix_done (by kernel_rfl) (growC HG6.out) ?_
              have HVX : Hold (FBox c (firstF L s tq) wq (.pointer (some ⟨zb, 0, none⟩)) (.bool (firstF L s tq).isSome) w8) := ⟨zb, k2, n2, t2, na2, nl2, nc2, ia2, il2, ic2, rfl, rfl, HZ6.out, HOU.out, HG6.out⟩
              go_wp2_with fail
              go_meet
              case rel => exact HVX.out
          case rest =>
            clear g0 g1 g2 g3 g4 g5 g6 g7
            obtain ⟨zb, k2, n2q, t2, na2, nl2, nc2, ia2, il2, ic2, rfl, rfl, _, _, hbx⟩ := hcut
            generalize wc = w5 at *
            have HBQ5 := Hold.mk (HBQ.out.trans (hbx.mono HBQ.out.size))
            clear hbx
            obtain ⟨b2, hb2⟩ : ∃ b2, b2 = (firstF L s tq).isSome := ⟨_, rfl⟩
            rw [← hb2] at HAN ⊢
            clear hb2
            cases b1 with
            | true =>
              go_wp2_with fail
              exact ⟨⟨q + 1, by go_num, hlt2, by rw [HAN.out]; rfl, HBQ5.out⟩, by simp [intOf]; omega⟩
            | false =>
              go_wp2_with fail
              exact ⟨⟨q + 1, by go_num, hlt2, by rw [HAN.out]; rfl, HBQ5.out⟩, by simp [intOf]; omega⟩
        · obtain rfl : q = 5 := by omega
          have HSB : Hold (((nm5.take 5).any fun t => (firstF L s t).isSome) = someB L s) := ⟨rfl⟩
          rw [HSB.out]
          have HBL5 := Hold.mk HBL2.out
          cases hsb : someB L s with
          | false =>
            have HR : Hold ((l.all fun p => someB L p.1) = false) := ⟨by
              rw [← Bool.not_eq_true, List.all_eq_true]
              intro h
              have h2 := h (s, dn) (List.mem_of_getElem? HPX.out)
              simp only [hsb] at h2
              cases h2⟩
            clear hsb
            go_wp2_with fail
            go_ret
            exact ⟨by rw [HR.out]; rfl, HBW2.out⟩
          | true =>
            have HA2 : Hold (∀ (q : Nat) p, q < j + 1 → l[q]? = some p → someB L p.1 = true) := ⟨fun q p hq hp => by
              by_cases e : q = j
              · subst e; rw [HPX.out] at hp; cases hp; exact hsb
              · exact HALL.out q p (by omega) hp⟩
            clear hsb
            go_wp2_with fail
            exact ⟨⟨j + 1, by go_num, hlt, HA2.out, HBL5.out⟩, by simp [intOf]; omega⟩
    · have HR : Hold ((l.all fun p => someB L p.1) = true) := ⟨by
        rw [List.all_eq_true]
        intro p hp
        obtain ⟨q, hq, e⟩ := List.getElem_of_mem hp
        exact HALL.out q p (by omega) (by rw [← e]; exact List.getElem?_eq_getElem hq)⟩
      go_wp2_with fail
      go_ret
      exact ⟨by rw [HR.out]; rfl, HBW.out⟩


end Go.Proofs.YtcmfanfkcbjeoaaGreatDoor
