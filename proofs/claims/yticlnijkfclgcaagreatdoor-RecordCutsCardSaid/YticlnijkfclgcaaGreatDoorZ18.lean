/- The reader of the program: list, at the kind 5. (printed by genXRW.py) The reader of the program: list, at the kind 6. (printed by genXRW.py) Read of the program. -/
import Derived.Test.YticlnijkfclgcaaGreatDoorZ16
import Derived.Test.YticlnijkfclgcaaGreatDoorZ17
import Derived.Deep.DeepCutAuto
import Derived.Deep.LoopGhost
namespace Go.Proofs.YticlnijkfclgcaaGreatDoor
open Go.Shelf Go.RowKit

set_option maxHeartbeats 16000000 in
set_option maxRecDepth 100000 in
theorem list5_step (b : Nat) (s : ByteArray) (n : Nat) (hs : s.size ≤ 1000000)
    (hval : ∀ (m i : Nat) (w : World), m < n → 2 * (s.size - i) + 1 ≤ m → RB b s i false w → Errs b w → Calls Tryz.prog 24 #[.pointer (some ⟨b, 0, none⟩)] w (ResPost b s (valL m (dl s i)) w))
    (i : Nat) (w : World) (hn : 2 * (s.size - i) ≤ n) (h : RB b s i false w) (hE : Errs b w) (hr : ∃ r, dl s i = 91 :: r) :
    Calls Tryz.prog 40 #[.pointer (some ⟨b, 0, none⟩), .agg #[.int .i64 5, .int .i64 0, .string ⟨#[]⟩, .slice none 0 0, .slice none 0 0], .int .u8 93] w (ResPost b s (listL n 5 (dl s (i + 1))) w) := by
  obtain ⟨r, hr⟩ := hr
  obtain ⟨hi, hi2, hi3⟩ := dl_split hr
  obtain ⟨W, hW⟩ : ∃ W, W = (w.alloc (.cells #[.int .i64 5, .int .i64 0, .string ⟨#[]⟩, .slice none 0 0, .slice none 0 0] 58)).alloc (.cells zero5R 58) := ⟨_, rfl⟩
  have HLV := Hold.mk (LV.start W hW)
  have HB0 : Hold (But b w W) := ⟨by rw [hW]; exact ((But.refl b w).alloc _).alloc _⟩
  have hbel : Below w.heap.size w W := by rw [hW]; exact ((Below.refl _ w).alloc (Nat.le_refl _) _).alloc (by simp) _
  have HR := Hold.mk (h.below hbel)
  have hbw := h.lt
  have HVAL := Hold.mk hval
  have HE0 := Hold.mk hE
  obtain ⟨R, hR⟩ : ∃ R, R = listL n 5 (dl s (i + 1)) := ⟨_, rfl⟩
  rw [← hR]
  have HI : Hold (LInv b s n 5 R w s.size true (W.setCell ⟨b, 1, none⟩ (.int .i64 ((i : Int) + 1)))) := ⟨HB0.out.trans (But.set _ _ _), i + 1, _, _, _, _, HR.out.to1 hi, HLV.out.but (But.set _ _ _) hbw, ⟨by omega, Nat.zero_le _, List.Pairwise.nil, fun _ => rfl, fun _ => rfl⟩,
    n, Nat.le_refl _, by omega, by rw [hR, more_start]; rfl⟩
  clear h hE hval hbel hR
  go_enter Tryz.func40, Tryz.ntmps40
  go_upto_region 1 with (fail)
  rw [← hW]
  clear hW
  have x1 := HR.out.c1
  have f1 := HR.out.fz 1
  go_wp2_with fail
  clear x1 f1
  obtain ⟨W2, hW2⟩ : ∃ W2, W2 = W.setCell ⟨b, 1, none⟩ (.int .i64 ((i : Int) + 1)) := ⟨_, rfl⟩
  rw [← hW2] at HI ⊢
  clear hW2 HR HLV HB0 hi2 hi3 hr hn hi
  go_loopg [7] s.size (fun g s7 wr => ∃ f, s7 = .bool f ∧ LInv b s n 5 R w g f wr)
  case atStart => exact ⟨true, rfl, HI.out⟩
  case round =>
    obtain ⟨f, rfl, hbt, j, nv, iv, nm, ps, hr, hlv, ⟨hgk, hpl, hup, hk5, hk6⟩, m, hmn, hm, hf⟩ := hrel
    clear HI
    have HB := Hold.mk hbt
    have HR := Hold.mk hr
    have HLV := Hold.mk hlv
    have HF := Hold.mk hf
    have HUP := Hold.mk (And.intro hup (And.intro hk5 hk6))
    have hjs := hr.le
    have x2 := hr.c2
    clear hbt hr hlv hf hup hk5 hk6
    go_upto_region 5 with (fail)
    clear x2
    go_cut [29] (fun s29 wx => ∃ j2, s29 = .bool (f && decide (hereB (dl s j2) = 93)) ∧ (f = true → dl s j2 = skipL (dl s j)) ∧ skipL (dl s j2) = skipL (dl s j) ∧ j ≤ j2 ∧ RB b s j2 false wx ∧ But b wr wx)
    case first =>
      cases f with
      | false =>
        go_wp2_with fail
        go_meet
        case rel => exact ⟨j, rfl, fun h => by simp at h, rfl, Nat.le_refl _, HR.out, But.refl _ _⟩
      | true =>
        go_wp2_with fail
        refine (peek_any b s j false wr HR.out hs).mono ?_
        rintro e w3 ⟨j2, hj2, hij, rfl, hr3, hb3⟩
        have HC := Hold.mk (And.intro hj2 (And.intro hr3 hb3))
        clear hr3 hb3 hj2
        go_wp2_with fail
        go_meet
        case rel => exact ⟨j2, congrArg Value.bool (by rw [Bool.true_and]; exact here_dec _ 93), fun _ => HC.out.1, by rw [HC.out.1, skipL_skip], hij, HC.out.2.1, HC.out.2.2⟩
    case rest =>
      obtain ⟨j2, rfl, hj2, hsk, hij, hr2, hb2⟩ := hcut
      generalize wc = wa at *
      have HR2 := Hold.mk hr2
      have HB2 := Hold.mk (HB.out.trans hb2)
      have HLV2 := Hold.mk (HLV.out.but hb2 hbw)
      have HSK := Hold.mk hsk
      have HJ2 := Hold.mk hj2
      have hj2s := hr2.le
      clear hr2 hb2 hsk hj2 HR HB HLV
      cases hd : (f && decide (hereB (dl s j2) = 93)) with
      | true =>
        have HFX : Hold (endL 5 (dl s j2) nm (itsOf ps) = R) := ⟨by
          obtain ⟨h1, h2⟩ := Bool.and_eq_true_iff.1 hd
          have h3 := of_decide_eq_true h2
          rw [← HF.out, h1, more_end (by rw [← HJ2.out h1]; exact (here_head (by decide)).1 h3), end_skip HSK.out]⟩
        clear hd
        go_wp2_with fail
        refine (take_any b s j2 93 false wa HR2.out hs (by decide)).mono ?_
        rintro e w9 ⟨rfl, hb9, hk9⟩
        have HLV9 := Hold.mk (HLV2.out.but hb9 hbw)
        have HP := Hold.mk (list_fin (R := R) (ec := 93) rfl HLV9.out (by kernel_rfl) (HB2.out.trans hb9) hbw false (fun h => by first | rfl | exact absurd h (by decide)) j2 hk9 (fun h => by first | exact HFX.out | exact absurd h (by decide)) (fun h => by first | exact HFX.out | exact absurd h (by decide)))
        clear hb9 hk9
        obtain ⟨na, ncap, hnv, _⟩ := row_cell HLV9.out.names
        obtain ⟨ia, icap, hiv, _⟩ := row_cell HLV9.out.items
        subst hnv hiv
        have hv8 := HLV9.out.box
        have hv9 := HLV9.out.res
        obtain ⟨y0, y1, y2, y3, y4⟩ := cells5R hv8
        obtain ⟨v0, v1, v2, v3, v4⟩ := cells5R hv9
        have g0 := freeR hv9 0
        have g1 := freeR hv9 1
        have g2 := freeR hv9 2
        have g3 := freeR hv9 3
        have g4 := freeR hv9 4
        clear hv8 hv9
        go_wp2_with fail
        clear y0 y1 y2 y3 y4 v0 v1 v2 v3 v4 g0 g1 g2 g3 g4
        obtain ⟨W2, hW2, hv3, hp⟩ := HP.out
        unfold set5R at hW2
        rw [← hW2]
        clear hW2
        obtain ⟨v0, v1, v2, v3, v4⟩ := cells5R hv3
        exact bodyPost_ret (v := .agg #[.int .i64 5, .int .i64 0, .string ⟨#[]⟩, .slice na nm.length ncap, .slice ia ps.length icap]) (by simp [results, Tryz.results40, go_sem, v0, v1, v2, v3, v4]) rfl hp
      | false =>
        have HQ : Hold ((if (5 : Int) = 5 then arrL m (dl s j) (itsOf ps) else objL m (dl s j) nm (itsOf ps)) = R) := ⟨by
          rw [← HF.out, more_on]
          intro h1 e
          rw [← HJ2.out h1] at e
          have h2 := (here_head (c := 93) (by decide)).2 e
          rw [h1, h2] at hd
          simp at hd⟩
        clear hd HF
        obtain ⟨m, rfl⟩ : ∃ m', m = m' + 1 := ⟨m - 1, by omega⟩
        rw [if_pos rfl] at HQ
        obtain rfl : nm = [] := HUP.out.2.1 (by trivial)
        have HQ2 : Hold (arrL (m + 1) (dl s j2) (itsOf ps) = R) := ⟨by rw [← HQ.out, arrL, arrL, ← val_skip m (dl s j2), HSK.out, val_skip]⟩
        clear HQ
        have hv8 := HLV2.out.box
        obtain ⟨y0, y1, y2, y3, y4⟩ := cells5R hv8
        clear hv8
        go_upto_region 16 with (fail)
        clear y0 y1 y2 y3 y4
        go_cut [] (fun wx => Nxt b s 5 R w m j2 wx)
        case first =>
          obtain ⟨wd, hwd⟩ : ∃ wd, wd = wa.drew := ⟨_, rfl⟩
          refine wp_region_mixC AnyC 8 rfl (by kernel_rfl) ?_
          rw [← hwd]
          have hbd : But b wa wd := by rw [hwd]; exact (But.refl b wa).drew
          have HRD : Hold (RB b s j2 false wd) := ⟨by rw [hwd]; exact HR2.out.drew⟩
          have HBD := Hold.mk (HB2.out.trans hbd)
          have HLVD := Hold.mk (HLV2.out.but hbd hbw)
          clear hwd hbd
          refine mixl_seg (by kernel_rfl) (fun _ _ d _ _ h => by cases d <;> exact h) [0, 2] [_, _] 6 8 rfl _ _ _ rfl (by kernel_rfl) (anyC _) ?_
          repeat (go_big_quiet_step (fail))
          refine wpQuiet_nil ?_
          have HVC := Hold.mk (HVAL.out m j2 wd (by omega) (by omega) HRD.out (HE0.out.but HBD.out))
          obtain ⟨i0, hi0, hz0, hz1, hz2⟩ := info_parts (show (Tryz.prog.info? 58).map (fun i => (i.zero, i.size, i.bytes)) = some (some (.agg #[.int .i64 0, .int .i64 0, .string ⟨#[]⟩, .slice none 0 0, .slice none 0 0]), 5, 80) by kernel_rfl)
          have HI := Hold.mk (And.intro hi0 (And.intro hz0 (And.intro hz1 hz2)))
          clear hi0 hz0 hz1 hz2
          refine mixl_two (i := 1) (j := 3) rfl rfl (by kernel_rfl) (anyC _) rfl rfl (fun K hK => ?_) (fun K hK => ?_)
          · have hv8 := HLVD.out.box
            obtain ⟨y0, y1, y2, y3, y4⟩ := cells5R hv8
            clear hv8
            go_wp2_with fail
            clear y0 y1 y2 y3 y4
            refine mixl_act (i := 3) rfl (by kernel_rfl) (anyC _) rfl (fun K hK => ?_)
            go_wp2_with fail
            refine HVC.out.mono ?_
            rintro e w3 ⟨hb3, bd, x, j3, rfl, ⟨xk, xn, xt, xna, xnl, xnc, xia, xil, xic, rfl⟩, hr3, hf3, ht3⟩
            obtain ⟨v, hv⟩ : ∃ v : JV, bd = false → valL m (dl s j2) = some (v, dl s j3) ∧ JAt (cfF wd.heap.size w3) v (.agg #[.int .i64 xk, .int .i64 xn, .string xt, .slice xna xnl xnc, .slice xia xil xic]) := by
              cases bd with
              | true => exact ⟨zeroJ, fun h => by cases h⟩
              | false => obtain ⟨v, h⟩ := hf3 rfl; exact ⟨v, fun _ => h⟩
            have HLV3 := Hold.mk (HLVD.out.but hb3 hbw)
            have HB3 := Hold.mk (HBD.out.trans hb3)
            have HR3 := Hold.mk hr3
            have HX3 := Hold.mk (And.intro hv ht3)
            have hs3 := hb3.size
            clear hb3 hf3 hv hr3 ht3
            go_wp2_with fail
            refine mixl_act (i := 4) rfl (by kernel_rfl) (anyC _) rfl (fun K hK => ?_)
            go_wp2_with fail
            obtain ⟨w4, hw4⟩ : ∃ w4, w4 = w3.alloc (.cells #[.int .i64 xk, .int .i64 xn, .string xt, .slice xna xnl xnc, .slice xia xil xic] 58) := ⟨_, rfl⟩
            have hb4 : But b w3 w4 := by rw [hw4]; exact (But.refl b w3).alloc _
            have HN4 : Hold (w4.heap[w3.heap.size]? = some (.cells #[.int .i64 xk, .int .i64 xn, .string xt, .slice xna xnl xnc, .slice xia xil xic] 58 (0, 0))) := ⟨by rw [hw4]; exact heap_alloc_new w3 _⟩
            have HLV4 := Hold.mk (HLV3.out.but hb4 hbw)
            have HB4 := Hold.mk (HB3.out.trans hb4)
            have HR4 : Hold (RB b s j3 bd w4) := ⟨by rw [hw4]; exact HR3.out.below ((Below.refl _ w3).alloc (Nat.le_refl _) _)⟩
            have HX4 : Hold (bd = false → valL m (dl s j2) = some (v, dl s j3) ∧ JAt (cfX (w.heap.size + 2) nv.ownBlock iv.ownBlock w4) v (.agg #[.int .i64 xk, .int .i64 xn, .string xt, .slice xna xnl xnc, .slice xia xil xic])) := ⟨fun h => ⟨(HX3.out.1 h).1, by
              have h1 := (HX3.out.1 h).2.mono (cfX_new (o1 := nv.ownBlock) (o2 := iv.ownBlock) (B := w.heap.size + 2) (by have := ltR HLVD.out.res; omega) (fun q hq => (own_lt HLVD.out.names hq).2) (fun q hq => (own_lt HLVD.out.items hq).2))
              exact h1.mono (cfX_grown hb4 (.inr (.inr fun q e => by have := Option.some.inj e; omega)) (fun _ h => .inl h) (fun _ h => .inl h))⟩⟩
            rw [← hw4]
            clear hw4 hb4
            refine mixl_act (i := 5) rfl (by kernel_rfl) (anyC _) rfl (fun K hK => ?_)
            refine wp_append_lies w4 (.tmp 74) (.tmp 77) 56 rfl (w.heap.size + 2) 58 i0 (.agg #[.int .i64 0, .int .i64 0, .string ⟨#[]⟩, .slice none 0 0, .slice none 0 0]) 5 80 Tryz.underlying56 HI.out.1 HI.out.2.1 HI.out.2.2.1 HI.out.2.2.2 rfl (by decide) iv ps.length _ rfl HLV4.out.items ⟨w3.heap.size, 0, none⟩ 1 1 [.int .i64 xk, .int .i64 xn, .string xt, .slice xna xnl xnc, .slice xia xil xic] rfl rfl (World.news_of_block HN4.out) (by simp [Value.oneCell']) (by decide) (by unfold maxLen; omega) (by omega) (by have := ltR HLV4.out.res; omega) _ rfl ?_
            intro g cap w5 hown hgr hgg _
            refine hK _ _ ?_
            clear hK K
            have HNX := Hold.mk (nxt_arr (sv := .slice (some ⟨g, 0, none⟩) (ps.length + 1) cap) (m := m) (j2 := j2) HLV4.out HR4.out HB4.out hbw HX4.out HX3.out.2 HQ2.out (by omega) rfl (by simp [Value.oneCell']) hown hgr (fun q hq => by
              obtain rfl : g = q := by simpa [Value.ownBlock] using hq
              exact hgg.imp id (fun h => by omega)))
            have hv8 := box_row HLV4.out.box hgr (fun q hq => by have := (own_lt HLV4.out.items hq).1; omega)
            clear hown hgr hgg
            refine mixl_act (i := 6) rfl (by kernel_rfl) (anyC _) rfl (fun K hK => ?_)
            go_wp2_with fail
            refine mixl_act (i := 7) rfl (by kernel_rfl) (anyC _) rfl (fun K hK => ?_)
            obtain ⟨y0, y1, y2, y3, y4⟩ := cells5R hv8
            have f4 := freeR hv8 4
            clear hv8
            go_wp2_with fail
            clear y0 y1 y2 y3 y4 f4
            refine mix_done (by kernel_rfl) (anyC _) ?_
            go_wp2_with fail
            go_meet
            case rel => exact HNX.out
          · go_wp2_with fail
            refine HVC.out.mono ?_
            rintro e w3 ⟨hb3, bd, x, j3, rfl, ⟨xk, xn, xt, xna, xnl, xnc, xia, xil, xic, rfl⟩, hr3, hf3, ht3⟩
            obtain ⟨v, hv⟩ : ∃ v : JV, bd = false → valL m (dl s j2) = some (v, dl s j3) ∧ JAt (cfF wd.heap.size w3) v (.agg #[.int .i64 xk, .int .i64 xn, .string xt, .slice xna xnl xnc, .slice xia xil xic]) := by
              cases bd with
              | true => exact ⟨zeroJ, fun h => by cases h⟩
              | false => obtain ⟨v, h⟩ := hf3 rfl; exact ⟨v, fun _ => h⟩
            have HLV3 := Hold.mk (HLVD.out.but hb3 hbw)
            have HB3 := Hold.mk (HBD.out.trans hb3)
            have HR3 := Hold.mk hr3
            have HX3 := Hold.mk (And.intro hv ht3)
            have hs3 := hb3.size
            clear hb3 hf3 hv hr3 ht3
            go_wp2_with fail
            refine mixl_two (i := 1) (j := 4) rfl rfl (by kernel_rfl) (anyC _) rfl rfl (fun K hK => ?_) (fun K hK => ?_)
            · have hv8 := HLV3.out.box
              obtain ⟨y0, y1, y2, y3, y4⟩ := cells5R hv8
              clear hv8
              go_wp2_with fail
              clear y0 y1 y2 y3 y4
              refine mixl_act (i := 4) rfl (by kernel_rfl) (anyC _) rfl (fun K hK => ?_)
              go_wp2_with fail
              obtain ⟨w4, hw4⟩ : ∃ w4, w4 = w3.alloc (.cells #[.int .i64 xk, .int .i64 xn, .string xt, .slice xna xnl xnc, .slice xia xil xic] 58) := ⟨_, rfl⟩
              have hb4 : But b w3 w4 := by rw [hw4]; exact (But.refl b w3).alloc _
              have HN4 : Hold (w4.heap[w3.heap.size]? = some (.cells #[.int .i64 xk, .int .i64 xn, .string xt, .slice xna xnl xnc, .slice xia xil xic] 58 (0, 0))) := ⟨by rw [hw4]; exact heap_alloc_new w3 _⟩
              have HLV4 := Hold.mk (HLV3.out.but hb4 hbw)
              have HB4 := Hold.mk (HB3.out.trans hb4)
              have HR4 : Hold (RB b s j3 bd w4) := ⟨by rw [hw4]; exact HR3.out.below ((Below.refl _ w3).alloc (Nat.le_refl _) _)⟩
              have HX4 : Hold (bd = false → valL m (dl s j2) = some (v, dl s j3) ∧ JAt (cfX (w.heap.size + 2) nv.ownBlock iv.ownBlock w4) v (.agg #[.int .i64 xk, .int .i64 xn, .string xt, .slice xna xnl xnc, .slice xia xil xic])) := ⟨fun h => ⟨(HX3.out.1 h).1, by
                have h1 := (HX3.out.1 h).2.mono (cfX_new (o1 := nv.ownBlock) (o2 := iv.ownBlock) (B := w.heap.size + 2) (by have := ltR HLVD.out.res; omega) (fun q hq => (own_lt HLVD.out.names hq).2) (fun q hq => (own_lt HLVD.out.items hq).2))
                exact h1.mono (cfX_grown hb4 (.inr (.inr fun q e => by have := Option.some.inj e; omega)) (fun _ h => .inl h) (fun _ h => .inl h))⟩⟩
              rw [← hw4]
              clear hw4 hb4
              refine mixl_act (i := 5) rfl (by kernel_rfl) (anyC _) rfl (fun K hK => ?_)
              refine wp_append_lies w4 (.tmp 74) (.tmp 77) 56 rfl (w.heap.size + 2) 58 i0 (.agg #[.int .i64 0, .int .i64 0, .string ⟨#[]⟩, .slice none 0 0, .slice none 0 0]) 5 80 Tryz.underlying56 HI.out.1 HI.out.2.1 HI.out.2.2.1 HI.out.2.2.2 rfl (by decide) iv ps.length _ rfl HLV4.out.items ⟨w3.heap.size, 0, none⟩ 1 1 [.int .i64 xk, .int .i64 xn, .string xt, .slice xna xnl xnc, .slice xia xil xic] rfl rfl (World.news_of_block HN4.out) (by simp [Value.oneCell']) (by decide) (by unfold maxLen; omega) (by omega) (by have := ltR HLV4.out.res; omega) _ rfl ?_
              intro g cap w5 hown hgr hgg _
              refine hK _ _ ?_
              clear hK K
              have HNX := Hold.mk (nxt_arr (sv := .slice (some ⟨g, 0, none⟩) (ps.length + 1) cap) (m := m) (j2 := j2) HLV4.out HR4.out HB4.out hbw HX4.out HX3.out.2 HQ2.out (by omega) rfl (by simp [Value.oneCell']) hown hgr (fun q hq => by
                obtain rfl : g = q := by simpa [Value.ownBlock] using hq
                exact hgg.imp id (fun h => by omega)))
              have hv8 := box_row HLV4.out.box hgr (fun q hq => by have := (own_lt HLV4.out.items hq).1; omega)
              clear hown hgr hgg
              refine mixl_act (i := 6) rfl (by kernel_rfl) (anyC _) rfl (fun K hK => ?_)
              go_wp2_with fail
              refine mixl_act (i := 7) rfl (by kernel_rfl) (anyC _) rfl (fun K hK => ?_)
              obtain ⟨y0, y1, y2, y3, y4⟩ := cells5R hv8
              have f4 := freeR hv8 4
              clear hv8
              go_wp2_with fail
              clear y0 y1 y2 y3 y4 f4
              refine mix_done (by kernel_rfl) (anyC _) ?_
              go_wp2_with fail
              go_meet
              case rel => exact HNX.out
            · go_wp2_with fail
              obtain ⟨w4, hw4⟩ : ∃ w4, w4 = w3.alloc (.cells #[.int .i64 xk, .int .i64 xn, .string xt, .slice xna xnl xnc, .slice xia xil xic] 58) := ⟨_, rfl⟩
              have hb4 : But b w3 w4 := by rw [hw4]; exact (But.refl b w3).alloc _
              have HN4 : Hold (w4.heap[w3.heap.size]? = some (.cells #[.int .i64 xk, .int .i64 xn, .string xt, .slice xna xnl xnc, .slice xia xil xic] 58 (0, 0))) := ⟨by rw [hw4]; exact heap_alloc_new w3 _⟩
              have HLV4 := Hold.mk (HLV3.out.but hb4 hbw)
              have HB4 := Hold.mk (HB3.out.trans hb4)
              have HR4 : Hold (RB b s j3 bd w4) := ⟨by rw [hw4]; exact HR3.out.below ((Below.refl _ w3).alloc (Nat.le_refl _) _)⟩
              have HX4 : Hold (bd = false → valL m (dl s j2) = some (v, dl s j3) ∧ JAt (cfX (w.heap.size + 2) nv.ownBlock iv.ownBlock w4) v (.agg #[.int .i64 xk, .int .i64 xn, .string xt, .slice xna xnl xnc, .slice xia xil xic])) := ⟨fun h => ⟨(HX3.out.1 h).1, by
                have h1 := (HX3.out.1 h).2.mono (cfX_new (o1 := nv.ownBlock) (o2 := iv.ownBlock) (B := w.heap.size + 2) (by have := ltR HLVD.out.res; omega) (fun q hq => (own_lt HLVD.out.names hq).2) (fun q hq => (own_lt HLVD.out.items hq).2))
                exact h1.mono (cfX_grown hb4 (.inr (.inr fun q e => by have := Option.some.inj e; omega)) (fun _ h => .inl h) (fun _ h => .inl h))⟩⟩
              rw [← hw4]
              clear hw4 hb4
              refine mixl_act (i := 1) rfl (by kernel_rfl) (anyC _) rfl (fun K hK => ?_)
              have hv8 := HLV4.out.box
              obtain ⟨y0, y1, y2, y3, y4⟩ := cells5R hv8
              clear hv8
              go_wp2_with fail
              clear y0 y1 y2 y3 y4
              refine mixl_act (i := 5) rfl (by kernel_rfl) (anyC _) rfl (fun K hK => ?_)
              refine wp_append_lies w4 (.tmp 74) (.tmp 77) 56 rfl (w.heap.size + 2) 58 i0 (.agg #[.int .i64 0, .int .i64 0, .string ⟨#[]⟩, .slice none 0 0, .slice none 0 0]) 5 80 Tryz.underlying56 HI.out.1 HI.out.2.1 HI.out.2.2.1 HI.out.2.2.2 rfl (by decide) iv ps.length _ rfl HLV4.out.items ⟨w3.heap.size, 0, none⟩ 1 1 [.int .i64 xk, .int .i64 xn, .string xt, .slice xna xnl xnc, .slice xia xil xic] rfl rfl (World.news_of_block HN4.out) (by simp [Value.oneCell']) (by decide) (by unfold maxLen; omega) (by omega) (by have := ltR HLV4.out.res; omega) _ rfl ?_
              intro g cap w5 hown hgr hgg _
              refine hK _ _ ?_
              clear hK K
              have HNX := Hold.mk (nxt_arr (sv := .slice (some ⟨g, 0, none⟩) (ps.length + 1) cap) (m := m) (j2 := j2) HLV4.out HR4.out HB4.out hbw HX4.out HX3.out.2 HQ2.out (by omega) rfl (by simp [Value.oneCell']) hown hgr (fun q hq => by
                obtain rfl : g = q := by simpa [Value.ownBlock] using hq
                exact hgg.imp id (fun h => by omega)))
              have hv8 := box_row HLV4.out.box hgr (fun q hq => by have := (own_lt HLV4.out.items hq).1; omega)
              clear hown hgr hgg
              refine mixl_act (i := 6) rfl (by kernel_rfl) (anyC _) rfl (fun K hK => ?_)
              go_wp2_with fail
              refine mixl_act (i := 7) rfl (by kernel_rfl) (anyC _) rfl (fun K hK => ?_)
              obtain ⟨y0, y1, y2, y3, y4⟩ := cells5R hv8
              have f4 := freeR hv8 4
              clear hv8
              go_wp2_with fail
              clear y0 y1 y2 y3 y4 f4
              refine mix_done (by kernel_rfl) (anyC _) ?_
              go_wp2_with fail
              go_meet
              case rel => exact HNX.out
        case rest =>
          obtain ⟨hb4, bd, j3, nv, iv, nm, ps, hr4, hlv4, hf4, ht4⟩ := hcut
          generalize wc = wb at *
          clear HLV2 HR2 HB2 HUP HSK HJ2 HQ2
          have HB4 := Hold.mk hb4
          have HR4 := Hold.mk hr4
          have HLV4 := Hold.mk hlv4
          have hj3s := hr4.le
          have x2 := hr4.c2
          cases bd with
          | true =>
            have HFX : Hold (R = none) := ⟨ht4 rfl⟩
            clear hb4 hr4 hlv4 hf4 ht4
            go_wp2_with fail
            refine (take_any b s j3 93 true wb HR4.out hs (by decide)).mono ?_
            rintro e w9 ⟨rfl, hb9, hk9⟩
            have HLV9 := Hold.mk (HLV4.out.but hb9 hbw)
            have HP := Hold.mk (list_fin (R := R) (ec := 93) rfl HLV9.out (by kernel_rfl) (HB4.out.trans hb9) hbw true (fun h => by first | rfl | exact absurd h (by decide)) j3 hk9 (fun h => by first | exact HFX.out | exact absurd h (by decide)) (fun h => by first | exact HFX.out | exact absurd h (by decide)))
            clear hb9 hk9
            obtain ⟨na, ncap, hnv, _⟩ := row_cell HLV9.out.names
            obtain ⟨ia, icap, hiv, _⟩ := row_cell HLV9.out.items
            subst hnv hiv
            have hv8 := HLV9.out.box
            have hv9 := HLV9.out.res
            obtain ⟨y0, y1, y2, y3, y4⟩ := cells5R hv8
            obtain ⟨v0, v1, v2, v3, v4⟩ := cells5R hv9
            have g0 := freeR hv9 0
            have g1 := freeR hv9 1
            have g2 := freeR hv9 2
            have g3 := freeR hv9 3
            have g4 := freeR hv9 4
            clear hv8 hv9
            go_wp2_with fail
            clear y0 y1 y2 y3 y4 v0 v1 v2 v3 v4 g0 g1 g2 g3 g4
            obtain ⟨W2, hW2, hv3, hp⟩ := HP.out
            unfold set5R at hW2
            rw [← hW2]
            clear hW2
            obtain ⟨v0, v1, v2, v3, v4⟩ := cells5R hv3
            exact bodyPost_ret (v := .agg #[.int .i64 5, .int .i64 0, .string ⟨#[]⟩, .slice na nm.length ncap, .slice ia ps.length icap]) (by simp [results, Tryz.results40, go_sem, v0, v1, v2, v3, v4]) rfl hp
          | false =>
            obtain ⟨hj3, hpl3, hup3, h53, h63, hq3⟩ := hf4 rfl
            have HF4 := Hold.mk hq3
            have HU4 := Hold.mk (And.intro hup3 (And.intro h53 h63))
            clear hb4 hr4 hlv4 hf4 ht4 hq3 hup3 h53 h63
            go_wp2_with fail
            clear x2
            refine (peek_any b s j3 false wb HR4.out hs).mono ?_
            rintro e w6 ⟨j4, hj4, hij4, rfl, hr6, hb6⟩
            have HJ4 := Hold.mk hj4
            have HR6 := Hold.mk hr6
            have HB6 := Hold.mk (HB4.out.trans hb6)
            have HLV6 := Hold.mk (HLV4.out.but hb6 hbw)
            have hj4s := hr6.le
            have hq44 : (((hereB (dl s j4)).toNat : Int) == 44) = decide (hereB (dl s j4) = 44) := here_dec _ 44
            clear hj4 hr6 hb6
            cases hd : decide (hereB (dl s j4) = 44) with
            | false =>
              rw [hd] at hq44
              have HFX : Hold (endL 5 (dl s j4) nm (itsOf ps) = R) := ⟨by
                have ht := tail_end (m := m) (k := 5) (nm := nm) (it := itsOf ps) (l := dl s j3) (fun r e => by
                  have h2 := (here_head (l := dl s j4) (c := 44) (by decide)).2 (by rw [HJ4.out, e]; rfl)
                  rw [h2] at hd
                  simp at hd)
                rw [← HF4.out, ht]
                exact end_skip (by rw [HJ4.out, skipL_skip])⟩
              clear hd
              go_wp2_with fail
              refine (take_any b s j4 93 false w6 HR6.out hs (by decide)).mono ?_
              rintro e w9 ⟨rfl, hb9, hk9⟩
              have HLV9 := Hold.mk (HLV6.out.but hb9 hbw)
              have HP := Hold.mk (list_fin (R := R) (ec := 93) rfl HLV9.out (by kernel_rfl) (HB6.out.trans hb9) hbw false (fun h => by first | rfl | exact absurd h (by decide)) j4 hk9 (fun h => by first | exact HFX.out | exact absurd h (by decide)) (fun h => by first | exact HFX.out | exact absurd h (by decide)))
              clear hb9 hk9
              obtain ⟨na, ncap, hnv, _⟩ := row_cell HLV9.out.names
              obtain ⟨ia, icap, hiv, _⟩ := row_cell HLV9.out.items
              subst hnv hiv
              have hv8 := HLV9.out.box
              have hv9 := HLV9.out.res
              obtain ⟨y0, y1, y2, y3, y4⟩ := cells5R hv8
              obtain ⟨v0, v1, v2, v3, v4⟩ := cells5R hv9
              have g0 := freeR hv9 0
              have g1 := freeR hv9 1
              have g2 := freeR hv9 2
              have g3 := freeR hv9 3
              have g4 := freeR hv9 4
              clear hv8 hv9
              go_wp2_with fail
              clear y0 y1 y2 y3 y4 v0 v1 v2 v3 v4 g0 g1 g2 g3 g4
              obtain ⟨W2, hW2, hv3, hp⟩ := HP.out
              unfold set5R at hW2
              rw [← hW2]
              clear hW2
              obtain ⟨v0, v1, v2, v3, v4⟩ := cells5R hv3
              exact bodyPost_ret (v := .agg #[.int .i64 5, .int .i64 0, .string ⟨#[]⟩, .slice na nm.length ncap, .slice ia ps.length icap]) (by simp [results, Tryz.results40, go_sem, v0, v1, v2, v3, v4]) rfl hp
            | true =>
              rw [hd] at hq44
              have h44 := (here_head (c := 44) (by decide)).1 (of_decide_eq_true hd)
              obtain ⟨r, hr⟩ : ∃ r, dl s j4 = 44 :: r := by
                cases e : dl s j4 with
                | nil => rw [e] at h44; cases h44
                | cons c r => rw [e] at h44; simp at h44; exact ⟨r, by rw [h44]⟩
              obtain ⟨hlt, hlt2, hr2⟩ := dl_split hr
              have HI2 : Hold (LInv b s n 5 R w (gk - 1) false (w6.setCell ⟨b, 1, none⟩ (.int .i64 ((j4 : Int) + 1)))) := ⟨HB6.out.trans (But.set _ _ _), j4 + 1, nv, iv, nm, ps, HR6.out.to1 hlt, HLV6.out.but (But.set _ _ _) hbw, ⟨by omega, by omega, HU4.out.1, fun h => HU4.out.2.1 (by first | trivial | exact h), fun h => HU4.out.2.2 (by first | trivial | exact h)⟩,
                m, by omega, by omega, by rw [hr2, ← HF4.out, tail_on (by rw [← HJ4.out, hr])]⟩
              have hgk1 : gk - 1 < gk := by omega
              have x1 := HR6.out.c1
              have f1 := HR6.out.fz 1
              clear hlt2
              clear hd h44 hr hlt hr2
              go_wp2_with fail
              clear x1 f1
              go_roundg (gk - 1)
              case measure => exact hgk1
              case rel => exact ⟨false, rfl, HI2.out⟩
end Go.Proofs.YticlnijkfclgcaaGreatDoor

namespace Go.Proofs.YticlnijkfclgcaaGreatDoor
open Go.Shelf Go.RowKit

set_option maxHeartbeats 16000000 in
set_option maxRecDepth 100000 in
theorem list6_step (b : Nat) (s : ByteArray) (n : Nat) (hs : s.size ≤ 1000000)
    (hval : ∀ (m i : Nat) (w : World), m < n → 2 * (s.size - i) + 1 ≤ m → RB b s i false w → Errs b w → Calls Tryz.prog 24 #[.pointer (some ⟨b, 0, none⟩)] w (ResPost b s (valL m (dl s i)) w))
    (i : Nat) (w : World) (hn : 2 * (s.size - i) ≤ n) (h : RB b s i false w) (hE : Errs b w) (hr : ∃ r, dl s i = 123 :: r) :
    Calls Tryz.prog 40 #[.pointer (some ⟨b, 0, none⟩), .agg #[.int .i64 6, .int .i64 0, .string ⟨#[]⟩, .slice none 0 0, .slice none 0 0], .int .u8 125] w (ResPost b s (listL n 6 (dl s (i + 1))) w) := by
  obtain ⟨r, hr⟩ := hr
  obtain ⟨hi, hi2, hi3⟩ := dl_split hr
  obtain ⟨W, hW⟩ : ∃ W, W = (w.alloc (.cells #[.int .i64 6, .int .i64 0, .string ⟨#[]⟩, .slice none 0 0, .slice none 0 0] 58)).alloc (.cells zero5R 58) := ⟨_, rfl⟩
  have HLV := Hold.mk (LV.start W hW)
  have HB0 : Hold (But b w W) := ⟨by rw [hW]; exact ((But.refl b w).alloc _).alloc _⟩
  have hbel : Below w.heap.size w W := by rw [hW]; exact ((Below.refl _ w).alloc (Nat.le_refl _) _).alloc (by simp) _
  have HR := Hold.mk (h.below hbel)
  have hbw := h.lt
  have HVAL := Hold.mk hval
  have HE0 := Hold.mk hE
  obtain ⟨R, hR⟩ : ∃ R, R = listL n 6 (dl s (i + 1)) := ⟨_, rfl⟩
  rw [← hR]
  have HI : Hold (LInv b s n 6 R w s.size true (W.setCell ⟨b, 1, none⟩ (.int .i64 ((i : Int) + 1)))) := ⟨HB0.out.trans (But.set _ _ _), i + 1, _, _, _, _, HR.out.to1 hi, HLV.out.but (But.set _ _ _) hbw, ⟨by omega, Nat.zero_le _, List.Pairwise.nil, fun _ => rfl, fun _ => rfl⟩,
    n, Nat.le_refl _, by omega, by rw [hR, more_start]; rfl⟩
  clear h hE hval hbel hR
  go_enter Tryz.func40, Tryz.ntmps40
  go_upto_region 1 with (fail)
  rw [← hW]
  clear hW
  have x1 := HR.out.c1
  have f1 := HR.out.fz 1
  go_wp2_with fail
  clear x1 f1
  obtain ⟨W2, hW2⟩ : ∃ W2, W2 = W.setCell ⟨b, 1, none⟩ (.int .i64 ((i : Int) + 1)) := ⟨_, rfl⟩
  rw [← hW2] at HI ⊢
  clear hW2 HR HLV HB0 hi2 hi3 hr hn hi
  go_loopg [7] s.size (fun g s7 wr => ∃ f, s7 = .bool f ∧ LInv b s n 6 R w g f wr)
  case atStart => exact ⟨true, rfl, HI.out⟩
  case round =>
    obtain ⟨f, rfl, hbt, j, nv, iv, nm, ps, hr, hlv, ⟨hgk, hpl, hup, hk5, hk6⟩, m, hmn, hm, hf⟩ := hrel
    clear HI
    have HB := Hold.mk hbt
    have HR := Hold.mk hr
    have HLV := Hold.mk hlv
    have HF := Hold.mk hf
    have HUP := Hold.mk (And.intro hup (And.intro hk5 hk6))
    have hjs := hr.le
    have x2 := hr.c2
    clear hbt hr hlv hf hup hk5 hk6
    go_upto_region 5 with (fail)
    clear x2
    go_cut [29] (fun s29 wx => ∃ j2, s29 = .bool (f && decide (hereB (dl s j2) = 125)) ∧ (f = true → dl s j2 = skipL (dl s j)) ∧ skipL (dl s j2) = skipL (dl s j) ∧ j ≤ j2 ∧ RB b s j2 false wx ∧ But b wr wx)
    case first =>
      cases f with
      | false =>
        go_wp2_with fail
        go_meet
        case rel => exact ⟨j, rfl, fun h => by simp at h, rfl, Nat.le_refl _, HR.out, But.refl _ _⟩
      | true =>
        go_wp2_with fail
        refine (peek_any b s j false wr HR.out hs).mono ?_
        rintro e w3 ⟨j2, hj2, hij, rfl, hr3, hb3⟩
        have HC := Hold.mk (And.intro hj2 (And.intro hr3 hb3))
        clear hr3 hb3 hj2
        go_wp2_with fail
        go_meet
        case rel => exact ⟨j2, congrArg Value.bool (by rw [Bool.true_and]; exact here_dec _ 125), fun _ => HC.out.1, by rw [HC.out.1, skipL_skip], hij, HC.out.2.1, HC.out.2.2⟩
    case rest =>
      obtain ⟨j2, rfl, hj2, hsk, hij, hr2, hb2⟩ := hcut
      generalize wc = wa at *
      have HR2 := Hold.mk hr2
      have HB2 := Hold.mk (HB.out.trans hb2)
      have HLV2 := Hold.mk (HLV.out.but hb2 hbw)
      have HSK := Hold.mk hsk
      have HJ2 := Hold.mk hj2
      have hj2s := hr2.le
      clear hr2 hb2 hsk hj2 HR HB HLV
      cases hd : (f && decide (hereB (dl s j2) = 125)) with
      | true =>
        have HFX : Hold (endL 6 (dl s j2) nm (itsOf ps) = R) := ⟨by
          obtain ⟨h1, h2⟩ := Bool.and_eq_true_iff.1 hd
          have h3 := of_decide_eq_true h2
          rw [← HF.out, h1, more_end (by rw [← HJ2.out h1]; exact (here_head (by decide)).1 h3), end_skip HSK.out]⟩
        clear hd
        go_wp2_with fail
        refine (take_any b s j2 125 false wa HR2.out hs (by decide)).mono ?_
        rintro e w9 ⟨rfl, hb9, hk9⟩
        have HLV9 := Hold.mk (HLV2.out.but hb9 hbw)
        have HP := Hold.mk (list_fin (R := R) (ec := 125) rfl HLV9.out (by kernel_rfl) (HB2.out.trans hb9) hbw false (fun h => by first | rfl | exact absurd h (by decide)) j2 hk9 (fun h => by first | exact HFX.out | exact absurd h (by decide)) (fun h => by first | exact HFX.out | exact absurd h (by decide)))
        clear hb9 hk9
        obtain ⟨na, ncap, hnv, _⟩ := row_cell HLV9.out.names
        obtain ⟨ia, icap, hiv, _⟩ := row_cell HLV9.out.items
        subst hnv hiv
        have hv8 := HLV9.out.box
        have hv9 := HLV9.out.res
        obtain ⟨y0, y1, y2, y3, y4⟩ := cells5R hv8
        obtain ⟨v0, v1, v2, v3, v4⟩ := cells5R hv9
        have g0 := freeR hv9 0
        have g1 := freeR hv9 1
        have g2 := freeR hv9 2
        have g3 := freeR hv9 3
        have g4 := freeR hv9 4
        clear hv8 hv9
        go_wp2_with fail
        clear y0 y1 y2 y3 y4 v0 v1 v2 v3 v4 g0 g1 g2 g3 g4
        obtain ⟨W2, hW2, hv3, hp⟩ := HP.out
        unfold set5R at hW2
        rw [← hW2]
        clear hW2
        obtain ⟨v0, v1, v2, v3, v4⟩ := cells5R hv3
        exact bodyPost_ret (v := .agg #[.int .i64 6, .int .i64 0, .string ⟨#[]⟩, .slice na nm.length ncap, .slice ia ps.length icap]) (by simp [results, Tryz.results40, go_sem, v0, v1, v2, v3, v4]) rfl hp
      | false =>
        have HQ : Hold ((if (6 : Int) = 5 then arrL m (dl s j) (itsOf ps) else objL m (dl s j) nm (itsOf ps)) = R) := ⟨by
          rw [← HF.out, more_on]
          intro h1 e
          rw [← HJ2.out h1] at e
          have h2 := (here_head (c := 125) (by decide)).2 e
          rw [h1, h2] at hd
          simp at hd⟩
        clear hd HF
        obtain ⟨m, rfl⟩ : ∃ m', m = m' + 1 := ⟨m - 1, by omega⟩
        rw [if_neg (by decide)] at HQ
        have HQ2 : Hold (objL (m + 1) (dl s j2) nm (itsOf ps) = R) := ⟨by rw [← HQ.out, objL, objL, HSK.out]⟩
        have HLEN : Hold (nm.length = ps.length) := ⟨HUP.out.2.2 (by trivial)⟩
        have HUN := Hold.mk HUP.out.1
        clear HQ HUP
        have hv8 := HLV2.out.box
        obtain ⟨y0, y1, y2, y3, y4⟩ := cells5R hv8
        clear hv8
        go_wp2_with fail
        clear y0 y1 y2 y3 y4
        refine (peek_any b s j2 false wa HR2.out hs).mono ?_
        rintro e w6 ⟨j3, hj3, hij3, rfl, hr6, hb6⟩
        have HJ3 := Hold.mk hj3
        have HR6 := Hold.mk hr6
        have HB6 := Hold.mk (HB2.out.trans hb6)
        have HLV6 := Hold.mk (HLV2.out.but hb6 hbw)
        have hj3s := hr6.le
        have hq34 : (((hereB (dl s j3)).toNat : Int) == 34) = decide (hereB (dl s j3) = 34) := here_dec _ 34
        clear hj3 hr6 hb6 HR2 HB2 HLV2 HSK HJ2
        cases hd : decide (hereB (dl s j3) = 34) with
        | false =>
          rw [hd] at hq34
          have HRN : Hold (R = none) := ⟨by
            rw [← HQ2.out]
            refine obj_str (strL_no (fun r e => ?_))
            have h2 := (here_head (l := dl s j3) (c := 34) (by decide)).2 (by rw [HJ3.out, e]; rfl)
            rw [h2] at hd
            simp at hd⟩
          clear hd
          go_wp2_with fail
          refine (fail_any b s j3 false w6 HR6.out).mono ?_
          rintro e wf ⟨rfl, hbad, hbf⟩
          have HLVF := Hold.mk (HLV6.out.but hbf hbw)
          have HBF := Hold.mk (HB6.out.trans hbf)
          have HBAD := Hold.mk hbad
          clear hbf hbad
          have HPB := Hold.mk (bad_post (R := R) HLVF.out.res HBF.out hbw HBAD.out HRN.out)
          have hv9 := HLVF.out.res
          obtain ⟨v0, v1, v2, v3, v4⟩ := cells5R hv9
          have g0 := freeR hv9 0
          have g1 := freeR hv9 1
          have g2 := freeR hv9 2
          have g3 := freeR hv9 3
          have g4 := freeR hv9 4
          clear hv9
          go_wp2_with fail
          clear v0 v1 v2 v3 v4 g0 g1 g2 g3 g4
          obtain ⟨W2, hW2, hv3, hp⟩ := HPB.out
          unfold set5R at hW2
          rw [← hW2]
          clear hW2
          obtain ⟨v0, v1, v2, v3, v4⟩ := cells5R hv3
          exact bodyPost_ret (v := .agg zero5R) (by simp [results, Tryz.results40, go_sem, v0, v1, v2, v3, v4]) rfl hp
        | true =>
          rw [hd] at hq34
          have h34 := (here_head (c := 34) (by decide)).1 (of_decide_eq_true hd)
          obtain ⟨r, hr⟩ : ∃ r, dl s j3 = 34 :: r := by
            cases e : dl s j3 with
            | nil => rw [e] at h34; cases h34
            | cons c r => rw [e] at h34; simp at h34; exact ⟨r, by rw [h34]⟩
          have HQR := Hold.mk (Exists.intro (p := fun r => dl s j3 = 34 :: r) r hr)
          clear hd h34 hr r
          go_wp2_with fail
          clear hq34
          refine (readQuoted_any b s j3 w6 HR6.out hs HQR.out (HE0.out.but HB6.out)).mono ?_
          rintro e w7 ⟨hb7, bd, t, j4, rfl, ht4, hr7, hf7, hbad7⟩
          have HR7 := Hold.mk hr7
          have HB7 := Hold.mk (HB6.out.trans hb7)
          have HLV7 := Hold.mk (HLV6.out.but hb7 hbw)
          have HF7 := Hold.mk (And.intro hf7 hbad7)
          have hj4s := hr7.le
          clear hr7 hb7 hf7 hbad7 HR6 HB6 HLV6 HQR
          go_wp2_with fail
          refine (take_any b s j4 58 bd w7 HR7.out hs (by decide)).mono ?_
          rintro e w8 ⟨rfl, hb8, hk8⟩
          obtain ⟨bd8, j5, hr8, hg8, hn8⟩ := colon_step (m := m) (nm := nm) (it := itsOf ps) HJ3.out HF7.out.1 HF7.out.2 hk8
          have HR8 := Hold.mk hr8
          have HB8 := Hold.mk (HB7.out.trans hb8)
          have HLV8 := Hold.mk (HLV7.out.but hb8 hbw)
          have HG8 := Hold.mk (And.intro hg8 hn8)
          have hj5s := hr8.le
          clear hr8 hb8 hk8 hg8 hn8 HR7 HB7 HLV7 HF7
          have hv8 := HLV8.out.box
          obtain ⟨y0, y1, y2, y3, y4⟩ := cells5R hv8
          clear hv8
          go_wp2_with fail
          clear y0 y1 y2 y3 y4
          refine (bin_any HLV8.out.names HUN.out (by have := HLEN.out; omega) t).mono ?_
          rintro e w9 ⟨rfl, hb9⟩
          have hb9' := But.of_below (b := b) hb9
          have HR9 := Hold.mk (HR8.out.below hb9)
          have HB9 := Hold.mk (HB8.out.trans hb9')
          have HLV9 := Hold.mk (HLV8.out.but hb9' hbw)
          have x2 := HR9.out.c2
          clear hb9 hb9' HR8 HB8 HLV8
          cases bd8 with
          | true =>
            have HRN : Hold (R = none) := ⟨by rw [← HQ2.out]; exact HG8.out.2 rfl⟩
            go_wp2_with fail
            clear x2
            refine (fail_any b s j5 true w9 HR9.out).mono ?_
            rintro e wf ⟨rfl, hbad, hbf⟩
            have HLVF := Hold.mk (HLV9.out.but hbf hbw)
            have HBF := Hold.mk (HB9.out.trans hbf)
            have HBAD := Hold.mk hbad
            clear hbf hbad
            have HPB := Hold.mk (bad_post (R := R) HLVF.out.res HBF.out hbw HBAD.out HRN.out)
            have hv9 := HLVF.out.res
            obtain ⟨v0, v1, v2, v3, v4⟩ := cells5R hv9
            have g0 := freeR hv9 0
            have g1 := freeR hv9 1
            have g2 := freeR hv9 2
            have g3 := freeR hv9 3
            have g4 := freeR hv9 4
            clear hv9
            go_wp2_with fail
            clear v0 v1 v2 v3 v4 g0 g1 g2 g3 g4
            obtain ⟨W2, hW2, hv3, hp⟩ := HPB.out
            unfold set5R at hW2
            rw [← hW2]
            clear hW2
            obtain ⟨v0, v1, v2, v3, v4⟩ := cells5R hv3
            exact bodyPost_ret (v := .agg zero5R) (by simp [results, Tryz.results40, go_sem, v0, v1, v2, v3, v4]) rfl hp
          | false =>
          have HS8 := Hold.mk (HG8.out.1 rfl)
          have hj25 : j2 < j5 := by
            have h1 := (strL_len HS8.out.1).1
            have h2 := congrArg List.length HS8.out.2
            have h3 := skipL_len (dl s j4)
            have h4 := skipL_len (dl s j2)
            rw [List.length_cons] at h2
            simp only [dl_len] at h1 h2 h3 h4
            omega
          clear HG8
          cases hh : hasN nm t with
          | true =>
            have HRN : Hold (R = none) := ⟨by rw [← HQ2.out]; exact obj_no HS8.out.1 (.inr hh)⟩
            clear hh
            go_wp2_with fail
            clear x2
            refine (fail_any b s j5 false w9 HR9.out).mono ?_
            rintro e wf ⟨rfl, hbad, hbf⟩
            have HLVF := Hold.mk (HLV9.out.but hbf hbw)
            have HBF := Hold.mk (HB9.out.trans hbf)
            have HBAD := Hold.mk hbad
            clear hbf hbad
            have HPB := Hold.mk (bad_post (R := R) HLVF.out.res HBF.out hbw HBAD.out HRN.out)
            have hv9 := HLVF.out.res
            obtain ⟨v0, v1, v2, v3, v4⟩ := cells5R hv9
            have g0 := freeR hv9 0
            have g1 := freeR hv9 1
            have g2 := freeR hv9 2
            have g3 := freeR hv9 3
            have g4 := freeR hv9 4
            clear hv9
            go_wp2_with fail
            clear v0 v1 v2 v3 v4 g0 g1 g2 g3 g4
            obtain ⟨W2, hW2, hv3, hp⟩ := HPB.out
            unfold set5R at hW2
            rw [← hW2]
            clear hW2
            obtain ⟨v0, v1, v2, v3, v4⟩ := cells5R hv3
            exact bodyPost_ret (v := .agg zero5R) (by simp [results, Tryz.results40, go_sem, v0, v1, v2, v3, v4]) rfl hp
          | false =>
            have HH := Hold.mk hh
            clear hh
            have hv8 := HLV9.out.box
            obtain ⟨y0, y1, y2, y3, y4⟩ := cells5R hv8
            clear hv8
            go_wp2_with fail
            clear y0 y1 y2 y3 y4 x2
            obtain ⟨w10, hw10⟩ : ∃ w10, w10 = w9.alloc (.cells #[.string t] 9) := ⟨_, rfl⟩
            have hb10 : But b w9 w10 := by rw [hw10]; exact (But.refl b w9).alloc _
            have HN10 : Hold (w10.heap[w9.heap.size]? = some (.cells [.string t].toArray 9 (0, 0))) := ⟨by rw [hw10]; exact heap_alloc_new w9 _⟩
            have HLV10 := Hold.mk (HLV9.out.but hb10 hbw)
            have HB10 := Hold.mk (HB9.out.trans hb10)
            have HR10 : Hold (RB b s j5 false w10) := ⟨by rw [hw10]; exact HR9.out.below ((Below.refl _ w9).alloc (Nat.le_refl _) _)⟩
            rw [← hw10]
            clear hw10 hb10
            have hne10 : nv.ownBlock ≠ some w9.heap.size := fun e => by have := (own_lt HLV9.out.names e).2; omega
            refine (insStr_any (w.heap.size + 2) w10 nv nm.length _ HLV10.out.names (placeN nm t) (placeN_le nm t) w9.heap.size [.string t] HN10.out rfl (by simp [Value.oneCell']) (one_strs nm) (by have := ltR HLV10.out.res; omega) (by have := HLEN.out; omega) hne10).mono ?_
            rintro e w11 ⟨sv, rfl, hown, hgr, hgg⟩
            have hBn : ∀ q, nv.ownBlock = some q → w.heap.size + 2 ≤ q := fun q hq => (own_lt HLV10.out.names hq).1
            have hset := But.set (b := w.heap.size) w11 3 sv
            have HLV12 := Hold.mk (name_step HLV10.out (by omega) hown hgr hgg)
            have HB12 : Hold (But b w (w11.setCell ⟨w.heap.size, 3, none⟩ sv)) := ⟨But.own (But.row HB10.out hgr (fun q hq => by have := hBn q hq; omega)) (Nat.le_refl _) hset⟩
            have HR12 : Hold (RB b s j5 false (w11.setCell ⟨w.heap.size, 3, none⟩ sv)) := ⟨(HR10.out.row hgr (fun q hq => by have := hBn q hq; omega)).keep hset (by omega)⟩
            have hv8 := box_row HLV10.out.box hgr (fun q hq => by have := hBn q hq; omega)
            obtain ⟨sa, scap, hsv, _⟩ := row_cell hown
            clear hown hgr hgg hset hBn hne10 HLV10 HB10 HR10 HLV9 HB9 HR9 HN10
            subst hsv
            obtain ⟨y0, y1, y2, y3, y4⟩ := cells5R hv8
            have f3 := freeR hv8 3
            clear hv8
            go_upto_region 15 with (fail)
            clear y0 y1 y2 y3 y4 f3
            obtain ⟨we, hwe⟩ : ∃ we, we = w11.setCell ⟨w.heap.size, 3, none⟩ (.slice sa (nm.length + 1) scap) := ⟨_, rfl⟩
            rw [← hwe] at HLV12 HB12 HR12 ⊢
            clear hwe
            go_cut [] (fun wx => Nxt b s 6 R w m j2 wx)
            case first =>
              obtain ⟨wd, hwd⟩ : ∃ wd, wd = we.drew := ⟨_, rfl⟩
              refine wp_region_mixC AnyC 9 rfl (by kernel_rfl) ?_
              rw [← hwd]
              have hbd : But b we wd := by rw [hwd]; exact (But.refl b we).drew
              have HRD : Hold (RB b s j5 false wd) := ⟨by rw [hwd]; exact HR12.out.drew⟩
              have HBD := Hold.mk (HB12.out.trans hbd)
              have HLVD := Hold.mk (HLV12.out.but hbd hbw)
              clear hwd hbd
              refine mixl_seg (by kernel_rfl) (fun _ _ d _ _ h => by cases d <;> exact h) [0, 2, 3] [_, _, _] 6 9 rfl _ _ _ rfl (by kernel_rfl) (anyC _) ?_
              repeat (go_big_quiet_step (fail))
              refine wpQuiet_nil ?_
              have HVC := Hold.mk (HVAL.out m j5 wd (by omega) (by omega) HRD.out (HE0.out.but HBD.out))
              generalize hnv : Value.slice sa (nm.length + 1) scap = nv2 at HLVD
              clear hnv
              refine mixl_two (i := 1) (j := 4) rfl rfl (by kernel_rfl) (anyC _) rfl rfl (fun K hK => ?_) (fun K hK => ?_)
              · have hv8 := HLVD.out.box
                obtain ⟨y0, y1, y2, y3, y4⟩ := cells5R hv8
                clear hv8
                go_wp2_with fail
                clear y0 y1 y2 y3 y4
                refine mixl_act (i := 4) rfl (by kernel_rfl) (anyC _) rfl (fun K hK => ?_)
                go_wp2_with fail
                refine HVC.out.mono ?_
                rintro e w3 ⟨hb3, bd, x, j3, rfl, ⟨xk, xn, xt, xna, xnl, xnc, xia, xil, xic, rfl⟩, hr3, hf3, ht3⟩
                obtain ⟨v, hv⟩ : ∃ v : JV, bd = false → valL m (dl s j5) = some (v, dl s j3) ∧ JAt (cfF wd.heap.size w3) v (.agg #[.int .i64 xk, .int .i64 xn, .string xt, .slice xna xnl xnc, .slice xia xil xic]) := by
                  cases bd with
                  | true => exact ⟨zeroJ, fun h => by cases h⟩
                  | false => obtain ⟨v, h⟩ := hf3 rfl; exact ⟨v, fun _ => h⟩
                have HLV3 := Hold.mk (HLVD.out.but hb3 hbw)
                have HB3 := Hold.mk (HBD.out.trans hb3)
                have HR3 := Hold.mk hr3
                have HX3 := Hold.mk (And.intro hv ht3)
                have hs3 := hb3.size
                clear hb3 hf3 hv hr3 ht3
                go_wp2_with fail
                refine mixl_act (i := 5) rfl (by kernel_rfl) (anyC _) rfl (fun K hK => ?_)
                go_wp2_with fail
                obtain ⟨w4, hw4⟩ : ∃ w4, w4 = w3.alloc (.cells #[.int .i64 xk, .int .i64 xn, .string xt, .slice xna xnl xnc, .slice xia xil xic] 58) := ⟨_, rfl⟩
                have hb4 : But b w3 w4 := by rw [hw4]; exact (But.refl b w3).alloc _
                have HN4 : Hold (w4.heap[w3.heap.size]? = some (.cells #[.int .i64 xk, .int .i64 xn, .string xt, .slice xna xnl xnc, .slice xia xil xic] 58 (0, 0))) := ⟨by rw [hw4]; exact heap_alloc_new w3 _⟩
                have HLV4 := Hold.mk (HLV3.out.but hb4 hbw)
                have HB4 := Hold.mk (HB3.out.trans hb4)
                have HR4 : Hold (RB b s j3 bd w4) := ⟨by rw [hw4]; exact HR3.out.below ((Below.refl _ w3).alloc (Nat.le_refl _) _)⟩
                have HX4 : Hold (bd = false → valL m (dl s j5) = some (v, dl s j3) ∧ JAt (cfX (w.heap.size + 2) nv2.ownBlock iv.ownBlock w4) v (.agg #[.int .i64 xk, .int .i64 xn, .string xt, .slice xna xnl xnc, .slice xia xil xic])) := ⟨fun h => ⟨(HX3.out.1 h).1, by
                  have h1 := (HX3.out.1 h).2.mono (cfX_new (o1 := nv2.ownBlock) (o2 := iv.ownBlock) (B := w.heap.size + 2) (by have := ltR HLVD.out.res; omega) (fun q hq => (own_lt HLVD.out.names hq).2) (fun q hq => (own_lt HLVD.out.items hq).2))
                  exact h1.mono (cfX_grown hb4 (.inr (.inr fun q e => by have := Option.some.inj e; omega)) (fun _ h => .inl h) (fun _ h => .inl h))⟩⟩
                rw [← hw4]
                clear hw4 hb4
                refine mixl_act (i := 6) rfl (by kernel_rfl) (anyC _) rfl (fun K hK => ?_)
                go_wp2_with fail
                have hkp : placeN nm t ≤ ps.length := by rw [← HLEN.out]; exact placeN_le nm t
                refine (insVal_any (w.heap.size + 2) w4 iv ps.length (rowOf ps) HLV4.out.items (placeN nm t) hkp w3.heap.size [.int .i64 xk, .int .i64 xn, .string xt, .slice xna xnl xnc, .slice xia xil xic] HN4.out rfl (by simp [Value.oneCell']) (row_one (HLV4.out.vals rfl)) (by have := ltR HLV4.out.res; omega) (by omega) (fun e => by have := (own_lt HLV3.out.items e).2; omega)).mono ?_
                rintro e w5 ⟨sv, rfl, hown, hgr, hgg⟩
                have HNX := Hold.mk (nxt_obj (sv := sv) (m := m) (j2 := j2) HLV4.out HR4.out HB4.out hbw HX4.out HX3.out.2 HQ2.out HS8.out.1 HS8.out.2 hj25 HUN.out HLEN.out HH.out (by omega) rfl (by simp [Value.oneCell']) hown hgr hgg)
                have hv8 := box_row HLV4.out.box hgr (fun q hq => by have := (own_lt HLV4.out.items hq).1; omega)
                obtain ⟨sa2, scap2, hsv, _⟩ := row_cell hown
                clear hown hgr hgg
                subst hsv
                go_wp2_with fail
                refine mixl_act (i := 7) rfl (by kernel_rfl) (anyC _) rfl (fun K hK => ?_)
                go_wp2_with fail
                refine mixl_act (i := 8) rfl (by kernel_rfl) (anyC _) rfl (fun K hK => ?_)
                obtain ⟨y0, y1, y2, y3, y4⟩ := cells5R hv8
                have f4 := freeR hv8 4
                clear hv8
                go_wp2_with fail
                clear y0 y1 y2 y3 y4 f4
                refine mix_done (by kernel_rfl) (anyC _) ?_
                go_wp2_with fail
                go_meet
                case rel => exact HNX.out
              · go_wp2_with fail
                refine HVC.out.mono ?_
                rintro e w3 ⟨hb3, bd, x, j3, rfl, ⟨xk, xn, xt, xna, xnl, xnc, xia, xil, xic, rfl⟩, hr3, hf3, ht3⟩
                obtain ⟨v, hv⟩ : ∃ v : JV, bd = false → valL m (dl s j5) = some (v, dl s j3) ∧ JAt (cfF wd.heap.size w3) v (.agg #[.int .i64 xk, .int .i64 xn, .string xt, .slice xna xnl xnc, .slice xia xil xic]) := by
                  cases bd with
                  | true => exact ⟨zeroJ, fun h => by cases h⟩
                  | false => obtain ⟨v, h⟩ := hf3 rfl; exact ⟨v, fun _ => h⟩
                have HLV3 := Hold.mk (HLVD.out.but hb3 hbw)
                have HB3 := Hold.mk (HBD.out.trans hb3)
                have HR3 := Hold.mk hr3
                have HX3 := Hold.mk (And.intro hv ht3)
                have hs3 := hb3.size
                clear hb3 hf3 hv hr3 ht3
                go_wp2_with fail
                refine mixl_two (i := 1) (j := 5) rfl rfl (by kernel_rfl) (anyC _) rfl rfl (fun K hK => ?_) (fun K hK => ?_)
                · have hv8 := HLV3.out.box
                  obtain ⟨y0, y1, y2, y3, y4⟩ := cells5R hv8
                  clear hv8
                  go_wp2_with fail
                  clear y0 y1 y2 y3 y4
                  refine mixl_act (i := 5) rfl (by kernel_rfl) (anyC _) rfl (fun K hK => ?_)
                  go_wp2_with fail
                  obtain ⟨w4, hw4⟩ : ∃ w4, w4 = w3.alloc (.cells #[.int .i64 xk, .int .i64 xn, .string xt, .slice xna xnl xnc, .slice xia xil xic] 58) := ⟨_, rfl⟩
                  have hb4 : But b w3 w4 := by rw [hw4]; exact (But.refl b w3).alloc _
                  have HN4 : Hold (w4.heap[w3.heap.size]? = some (.cells #[.int .i64 xk, .int .i64 xn, .string xt, .slice xna xnl xnc, .slice xia xil xic] 58 (0, 0))) := ⟨by rw [hw4]; exact heap_alloc_new w3 _⟩
                  have HLV4 := Hold.mk (HLV3.out.but hb4 hbw)
                  have HB4 := Hold.mk (HB3.out.trans hb4)
                  have HR4 : Hold (RB b s j3 bd w4) := ⟨by rw [hw4]; exact HR3.out.below ((Below.refl _ w3).alloc (Nat.le_refl _) _)⟩
                  have HX4 : Hold (bd = false → valL m (dl s j5) = some (v, dl s j3) ∧ JAt (cfX (w.heap.size + 2) nv2.ownBlock iv.ownBlock w4) v (.agg #[.int .i64 xk, .int .i64 xn, .string xt, .slice xna xnl xnc, .slice xia xil xic])) := ⟨fun h => ⟨(HX3.out.1 h).1, by
                    have h1 := (HX3.out.1 h).2.mono (cfX_new (o1 := nv2.ownBlock) (o2 := iv.ownBlock) (B := w.heap.size + 2) (by have := ltR HLVD.out.res; omega) (fun q hq => (own_lt HLVD.out.names hq).2) (fun q hq => (own_lt HLVD.out.items hq).2))
                    exact h1.mono (cfX_grown hb4 (.inr (.inr fun q e => by have := Option.some.inj e; omega)) (fun _ h => .inl h) (fun _ h => .inl h))⟩⟩
                  rw [← hw4]
                  clear hw4 hb4
                  refine mixl_act (i := 6) rfl (by kernel_rfl) (anyC _) rfl (fun K hK => ?_)
                  go_wp2_with fail
                  have hkp : placeN nm t ≤ ps.length := by rw [← HLEN.out]; exact placeN_le nm t
                  refine (insVal_any (w.heap.size + 2) w4 iv ps.length (rowOf ps) HLV4.out.items (placeN nm t) hkp w3.heap.size [.int .i64 xk, .int .i64 xn, .string xt, .slice xna xnl xnc, .slice xia xil xic] HN4.out rfl (by simp [Value.oneCell']) (row_one (HLV4.out.vals rfl)) (by have := ltR HLV4.out.res; omega) (by omega) (fun e => by have := (own_lt HLV3.out.items e).2; omega)).mono ?_
                  rintro e w5 ⟨sv, rfl, hown, hgr, hgg⟩
                  have HNX := Hold.mk (nxt_obj (sv := sv) (m := m) (j2 := j2) HLV4.out HR4.out HB4.out hbw HX4.out HX3.out.2 HQ2.out HS8.out.1 HS8.out.2 hj25 HUN.out HLEN.out HH.out (by omega) rfl (by simp [Value.oneCell']) hown hgr hgg)
                  have hv8 := box_row HLV4.out.box hgr (fun q hq => by have := (own_lt HLV4.out.items hq).1; omega)
                  obtain ⟨sa2, scap2, hsv, _⟩ := row_cell hown
                  clear hown hgr hgg
                  subst hsv
                  go_wp2_with fail
                  refine mixl_act (i := 7) rfl (by kernel_rfl) (anyC _) rfl (fun K hK => ?_)
                  go_wp2_with fail
                  refine mixl_act (i := 8) rfl (by kernel_rfl) (anyC _) rfl (fun K hK => ?_)
                  obtain ⟨y0, y1, y2, y3, y4⟩ := cells5R hv8
                  have f4 := freeR hv8 4
                  clear hv8
                  go_wp2_with fail
                  clear y0 y1 y2 y3 y4 f4
                  refine mix_done (by kernel_rfl) (anyC _) ?_
                  go_wp2_with fail
                  go_meet
                  case rel => exact HNX.out
                · go_wp2_with fail
                  obtain ⟨w4, hw4⟩ : ∃ w4, w4 = w3.alloc (.cells #[.int .i64 xk, .int .i64 xn, .string xt, .slice xna xnl xnc, .slice xia xil xic] 58) := ⟨_, rfl⟩
                  have hb4 : But b w3 w4 := by rw [hw4]; exact (But.refl b w3).alloc _
                  have HN4 : Hold (w4.heap[w3.heap.size]? = some (.cells #[.int .i64 xk, .int .i64 xn, .string xt, .slice xna xnl xnc, .slice xia xil xic] 58 (0, 0))) := ⟨by rw [hw4]; exact heap_alloc_new w3 _⟩
                  have HLV4 := Hold.mk (HLV3.out.but hb4 hbw)
                  have HB4 := Hold.mk (HB3.out.trans hb4)
                  have HR4 : Hold (RB b s j3 bd w4) := ⟨by rw [hw4]; exact HR3.out.below ((Below.refl _ w3).alloc (Nat.le_refl _) _)⟩
                  have HX4 : Hold (bd = false → valL m (dl s j5) = some (v, dl s j3) ∧ JAt (cfX (w.heap.size + 2) nv2.ownBlock iv.ownBlock w4) v (.agg #[.int .i64 xk, .int .i64 xn, .string xt, .slice xna xnl xnc, .slice xia xil xic])) := ⟨fun h => ⟨(HX3.out.1 h).1, by
                    have h1 := (HX3.out.1 h).2.mono (cfX_new (o1 := nv2.ownBlock) (o2 := iv.ownBlock) (B := w.heap.size + 2) (by have := ltR HLVD.out.res; omega) (fun q hq => (own_lt HLVD.out.names hq).2) (fun q hq => (own_lt HLVD.out.items hq).2))
                    exact h1.mono (cfX_grown hb4 (.inr (.inr fun q e => by have := Option.some.inj e; omega)) (fun _ h => .inl h) (fun _ h => .inl h))⟩⟩
                  rw [← hw4]
                  clear hw4 hb4
                  refine mixl_act (i := 1) rfl (by kernel_rfl) (anyC _) rfl (fun K hK => ?_)
                  have hv8 := HLV4.out.box
                  obtain ⟨y0, y1, y2, y3, y4⟩ := cells5R hv8
                  clear hv8
                  go_wp2_with fail
                  clear y0 y1 y2 y3 y4
                  refine mixl_act (i := 6) rfl (by kernel_rfl) (anyC _) rfl (fun K hK => ?_)
                  go_wp2_with fail
                  have hkp : placeN nm t ≤ ps.length := by rw [← HLEN.out]; exact placeN_le nm t
                  refine (insVal_any (w.heap.size + 2) w4 iv ps.length (rowOf ps) HLV4.out.items (placeN nm t) hkp w3.heap.size [.int .i64 xk, .int .i64 xn, .string xt, .slice xna xnl xnc, .slice xia xil xic] HN4.out rfl (by simp [Value.oneCell']) (row_one (HLV4.out.vals rfl)) (by have := ltR HLV4.out.res; omega) (by omega) (fun e => by have := (own_lt HLV3.out.items e).2; omega)).mono ?_
                  rintro e w5 ⟨sv, rfl, hown, hgr, hgg⟩
                  have HNX := Hold.mk (nxt_obj (sv := sv) (m := m) (j2 := j2) HLV4.out HR4.out HB4.out hbw HX4.out HX3.out.2 HQ2.out HS8.out.1 HS8.out.2 hj25 HUN.out HLEN.out HH.out (by omega) rfl (by simp [Value.oneCell']) hown hgr hgg)
                  have hv8 := box_row HLV4.out.box hgr (fun q hq => by have := (own_lt HLV4.out.items hq).1; omega)
                  obtain ⟨sa2, scap2, hsv, _⟩ := row_cell hown
                  clear hown hgr hgg
                  subst hsv
                  go_wp2_with fail
                  refine mixl_act (i := 7) rfl (by kernel_rfl) (anyC _) rfl (fun K hK => ?_)
                  go_wp2_with fail
                  refine mixl_act (i := 8) rfl (by kernel_rfl) (anyC _) rfl (fun K hK => ?_)
                  obtain ⟨y0, y1, y2, y3, y4⟩ := cells5R hv8
                  have f4 := freeR hv8 4
                  clear hv8
                  go_wp2_with fail
                  clear y0 y1 y2 y3 y4 f4
                  refine mix_done (by kernel_rfl) (anyC _) ?_
                  go_wp2_with fail
                  go_meet
                  case rel => exact HNX.out
            case rest =>
              obtain ⟨hb4, bd, j3, nv, iv, nm, ps, hr4, hlv4, hf4, ht4⟩ := hcut
              generalize wc = wb at *
              clear HLV12 HB12 HR12 HQ2 HS8 HH HUN HLEN
              have HB4 := Hold.mk hb4
              have HR4 := Hold.mk hr4
              have HLV4 := Hold.mk hlv4
              have hj3s := hr4.le
              have x2 := hr4.c2
              cases bd with
              | true =>
                have HFX : Hold (R = none) := ⟨ht4 rfl⟩
                clear hb4 hr4 hlv4 hf4 ht4
                go_wp2_with fail
                refine (take_any b s j3 125 true wb HR4.out hs (by decide)).mono ?_
                rintro e w9 ⟨rfl, hb9, hk9⟩
                have HLV9 := Hold.mk (HLV4.out.but hb9 hbw)
                have HP := Hold.mk (list_fin (R := R) (ec := 125) rfl HLV9.out (by kernel_rfl) (HB4.out.trans hb9) hbw true (fun h => by first | rfl | exact absurd h (by decide)) j3 hk9 (fun h => by first | exact HFX.out | exact absurd h (by decide)) (fun h => by first | exact HFX.out | exact absurd h (by decide)))
                clear hb9 hk9
                obtain ⟨na, ncap, hnv, _⟩ := row_cell HLV9.out.names
                obtain ⟨ia, icap, hiv, _⟩ := row_cell HLV9.out.items
                subst hnv hiv
                have hv8 := HLV9.out.box
                have hv9 := HLV9.out.res
                obtain ⟨y0, y1, y2, y3, y4⟩ := cells5R hv8
                obtain ⟨v0, v1, v2, v3, v4⟩ := cells5R hv9
                have g0 := freeR hv9 0
                have g1 := freeR hv9 1
                have g2 := freeR hv9 2
                have g3 := freeR hv9 3
                have g4 := freeR hv9 4
                clear hv8 hv9
                go_wp2_with fail
                clear y0 y1 y2 y3 y4 v0 v1 v2 v3 v4 g0 g1 g2 g3 g4
                obtain ⟨W2, hW2, hv3, hp⟩ := HP.out
                unfold set5R at hW2
                rw [← hW2]
                clear hW2
                obtain ⟨v0, v1, v2, v3, v4⟩ := cells5R hv3
                exact bodyPost_ret (v := .agg #[.int .i64 6, .int .i64 0, .string ⟨#[]⟩, .slice na nm.length ncap, .slice ia ps.length icap]) (by simp [results, Tryz.results40, go_sem, v0, v1, v2, v3, v4]) rfl hp
              | false =>
                obtain ⟨hj3, hpl3, hup3, h53, h63, hq3⟩ := hf4 rfl
                have HF4 := Hold.mk hq3
                have HU4 := Hold.mk (And.intro hup3 (And.intro h53 h63))
                clear hb4 hr4 hlv4 hf4 ht4 hq3 hup3 h53 h63
                go_wp2_with fail
                clear x2
                refine (peek_any b s j3 false wb HR4.out hs).mono ?_
                rintro e w6 ⟨j4, hj4, hij4, rfl, hr6, hb6⟩
                have HJ4 := Hold.mk hj4
                have HR6 := Hold.mk hr6
                have HB6 := Hold.mk (HB4.out.trans hb6)
                have HLV6 := Hold.mk (HLV4.out.but hb6 hbw)
                have hj4s := hr6.le
                have hq44 : (((hereB (dl s j4)).toNat : Int) == 44) = decide (hereB (dl s j4) = 44) := here_dec _ 44
                clear hj4 hr6 hb6
                cases hd : decide (hereB (dl s j4) = 44) with
                | false =>
                  rw [hd] at hq44
                  have HFX : Hold (endL 6 (dl s j4) nm (itsOf ps) = R) := ⟨by
                    have ht := tail_end (m := m) (k := 6) (nm := nm) (it := itsOf ps) (l := dl s j3) (fun r e => by
                      have h2 := (here_head (l := dl s j4) (c := 44) (by decide)).2 (by rw [HJ4.out, e]; rfl)
                      rw [h2] at hd
                      simp at hd)
                    rw [← HF4.out, ht]
                    exact end_skip (by rw [HJ4.out, skipL_skip])⟩
                  clear hd
                  go_wp2_with fail
                  refine (take_any b s j4 125 false w6 HR6.out hs (by decide)).mono ?_
                  rintro e w9 ⟨rfl, hb9, hk9⟩
                  have HLV9 := Hold.mk (HLV6.out.but hb9 hbw)
                  have HP := Hold.mk (list_fin (R := R) (ec := 125) rfl HLV9.out (by kernel_rfl) (HB6.out.trans hb9) hbw false (fun h => by first | rfl | exact absurd h (by decide)) j4 hk9 (fun h => by first | exact HFX.out | exact absurd h (by decide)) (fun h => by first | exact HFX.out | exact absurd h (by decide)))
                  clear hb9 hk9
                  obtain ⟨na, ncap, hnv, _⟩ := row_cell HLV9.out.names
                  obtain ⟨ia, icap, hiv, _⟩ := row_cell HLV9.out.items
                  subst hnv hiv
                  have hv8 := HLV9.out.box
                  have hv9 := HLV9.out.res
                  obtain ⟨y0, y1, y2, y3, y4⟩ := cells5R hv8
                  obtain ⟨v0, v1, v2, v3, v4⟩ := cells5R hv9
                  have g0 := freeR hv9 0
                  have g1 := freeR hv9 1
                  have g2 := freeR hv9 2
                  have g3 := freeR hv9 3
                  have g4 := freeR hv9 4
                  clear hv8 hv9
                  go_wp2_with fail
                  clear y0 y1 y2 y3 y4 v0 v1 v2 v3 v4 g0 g1 g2 g3 g4
                  obtain ⟨W2, hW2, hv3, hp⟩ := HP.out
                  unfold set5R at hW2
                  rw [← hW2]
                  clear hW2
                  obtain ⟨v0, v1, v2, v3, v4⟩ := cells5R hv3
                  exact bodyPost_ret (v := .agg #[.int .i64 6, .int .i64 0, .string ⟨#[]⟩, .slice na nm.length ncap, .slice ia ps.length icap]) (by simp [results, Tryz.results40, go_sem, v0, v1, v2, v3, v4]) rfl hp
                | true =>
                  rw [hd] at hq44
                  have h44 := (here_head (c := 44) (by decide)).1 (of_decide_eq_true hd)
                  obtain ⟨r, hr⟩ : ∃ r, dl s j4 = 44 :: r := by
                    cases e : dl s j4 with
                    | nil => rw [e] at h44; cases h44
                    | cons c r => rw [e] at h44; simp at h44; exact ⟨r, by rw [h44]⟩
                  obtain ⟨hlt, hlt2, hr2⟩ := dl_split hr
                  have HI2 : Hold (LInv b s n 6 R w (gk - 1) false (w6.setCell ⟨b, 1, none⟩ (.int .i64 ((j4 : Int) + 1)))) := ⟨HB6.out.trans (But.set _ _ _), j4 + 1, nv, iv, nm, ps, HR6.out.to1 hlt, HLV6.out.but (But.set _ _ _) hbw, ⟨by omega, by omega, HU4.out.1, fun h => HU4.out.2.1 (by first | trivial | exact h), fun h => HU4.out.2.2 (by first | trivial | exact h)⟩,
                    m, by omega, by omega, by rw [hr2, ← HF4.out, tail_on (by rw [← HJ4.out, hr])]⟩
                  have hgk1 : gk - 1 < gk := by omega
                  have x1 := HR6.out.c1
                  have f1 := HR6.out.fz 1
                  clear hlt2
                  clear hd h44 hr hlt hr2
                  go_wp2_with fail
                  clear x1 f1
                  go_roundg (gk - 1)
                  case measure => exact hgk1
                  case rel => exact ⟨false, rfl, HI2.out⟩
end Go.Proofs.YticlnijkfclgcaaGreatDoor

namespace Go.Proofs.YticlnijkfclgcaaGreatDoor
open Go.Shelf Go.RowKit

theorem end_five : ((endK 5).toNat : Int) = 93 := rfl
theorem end_six : ((endK 6).toNat : Int) = 125 := rfl
theorem list_all (b : Nat) (s : ByteArray) (hs : s.size ≤ 1000000) (n : Nat) : ListAt b s n := by
  induction n using Nat.strongRecOn with
  | _ n ih =>
    have hval : ∀ (m i : Nat) (w : World), m < n → 2 * (s.size - i) + 1 ≤ m → RB b s i false w → Errs b w → Calls Tryz.prog 24 #[.pointer (some ⟨b, 0, none⟩)] w (ResPost b s (valL m (dl s i)) w) := fun m i w hm h1 hr hE => by
      obtain ⟨m', rfl⟩ : ∃ m', m = m' + 1 := ⟨m - 1, by omega⟩
      exact value_step b s m' hs i w hr hE (fun _ => ⟨by omega, ih m' (by omega)⟩)
    rintro k i w hn hk hr hE ho
    rcases hk with rfl | rfl
    · rw [end_five]
      exact list5_step b s n hs hval i w hn hr hE ho
    · rw [end_six]
      exact list6_step b s n hs hval i w hn hr hE ho
/-- Read of the program reads as readF does -/
theorem Read_any (s : ByteArray) (w : World) (hs : s.size ≤ 1000000) (hT : Tabs w) (hE : Errs w.heap.size w) : Calls Tryz.prog 18 #[.string s] w (ReadPost s w) :=
  Read_step s w hs hT hE (fun b w' hr hE' => value_step b s (2 * s.size) hs 0 w' hr hE' (fun _ => ⟨by omega, list_all b s hs _⟩))
end Go.Proofs.YticlnijkfclgcaaGreatDoor
