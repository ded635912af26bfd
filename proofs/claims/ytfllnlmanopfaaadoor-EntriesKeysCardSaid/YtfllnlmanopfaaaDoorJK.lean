/- formed of the reference, whole. -/
import Derived.Test.YtfllnlmanopfaaaDoorJJ
import Derived.Test.YtfllnlmanopfaaaDoorJGrow
namespace Go.Proofs.YtfllnlmanopfaaaDoor
open Go.RowKit

set_option maxHeartbeats 4000000 in
/-- the names' loop and what follows, for a value whose own questions are answered -/
theorem rformed_names (k n : Int) (t : ByteArray) (nm : List ByteArray) (it : List JV) (na : Option Addr) (ncap : Nat) (a : Option Addr) (cap : Nat) (cell : Nat → Value) (w : World) (hk : kindOk k n t) (hs : t.size ≤ 9223372036854775807)
    (hsz : sizeOk k nm.length it.length) (htx : textF t = true) (h6 : k = 6 → nm.length = it.length)
    (hnm : StrsAt (cf w) (.slice na nm.length ncap) nm)
    (hc : ∀ (i : Nat) v, it[i]? = some v → ∃ b off, a = some ⟨b, off, none⟩ ∧ Cells5 (cf w) b (off + i * 5) (cell i))
    (ih : ∀ (i : Nat) v, it[i]? = some v → ∀ w' : World, CLe (cf w) (cf w') → Calls Tryd.prog 77 #[cell i] w' fun e w'' => e = .returned (.bool (rformedF v)) ∧ Below w'.heap.size w' w'') :
    Calls Tryd.prog 77 #[.agg #[.int .i64 k, .int .i64 n, .string t, .slice na nm.length ncap, .slice a it.length cap]] w fun e w' => e = .returned (.bool (nm.all textF && rises nm && it.all rformedF)) ∧ Below w.heap.size w w' := by
  have HX := Lib.hid (rtext_any t (one w k n t na nm.length ncap a it.length cap) hs)
  rw [htx] at HX
  have hkc := kind_cases hk
  clear hk htx
  obtain ⟨na', ncap', e, hnl, hnel⟩ := hnm
  cases e
  have HS := Lib.hid hnel; clear hnel
  have HC := Lib.hid hc; clear hc
  have IH := Lib.hid ih; clear ih
  obtain ⟨hs1, hs2, hs3⟩ := hsz
  rcases hkc with ⟨rfl, ht⟩ | ⟨rfl, rfl⟩ | ⟨rfl, rfl, ht⟩ | ⟨rfl, rfl, ht⟩ | ⟨h3, h4, h5, h0, rfl, ht⟩
  · have e1 : nm = [] := List.eq_nil_of_length_eq_zero (by omega)
    have e2 : it = [] := List.eq_nil_of_length_eq_zero (by omega)
    subst e1 e2
    clear HS HC IH hs1 hs2 hs3 h6 hnl
    go_enter Tryd.func77, Tryd.ntmps77
    go_wp2_with fail
    refine HX.out.mono ?_
    rintro e w1 ⟨rfl, hb1⟩
    have hbx : Boxed w w1 _ := (Boxed.refl w _).next hb1
    have y0 := hbx.c0
    have y3 := hbx.c3
    have y4 := hbx.c4
    have hbl := hbx.below
    clear HX hb1 hbx
    go_wp2_with fail
    refine wp_loop_rounds 1 ?_
    rw [rounds_succ]
    go_wp2_with fail
    refine wp_loop_rounds 1 ?_
    rw [rounds_succ]
    go_wp2_with fail
    go_ret
    exact ⟨rfl, hbl⟩
  · have e1 : nm = [] := List.eq_nil_of_length_eq_zero (by omega)
    have e2 : it = [] := List.eq_nil_of_length_eq_zero (by omega)
    subst e1 e2
    clear HS HC IH hs1 hs2 hs3 h6 hnl
    go_enter Tryd.func77, Tryd.ntmps77
    go_wp2_with fail
    refine HX.out.mono ?_
    rintro e w1 ⟨rfl, hb1⟩
    have hbx : Boxed w w1 _ := (Boxed.refl w _).next hb1
    have y0 := hbx.c0
    have y3 := hbx.c3
    have y4 := hbx.c4
    have hbl := hbx.below
    clear HX hb1 hbx
    go_wp2_with fail
    refine wp_loop_rounds 1 ?_
    rw [rounds_succ]
    go_wp2_with fail
    refine wp_loop_rounds 1 ?_
    rw [rounds_succ]
    go_wp2_with fail
    go_ret
    exact ⟨rfl, hbl⟩
  · have e1 : nm = [] := List.eq_nil_of_length_eq_zero (by omega)
    subst e1
    clear HS hs1 hs2 h6 hnl
    go_enter Tryd.func77, Tryd.ntmps77
    go_wp2_with fail
    refine HX.out.mono ?_
    rintro e w1 ⟨rfl, hb1⟩
    have hbx : Boxed w w1 _ := (Boxed.refl w _).next hb1
    have y0 := hbx.c0
    have y3 := hbx.c3
    have y4 := hbx.c4
    have HB := Lib.hid hbx
    clear HX hb1 hbx
    go_wp2_with fail
    refine wp_loop_rounds 1 ?_
    rw [rounds_succ]
    go_wp2_with fail
    go_loopw [4] (fun i wr => ∃ j : Nat, i = .int .i64 j ∧ j ≤ it.length ∧ (∀ (q : Nat) x, q < j → it[q]? = some x → rformedF x = true) ∧ Boxed w wr (.cells #[.int .i64 5, .int .i64 0, .string t, .slice na 0 ncap, .slice a it.length cap] 25)) (fun i _ => it.length - (intOf i).toNat)
    case atStart => exact ⟨0, rfl, Nat.zero_le _, fun q s h => by omega, HB.out⟩
    case round =>
      clear y0 y3 y4 HB
      obtain ⟨i, rfl, hi, hall, hbx⟩ := hrel
      have HA := Lib.hid hall; clear hall
      have y4 := hbx.c4
      have hbl := hbx.below
      have HB := Lib.hid hbx; clear hbx
      by_cases hil : i < it.length
      · obtain ⟨x, hx⟩ : ∃ x, it[i]? = some x := ⟨it[i], List.getElem?_eq_getElem hil⟩
        obtain ⟨b, off, rfl, c0, c1, c2, c3, c4, hce, x0, x1, x2, x3, x4⟩ := HC.out i x hx
        have y := cle_below hbl
        have z0 := y _ _ _ x0
        have z1 := y _ _ _ x1
        have z2 := y _ _ _ x2
        have z3 := y _ _ _ x3
        have z4 := y _ _ _ x4
        unfold cf at z0 z1 z2 z3 z4
        have HX := Lib.hid (IH.out i x hx wr y)
        rw [hce] at HX
        have HXE := Lib.hid hx
        clear x0 x1 x2 x3 x4 y hx hce
        cases hfx : rformedF x with
        | true =>
          rw [hfx] at HX
          have HFX := Lib.hid hfx; clear hfx
          go_wp2_with fail
          refine HX.out.mono ?_
          rintro e w3 ⟨rfl, hb3⟩
          have HB3 := Lib.hid (HB.out.next hb3)
          clear hb3
          go_wp2_with fail
          go_roundw
          case rel =>
            refine ⟨i + 1, by go_num, hil, fun q s' hq hs' => ?_, HB3.out⟩
            by_cases e : q = i
            · subst e; rw [HXE.out] at hs'; cases hs'; exact HFX.out
            · exact HA.out q s' (by omega) hs'
          case measure => simp [intOf]; omega
        | false =>
          rw [hfx] at HX
          have HFX := Lib.hid (all_false HXE.out hfx); clear hfx
          go_wp2_with fail
          refine HX.out.mono ?_
          rintro e w3 ⟨rfl, hb3⟩
          have hb4 := (HB.out.next hb3).below
          clear hb3
          go_wp2_with fail
          go_ret
          exact ⟨ret_b (by rw [HFX.out, Bool.and_false]), hb4⟩
      · have HF : Hid (it.all rformedF = true) := all_true (fun q x hq => HA.out q x (by omega))
        go_wp2_with fail
        go_ret
        exact ⟨ret_b (by rw [HF.out]; rfl), hbl⟩
  · have hnb : ((nm.length : Int) != (it.length : Int)) = false := by rw [h6 rfl]; simp
    clear hs1 hs2 h6
    go_enter Tryd.func77, Tryd.ntmps77
    go_wp2_with fail
    refine HX.out.mono ?_
    rintro e w1 ⟨rfl, hb1⟩
    have hbx : Boxed w w1 _ := (Boxed.refl w _).next hb1
    have y0 := hbx.c0
    have y3 := hbx.c3
    have y4 := hbx.c4
    have HB := Lib.hid hbx
    clear HX hb1 hbx
    go_wp2_with fail
    go_loopw [3] (fun i wr => ∃ j : Nat, i = .int .i64 j ∧ j ≤ nm.length ∧ NamesTo nm j ∧ Boxed w wr (.cells #[.int .i64 6, .int .i64 0, .string t, .slice na nm.length ncap, .slice a it.length cap] 25)) (fun i _ => nm.length - (intOf i).toNat)
    case atStart => exact ⟨0, rfl, Nat.zero_le _, fun q s h => by omega, HB.out⟩
    case round =>
      obtain ⟨j, rfl, hj, hall, hbx⟩ := hrel
      clear HB y0 y3 y4
      have HA := Lib.hid hall; clear hall
      have y3 := hbx.c3
      have y4 := hbx.c4
      have hbl := hbx.below
      have HB := Lib.hid hbx; clear hbx
      by_cases hlt : j < nm.length
      · obtain ⟨s, hs2⟩ : ∃ s, nm[j]? = some s := ⟨nm[j], List.getElem?_eq_getElem hlt⟩
        obtain ⟨hsz, b, off, rfl, hcell⟩ := HS.out j s hs2
        have z0 := cle_below hbl _ _ _ hcell
        unfold cf at z0
        have HSE := Lib.hid hs2
        have HXT := Lib.hid (Calls.grow (fun e : Grow wr => rtext_any s e.val hsz))
        have g3 := Grow.cell y3
        have g0 := Grow.cell z0
        clear hcell hs2 hsz
        cases hts : textF s with
        | false =>
          rw [hts] at HXT
          have HF := Lib.hid (all_false HSE.out hts); clear hts
          go_wp2_with fail
          refine wp_region_grow (by kernel_rfl) (by kernel_rfl) ?_
          repeat (go_big_quiet_step (exact HXT.out _))
          refine wpQuiet_nil ?_
          rintro ⟨w2, hb2⟩
          have HB2 := Lib.hid (HB.out.next hb2)
          simp only
          clear hb2 g3 g0
          go_wp2_with fail
          go_ret
          exact ⟨ret_b (by rw [HF.out]; rfl), HB2.out.below⟩
        | true =>
          rw [hts] at HXT
          have HTS := Lib.hid hts; clear hts
          by_cases hj0 : j ≤ 0
          · have hj3 : ¬ 0 < j := by omega
            go_wp2_with fail
            refine wp_region_grow (by kernel_rfl) (by kernel_rfl) ?_
            repeat (go_big_quiet_step (exact HXT.out _))
            refine wpQuiet_nil ?_
            rintro ⟨w2, hb2⟩
            have HB2 := Lib.hid (HB.out.next hb2)
            simp only
            clear hb2 g3 g0
            go_wp2_with fail
            go_roundw
            case rel =>
              refine ⟨j + 1, by go_num, hlt, fun q s' hq hs' => ?_, HB2.out⟩
              obtain rfl : q = j := by omega
              rw [HSE.out] at hs'; cases hs'
              exact ⟨HTS.out, fun p a h => by omega⟩
            case measure => simp [intOf]; omega
          · obtain ⟨s0, hs0⟩ : ∃ s, nm[j - 1]? = some s := ⟨nm[j - 1], List.getElem?_eq_getElem (by omega)⟩
            obtain ⟨_, b', off', hbo, hcell0⟩ := HS.out (j - 1) s0 hs0
            cases hbo
            have z1 := cle_below hbl _ _ _ hcell0
            unfold cf at z1
            have HS0 := Lib.hid hs0
            clear hcell0 hs0
            have g1 := Grow.cell z1
            have hj1 : 0 < j := by omega
            have HSE2 : Hid (nm[j - 1 + 1]? = some s) := by rw [show j - 1 + 1 = j from by omega]; exact HSE.out
            cases hlts : strLt s0 s with
            | true =>
              have hlt2 : Op.bytesLess s0.toList s.toList = true := hlts
              have HLT := Lib.hid hlts; clear hlts
              go_wp2_with fail
              refine wp_region_grow (by kernel_rfl) (by kernel_rfl) ?_
              repeat (go_big_quiet_step (exact HXT.out _))
              refine wpQuiet_nil ?_
              rintro ⟨w2, hb2⟩
              have HB2 := Lib.hid (HB.out.next hb2)
              simp only
              clear hb2 g3 g0
              all_goals
                go_wp2_with fail
                go_roundw
                case rel =>
                  refine ⟨j + 1, by go_num, hlt, fun q s' hq hs' => ?_, HB2.out⟩
                  by_cases e : q = j
                  · subst e; rw [HSE.out] at hs'; cases hs'
                    refine ⟨HTS.out, fun p a hp ha => ?_⟩
                    obtain rfl : p = q - 1 := by omega
                    rw [HS0.out] at ha; cases ha; exact HLT.out
                  · exact HA.out q s' (by omega) hs'
                case measure => simp [intOf]; omega
            | false =>
              have hlt2 : Op.bytesLess s0.toList s.toList = false := hlts
              have HF := Lib.hid (rises_not HS0.out HSE2.out hlts); clear hlts
              go_wp2_with fail
              refine wp_region_grow (by kernel_rfl) (by kernel_rfl) ?_
              repeat (go_big_quiet_step (exact HXT.out _))
              refine wpQuiet_nil ?_
              rintro ⟨w2, hb2⟩
              have HB2 := Lib.hid (HB.out.next hb2)
              simp only
              clear hb2 g3 g0
              all_goals
                go_wp2_with fail
                go_ret
                exact ⟨ret_b (by rw [HF.out, Bool.and_false]; rfl), HB2.out.below⟩
      · obtain rfl : j = nm.length := by omega
        have HAA := Lib.hid HA.out.all
        clear HA
        go_wp2_with fail
        go_loopw [4] (fun i wr => ∃ j : Nat, i = .int .i64 j ∧ j ≤ it.length ∧ (∀ (q : Nat) x, q < j → it[q]? = some x → rformedF x = true) ∧ Boxed w wr (.cells #[.int .i64 6, .int .i64 0, .string t, .slice na nm.length ncap, .slice a it.length cap] 25)) (fun i _ => it.length - (intOf i).toNat)
        case atStart => exact ⟨0, rfl, Nat.zero_le _, fun q s h => by omega, HB.out⟩
        case round =>
          clear y3 y4 hbl HB
          obtain ⟨i, rfl, hi, hall, hbx⟩ := hrel
          have HA := Lib.hid hall; clear hall
          have y4 := hbx.c4
          have hbl := hbx.below
          have HB := Lib.hid hbx; clear hbx
          by_cases hil : i < it.length
          · obtain ⟨x, hx⟩ : ∃ x, it[i]? = some x := ⟨it[i], List.getElem?_eq_getElem hil⟩
            obtain ⟨b, off, rfl, c0, c1, c2, c3, c4, hce, x0, x1, x2, x3, x4⟩ := HC.out i x hx
            have y := cle_below hbl
            have z0 := y _ _ _ x0
            have z1 := y _ _ _ x1
            have z2 := y _ _ _ x2
            have z3 := y _ _ _ x3
            have z4 := y _ _ _ x4
            unfold cf at z0 z1 z2 z3 z4
            have HX := Lib.hid (IH.out i x hx wr y)
            rw [hce] at HX
            have HXE := Lib.hid hx
            clear x0 x1 x2 x3 x4 y hx hce
            cases hfx : rformedF x with
            | true =>
              rw [hfx] at HX
              have HFX := Lib.hid hfx; clear hfx
              go_wp2_with fail
              refine HX.out.mono ?_
              rintro e w3 ⟨rfl, hb3⟩
              have HB3 := Lib.hid (HB.out.next hb3)
              clear hb3
              go_wp2_with fail
              go_roundw
              case rel =>
                refine ⟨i + 1, by go_num, hil, fun q s' hq hs' => ?_, HB3.out⟩
                by_cases e : q = i
                · subst e; rw [HXE.out] at hs'; cases hs'; exact HFX.out
                · exact HA.out q s' (by omega) hs'
              case measure => simp [intOf]; omega
            | false =>
              rw [hfx] at HX
              have HFX := Lib.hid (all_false HXE.out hfx); clear hfx
              go_wp2_with fail
              refine HX.out.mono ?_
              rintro e w3 ⟨rfl, hb3⟩
              have hb4 := (HB.out.next hb3).below
              clear hb3
              go_wp2_with fail
              go_ret
              exact ⟨ret_b (by rw [HFX.out, Bool.and_false]), hb4⟩
          · have HF : Hid (it.all rformedF = true) := all_true (fun q x hq => HA.out q x (by omega))
            go_wp2_with fail
            go_ret
            exact ⟨ret_b (by rw [HAA.out.1, HAA.out.2, HF.out]; rfl), hbl⟩
  · have e1 : nm = [] := List.eq_nil_of_length_eq_zero (by omega)
    have e2 : it = [] := List.eq_nil_of_length_eq_zero (by omega)
    subst e1 e2
    clear HS HC IH hs1 hs2 hs3 h6 hnl
    have h6 : (k != 6) = true := by simp; omega
    have h6b : (k == 6) = false := by simp; omega
    go_enter Tryd.func77, Tryd.ntmps77
    go_wp2_with fail
    refine HX.out.mono ?_
    rintro e w1 ⟨rfl, hb1⟩
    have hbx : Boxed w w1 _ := (Boxed.refl w _).next hb1
    have y0 := hbx.c0
    have y3 := hbx.c3
    have y4 := hbx.c4
    have hbl := hbx.below
    clear HX hb1 hbx
    go_wp2_with fail
    refine wp_loop_rounds 1 ?_
    rw [rounds_succ]
    go_wp2_with fail
    refine wp_loop_rounds 1 ?_
    rw [rounds_succ]
    go_wp2_with fail
    go_ret
    exact ⟨rfl, hbl⟩

end Go.Proofs.YtfllnlmanopfaaaDoor
