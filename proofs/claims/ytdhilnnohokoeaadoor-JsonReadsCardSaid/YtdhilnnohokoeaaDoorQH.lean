/- The reader of the reference: number, with a sign. -/
import Derived.Test.YtdhilnnohokoeaaDoorQG
namespace Go.Proofs.YtdhilnnohokoeaaDoor
open Go.Shelf Go.RowKit

theorem neg_plain {s : ByteArray} {i q j : Nat} {ds : List UInt8} (h1 : ∀ c ∈ ds, isD c = true) (h2 : dl s q = ds ++ dl s j) (hc : isD (hereB (dl s j)) = false) (hn : dl s i = 45 :: dl s q) : numL (dl s i) = digL true ds (dl s j) := by
  obtain ⟨e1, e2⟩ := take_stop h1 hc
  unfold numL
  rw [hn, if_pos (show (45 :: dl s q).head? = some 45 from rfl), List.tail_cons, h2, e1, e2]
theorem neg_bad {s : ByteArray} {i q j : Nat} {no no1 : Bool} {z : Int} {ds : List UInt8} (h : NumS s q no z ds j no1) (hn : dl s i = 45 :: dl s q) (hc : isD (hereB (dl s j)) = false) (hb : ds = [] ∨ (1 < ds.length ∧ ds.head? = some 48)) : numL (dl s i) = none := by
  rw [neg_plain h.1 h.2.1 hc hn]
  unfold digL
  exact if_pos hb
theorem neg_ok {s : ByteArray} {i q j : Nat} {no no1 : Bool} {z : Int} {ds : List UInt8} (h : NumS s q no z ds j no1) (hn : dl s i = 45 :: dl s q) (hc : isD (hereB (dl s j)) = false) (hb : ¬ (ds = [] ∨ 1 < ds.length ∧ ds.head? = some 48)) : (no1 = false → no = false ∧ numL (dl s i) = some (-z, dl s j) ∧ 0 ≤ z ∧ z ≤ 9223372036854775808) ∧ (no1 = true → no = true ∨ numL (dl s i) = none) := by
  obtain ⟨h1, h2, _, h4, h5⟩ := h
  rw [neg_plain h1 h2 hc hn]
  unfold digL
  rw [if_neg hb, if_pos rfl]
  constructor
  · intro e
    obtain ⟨e1, e2, e3⟩ := h4 e
    refine ⟨e1, ?_, by omega, by omega⟩
    rw [if_pos (by omega), e2]
  · intro e
    exact (h5 e).imp id (fun h => by rw [if_neg (by omega)])

set_option maxHeartbeats 4000000 in
set_option maxRecDepth 100000 in
theorem rNumber_down (b : Nat) (s : ByteArray) (i : Nat) (no : Bool) (w : World) (h : RC b s i no w) (hs : s.size ≤ 1000000) (hn : hereB (dl s i) = 45) :
    Calls Tryd.prog 34 #[.pointer (some ⟨b, 0, none⟩)] w (RNumPost b s i no w) := by
  have HI := Hold.mk h
  have HH : Hold (hereB (dl s i) = 45) := ⟨hn⟩
  have hi : i < s.size := by
    rcases Nat.lt_or_ge i s.size with hj | hj
    · exact hj
    · have e : dl s i = [] := List.length_eq_zero_iff.1 (by rw [dl_len]; omega)
      rw [e] at hn
      exact absurd hn (by decide)
  clear hn h
  obtain ⟨q, hq⟩ : ∃ q, q = i + 1 := ⟨_, rfl⟩
  have HSG : Hold (dl s i = 45 :: dl s q) := ⟨by rw [dl_cons hi, hq, ← hereB_at hi, HH.out]⟩
  have hqs : q ≤ s.size := by omega
  go_enter Tryd.func34, Tryd.ntmps34
  go_wp2_with fail
  refine (rHere_any b s i no w HI.out).mono ?_
  rintro e w1 ⟨rfl, hb1⟩
  rw [HH.out]
  have HR1 := Hold.mk (HI.out.below hb1)
  have HB1 := Hold.mk (But.of_below (b := b) hb1)
  have x1 := HR1.out.c1
  have f1 := HR1.out.fz 1
  clear hb1
  obtain ⟨W, hW⟩ : ∃ W, W = w1.setCell ⟨b, 1, none⟩ (.int .i64 ((i : Int) + 1)) := ⟨_, rfl⟩
  have HRQ : Hold (RC b s q no W) := ⟨by rw [hW, hq]; exact HR1.out.to1 hi⟩
  have HBQ : Hold (But b w W) := ⟨by rw [hW]; exact HB1.out.trans (But.set _ _ _)⟩
  have HQ := Hold.mk hq
  clear hq
  go_upto_region 4 with (fail)
  rw [← hW]
  clear hW x1 f1 HR1 HB1 hi
  have x1 := HRQ.out.c1
  go_wp2_with fail
  clear x1
  go_loopg [5, 6] s.size (fun g s5 _s6 wr => ∃ z : Int, s5 = .int .u64 z ∧ NumInv b s q no w g z wr)
  case atStart => exact ⟨0, rfl, [], q, no, by omega, by omega, by omega, Nat.le_refl _, (fun c hc => by cases hc), rfl, by simp, HRQ.out, HBQ.out, fun h => ⟨h, rfl, by decide⟩, fun h => .inl h⟩
  case round =>
    obtain ⟨z, rfl, ds, j, no1, hz0, hz1, hg, hij, hda, hde, hdl, hr, hb, h1, h2⟩ := hrel
    have HR := Hold.mk hr
    have HB := Hold.mk hb
    have HS : Hold (NumS s q no z ds j no1) := ⟨hda, hde, hdl, h1, h2⟩
    obtain ⟨c, hc⟩ : ∃ c, c = hereB (dl s j) := ⟨_, rfl⟩
    have HC : Hold (hereB (dl s j) = c) := ⟨hc.symm⟩
    clear hr hb hda hde hdl h1 h2 hc HRQ HBQ
    go_wp2_with fail
    refine (rHere_any b s j no1 wr HR.out).mono ?_
    rintro e w2 ⟨rfl, hb2⟩
    rw [HC.out]
    have HR2 := Hold.mk (HR.out.below hb2)
    have HB2 := Hold.mk (HB.out.trans (But.of_below hb2))
    clear hb2
    cases hd : isD c with
    | true =>
      have hdg := of_decide_eq_true hd
      have hD := rDigit_any c w2
      rw [hd] at hD
      have HD := Hold.mk hD
      clear hD
      go_wp2_with fail
      refine HD.out.mono ?_
      rintro e w3 ⟨rfl, rfl⟩
      clear HD
      go_wp2_with fail
      refine (rHere_any b s j no1 w3 HR2.out).mono ?_
      rintro e w4 ⟨rfl, hb4⟩
      rw [HC.out]
      have HR4 := Hold.mk (HR2.out.below hb4)
      have HB4 := Hold.mk (HB2.out.trans (But.of_below hb4))
      clear hb4
      have hw : IntKind.u8.wrap ((c.toNat : Int) - 48) = (c.toNat : Int) - 48 := by simp [IntKind.wrap, IntKind.bits, IntKind.signed]; omega
      obtain ⟨hj, hgo, hov⟩ := num_step HS.out hij HC.out hd
      have x1 := HR4.out.c1
      have f1 := HR4.out.fz 1
      have x2 := HR4.out.c2
      have f2 := HR4.out.fz 2
      have hgk1 : gk - 1 < gk := by omega
      have hg1 : s.size - (j + 1) ≤ gk - 1 := by omega
      clear hd
      by_cases hz : (9223372036854775808 - ((c.toNat : Int) - 48)) / 10 < z
      · have HS2 := Hold.mk (hov hz)
        have HR5 := Hold.mk (HR4.out.not)
        have HB5 : Hold (But b w (w4.setCell ⟨b, 2, none⟩ (.bool true))) := ⟨HB4.out.trans (But.set _ _ _)⟩
        clear hgo hov
        have hwr := wrap_room (IntKind.u64.wrap (z * 10) + ((c.toNat : Int) - 48))
        go_upto_region 11 with (fail)
        clear x1 f1 x2 f2
        generalize IntKind.u64.wrap (IntKind.u64.wrap (z * 10) + ((c.toNat : Int) - 48)) = z2 at hwr ⊢
        obtain ⟨w5, hw5⟩ : ∃ w5, w5 = w4.setCell ⟨b, 2, none⟩ (.bool true) := ⟨_, rfl⟩
        rw [← hw5] at HR5 HB5 ⊢
        clear hw5
        have x1 := HR5.out.c1
        have f1 := HR5.out.fz 1
        have HR6 := Hold.mk (HR5.out.to1 hj)
        have HB6 : Hold (But b w (w5.setCell ⟨b, 1, none⟩ (.int .i64 ((j : Int) + 1)))) := ⟨HB5.out.trans (But.set _ _ _)⟩
        have HS3 := Hold.mk (HS2.out z2)
        go_wp2_with fail
        clear x1 f1
        go_roundg (gk - 1)
        case measure => exact hgk1
        case rel => exact ⟨_, rfl, ds ++ [c], j + 1, true, hwr.1, hwr.2, hg1, by omega, HS3.out.1, HS3.out.2.1, HS3.out.2.2.1, HR6.out, HB6.out, HS3.out.2.2.2.1, HS3.out.2.2.2.2⟩
      · have HS2 := Hold.mk (hgo hz)
        have HR5 := Hold.mk (HR4.out.to1 hj)
        have HB5 : Hold (But b w (w4.setCell ⟨b, 1, none⟩ (.int .i64 ((j : Int) + 1)))) := ⟨HB4.out.trans (But.set _ _ _)⟩
        clear hgo hov x2 f2
        go_wp2_with fail
        clear x1 f1
        go_roundg (gk - 1)
        case measure => exact hgk1
        case rel => exact ⟨_, rfl, ds ++ [c], j + 1, no1, by omega, by omega, hg1, by omega, HS2.out.1, HS2.out.2.1, HS2.out.2.2.1, HR5.out, HB5.out, HS2.out.2.2.2.1, HS2.out.2.2.2.2⟩
    | false =>
      have hD := rDigit_any c w2
      rw [hd] at hD
      have HD := Hold.mk hD
      have HDC := Hold.mk hd
      clear hD hd
      have x0 := HR2.out.c0
      have x1 := HR2.out.c1
      go_wp2_with fail
      refine HD.out.mono ?_
      rintro e w3 ⟨rfl, rfl⟩
      clear HD
      have HBAD : Hold ((ds = [] ∨ (1 < ds.length ∧ ds.head? = some 48)) → ∀ V : Int, (Lit.int .i64 V).wf = true → RNumPost b s i no w (.returned (.int .i64 V)) (w3.setCell ⟨b, 2, none⟩ (.bool true))) := ⟨fun hb V hV => ⟨HB2.out.trans (But.set _ _ _), V, j, true, rfl, hV, HR2.out.not, (fun e => by cases e), fun _ => .inr (neg_bad HS.out HSG.out (by rw [HC.out]; exact HDC.out) hb)⟩⟩
      have hjs : j ≤ s.size + 1 := HR2.out.le
      have HLN : Hold (ds.length = j - q) := ⟨HS.out.2.2.1⟩
      by_cases hji : j = q
      · subst hji
        have HPB := Hold.mk (HBAD.out (.inl (List.length_eq_zero_iff.1 (by rw [HLN.out]; omega))))
        have x2 := HR2.out.c2
        have f2 := HR2.out.fz 2
        go_wp2_with fail
        go_ret
        exact HPB.out _ (by first | exact wf_wrap64 _ | exact wf_wrap _ | (simp [Lit.wf, IntKind.min, IntKind.max, IntKind.bits, IntKind.signed]; omega))
      · have bji : ((j : Int) == (q : Int)) = false := by simp; omega
        have HNE : Hold (ds ≠ []) := ⟨fun e => by have := HLN.out; rw [e] at this; simp at this; omega⟩
        by_cases hlong : q + 1 < j
        · have kl : (q : Int) + 1 < (j : Int) := by omega
          obtain ⟨c0, r0, hds⟩ : ∃ a r, ds = a :: r := by
            cases e : ds with
            | nil => exact absurd e HNE.out
            | cons a r => exact ⟨a, r, rfl⟩
          obtain ⟨hi, hsi, _⟩ := dl_split (s := s) (i := q) (c := c0) (r := r0 ++ dl s j) (by rw [HS.out.2.1, hds]; rfl)
          have HHD : Hold (ds.head? = some c0) := ⟨by rw [hds]; rfl⟩
          clear hds
          by_cases h48 : c0 = 48
          · subst h48
            have HPB := Hold.mk (HBAD.out (.inr ⟨by rw [HLN.out]; omega, HHD.out⟩))
            have x2 := HR2.out.c2
            have f2 := HR2.out.fz 2
            go_wp2_with fail
            go_ret
            exact HPB.out _ (by first | exact wf_wrap64 _ | exact wf_wrap _ | (simp [Lit.wf, IntKind.min, IntKind.max, IntKind.bits, IntKind.signed]; omega))
          · have b48 : ((c0.toNat : Int) == 48) = false := byte_ne (k := 48) h48
            have HNB : Hold (¬ (ds = [] ∨ 1 < ds.length ∧ ds.head? = some 48)) := ⟨fun h => by
              rcases h with h | ⟨_, h⟩
              · exact HNE.out h
              · rw [HHD.out] at h
                exact h48 (Option.some.inj h)⟩
            have HPO : Hold (∀ V : Int, (Lit.int .i64 V).wf = true → (z ≤ 9223372036854775808 → V = -z) → RNumPost b s i no w (.returned (.int .i64 V)) w3) := ⟨fun V hV hz => by
              obtain ⟨q1, q2⟩ := neg_ok HS.out HSG.out (by rw [HC.out]; exact HDC.out) HNB.out
              exact ⟨HB2.out, V, j, no1, rfl, hV, HR2.out, fun e => by
                obtain ⟨e1, e2, e3, e4⟩ := q1 e
                rw [hz e4]; exact ⟨e1, e2⟩, q2⟩⟩
            by_cases hz63 : z = 9223372036854775808
            · subst hz63
              go_wp2_with fail
              go_ret
              exact HPO.out _ (by first | exact wf_wrap64 _ | exact wf_wrap _ | decide | (simp [Lit.wf, IntKind.min, IntKind.max, IntKind.bits, IntKind.signed]; omega)) (fun h => by first | rfl | decide | (unfold wrap64; omega) | omega | (rw [IntKind.wrap_i64]; unfold wrap64; omega))
            · have bz : (z == 9223372036854775808) = false := by simpa using hz63
              go_wp2_with fail
              go_ret
              exact HPO.out _ (by first | exact wf_wrap64 _ | exact wf_wrap _ | decide | (simp [Lit.wf, IntKind.min, IntKind.max, IntKind.bits, IntKind.signed]; omega)) (fun h => by first | rfl | decide | (unfold wrap64; omega) | omega | (rw [IntKind.wrap_i64]; unfold wrap64; omega))
        · have kl : ¬ (q : Int) + 1 < (j : Int) := by omega
          have HNB : Hold (¬ (ds = [] ∨ 1 < ds.length ∧ ds.head? = some 48)) := ⟨fun h => by
            rcases h with h | ⟨h, _⟩
            · exact HNE.out h
            · rw [HLN.out] at h; omega⟩
          have HPO : Hold (∀ V : Int, (Lit.int .i64 V).wf = true → (z ≤ 9223372036854775808 → V = -z) → RNumPost b s i no w (.returned (.int .i64 V)) w3) := ⟨fun V hV hz => by
            obtain ⟨q1, q2⟩ := neg_ok HS.out HSG.out (by rw [HC.out]; exact HDC.out) HNB.out
            exact ⟨HB2.out, V, j, no1, rfl, hV, HR2.out, fun e => by
              obtain ⟨e1, e2, e3, e4⟩ := q1 e
              rw [hz e4]; exact ⟨e1, e2⟩, q2⟩⟩
          by_cases hz63 : z = 9223372036854775808
          · subst hz63
            go_wp2_with fail
            go_ret
            exact HPO.out _ (by first | exact wf_wrap64 _ | exact wf_wrap _ | decide | (simp [Lit.wf, IntKind.min, IntKind.max, IntKind.bits, IntKind.signed]; omega)) (fun h => by first | rfl | decide | (unfold wrap64; omega) | omega | (rw [IntKind.wrap_i64]; unfold wrap64; omega))
          · have bz : (z == 9223372036854775808) = false := by simpa using hz63
            go_wp2_with fail
            go_ret
            exact HPO.out _ (by first | exact wf_wrap64 _ | exact wf_wrap _ | decide | (simp [Lit.wf, IntKind.min, IntKind.max, IntKind.bits, IntKind.signed]; omega)) (fun h => by first | rfl | decide | (unfold wrap64; omega) | omega | (rw [IntKind.wrap_i64]; unfold wrap64; omega))

theorem rNumber_any (b : Nat) (s : ByteArray) (i : Nat) (no : Bool) (w : World) (h : RC b s i no w) (hs : s.size ≤ 1000000) :
    Calls Tryd.prog 34 #[.pointer (some ⟨b, 0, none⟩)] w (RNumPost b s i no w) := by
  by_cases hn : hereB (dl s i) = 45
  · exact rNumber_down b s i no w h hs hn
  · exact rNumber_up b s i no w h hs hn

end Go.Proofs.YtdhilnnohokoeaaDoor
