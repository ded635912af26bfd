/- The reader of the reference: number. -/
import Derived.Test.YtdhilnnohokoeaaDoorQF
namespace Go.Proofs.YtdhilnnohokoeaaDoor
open Go.Shelf Go.RowKit

theorem here_headQ {l : List UInt8} {c : UInt8} (hc : c ≠ 0) : hereB l = c ↔ l.head? = some c := by
  cases l with
  | nil => unfold hereB; simp; exact fun h => hc h.symm
  | cons a l => unfold hereB; simp
theorem valD_snoc (ds : List UInt8) (c : UInt8) : valD (ds ++ [c]) = valD ds * 10 + (c.toNat - 48) := by
  unfold valD
  rw [List.foldl_append]; rfl
theorem take_stop {l r : List UInt8} (hl : ∀ c ∈ l, isD c = true) (hr : isD (hereB r) = false) : (l ++ r).takeWhile isD = l ∧ (l ++ r).dropWhile isD = r := by
  induction l with
  | nil =>
    cases r with
    | nil => exact ⟨rfl, rfl⟩
    | cons c r =>
      have hc : isD c = false := hr
      rw [List.nil_append, List.takeWhile_cons, List.dropWhile_cons, hc]
      exact ⟨rfl, rfl⟩
  | cons c l ih =>
    have hc := hl c (List.mem_cons_self ..)
    obtain ⟨h1, h2⟩ := ih (fun x hx => hl x (List.mem_cons_of_mem _ hx))
    rw [List.cons_append, List.takeWhile_cons, List.dropWhile_cons, hc, if_pos rfl, if_pos rfl, h1, h2]
    exact ⟨rfl, rfl⟩
/-- the digits so far -/
def NumInv (b : Nat) (s : ByteArray) (i : Nat) (no : Bool) (w : World) (g : Nat) (z : Int) (wr : World) : Prop :=
  ∃ (ds : List UInt8) (j : Nat) (no1 : Bool), 0 ≤ z ∧ z ≤ 18446744073709551615 ∧ s.size - j ≤ g ∧ i ≤ j ∧ (∀ c ∈ ds, isD c = true) ∧ dl s i = ds ++ dl s j ∧ ds.length = j - i ∧ RC b s j no1 wr ∧ But b w wr ∧
    (no1 = false → no = false ∧ z = (valD ds : Nat) ∧ valD ds ≤ 9223372036854775808) ∧ (no1 = true → no = true ∨ 9223372036854775808 < valD ds)

def NumS (s : ByteArray) (i : Nat) (no : Bool) (z : Int) (ds : List UInt8) (j : Nat) (no1 : Bool) : Prop :=
  (∀ c ∈ ds, isD c = true) ∧ dl s i = ds ++ dl s j ∧ ds.length = j - i ∧ (no1 = false → no = false ∧ z = (valD ds : Nat) ∧ valD ds ≤ 9223372036854775808) ∧ (no1 = true → no = true ∨ 9223372036854775808 < valD ds)
theorem num_step {s : ByteArray} {i j : Nat} {no no1 : Bool} {z : Int} {ds : List UInt8} {c : UInt8} (h : NumS s i no z ds j no1) (hij : i ≤ j) (hc : hereB (dl s j) = c) (hd : isD c = true) : ∃ _hj : j < s.size,
    (¬ (9223372036854775808 - ((c.toNat : Int) - 48)) / 10 < z → NumS s i no (z * 10 + ((c.toNat : Int) - 48)) (ds ++ [c]) (j + 1) no1) ∧ ((9223372036854775808 - ((c.toNat : Int) - 48)) / 10 < z → ∀ z', NumS s i no z' (ds ++ [c]) (j + 1) true) := by
  obtain ⟨h1, h2, h3, h4, h5⟩ := h
  have hdg := of_decide_eq_true hd
  have hj : j < s.size := by
    rcases Nat.lt_or_ge j s.size with hj | hj
    · exact hj
    · have e : dl s j = [] := List.length_eq_zero_iff.1 (by rw [dl_len]; omega)
      have hc0 : hereB (dl s j) = 0 := by rw [e]; rfl
      rw [hc0] at hc
      subst hc
      exact absurd hd (by decide)
  have hcj : s[j] = c := by rw [← hereB_at hj]; exact hc
  have a1 : ∀ x ∈ ds ++ [c], isD x = true := fun x hx => by
    rcases List.mem_append.1 hx with h | h
    · exact h1 x h
    · obtain rfl := List.mem_singleton.1 h
      exact hd
  have a2 : dl s i = (ds ++ [c]) ++ dl s (j + 1) := by rw [h2, dl_cons hj, List.append_assoc, hcj]; rfl
  have a3 : (ds ++ [c]).length = j + 1 - i := by rw [List.length_append, h3]; simp; omega
  refine ⟨hj, fun hz => ⟨a1, a2, a3, fun e => ?_, fun e => ?_⟩, fun hz z' => ⟨a1, a2, a3, (fun e => by cases e), fun _ => ?_⟩⟩
  · obtain ⟨e1, e2, e3⟩ := h4 e
    rw [valD_snoc]
    exact ⟨e1, by rw [e2]; omega, by omega⟩
  · exact (h5 e).imp id (fun h => by rw [valD_snoc]; omega)
  · cases no1 with
    | true => exact (h5 rfl).imp id (fun h => by rw [valD_snoc]; omega)
    | false =>
      obtain ⟨_, e2, _⟩ := h4 rfl
      right; rw [valD_snoc]; omega
theorem wrap_room (x : Int) : 0 ≤ IntKind.u64.wrap x ∧ IntKind.u64.wrap x ≤ 18446744073709551615 := by
  simp [IntKind.wrap, IntKind.bits, IntKind.signed]; omega

/-- a number, as the reference reads it -/
def RNumPost (b : Nat) (s : ByteArray) (i : Nat) (no : Bool) (w : World) (e : Ending) (w' : World) : Prop :=
  But b w w' ∧ ∃ (v : Int) (j : Nat) (no' : Bool), e = .returned (.int .i64 v) ∧ (Lit.int .i64 v).wf = true ∧ RC b s j no' w' ∧ (no' = false → no = false ∧ numL (dl s i) = some (v, dl s j)) ∧ (no' = true → no = true ∨ numL (dl s i) = none)
theorem num_plain {s : ByteArray} {i j : Nat} {ds : List UInt8} (h1 : ∀ c ∈ ds, isD c = true) (h2 : dl s i = ds ++ dl s j) (hc : isD (hereB (dl s j)) = false) (hn : hereB (dl s i) ≠ 45) : numL (dl s i) = digL false ds (dl s j) := by
  obtain ⟨e1, e2⟩ := take_stop h1 hc
  unfold numL
  rw [if_neg (fun h => hn ((here_headQ (by decide)).2 h)), h2, e1, e2]
theorem num_bad {s : ByteArray} {i j : Nat} {no no1 : Bool} {z : Int} {ds : List UInt8} (h : NumS s i no z ds j no1) (hc : isD (hereB (dl s j)) = false) (hn : hereB (dl s i) ≠ 45) (hb : ds = [] ∨ (1 < ds.length ∧ ds.head? = some 48) ∨ z = 9223372036854775808) : no = true ∨ numL (dl s i) = none := by
  obtain ⟨h1, h2, _, h4, h5⟩ := h
  rw [num_plain h1 h2 hc hn]
  unfold digL
  by_cases h0 : ds = [] ∨ 1 < ds.length ∧ ds.head? = some 48
  · exact .inr (if_pos h0)
  · have hz : z = 9223372036854775808 := by
      rcases hb with h | h | h
      · exact absurd (.inl h) h0
      · exact absurd (.inr h) h0
      · exact h
    rw [if_neg h0, if_neg (by decide)]
    cases no1 with
    | false =>
      obtain ⟨_, e2, _⟩ := h4 rfl
      right; rw [if_neg (by omega)]
    | true => exact (h5 rfl).imp id (fun h => by rw [if_neg (by omega)])
theorem num_ok {s : ByteArray} {i j : Nat} {no no1 : Bool} {z : Int} {ds : List UInt8} (h : NumS s i no z ds j no1) (hc : isD (hereB (dl s j)) = false) (hn : hereB (dl s i) ≠ 45) (hb : ¬ (ds = [] ∨ 1 < ds.length ∧ ds.head? = some 48)) (hz : z ≠ 9223372036854775808) : (no1 = false → no = false ∧ numL (dl s i) = some (z, dl s j) ∧ 0 ≤ z ∧ z < 9223372036854775808) ∧ (no1 = true → no = true ∨ numL (dl s i) = none) := by
  obtain ⟨h1, h2, _, h4, h5⟩ := h
  rw [num_plain h1 h2 hc hn]
  unfold digL
  rw [if_neg hb, if_neg (by decide)]
  constructor
  · intro e
    obtain ⟨e1, e2, e3⟩ := h4 e
    refine ⟨e1, ?_, by omega, by omega⟩
    rw [if_pos (by omega), e2]
  · intro e
    exact (h5 e).imp id (fun h => by rw [if_neg (by omega)])
theorem wf_wrap64 (x : Int) : (Lit.int .i64 (wrap64 x)).wf = true := by
  unfold wrap64
  simp [Lit.wf, IntKind.min, IntKind.max, IntKind.bits, IntKind.signed]; omega
theorem wf_wrap (x : Int) : (Lit.int .i64 (IntKind.i64.wrap x)).wf = true := by
  rw [IntKind.wrap_i64]
  simp [Lit.wf, IntKind.min, IntKind.max, IntKind.bits, IntKind.signed]; omega

set_option maxHeartbeats 4000000 in
set_option maxRecDepth 100000 in
theorem rNumber_up (b : Nat) (s : ByteArray) (i : Nat) (no : Bool) (w : World) (h : RC b s i no w) (hs : s.size ≤ 1000000) (hn : hereB (dl s i) ≠ 45) :
    Calls Tryd.prog 34 #[.pointer (some ⟨b, 0, none⟩)] w (RNumPost b s i no w) := by
  have HI := Hold.mk h
  have HH : Hold (hereB (dl s i) ≠ 45) := ⟨hn⟩
  have b45 : (((hereB (dl s i)).toNat : Int) == 45) = false := byte_ne (k := 45) hn
  clear hn h
  go_enter Tryd.func34, Tryd.ntmps34
  go_wp2_with fail
  refine (rHere_any b s i no w HI.out).mono ?_
  rintro e w1 ⟨rfl, hb1⟩
  have HR1 := Hold.mk (HI.out.below hb1)
  have HB1 := Hold.mk (But.of_below (b := b) hb1)
  have x1 := HR1.out.c1
  clear hb1
  go_wp2_with fail
  clear x1
  go_loopg [5, 6] s.size (fun g s5 _s6 wr => ∃ z : Int, s5 = .int .u64 z ∧ NumInv b s i no w g z wr)
  case atStart => exact ⟨0, rfl, [], i, no, by omega, by omega, by omega, Nat.le_refl _, (fun c hc => by cases hc), rfl, by simp, HR1.out, HB1.out, fun h => ⟨h, rfl, by decide⟩, fun h => .inl h⟩
  case round =>
    obtain ⟨z, rfl, ds, j, no1, hz0, hz1, hg, hij, hda, hde, hdl, hr, hb, h1, h2⟩ := hrel
    have HR := Hold.mk hr
    have HB := Hold.mk hb
    have HS : Hold (NumS s i no z ds j no1) := ⟨hda, hde, hdl, h1, h2⟩
    obtain ⟨c, hc⟩ : ∃ c, c = hereB (dl s j) := ⟨_, rfl⟩
    have HC : Hold (hereB (dl s j) = c) := ⟨hc.symm⟩
    clear hr hb hda hde hdl h1 h2 hc b45 HR1 HB1
    go_wp2_with fail
    refine (rHere_any b s j no1 wr HR.out).mono ?_
    rintro e w2 ⟨rfl, hb2⟩
    rw [HC.out]
    have HR2 := Hold.mk (HR.out.below hb2)
    have HB2 := Hold.mk (HB.out.trans (But.of_below hb2))
    clear hb2
    cases hd : isD c with
    | true =>
      have hdg := of_decide_eq_true hd
      have hD := rDigit_any c w2
      rw [hd] at hD
      have HD := Hold.mk hD
      clear hD
      go_wp2_with fail
      refine HD.out.mono ?_
      rintro e w3 ⟨rfl, rfl⟩
      clear HD
      go_wp2_with fail
      refine (rHere_any b s j no1 w3 HR2.out).mono ?_
      rintro e w4 ⟨rfl, hb4⟩
      rw [HC.out]
      have HR4 := Hold.mk (HR2.out.below hb4)
      have HB4 := Hold.mk (HB2.out.trans (But.of_below hb4))
      clear hb4
      have hw : IntKind.u8.wrap ((c.toNat : Int) - 48) = (c.toNat : Int) - 48 := by simp [IntKind.wrap, IntKind.bits, IntKind.signed]; omega
      obtain ⟨hj, hgo, hov⟩ := num_step HS.out hij HC.out hd
      have x1 := HR4.out.c1
      have f1 := HR4.out.fz 1
      have x2 := HR4.out.c2
      have f2 := HR4.out.fz 2
      have hgk1 : gk - 1 < gk := by omega
      have hg1 : s.size - (j + 1) ≤ gk - 1 := by omega
      clear hd
      by_cases hz : (9223372036854775808 - ((c.toNat : Int) - 48)) / 10 < z
      · have HS2 := Hold.mk (hov hz)
        have HR5 := Hold.mk (HR4.out.not)
        have HB5 : Hold (But b w (w4.setCell ⟨b, 2, none⟩ (.bool true))) := ⟨HB4.out.trans (But.set _ _ _)⟩
        clear hgo hov
        have hwr := wrap_room (IntKind.u64.wrap (z * 10) + ((c.toNat : Int) - 48))
        go_upto_region 11 with (fail)
        clear x1 f1 x2 f2
        generalize IntKind.u64.wrap (IntKind.u64.wrap (z * 10) + ((c.toNat : Int) - 48)) = z2 at hwr ⊢
        obtain ⟨w5, hw5⟩ : ∃ w5, w5 = w4.setCell ⟨b, 2, none⟩ (.bool true) := ⟨_, rfl⟩
        rw [← hw5] at HR5 HB5 ⊢
        clear hw5
        have x1 := HR5.out.c1
        have f1 := HR5.out.fz 1
        have HR6 := Hold.mk (HR5.out.to1 hj)
        have HB6 : Hold (But b w (w5.setCell ⟨b, 1, none⟩ (.int .i64 ((j : Int) + 1)))) := ⟨HB5.out.trans (But.set _ _ _)⟩
        have HS3 := Hold.mk (HS2.out z2)
        go_wp2_with fail
        clear x1 f1
        go_roundg (gk - 1)
        case measure => exact hgk1
        case rel => exact ⟨_, rfl, ds ++ [c], j + 1, true, hwr.1, hwr.2, hg1, by omega, HS3.out.1, HS3.out.2.1, HS3.out.2.2.1, HR6.out, HB6.out, HS3.out.2.2.2.1, HS3.out.2.2.2.2⟩
      · have HS2 := Hold.mk (hgo hz)
        have HR5 := Hold.mk (HR4.out.to1 hj)
        have HB5 : Hold (But b w (w4.setCell ⟨b, 1, none⟩ (.int .i64 ((j : Int) + 1)))) := ⟨HB4.out.trans (But.set _ _ _)⟩
        clear hgo hov x2 f2
        go_wp2_with fail
        clear x1 f1
        go_roundg (gk - 1)
        case measure => exact hgk1
        case rel => exact ⟨_, rfl, ds ++ [c], j + 1, no1, by omega, by omega, hg1, by omega, HS2.out.1, HS2.out.2.1, HS2.out.2.2.1, HR5.out, HB5.out, HS2.out.2.2.2.1, HS2.out.2.2.2.2⟩
    | false =>
      have hD := rDigit_any c w2
      rw [hd] at hD
      have HD := Hold.mk hD
      have HDC := Hold.mk hd
      clear hD hd
      have x0 := HR2.out.c0
      have x1 := HR2.out.c1
      go_wp2_with fail
      refine HD.out.mono ?_
      rintro e w3 ⟨rfl, rfl⟩
      clear HD
      have HBAD : Hold ((ds = [] ∨ (1 < ds.length ∧ ds.head? = some 48) ∨ z = 9223372036854775808) → ∀ V : Int, (Lit.int .i64 V).wf = true → RNumPost b s i no w (.returned (.int .i64 V)) (w3.setCell ⟨b, 2, none⟩ (.bool true))) := ⟨fun hb V hV => ⟨HB2.out.trans (But.set _ _ _), V, j, true, rfl, hV, HR2.out.not, (fun e => by cases e), fun _ => num_bad HS.out (by rw [HC.out]; exact HDC.out) HH.out hb⟩⟩
      have hjs : j ≤ s.size + 1 := HR2.out.le
      have HLN : Hold (ds.length = j - i) := ⟨HS.out.2.2.1⟩
      by_cases hji : j = i
      · subst hji
        have HPB := Hold.mk (HBAD.out (.inl (List.length_eq_zero_iff.1 (by rw [HLN.out]; omega))))
        have x2 := HR2.out.c2
        have f2 := HR2.out.fz 2
        go_wp2_with fail
        go_ret
        exact HPB.out _ (by first | exact wf_wrap64 _ | exact wf_wrap _ | (simp [Lit.wf, IntKind.min, IntKind.max, IntKind.bits, IntKind.signed]; omega))
      · have bji : ((j : Int) == (i : Int)) = false := by simp; omega
        have HNE : Hold (ds ≠ []) := ⟨fun e => by have := HLN.out; rw [e] at this; simp at this; omega⟩
        by_cases hlong : i + 1 < j
        · have kl : (i : Int) + 1 < (j : Int) := by omega
          obtain ⟨c0, r0, hds⟩ : ∃ a r, ds = a :: r := by
            cases e : ds with
            | nil => exact absurd e HNE.out
            | cons a r => exact ⟨a, r, rfl⟩
          obtain ⟨hi, hsi, _⟩ := dl_split (s := s) (i := i) (c := c0) (r := r0 ++ dl s j) (by rw [HS.out.2.1, hds]; rfl)
          have HHD : Hold (ds.head? = some c0) := ⟨by rw [hds]; rfl⟩
          clear hds
          by_cases h48 : c0 = 48
          · subst h48
            have HPB := Hold.mk (HBAD.out (.inr (.inl ⟨by rw [HLN.out]; omega, HHD.out⟩)))
            have x2 := HR2.out.c2
            have f2 := HR2.out.fz 2
            go_wp2_with fail
            go_ret
            exact HPB.out _ (by first | exact wf_wrap64 _ | exact wf_wrap _ | (simp [Lit.wf, IntKind.min, IntKind.max, IntKind.bits, IntKind.signed]; omega))
          · have b48 : ((c0.toNat : Int) == 48) = false := byte_ne (k := 48) h48
            have HNB : Hold (¬ (ds = [] ∨ 1 < ds.length ∧ ds.head? = some 48)) := ⟨fun h => by
              rcases h with h | ⟨_, h⟩
              · exact HNE.out h
              · rw [HHD.out] at h
                exact h48 (Option.some.inj h)⟩
            by_cases hz63 : z = 9223372036854775808
            · subst hz63
              have HPB := Hold.mk (HBAD.out (.inr (.inr rfl)))
              have x2 := HR2.out.c2
              have f2 := HR2.out.fz 2
              go_wp2_with fail
              go_ret
              exact HPB.out _ (by first | exact wf_wrap64 _ | exact wf_wrap _ | (simp [Lit.wf, IntKind.min, IntKind.max, IntKind.bits, IntKind.signed]; omega))
            · have bz : (z == 9223372036854775808) = false := by simpa using hz63
              have HPO : Hold (∀ V : Int, (Lit.int .i64 V).wf = true → (z < 9223372036854775808 → V = z) → RNumPost b s i no w (.returned (.int .i64 V)) w3) := ⟨fun V hV hz => by
                obtain ⟨q1, q2⟩ := num_ok HS.out (by rw [HC.out]; exact HDC.out) HH.out HNB.out hz63
                exact ⟨HB2.out, V, j, no1, rfl, hV, HR2.out, fun e => by
                  obtain ⟨e1, e2, e3, e4⟩ := q1 e
                  rw [hz e4]; exact ⟨e1, e2⟩, q2⟩⟩
              go_wp2_with fail
              go_ret
              exact HPO.out _ (by first | exact wf_wrap64 _ | exact wf_wrap _ | (simp [Lit.wf, IntKind.min, IntKind.max, IntKind.bits, IntKind.signed]; omega)) (fun h => by first | rfl | (unfold wrap64; omega) | (rw [IntKind.wrap_i64]; omega))
        · have kl : ¬ (i : Int) + 1 < (j : Int) := by omega
          have HNB : Hold (¬ (ds = [] ∨ 1 < ds.length ∧ ds.head? = some 48)) := ⟨fun h => by
            rcases h with h | ⟨h, _⟩
            · exact HNE.out h
            · rw [HLN.out] at h; omega⟩
          by_cases hz63 : z = 9223372036854775808
          · subst hz63
            have HPB := Hold.mk (HBAD.out (.inr (.inr rfl)))
            have x2 := HR2.out.c2
            have f2 := HR2.out.fz 2
            go_wp2_with fail
            go_ret
            exact HPB.out _ (by first | exact wf_wrap64 _ | exact wf_wrap _ | (simp [Lit.wf, IntKind.min, IntKind.max, IntKind.bits, IntKind.signed]; omega))
          · have bz : (z == 9223372036854775808) = false := by simpa using hz63
            have HPO : Hold (∀ V : Int, (Lit.int .i64 V).wf = true → (z < 9223372036854775808 → V = z) → RNumPost b s i no w (.returned (.int .i64 V)) w3) := ⟨fun V hV hz => by
              obtain ⟨q1, q2⟩ := num_ok HS.out (by rw [HC.out]; exact HDC.out) HH.out HNB.out hz63
              exact ⟨HB2.out, V, j, no1, rfl, hV, HR2.out, fun e => by
                obtain ⟨e1, e2, e3, e4⟩ := q1 e
                rw [hz e4]; exact ⟨e1, e2⟩, q2⟩⟩
            go_wp2_with fail
            go_ret
            exact HPO.out _ (by first | exact wf_wrap64 _ | exact wf_wrap _ | (simp [Lit.wf, IntKind.min, IntKind.max, IntKind.bits, IntKind.signed]; omega)) (fun h => by first | rfl | (unfold wrap64; omega) | (rw [IntKind.wrap_i64]; omega))

end Go.Proofs.YtdhilnnohokoeaaDoor
