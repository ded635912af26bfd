/- Filters: a clause, whole, and Check of the program. -/
import Derived.Test.YtdajfdahgjhmaaaDoorFK
namespace Go.Proofs.YtdajfdahgjhmaaaDoor
open Go.RowKit

set_option maxRecDepth 100000 in
set_option maxHeartbeats 8000000 in
theorem clause_not (d : Nat) (hd : d ≤ 6) (H : ClausesAt d) (s : ByteArray) (hs : s.toList = sNot) (v : JV) (x : Value) (w : World) (hf : formedF d v = true) (hx : JAt (cf w) v x) (hT : Tabs w) :
    Calls Tryd.prog 34 #[.string s, x] w fun e w' => e = .returned (.int .i64 (cntI (clauseF (countF d) s v))) ∧ Below w.heap.size w w' := by
  have HC0 := Hold.mk (cl_not (cnt := countF d) (v := v) (isN_ne hs (by decide)) (isN_ne hs (by decide)) (isN_yes hs))
  have HCB := Hold.mk (cntB_le d hd)
  have HBD := Hold.mk (fun (m : Nat) (h : countF d v = some m) => count_le d v m hf h)
  obtain ⟨k, n, t, nm, it, na, ncap, ia, icap, hve, rfl, _⟩ := hx.open
  have HB := Hold.mk (Boxed.refl w (.cells #[.int .i64 k, .int .i64 n, .string t, .slice na nm.length ncap, .slice ia it.length icap] 32))
  have HX := Hold.mk (H v _ _ hf (hx.mono (cle_below HB.out.below)) (hT.below HB.out.below))
  have b0 : s.toList = [36, 110, 111, 116] := hs
  clear H hx hT hf hve hs
  cases hc : countF d v with
  | none =>
    rw [hc] at HX
    have HR : Hold (clauseF (countF d) s v = none) := ⟨by rw [HC0.out, hc]; rfl⟩
    clear hc
    rw [cntI_neg] at HX
    go_enter Tryd.func34, Tryd.ntmps34
    go_wp2_with fail
    refine HX.out.mono ?_
    rintro e w3 ⟨rfl, hb3⟩
    replace HB := Hold.mk (HB.out.next hb3)
    clear hb3 HX
    go_wp2_with fail
    go_ret
    exact ⟨by rw [HR.out]; rfl, HB.out.below⟩
  | some q =>
    rw [hc] at HX
    have HR : Hold (clauseF (countF d) s v = some (q + 1)) := ⟨by rw [HC0.out, hc]; rfl⟩
    have hq : q ≤ 10000000000000000 := Nat.le_trans (HBD.out q hc) HCB.out
    clear hc
    change Hold (Calls _ _ _ _ fun e w' => e = .returned (.int .i64 (q : Int)) ∧ _) at HX
    go_enter Tryd.func34, Tryd.ntmps34
    go_wp2_with fail
    refine HX.out.mono ?_
    rintro e w3 ⟨rfl, hb3⟩
    replace HB := Hold.mk (HB.out.next hb3)
    clear hb3 HX
    go_wp2_with fail
    go_ret
    exact ⟨by rw [HR.out]; rfl, HB.out.below⟩

/-- all tests before j are formed -/
def TestsTo (nm : List ByteArray) (it : List JV) (j : Nat) : Prop := ∀ (q : Nat) p, q < j → (nm.zip it)[q]? = some p → testF p.1 p.2 = true
theorem TestsTo.next {nm : List ByteArray} {it : List JV} {j : Nat} {s : ByteArray} {x : JV} (h : TestsTo nm it j) (hp : (nm.zip it)[j]? = some (s, x)) (ht : testF s x = true) : TestsTo nm it (j + 1) := fun q p hq hpq => by
  by_cases e : q = j
  · subst e; rw [hp] at hpq; cases hpq; exact ht
  · exact h q p (by omega) hpq

set_option maxRecDepth 100000 in
set_option maxHeartbeats 8000000 in
theorem clause_path (d : Nat) (s : ByteArray) (hsz : s.size ≤ 1000000) (h1 : ¬ s.toList = sAnd) (h2 : ¬ s.toList = sOr) (h3 : ¬ s.toList = sNot) (v : JV) (x : Value) (w : World) (hf : formedF d v = true) (hx : JAt (cf w) v x) (hT : Tabs w) :
    Calls Tryd.prog 34 #[.string s, x] w fun e w' => e = .returned (.int .i64 (cntI (clauseF (countF d) s v))) ∧ Below w.heap.size w w' := by
  have i1 := isN_no h1
  have i2 := isN_no h2
  have i3 := isN_no h3
  have b1 : (s.toList == [36, 97, 110, 100]) = false := i1
  have b2 : (s.toList == [36, 111, 114]) = false := i2
  have b3 : (s.toList == [36, 110, 111, 116]) = false := i3
  have HI1 := Hold.mk i1
  have HI2 := Hold.mk i2
  have HI3 := Hold.mk i3
  have HF := Hold.mk hf
  obtain ⟨k, n, t, nm, it, na, ncap, ia, icap, rfl, rfl, _, _, _, hst, hit⟩ := hx.open
  have HJ := Hold.mk hx
  have HT := Hold.mk hT
  have HLEN := Hold.mk (formed_lens hf).2
  have HB := Hold.mk (Boxed.refl w (.cells #[.int .i64 k, .int .i64 n, .string t, .slice na nm.length ncap, .slice ia it.length icap] 32))
  have HP := Hold.mk (fun w => hasDollar_any s w (by omega))
  have HST := Hold.mk hst
  have HIT := Hold.mk hit
  clear hx hT hf i1 i2 i3 h1 h2 h3 hst hit
  cases hsg : signF s with
  | true =>
    rw [hsg] at HP
    have HR := Hold.mk (cl_sign (cnt := countF d) (v := .mk k n t nm it) HI1.out HI2.out HI3.out hsg)
    clear hsg
    go_enter Tryd.func34, Tryd.ntmps34
    go_wp2_with fail
    refine (HP.out _).mono ?_
    rintro e w1 ⟨rfl, hw1⟩
    subst hw1
    go_wp2_with fail
    go_ret
    exact ⟨by rw [HR.out]; rfl, HB.out.below⟩
  | false =>
    rw [hsg] at HP
    have HSG := Hold.mk hsg
    clear hsg
    go_enter Tryd.func34, Tryd.ntmps34
    go_wp2_with fail
    refine (HP.out _).mono ?_
    rintro e w1 ⟨rfl, hw1⟩
    subst hw1
    go_wp2_with fail
    refine (Steps_any s _ hsz (HT.out.below HB.out.below)).mono ?_
    rintro e w2 ⟨hsp, hb2⟩
    replace HB := Hold.mk (HB.out.next hb2)
    clear hb2 HP
    cases hl : stepsF s with
    | none =>
      rw [hl] at hsp
      simp only at hsp
      subst hsp
      have HR := Hold.mk (cl_steps (cnt := countF d) (v := .mk k n t nm it) HI1.out HI2.out HI3.out HSG.out hl)
      clear hl
      go_wp2_with fail
      go_ret
      exact ⟨by rw [HR.out]; rfl, HB.out.below⟩
    | some l =>
      rw [hl] at hsp
      simp only at hsp
      obtain ⟨sv, rfl, hsv⟩ := hsp
      have HC0 := Hold.mk (cl_path (cnt := countF d) (v := .mk k n t nm it) HI1.out HI2.out HI3.out HSG.out hl)
      clear hl hsv
      have y0 := HB.out.c0
      have y1 := HB.out.c1
      have y2 := HB.out.c2
      have y3 := HB.out.c3
      have y4 := HB.out.c4
      have HX := Hold.mk (tests_any (.mk k n t nm it) _ w2 (HJ.out.mono (cle_below HB.out.below)) ⟨d, HF.out⟩)
      cases htt : testsF (.mk k n t nm it) with
      | false =>
        rw [htt] at HX HC0
        have HR : Hold (clauseF (countF d) s (.mk k n t nm it) = some 1) := ⟨by rw [HC0.out]; rfl⟩
        clear htt
        go_wp2_with fail
        refine HX.out.mono ?_
        rintro e w3 ⟨rfl, hb3⟩
        replace HB := Hold.mk (HB.out.next hb3)
        clear hb3 HX y0 y1 y2 y3 y4
        go_wp2_with fail
        go_ret
        exact ⟨by rw [HR.out]; rfl, HB.out.below⟩
      | true =>
        rw [htt] at HX HC0
        clear htt
        obtain ⟨na', ncap', e, hnlen, hns⟩ := HST.out
        cases e
        obtain ⟨ia', icap', e, hilen, his⟩ := HIT.out
        cases e
        have HN := Hold.mk hns
        have HI := Hold.mk his
        clear hns his HST HIT
        go_wp2_with fail
        refine HX.out.mono ?_
        rintro e w3 ⟨rfl, hb3⟩
        replace HB := Hold.mk (HB.out.next hb3)
        clear hb3 HX y0 y1 y2 y3 y4
        have y3 := HB.out.c3
        go_wp2_with fail
        clear y3
        go_loopw [70] (fun i wr => ∃ j : Nat, i = .int .i64 j ∧ j ≤ nm.length ∧ TestsTo nm it j ∧ Boxed w wr _) (fun i _ => nm.length - (intOf i).toNat)
        case atStart => exact ⟨0, rfl, Nat.zero_le _, fun q p h => by omega, HB.out⟩
        case round =>
          obtain ⟨j, rfl, hj, htt, hbx⟩ := hrel
          clear HB
          have HTT := Hold.mk htt
          have HB := Hold.mk hbx
          have y4 := hbx.c4
          clear htt hbx
          by_cases hlt : j < nm.length
          · have hlt2 : j < it.length := by have h2 : nm.length ≤ it.length := HLEN.out; omega
            obtain ⟨u, hu⟩ : ∃ s, nm[j]? = some s := ⟨nm[j], List.getElem?_eq_getElem hlt⟩
            obtain ⟨x, hx⟩ : ∃ x, it[j]? = some x := ⟨it[j], List.getElem?_eq_getElem hlt2⟩
            obtain ⟨_, sb, so, rfl, hsc⟩ := HN.out j u hu
            obtain ⟨b, off, k2, n2, t2, nm2, it2, na2, ncap2, ia2, icap2, rfl, hxe, x0, x1, x2, x3, x4, hxj⟩ := HI.out j x hx
            have hcl := cle_below HB.out.below
            have z0 := hcl _ _ _ x0
            have z1 := hcl _ _ _ x1
            have z2 := hcl _ _ _ x2
            have z3 := hcl _ _ _ x3
            have z4 := hcl _ _ _ x4
            have z5 := hcl _ _ _ hsc
            unfold cf at z0 z1 z2 z3 z4 z5
            have HX := Hold.mk (test_any u x _ wr (hxj.mono hcl))
            have HZ := Hold.mk (zip_at hu hx)
            clear x0 x1 x2 x3 x4 hcl hx hxe hxj hsc hu
            cases htx : testF u x with
            | false =>
              rw [htx] at HX
              have HR : Hold (clauseF (countF d) s (.mk k n t nm it) = none) := ⟨by
                rw [HC0.out]
                have : ((JV.mk k n t nm it).names.zip (JV.mk k n t nm it).items).all (fun p => testF p.1 p.2) = false := all_false (l := nm.zip it) HZ.out htx
                rw [this]; rfl⟩
              clear htx
              go_wp2_with fail
              refine HX.out.mono ?_
              rintro e w4 ⟨rfl, hb4⟩
              replace HB := Hold.mk (HB.out.next hb4)
              clear hb4 HX z0 z1 z2 z3 z4 z5 y4
              go_wp2_with fail
              go_ret
              exact ⟨by rw [HR.out]; rfl, HB.out.below⟩
            | true =>
              rw [htx] at HX
              have HNX := Hold.mk (HTT.out.next HZ.out htx)
              clear htx
              go_wp2_with fail
              refine HX.out.mono ?_
              rintro e w4 ⟨rfl, hb4⟩
              replace HB := Hold.mk (HB.out.next hb4)
              clear hb4 HX z0 z1 z2 z3 z4 z5 y4
              go_wp2_with fail
              exact ⟨⟨j + 1, by go_num, hlt, HNX.out, HB.out⟩, by simp [intOf]; omega⟩
          · have HR : Hold (clauseF (countF d) s (.mk k n t nm it) = some 1) := ⟨by
              rw [HC0.out]
              have : ((JV.mk k n t nm it).names.zip (JV.mk k n t nm it).items).all (fun p => testF p.1 p.2) = true := all_true (l := nm.zip it) (fun q p hq hp => HTT.out q p (by rw [List.length_zip] at hq; omega) hp)
              rw [this]; rfl⟩
            go_wp2_with fail
            go_ret
            exact ⟨by rw [HR.out]; rfl, HB.out.below⟩

theorem clause_any (d : Nat) (hd : d ≤ 6) (H : ClausesAt d) : ClauseAt d := by
  intro s v x w hs hf hx hT
  by_cases h1 : s.toList = sAnd ∨ s.toList = sOr
  · obtain ⟨k, n, t, nm, it, na, ncap, ia, icap, rfl, rfl, _, _, _, _, hit⟩ := hx.open
    exact clause_list d hd H s h1 k n t nm it _ ia icap w hf hit hT
  by_cases h3 : s.toList = sNot
  · exact clause_not d hd H s h3 v x w hf hx hT
  · exact clause_path d s hs (fun h => h1 (.inl h)) (fun h => h1 (.inr h)) h3 v x w hf hx hT
theorem clauses_any : ∀ d, d ≤ 6 → ClausesAt d
  | 0, _ => fun f x w hf => by simp [formedF] at hf
  | d + 1, hd => clauses_step d (by omega) (clause_any d (by omega) (clauses_any d (by omega)))

set_option maxHeartbeats 4000000 in
theorem Check_any (f : JV) (x : Value) (w : World) (hx : JAt (cf w) f x) (hT : Tabs w) :
    Calls Tryd.prog 16 #[x] w fun e w' => e = .returned (.int .i64 (checkF f)) ∧ Below w.heap.size w w' := by
  obtain ⟨k, n, t, nm, it, na, ncap, ia, icap, hve, rfl, _⟩ := hx.open
  have HB := Hold.mk (Boxed.refl w (.cells #[.int .i64 k, .int .i64 n, .string t, .slice na nm.length ncap, .slice ia it.length icap] 32))
  have HX := Hold.mk (Formed_any f _ _ (hx.mono (cle_below HB.out.below)) (hT.below HB.out.below))
  have HJ := Hold.mk hx
  have HT := Hold.mk hT
  clear hx hT hve
  cases hf : formedF 6 f with
  | false =>
    rw [hf] at HX
    have HR : Hold (checkF f = 2) := ⟨by unfold checkF; rw [if_neg (by simp [hf])]⟩
    clear hf
    go_enter Tryd.func16, Tryd.ntmps16
    go_wp2_with fail
    refine HX.out.mono ?_
    rintro e w1 ⟨rfl, hb1⟩
    replace HB := Hold.mk (HB.out.next hb1)
    clear hb1 HX
    go_wp2_with fail
    go_ret
    exact ⟨by rw [HR.out]; rfl, HB.out.below⟩
  | true =>
    rw [hf] at HX
    have HC0 : Hold (checkF f = (match countF 6 f with | none => 2 | some n => if 12 < n then 3 else 0)) := ⟨by unfold checkF; rw [if_pos hf]; cases countF 6 f <;> rfl⟩
    have HF := Hold.mk hf
    clear hf
    go_enter Tryd.func16, Tryd.ntmps16
    go_wp2_with fail
    refine HX.out.mono ?_
    rintro e w1 ⟨rfl, hb1⟩
    replace HB := Hold.mk (HB.out.next hb1)
    clear hb1 HX
    have y0 := HB.out.c0
    have y1 := HB.out.c1
    have y2 := HB.out.c2
    have y3 := HB.out.c3
    have y4 := HB.out.c4
    have HX := Hold.mk (clauses_any 6 (Nat.le_refl 6) f _ w1 HF.out (HJ.out.mono (cle_below HB.out.below)) (HT.out.below HB.out.below))
    cases hc : countF 6 f with
    | none =>
      rw [hc] at HX HC0
      have HR : Hold (checkF f = 2) := ⟨HC0.out⟩
      clear hc
      rw [cntI_neg] at HX
      go_wp2_with fail
      refine HX.out.mono ?_
      rintro e w2 ⟨rfl, hb2⟩
      replace HB := Hold.mk (HB.out.next hb2)
      clear hb2 HX y0 y1 y2 y3 y4
      go_wp2_with fail
      go_ret
      exact ⟨by rw [HR.out]; rfl, HB.out.below⟩
    | some q =>
      rw [hc] at HX HC0
      have HQ := Hold.mk (count_le 6 f q HF.out hc)
      clear hc
      change Hold (Calls _ _ _ _ fun e w' => e = .returned (.int .i64 (q : Int)) ∧ _) at HX
      go_wp2_with fail
      refine HX.out.mono ?_
      rintro e w2 ⟨rfl, hb2⟩
      replace HB := Hold.mk (HB.out.next hb2)
      clear hb2 HX y0 y1 y2 y3 y4
      by_cases h12 : 12 < q
      · have HR : Hold (checkF f = 3) := ⟨by rw [HC0.out]; simp [h12]⟩
        go_wp2_with fail
        go_ret
        exact ⟨by rw [HR.out]; rfl, HB.out.below⟩
      · have HR : Hold (checkF f = 0) := ⟨by rw [HC0.out]; simp; omega⟩
        go_wp2_with fail
        go_ret
        exact ⟨by rw [HR.out]; rfl, HB.out.below⟩

end Go.Proofs.YtdajfdahgjhmaaaDoor
