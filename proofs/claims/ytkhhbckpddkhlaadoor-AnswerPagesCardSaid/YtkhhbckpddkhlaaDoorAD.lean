/- Answers: Check of the program and of the reference. -/
import Derived.Test.YtkhhbckpddkhlaaDoorAB
import Derived.Test.YtkhhbckpddkhlaaDoorGA
namespace Go.Proofs.YtkhhbckpddkhlaaDoor
open Go.Shelf Go.RowKit

/-- no path -/
def badF (p : ByteArray) : Bool := (stepsF p).isNone
/-- what is said of a query -/
def qcheckF (q : QR) : Int :=
  if checkF q.flt ≠ 0 then checkF q.flt
  else if 3 < q.sort.length ∨ 8 < q.fields.length then 3
  else if (q.sort.any fun o => badF o.path) = true ∨ q.fields.any badF = true then 2
  else if q.skip < 0 ∨ q.lim < 0 then 1
  else if 100 < q.skip ∨ 100 < q.lim then 3 else 0
theorem steps_bad {s : ByteArray} {w w' : World} {e : Ending} (h : StepsPost s w e w') : ∃ sv, e = .returned (.tuple #[sv, .int .i64 (if badF s = true then 2 else 0)]) ∧ Below w.heap.size w w' := by
  unfold StepsPost at h
  unfold badF
  cases hs : stepsF s with
  | none =>
    rw [hs] at h
    obtain ⟨rfl, hb⟩ := h
    exact ⟨_, rfl, hb⟩
  | some l =>
    rw [hs] at h
    obtain ⟨⟨sv, rfl, _⟩, hb⟩ := h
    exact ⟨sv, rfl, hb⟩

set_option maxHeartbeats 2000000 in
theorem bad_any (p : ByteArray) (w : World) (hs : p.size ≤ 1000000) (hT : Tabs w) :
    Calls Tryd.prog 28 #[.string p] w fun e w' => e = .returned (.bool (badF p)) ∧ Below w.heap.size w w' := by
  have HS := Hold.mk (Steps_any p w hs hT)
  clear hT
  cases hb : badF p with
  | false =>
    have HF := Hold.mk hb
    clear hb
    go_enter Tryd.func28, Tryd.ntmps28
    go_wp2_with fail
    refine HS.out.mono ?_
    rintro e w1 h1
    obtain ⟨sv, rfl, hb1⟩ := steps_bad h1
    rw [HF.out]
    clear h1
    go_wp2_with fail
    go_ret
    exact ⟨rfl, hb1⟩
  | true =>
    have HF := Hold.mk hb
    clear hb
    go_enter Tryd.func28, Tryd.ntmps28
    go_wp2_with fail
    refine HS.out.mono ?_
    rintro e w1 h1
    obtain ⟨sv, rfl, hb1⟩ := steps_bad h1
    rw [HF.out]
    clear h1
    go_wp2_with fail
    go_ret
    exact ⟨rfl, hb1⟩

set_option maxHeartbeats 2000000 in
theorem check1_any (p : ByteArray) (b : Bool) (w : World) (hs : p.size ≤ 1000000) (hT : Tabs w) :
    Calls Tryd.prog 27 #[.agg #[.string p, .bool b]] w fun e w' => e = .returned (.bool (badF p)) ∧ Below w.heap.size w w' := by
  obtain ⟨W, hW⟩ : ∃ W, W = w.alloc (.cells #[.string p, .bool b] 60) := ⟨_, rfl⟩
  have hb : Below w.heap.size w W := by rw [hW]; exact (Below.refl _ w).alloc (Nat.le_refl _) _
  have HX : Hold (W.heap[w.heap.size]? = some (.cells #[.string p, .bool b] 60 (0, 0))) := ⟨by rw [hW]; exact heap_alloc_new w _⟩
  have HB := Hold.mk hb
  have HC := Hold.mk (bad_any p W hs (hT.below hb))
  clear hb hT
  go_enter Tryd.func27, Tryd.ntmps27
  go_upto_region 1 with (fail)
  rw [← hW]
  clear hW
  obtain ⟨y0, y1⟩ := cells2A HX.out
  go_wp2_with fail
  refine HC.out.mono ?_
  rintro e w1 ⟨rfl, hb1⟩
  have HBF := HB.out.trans (hb1.mono HB.out.size)
  clear hb1 HC y0 y1
  go_wp2_with fail
  go_ret
  exact ⟨rfl, HBF⟩

set_option maxHeartbeats 4000000 in
theorem ordIdx_any (l : List OR) (lv : Value) (w : World) (hl : SAt 2 RO (cf w) lv l) (hsz : ∀ o ∈ l, o.path.size ≤ 1000000) (hT : Tabs w) :
    Calls Tryd.prog 42 #[lv, .func (.func 27) #[] #[]] w (IdxAny (l.any fun o => badF o.path) w) := by
  obtain ⟨a, cap, rfl, hle, hcap, hel⟩ := hl
  have HE := Hold.mk hel
  have HSZ := Hold.mk hsz
  have HT := Hold.mk hT
  have hle3 : l.length ≤ 9223372036854775807 := by omega
  clear hel hsz hT
  go_enter Tryd.func42, Tryd.ntmps42
  go_wp2_with fail
  go_loopw [8] (fun i wr => ∃ j : Nat, i = .int .i64 j ∧ j ≤ l.length ∧ (∀ (q : Nat) x, q < j → l[q]? = some x → badF x.path = false) ∧ Below w.heap.size w wr) (fun i _ => l.length - (intOf i).toNat)
  case atStart => exact ⟨0, rfl, Nat.zero_le _, fun q x h => by omega, Below.refl _ _⟩
  case round =>
    obtain ⟨j, rfl, hj, hall, hbl⟩ := hrel
    have HA := Hold.mk hall
    have HB := Hold.mk hbl
    clear hall hbl
    by_cases hlt : j < l.length
    · obtain ⟨o, ho⟩ : ∃ o, l[j]? = some o := ⟨l[j], List.getElem?_eq_getElem hlt⟩
      obtain ⟨b, off, d, rfl, hd, hc, hoi⟩ := HE.out j o ho
      have hop := HSZ.out o (List.mem_of_getElem? ho)
      have HS := Hold.mk ho
      obtain ⟨p, dn⟩ := o
      obtain ⟨rfl, _⟩ := hoi
      simp only at hop
      have hcl := cle_below HB.out
      have z0 := hcl _ _ _ (hc 0 _ rfl)
      have z1 := hcl _ _ _ (hc 1 _ rfl)
      unfold cf at z0 z1
      rw [Nat.add_zero] at z0
      have HX := Hold.mk (check1_any p dn wr hop (HT.out.below HB.out))
      clear hc hcl hd ho
      cases hfx : badF p with
      | false =>
        rw [hfx] at HX
        have HF : Hold (badF (OR.mk p dn).path = false) := ⟨hfx⟩
        clear hfx
        go_wp2_with fail
        refine HX.out.mono ?_
        rintro e w1 ⟨rfl, hb1⟩
        replace HB := Hold.mk (HB.out.trans (hb1.mono HB.out.size))
        clear hb1 HX z0 z1
        go_wp2_with fail
        refine ⟨⟨j + 1, by go_num, hlt, fun q s' hq hs' => ?_, HB.out⟩, by simp [intOf]; omega⟩
        by_cases e : q = j
        · subst e; rw [HS.out] at hs'; cases hs'; exact HF.out
        · exact HA.out q s' (by omega) hs'
      | true =>
        rw [hfx] at HX
        have HF : Hold (badF (OR.mk p dn).path = true) := ⟨hfx⟩
        clear hfx
        go_wp2_with fail
        refine HX.out.mono ?_
        rintro e w1 ⟨rfl, hb1⟩
        replace HB := Hold.mk (HB.out.trans (hb1.mono HB.out.size))
        clear hb1 HX z0 z1
        go_wp2_with fail
        go_ret
        exact ⟨(j : Int), rfl, by rw [any_true HS.out HF.out]; simp, HB.out⟩
    · have HAll : Hold ((l.any fun o => badF o.path) = false) := ⟨any_false (fun q x hq => HA.out q x (by omega))⟩
      go_wp2_with fail
      go_ret
      exact ⟨-1, rfl, by rw [HAll.out]; rfl, HB.out⟩

set_option maxHeartbeats 2000000 in
theorem ordAny_any (l : List OR) (lv : Value) (w : World) (hl : SAt 2 RO (cf w) lv l) (hsz : ∀ o ∈ l, o.path.size ≤ 1000000) (hT : Tabs w) :
    Calls Tryd.prog 26 #[lv, .func (.func 27) #[] #[]] w fun e w' => e = .returned (.bool (l.any fun o => badF o.path)) ∧ Below w.heap.size w w' := by
  have HX := Hold.mk (ordIdx_any l lv w hl hsz hT)
  obtain ⟨a, cap, rfl⟩ := hl.form
  clear hl hT
  go_enter Tryd.func26, Tryd.ntmps26
  go_wp2_with fail
  refine HX.out.mono ?_
  rintro e w1 ⟨r, rfl, hr, hb1⟩
  have HR := Hold.mk hr
  have HB := Hold.mk hb1
  clear hr hb1 HX
  go_wp2_with fail
  go_ret
  exact ⟨ret_b HR.out, HB.out⟩

set_option maxHeartbeats 4000000 in
theorem fldIdx_any (l : List ByteArray) (lv : Value) (w : World) (hl : SAt 1 RS (cf w) lv l) (hsz : ∀ o ∈ l, o.size ≤ 1000000) (hT : Tabs w) :
    Calls Tryd.prog 43 #[lv, .func (.func 28) #[] #[]] w (IdxAny (l.any badF) w) := by
  obtain ⟨a, cap, rfl, hle, hcap, hel⟩ := hl
  have HE := Hold.mk hel
  have HSZ := Hold.mk hsz
  have HT := Hold.mk hT
  have hle3 : l.length ≤ 9223372036854775807 := by omega
  clear hel hsz hT
  go_enter Tryd.func43, Tryd.ntmps43
  go_wp2_with fail
  go_loopw [8] (fun i wr => ∃ j : Nat, i = .int .i64 j ∧ j ≤ l.length ∧ (∀ (q : Nat) x, q < j → l[q]? = some x → badF x = false) ∧ Below w.heap.size w wr) (fun i _ => l.length - (intOf i).toNat)
  case atStart => exact ⟨0, rfl, Nat.zero_le _, fun q x h => by omega, Below.refl _ _⟩
  case round =>
    obtain ⟨j, rfl, hj, hall, hbl⟩ := hrel
    have HA := Hold.mk hall
    have HB := Hold.mk hbl
    clear hall hbl
    by_cases hlt : j < l.length
    · obtain ⟨p, ho⟩ : ∃ o, l[j]? = some o := ⟨l[j], List.getElem?_eq_getElem hlt⟩
      obtain ⟨b, off, d, rfl, hd, hc, hoi⟩ := HE.out j p ho
      have hop := HSZ.out p (List.mem_of_getElem? ho)
      have HS := Hold.mk ho
      obtain ⟨rfl, _⟩ := hoi
      have hcl := cle_below HB.out
      have z0 := hcl _ _ _ (hc 0 _ rfl)
      unfold cf at z0
      rw [Nat.add_zero, Nat.mul_one] at z0
      have HX := Hold.mk (bad_any p wr hop (HT.out.below HB.out))
      clear hc hcl hd ho
      cases hfx : badF p with
      | false =>
        rw [hfx] at HX
        have HF := Hold.mk hfx
        clear hfx
        go_wp2_with fail
        refine HX.out.mono ?_
        rintro e w1 ⟨rfl, hb1⟩
        replace HB := Hold.mk (HB.out.trans (hb1.mono HB.out.size))
        clear hb1 HX z0
        go_wp2_with fail
        refine ⟨⟨j + 1, by go_num, hlt, fun q s' hq hs' => ?_, HB.out⟩, by simp [intOf]; omega⟩
        by_cases e : q = j
        · subst e; rw [HS.out] at hs'; cases hs'; exact HF.out
        · exact HA.out q s' (by omega) hs'
      | true =>
        rw [hfx] at HX
        have HF := Hold.mk hfx
        clear hfx
        go_wp2_with fail
        refine HX.out.mono ?_
        rintro e w1 ⟨rfl, hb1⟩
        replace HB := Hold.mk (HB.out.trans (hb1.mono HB.out.size))
        clear hb1 HX z0
        go_wp2_with fail
        go_ret
        exact ⟨(j : Int), rfl, by rw [any_true HS.out HF.out]; simp, HB.out⟩
    · have HAll : Hold (l.any badF = false) := ⟨any_false (fun q x hq => HA.out q x (by omega))⟩
      go_wp2_with fail
      go_ret
      exact ⟨-1, rfl, by rw [HAll.out]; rfl, HB.out⟩

set_option maxHeartbeats 2000000 in
theorem fldAny_any (l : List ByteArray) (lv : Value) (w : World) (hl : SAt 1 RS (cf w) lv l) (hsz : ∀ o ∈ l, o.size ≤ 1000000) (hT : Tabs w) :
    Calls Tryd.prog 29 #[lv, .func (.func 28) #[] #[]] w fun e w' => e = .returned (.bool (l.any badF)) ∧ Below w.heap.size w w' := by
  have HX := Hold.mk (fldIdx_any l lv w hl hsz hT)
  obtain ⟨a, cap, rfl⟩ := hl.form
  clear hl hT
  go_enter Tryd.func29, Tryd.ntmps29
  go_wp2_with fail
  refine HX.out.mono ?_
  rintro e w1 ⟨r, rfl, hr, hb1⟩
  have HR := Hold.mk hr
  have HB := Hold.mk hb1
  clear hr hb1 HX
  go_wp2_with fail
  go_ret
  exact ⟨ret_b HR.out, HB.out⟩

theorem qret {q : QR} {r : Int} (h : qcheckF q = r) : Ending.returned (.int .i64 r) = .returned (.int .i64 (qcheckF q)) := by rw [h]
theorem qcheck_1 {q : QR} (h : checkF q.flt ≠ 0) : qcheckF q = checkF q.flt := by unfold qcheckF; rw [if_pos h]
theorem qcheck_2 {q : QR} (h : checkF q.flt = 0) (h2 : 3 < q.sort.length ∨ 8 < q.fields.length) : qcheckF q = 3 := by unfold qcheckF; rw [if_neg (by simp [h]), if_pos h2]
theorem qcheck_3 {q : QR} (h : checkF q.flt = 0) (h2 : ¬ 3 < q.sort.length) (h2b : ¬ 8 < q.fields.length) (h3 : (q.sort.any fun o => badF o.path) = true ∨ q.fields.any badF = true) : qcheckF q = 2 := by
  unfold qcheckF; rw [if_neg (by simp [h]), if_neg (by omega), if_pos h3]
theorem qcheck_4 {q : QR} (h : checkF q.flt = 0) (h2 : ¬ 3 < q.sort.length) (h2b : ¬ 8 < q.fields.length) (h3 : (q.sort.any fun o => badF o.path) = false) (h3b : q.fields.any badF = false) (h4 : q.skip < 0 ∨ q.lim < 0) : qcheckF q = 1 := by
  unfold qcheckF; rw [if_neg (by simp [h]), if_neg (by omega), if_neg (by simp [h3, h3b]), if_pos h4]
theorem qcheck_5 {q : QR} (h : checkF q.flt = 0) (h2 : ¬ 3 < q.sort.length) (h2b : ¬ 8 < q.fields.length) (h3 : (q.sort.any fun o => badF o.path) = false) (h3b : q.fields.any badF = false) (h4 : ¬ q.skip < 0) (h4b : ¬ q.lim < 0) (h5 : 100 < q.skip ∨ 100 < q.lim) : qcheckF q = 3 := by
  unfold qcheckF; rw [if_neg (by simp [h]), if_neg (by omega), if_neg (by simp [h3, h3b]), if_neg (by omega), if_pos h5]
theorem qcheck_6 {q : QR} (h : checkF q.flt = 0) (h2 : ¬ 3 < q.sort.length) (h2b : ¬ 8 < q.fields.length) (h3 : (q.sort.any fun o => badF o.path) = false) (h3b : q.fields.any badF = false) (h4 : ¬ q.skip < 0) (h4b : ¬ q.lim < 0) (h5 : ¬ 100 < q.skip) (h5b : ¬ 100 < q.lim) : qcheckF q = 0 := by
  unfold qcheckF; rw [if_neg (by simp [h]), if_neg (by omega), if_neg (by simp [h3, h3b]), if_neg (by omega), if_neg (by omega)]

set_option maxRecDepth 100000 in
set_option maxHeartbeats 8000000 in
theorem qCheck_any (q : QR) (d : List Value) (w : World) (hq : QAt (cf w) q d) (hsz : ∀ o ∈ q.sort, o.path.size ≤ 1000000) (hfz : ∀ p ∈ q.fields, p.size ≤ 1000000) (hT : Tabs w) :
    Calls Tryd.prog 16 #[.agg d.toArray] w fun e w' => e = .returned (.int .i64 (qcheckF q)) ∧ Below w.heap.size w w' := by
  obtain ⟨k, n, t, na, nl, nc, ia, il, ic, sv, fv, rfl, hj, hs, hf⟩ := hq
  have HS := Hold.mk hs
  have HF := Hold.mk hf
  obtain ⟨sa, scap, rfl, hsl, hsc, _⟩ := hs
  obtain ⟨fa, fcap, rfl, hfl, hfc, _⟩ := hf
  have HSZ := Hold.mk hsz
  have HFZ := Hold.mk hfz
  obtain ⟨W, hW⟩ : ∃ W, W = w.alloc (.cells #[.int .i64 k, .int .i64 n, .string t, .slice na nl nc, .slice ia il ic, .slice sa q.sort.length scap, .slice fa q.fields.length fcap, .int .i64 q.skip, .int .i64 q.lim] 28) := ⟨_, rfl⟩
  have hb : Below w.heap.size w W := by rw [hW]; exact (Below.refl _ w).alloc (Nat.le_refl _) _
  have HX : Hold (W.heap[w.heap.size]? = some (.cells #[.int .i64 k, .int .i64 n, .string t, .slice na nl nc, .slice ia il ic, .slice sa q.sort.length scap, .slice fa q.fields.length fcap, .int .i64 q.skip, .int .i64 q.lim] 28 (0, 0))) := ⟨by rw [hW]; exact heap_alloc_new w _⟩
  have HB := Hold.mk hb
  have HT := Hold.mk hT
  have HC := Hold.mk (Check_any q.flt _ W (hj.mono (cle_below hb)) (hT.below hb))
  clear hb hj hsz hfz hT
  go_enter Tryd.func16, Tryd.ntmps16
  go_upto_region 1 with (fail)
  rw [← hW]
  clear hW
  obtain ⟨y0, y1, y2, y3, y4, y5, y6, y7, y8⟩ := cells9A HX.out
  go_wp2_with fail
  refine HC.out.mono ?_
  rintro e w1 ⟨rfl, hb1⟩
  replace HX := Hold.mk (kept HX.out hb1)
  replace HB := Hold.mk (HB.out.trans (hb1.mono HB.out.size))
  clear hb1 HC y0 y1 y2 y3 y4 y5 y6 y7 y8
  obtain ⟨y0, y1, y2, y3, y4, y5, y6, y7, y8⟩ := cells9A HX.out
  by_cases h1 : checkF q.flt = 0
  case neg =>
    have HQ := Hold.mk (qcheck_1 h1)
    have HBF := HB.out
    generalize checkF q.flt = r at h1 HQ ⊢
    go_wp2_with fail
    go_ret
    exact ⟨qret HQ.out, HBF⟩
  have H1 := Hold.mk h1
  rw [h1]
  clear h1
  by_cases h2 : 3 < q.sort.length
  · have HQ := Hold.mk (qcheck_2 H1.out (.inl h2))
    have k2 : (3 : Int) < (q.sort.length : Int) := by omega
    have HBF := HB.out
    go_wp2_with fail
    go_ret
    exact ⟨qret HQ.out, HBF⟩
  by_cases h3 : 8 < q.fields.length
  · have HQ := Hold.mk (qcheck_2 H1.out (.inr h3))
    have k2 : ¬ (3 : Int) < (q.sort.length : Int) := by omega
    have k3 : (8 : Int) < (q.fields.length : Int) := by omega
    have HBF := HB.out
    go_wp2_with fail
    go_ret
    exact ⟨qret HQ.out, HBF⟩
  have H2 := Hold.mk h2
  have H3 := Hold.mk h3
  have k2 : ¬ (3 : Int) < (q.sort.length : Int) := by omega
  have k3 : ¬ (8 : Int) < (q.fields.length : Int) := by omega
  clear h2 h3
  have HO := Hold.mk (ordAny_any q.sort _ w1 (HS.out.mono RO_mono (cle_below HB.out)) HSZ.out (HT.out.below HB.out))
  obtain ⟨b1, hb1⟩ : ∃ b, (q.sort.any fun o => badF o.path) = b := ⟨_, rfl⟩
  rw [hb1] at HO
  have H4 := Hold.mk hb1
  clear hb1
  go_wp2_with fail
  refine HO.out.mono ?_
  rintro e w2 ⟨rfl, hb2⟩
  replace HX := Hold.mk (kept HX.out hb2)
  replace HB := Hold.mk (HB.out.trans (hb2.mono HB.out.size))
  clear hb2 HO y0 y1 y2 y3 y4 y5 y6 y7 y8
  obtain ⟨y0, y1, y2, y3, y4, y5, y6, y7, y8⟩ := cells9A HX.out
  cases b1 with
  | true =>
    have HQ := Hold.mk (qcheck_3 H1.out H2.out H3.out (.inl H4.out))
    have HBF := HB.out
    go_wp2_with fail
    go_ret
    exact ⟨qret HQ.out, HBF⟩
  | false =>
  have HO := Hold.mk (fldAny_any q.fields _ w2 (HF.out.mono RS_mono (cle_below HB.out)) HFZ.out (HT.out.below HB.out))
  obtain ⟨b2, hb2⟩ : ∃ b, q.fields.any badF = b := ⟨_, rfl⟩
  rw [hb2] at HO
  have H5 := Hold.mk hb2
  clear hb2
  go_wp2_with fail
  refine HO.out.mono ?_
  rintro e w3 ⟨rfl, hb3⟩
  replace HX := Hold.mk (kept HX.out hb3)
  replace HB := Hold.mk (HB.out.trans (hb3.mono HB.out.size))
  clear hb3 HO y0 y1 y2 y3 y4 y5 y6 y7 y8
  obtain ⟨y0, y1, y2, y3, y4, y5, y6, y7, y8⟩ := cells9A HX.out
  have HBF := HB.out
  cases b2 with
  | true =>
    have HQ := Hold.mk (qcheck_3 H1.out H2.out H3.out (.inr H5.out))
    go_wp2_with fail
    go_ret
    exact ⟨qret HQ.out, HBF⟩
  | false =>
  by_cases h6 : q.skip < 0
  · have HQ := Hold.mk (qcheck_4 H1.out H2.out H3.out H4.out H5.out (.inl h6))
    go_wp2_with fail
    go_ret
    exact ⟨qret HQ.out, HBF⟩
  by_cases h7 : q.lim < 0
  · have HQ := Hold.mk (qcheck_4 H1.out H2.out H3.out H4.out H5.out (.inr h7))
    go_wp2_with fail
    go_ret
    exact ⟨qret HQ.out, HBF⟩
  by_cases h8 : 100 < q.skip
  · have HQ := Hold.mk (qcheck_5 H1.out H2.out H3.out H4.out H5.out h6 h7 (.inl h8))
    go_wp2_with fail
    go_ret
    exact ⟨qret HQ.out, HBF⟩
  by_cases h9 : 100 < q.lim
  · have HQ := Hold.mk (qcheck_5 H1.out H2.out H3.out H4.out H5.out h6 h7 (.inr h9))
    go_wp2_with fail
    go_ret
    exact ⟨qret HQ.out, HBF⟩
  have HQ := Hold.mk (qcheck_6 H1.out H2.out H3.out H4.out H5.out h6 h7 h8 h9)
  go_wp2_with fail
  go_ret
  exact ⟨qret HQ.out, HBF⟩

end Go.Proofs.YtkhhbckpddkhlaaDoor
