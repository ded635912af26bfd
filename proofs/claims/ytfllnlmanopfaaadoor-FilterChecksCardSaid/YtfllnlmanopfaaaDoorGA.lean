/- Filters: sign, Tests, count and clause of the reference. -/
import Derived.Test.YtfllnlmanopfaaaDoorFR
import Derived.Test.YtfllnlmanopfaaaDoorJL
namespace Go.Proofs.YtfllnlmanopfaaaDoor
open Go.RowKit

set_option maxHeartbeats 2000000 in
theorem rsign_any (s : ByteArray) (w : World) (hs : s.size ≤ 9223372036854775807) :
    Calls Tryd.prog 151 #[.string s] w fun e w' => e = .returned (.bool (signF s)) ∧ w' = w := by
  by_cases h0 : 0 < s.size
  · by_cases hz : s[0] = 36
    · have HR := Hold.mk (sign_yes h0 hz)
      have b1 : ((s[0].toNat : Int) == 36) = true := byte_is hz
      clear hz
      go_enter Tryd.func151, Tryd.ntmps151
      go_wp2_with fail
      go_ret
      exact ⟨by rw [HR.out]; rfl, rfl⟩
    · have HR := Hold.mk (sign_no h0 hz)
      have b1 : ((s[0].toNat : Int) == 36) = false := byte_ne hz
      clear hz
      go_enter Tryd.func151, Tryd.ntmps151
      go_wp2_with fail
      go_ret
      exact ⟨by rw [HR.out]; rfl, rfl⟩
  · have HR := Hold.mk (sign_empty (s := s) (by omega))
    go_enter Tryd.func151, Tryd.ntmps151
    go_wp2_with fail
    go_ret
    exact ⟨by rw [HR.out]; rfl, rfl⟩

/-- none before j is so -/
def NoneTo {α : Type} (l : List α) (p : α → Bool) (j : Nat) : Prop := ∀ (q : Nat) x, q < j → l[q]? = some x → p x = false
theorem NoneTo.next {α : Type} {l : List α} {p : α → Bool} {j : Nat} {x : α} (h : NoneTo l p j) (hx : l[j]? = some x) (hp : p x = false) : NoneTo l p (j + 1) := fun q y hq hy => by
  by_cases e : q = j
  · subst e; rw [hx] at hy; cases hy; exact hp
  · exact h q y (by omega) hy
theorem NoneTo.any {α : Type} {l : List α} {p : α → Bool} {j : Nat} (h : NoneTo l p j) (hj : l.length ≤ j) : l.any p = false := any_false (fun q x hq hx => h q x (by omega) hx)

set_option maxRecDepth 100000 in
set_option maxHeartbeats 4000000 in
theorem rTests_any (v : JV) (x : Value) (w : World) (hx : JAt (cf w) v x) :
    Calls Tryd.prog 117 #[x] w fun e w' => e = .returned (.bool (testsF v)) ∧ Below w.heap.size w w' := by
  obtain ⟨k, n, t, nm, it, na, ncap, ia, icap, rfl, rfl, _, _, _, hst, _⟩ := hx.open
  obtain ⟨na', ncap', e, hnlen, hns⟩ := hst
  cases e
  have HN := Hold.mk hns
  clear hx hns
  go_enter Tryd.func117, Tryd.ntmps117
  go_wp2_with fail
  go_loopw [3] (fun i wr => ∃ j : Nat, i = .int .i64 j ∧ j ≤ nm.length ∧ NoneTo nm signF j ∧ Boxed w wr _) (fun i _ => nm.length - (intOf i).toNat)
  case atStart => exact ⟨0, rfl, Nat.zero_le _, fun q x h => by omega, Boxed.refl _ _⟩
  case round =>
    obtain ⟨j, rfl, hj, hno, hbx⟩ := hrel
    have HNO := Hold.mk hno
    have HB := Hold.mk hbx
    have y3 := hbx.c3
    clear hno hbx
    by_cases hlt : j < nm.length
    · obtain ⟨s, hs⟩ : ∃ s, nm[j]? = some s := ⟨nm[j], List.getElem?_eq_getElem hlt⟩
      obtain ⟨hss, sb, so, rfl, hsc⟩ := HN.out j s hs
      have z5 := cle_below HB.out.below _ _ _ hsc
      unfold cf at z5
      have HX := Hold.mk (fun w => rsign_any s w hss)
      have HS := Hold.mk hs
      clear hsc hs
      cases hsg : signF s with
      | true =>
        rw [hsg] at HX
        have HR : Hold (testsF (.mk k n t nm it) = true) := ⟨any_true (l := nm) HS.out hsg⟩
        clear hsg
        go_wp2_with fail
        refine (HX.out _).mono ?_
        rintro e w3 ⟨rfl, hw3⟩
        subst hw3
        clear HX z5 y3
        go_wp2_with fail
        go_ret
        exact ⟨by rw [HR.out]; rfl, HB.out.below⟩
      | false =>
        rw [hsg] at HX
        have HNX := Hold.mk (HNO.out.next HS.out hsg)
        clear hsg
        go_wp2_with fail
        refine (HX.out _).mono ?_
        rintro e w3 ⟨rfl, hw3⟩
        subst hw3
        clear HX z5 y3
        go_wp2_with fail
        exact ⟨⟨j + 1, by go_num, hlt, HNX.out, HB.out⟩, by simp [intOf]; omega⟩
    · have HR : Hold (testsF (.mk k n t nm it) = false) := ⟨HNO.out.any (by omega)⟩
      go_wp2_with fail
      go_ret
      exact ⟨by rw [HR.out]; rfl, HB.out.below⟩

/-- the number that the reference's count hands back -/
def numO (o : Option Nat) : Int := (o.getD 0 : Nat)
/-- the number that the reference's clause hands back -/
def rclF (cnt : JV → Option Nat) (s : ByteArray) (v : JV) : Int :=
  if isN s sAnd || isN s sOr then numO (sumO 1 (v.items.map cnt)) else if isN s sNot then numO (cnt v) + 1 else numO (clauseF cnt s v)
theorem rcl_some {cnt : JV → Option Nat} {s : ByteArray} {v : JV} {n : Nat} (h : clauseF cnt s v = some n) : rclF cnt s v = n := by
  unfold rclF
  split
  · rename_i hs
    rw [Bool.or_eq_true] at hs
    by_cases hk : v.kind = 5 ∧ v.items.length ≠ 0
    · rw [cl_list hs hk.1 hk.2] at h; rw [h]; rfl
    · rw [cl_nolist hs hk] at h; cases h
  · rename_i hs
    simp only [Bool.or_eq_true, not_or, Bool.not_eq_true] at hs
    split
    · rename_i h3
      rw [cl_not hs.1 hs.2 h3] at h
      obtain ⟨m, hm, rfl⟩ := Option.map_eq_some_iff.1 h
      rw [hm]; rfl
    · rw [h]; rfl

/-- what count of the reference is known to answer, going down d -/
def RCountAt (d : Nat) : Prop := ∀ (f : JV) (x : Value) (w : World), formedF d f = true → JAt (cf w) f x →
  Calls Tryd.prog 72 #[x] w fun e w' => e = .returned (.tuple #[.int .i64 (numO (countF d f)), .bool (countF d f).isSome]) ∧ Below w.heap.size w w'
def RClauseAt (d : Nat) : Prop := ∀ (s : ByteArray) (v : JV) (x : Value) (w : World), s.size ≤ 1000000 → formedF d v = true → JAt (cf w) v x →
  Calls Tryd.prog 105 #[.string s, x] w fun e w' => e = .returned (.tuple #[.int .i64 (rclF (countF d) s v), .bool (clauseF (countF d) s v).isSome]) ∧ Below w.heap.size w w'

set_option maxRecDepth 100000 in
set_option maxHeartbeats 8000000 in
theorem rcount_step (d : Nat) (hd : d < 6) (H : RClauseAt d) : RCountAt (d + 1) := by
  intro f x w hf hx
  have HL := Hold.mk (formed_lens hf)
  have HFK := Hold.mk (fun y (hy : y ∈ f.items) => formed_kids hf hy)
  have HNM := Hold.mk (fun (h6 : f.kind ≠ 6) => formed_names hf h6)
  have HNS : Hold (∀ s ∈ f.names, s.size ≤ 1000000) := ⟨fun s hs => by
    obtain ⟨k, n, t, nm, it⟩ := f
    by_cases h5 : k < 5
    · rw [formedF, if_pos h5, Bool.and_eq_true] at hf
      rw [List.length_eq_zero_iff.1 (of_decide_eq_true hf.2).2] at hs; cases hs
    · exact Nat.le_trans (text_size ((formed_body hf h5).2.2.1 s hs)) (by decide)⟩
  have HBD := Hold.mk (fun (s : ByteArray) (y : JV) (m : Nat) (hy : formedF d y = true) (h : clauseF (countF d) s y = some m) => clause_le (fun z m hz hm => count_le d z m hz hm) hy h)
  have HCB := Hold.mk (cntB_le d (by omega))
  obtain ⟨k, n, t, nm, it, na, ncap, ia, icap, rfl, rfl, _, _, _, hst, hit⟩ := hx.open
  have HH := Hold.mk H
  clear hx H hf
  obtain ⟨na', ncap', e, hnlen, hns⟩ := hst
  cases e
  obtain ⟨ia', icap', e, hilen, his⟩ := hit
  cases e
  have HN := Hold.mk hns
  have HI := Hold.mk his
  have HLE : Hold (nm.length ≤ it.length) := ⟨HL.out.2⟩
  have HC0 : Hold (k = 6 → countF (d + 1) (.mk k n t nm it) = sumO 0 ((nm.zip it).map fun p => clauseF (countF d) p.1 p.2)) := ⟨fun h6 => by rw [countF, if_pos (show (JV.mk k n t nm it).kind = 6 from h6)]; rfl⟩
  have HC1 : Hold (k ≠ 6 → countF (d + 1) (.mk k n t nm it) = none ∧ nm = []) := ⟨fun h6 => ⟨by rw [countF, if_neg (show ¬ (JV.mk k n t nm it).kind = 6 from h6)], HNM.out h6⟩⟩
  clear hns his HNM
  go_enter Tryd.func72, Tryd.ntmps72
  go_wp2_with fail
  go_loopw [4, 5] (fun a i wr => ∃ j m : Nat, i = .int .i64 j ∧ a = .int .i64 m ∧ j ≤ nm.length ∧ m ≤ j * (2 + 24 * cntB d) ∧ (sumO 0 ((nm.zip it).map fun p => clauseF (countF d) p.1 p.2) = sumO m (((nm.zip it).drop j).map fun p => clauseF (countF d) p.1 p.2)) ∧ Boxed w wr _) (fun _ i _ => nm.length - (intOf i).toNat)
  case atStart => exact ⟨0, 0, rfl, rfl, Nat.zero_le _, by simp, rfl, Boxed.refl _ _⟩
  case round =>
    obtain ⟨j, m, rfl, rfl, hj, hm, hst, hbx⟩ := hrel
    have HM := Hold.mk hm
    have HST := Hold.mk hst
    have HB := Hold.mk hbx
    clear hm hst hbx
    by_cases hlt : j < nm.length
    · have h6 : k = 6 := Classical.byContradiction fun h => by have := (HC1.out h).2; rw [this] at hlt; simp at hlt
      replace HC0 := Hold.mk (HC0.out h6)
      clear HC1 h6
      have hlt2 : j < it.length := by have := HLE.out; omega
      obtain ⟨s, hs⟩ : ∃ s, nm[j]? = some s := ⟨nm[j], List.getElem?_eq_getElem hlt⟩
      obtain ⟨x, hx⟩ : ∃ x, it[j]? = some x := ⟨it[j], List.getElem?_eq_getElem hlt2⟩
      obtain ⟨_, sb, so, rfl, hsc⟩ := HN.out j s hs
      obtain ⟨b, off, k2, n2, t2, nm2, it2, na2, ncap2, ia2, icap2, rfl, hxe, x0, x1, x2, x3, x4, hxj⟩ := HI.out j x hx
      have hcl := cle_below HB.out.below
      have y3 := HB.out.c3
      have g0 := Grow.cell (hcl _ _ _ x0)
      have g1 := Grow.cell (hcl _ _ _ x1)
      have g2 := Grow.cell (hcl _ _ _ x2)
      have g3 := Grow.cell (hcl _ _ _ x3)
      have g4 := Grow.cell (hcl _ _ _ x4)
      have g5 := Grow.cell (hcl _ _ _ hsc)
      have g6 := Grow.cell HB.out.c3
      have g7 := Grow.cell HB.out.c4
      have hfx := HFK.out x (List.mem_of_getElem? hx)
      have HX := Hold.mk (Calls.grow (fun e : Grow wr => HH.out s x _ e.val (HNS.out s (List.mem_of_getElem? hs)) hfx ((hxj.mono hcl).mono (cle_below e.property))))
      have HD := Hold.mk (HST.out.trans (congrArg (sumO m) (sum_drop (f := fun p : ByteArray × JV => clauseF (countF d) p.1 p.2) (zip_at hs hx))))
      have HCL := Hold.mk (fun q h => HBD.out s x q hfx h)
      clear x0 x1 x2 x3 x4 hcl hx hxe hxj hsc hs hfx
      cases hc : clauseF (countF d) s x with
      | none =>
        rw [hc] at HX
        have HR : Hold (countF (d + 1) (.mk k n t nm it) = none) := ⟨by rw [HC0.out, HD.out]; show sumO m (clauseF (countF d) s x :: _) = none; rw [hc, sumO]⟩
        clear hc
        obtain ⟨r, hr⟩ : ∃ r, rclF (countF d) s x = r := ⟨_, rfl⟩
        rw [hr, Option.isSome_none] at HX
        clear hr
        go_wp2_with fail
        clear y3
        refine wp_region_grow (by kernel_rfl) (by kernel_rfl) ?_
        repeat (go_big_quiet_step (exact HX.out _))
        refine wpQuiet_nil ?_
        rintro ⟨w3, hb3⟩
        replace HB := Hold.mk (HB.out.next hb3)
        simp only
        clear hb3 HX g0 g1 g2 g3 g4 g5 g6 g7
        go_wp2_with fail
        go_ret2
        exact ⟨by rw [HR.out]; rfl, HB.out.below⟩
      | some q =>
        rw [hc, rcl_some hc, Option.isSome_some] at HX
        have hq := HCL.out q hc
        have HR : Hold (sumO 0 ((nm.zip it).map fun p => clauseF (countF d) p.1 p.2) = sumO (m + q) (((nm.zip it).drop (j + 1)).map fun p => clauseF (countF d) p.1 p.2)) := ⟨by rw [HD.out]; show sumO m (clauseF (countF d) s x :: _) = _; rw [hc, sumO]⟩
        have hm2 : m + q ≤ (j + 1) * (2 + 24 * cntB d) := by rw [Nat.add_mul, Nat.one_mul]; have := HM.out; omega
        have hbig : (j + 1) * (2 + 24 * cntB d) ≤ 24 * (2 + 24 * 10000000000000000) := Nat.mul_le_mul (by have := HL.out.1; have h2 : it.length ≤ 24 := this; omega) (by have := HCB.out; omega)
        have hmq : m + q ≤ 9000000000000000000 := Nat.le_trans (Nat.le_trans hm2 hbig) (by decide)
        have HM2 := Hold.mk hm2
        clear hc hq hm2 hbig
        go_wp2_with fail
        clear y3
        refine wp_region_grow (by kernel_rfl) (by kernel_rfl) ?_
        repeat (go_big_quiet_step (exact HX.out _))
        refine wpQuiet_nil ?_
        rintro ⟨w3, hb3⟩
        replace HB := Hold.mk (HB.out.next hb3)
        simp only
        clear hb3 HX g0 g1 g2 g3 g4 g5 g6 g7
        go_wp2_with fail
        exact ⟨⟨j + 1, m + q, by go_num, by go_num, hlt, HM2.out, HR.out, HB.out⟩, by simp [intOf]; omega⟩
    · have HS : Hold (sumO 0 ((nm.zip it).map fun p => clauseF (countF d) p.1 p.2) = some m) := ⟨by rw [HST.out, List.drop_eq_nil_of_le (by rw [List.length_zip]; omega)]; rfl⟩
      have y3 := HB.out.c3
      have g0 := Grow.cell HB.out.c0
      by_cases h6 : k = 6
      · have HR := Hold.mk ((HC0.out h6).trans HS.out)
        have b6 : (k == 6) = true := by simpa using h6
        clear h6 HC0 HC1
        go_wp2_with fail
        clear y3
        refine wp_region_grow (by kernel_rfl) (by kernel_rfl) ?_
        repeat (go_big_quiet_step (fail))
        refine wpQuiet_nil ?_
        rintro ⟨w3, hb3⟩
        replace HB := Hold.mk (HB.out.next hb3)
        simp only
        clear hb3 g0
        go_wp2_with fail
        go_ret2
        exact ⟨by rw [HR.out]; simp [numO], HB.out.below⟩
      · have HR := Hold.mk (HC1.out h6).1
        have HM0 : Hold (m = 0) := ⟨by have := HS.out; rw [(HC1.out h6).2] at this; simpa [sumO] using this.symm⟩
        have b6 : (k == 6) = false := by simpa using h6
        clear h6 HC0 HC1
        go_wp2_with fail
        clear y3
        refine wp_region_grow (by kernel_rfl) (by kernel_rfl) ?_
        repeat (go_big_quiet_step (fail))
        refine wpQuiet_nil ?_
        rintro ⟨w3, hb3⟩
        replace HB := Hold.mk (HB.out.next hb3)
        simp only
        clear hb3 g0
        go_wp2_with fail
        go_ret2
        exact ⟨by rw [HR.out, HM0.out]; simp [numO], HB.out.below⟩

end Go.Proofs.YtfllnlmanopfaaaDoor
