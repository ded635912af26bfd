/- Filters: sign, Tests, count and clause of the reference. Filters: clause and Check of the reference. -/
import Derived.Test.YtcmfanfkcbjeoaaGreatDoorFM
import Derived.Test.YtcmfanfkcbjeoaaGreatDoorJK
namespace Go.Proofs.YtcmfanfkcbjeoaaGreatDoor
open Go.RowKit

set_option maxHeartbeats 2000000 in
theorem rsign_any (s : ByteArray) (w : World) (hs : s.size ≤ 9223372036854775807) :
    Calls Tryz.prog 177 #[.string s] w fun e w' => e = .returned (.bool (signF s)) ∧ w' = w := by
  by_cases h0 : 0 < s.size
  · by_cases hz : s[0] = 36
    · have HR := Hold.mk (sign_yes h0 hz)
      have b1 : ((s[0].toNat : Int) == 36) = true := byte_is hz
      clear hz
      go_enter Tryz.func177, Tryz.ntmps177
      go_wp2_with fail
      go_ret
      exact ⟨by rw [HR.out]; rfl, rfl⟩
    · have HR := Hold.mk (sign_no h0 hz)
      have b1 : ((s[0].toNat : Int) == 36) = false := byte_ne hz
      clear hz
      go_enter Tryz.func177, Tryz.ntmps177
      go_wp2_with fail
      go_ret
      exact ⟨by rw [HR.out]; rfl, rfl⟩
  · have HR := Hold.mk (sign_empty (s := s) (by omega))
    go_enter Tryz.func177, Tryz.ntmps177
    go_wp2_with fail
    go_ret
    exact ⟨by rw [HR.out]; rfl, rfl⟩

/-- none before j is so -/
def NoneTo {α : Type} (l : List α) (p : α → Bool) (j : Nat) : Prop := ∀ (q : Nat) x, q < j → l[q]? = some x → p x = false
theorem NoneTo.next {α : Type} {l : List α} {p : α → Bool} {j : Nat} {x : α} (h : NoneTo l p j) (hx : l[j]? = some x) (hp : p x = false) : NoneTo l p (j + 1) := fun q y hq hy => by
  by_cases e : q = j
  · subst e; rw [hx] at hy; cases hy; exact hp
  · exact h q y (by omega) hy
theorem NoneTo.any {α : Type} {l : List α} {p : α → Bool} {j : Nat} (h : NoneTo l p j) (hj : l.length ≤ j) : l.any p = false := any_false (fun q x hq hx => h q x (by omega) hx)

set_option maxRecDepth 100000 in
set_option maxHeartbeats 4000000 in
theorem rTests_any (v : JV) (x : Value) (w : World) (hx : JAt (cf w) v x) :
    Calls Tryz.prog 143 #[x] w fun e w' => e = .returned (.bool (testsF v)) ∧ Below w.heap.size w w' := by
  obtain ⟨k, n, t, nm, it, na, ncap, ia, icap, rfl, rfl, _, _, _, hst, _⟩ := hx.open
  obtain ⟨na', ncap', e, hnlen, hns⟩ := hst
  cases e
  have HN := Hold.mk hns
  clear hx hns
  go_enter Tryz.func143, Tryz.ntmps143
  go_wp2_with fail
  go_loopw [3] (fun i wr => ∃ j : Nat, i = .int .i64 j ∧ j ≤ nm.length ∧ NoneTo nm signF j ∧ Boxed w wr _) (fun i _ => nm.length - (intOf i).toNat)
  case atStart => exact ⟨0, rfl, Nat.zero_le _, fun q x h => by omega, Boxed.refl _ _⟩
  case round =>
    obtain ⟨j, rfl, hj, hno, hbx⟩ := hrel
    have HNO := Hold.mk hno
    have HB := Hold.mk hbx
    have y3 := hbx.c3
    clear hno hbx
    by_cases hlt : j < nm.length
    · obtain ⟨s, hs⟩ : ∃ s, nm[j]? = some s := ⟨nm[j], List.getElem?_eq_getElem hlt⟩
      obtain ⟨hss, sb, so, rfl, hsc⟩ := HN.out j s hs
      have z5 := cle_below HB.out.below _ _ _ hsc
      unfold cf at z5
      have HX := Hold.mk (fun w => rsign_any s w hss)
      have HS := Hold.mk hs
      clear hsc hs
      cases hsg : signF s with
      | true =>
        rw [hsg] at HX
        have HR : Hold (testsF (.mk k n t nm it) = true) := ⟨any_true (l := nm) HS.out hsg⟩
        clear hsg
        go_wp2_with fail
        refine (HX.out _).mono ?_
        rintro e w3 ⟨rfl, hw3⟩
        subst hw3
        clear HX z5 y3
        go_wp2_with fail
        go_ret
        exact ⟨by rw [HR.out]; rfl, HB.out.below⟩
      | false =>
        rw [hsg] at HX
        have HNX := Hold.mk (HNO.out.next HS.out hsg)
        clear hsg
        go_wp2_with fail
        refine (HX.out _).mono ?_
        rintro e w3 ⟨rfl, hw3⟩
        subst hw3
        clear HX z5 y3
        go_wp2_with fail
        exact ⟨⟨j + 1, by go_num, hlt, HNX.out, HB.out⟩, by simp [intOf]; omega⟩
    · have HR : Hold (testsF (.mk k n t nm it) = false) := ⟨HNO.out.any (by omega)⟩
      go_wp2_with fail
      go_ret
      exact ⟨by rw [HR.out]; rfl, HB.out.below⟩

/-- the number that the reference's count hands back -/
def numO (o : Option Nat) : Int := (o.getD 0 : Nat)
/-- the number that the reference's clause hands back -/
def rclF (cnt : JV → Option Nat) (s : ByteArray) (v : JV) : Int :=
  if isN s sAnd || isN s sOr then numO (sumO 1 (v.items.map cnt)) else if isN s sNot then numO (cnt v) + 1 else numO (clauseF cnt s v)
theorem rcl_some {cnt : JV → Option Nat} {s : ByteArray} {v : JV} {n : Nat} (h : clauseF cnt s v = some n) : rclF cnt s v = n := by
  unfold rclF
  split
  · rename_i hs
    rw [Bool.or_eq_true] at hs
    by_cases hk : v.kind = 5 ∧ v.items.length ≠ 0
    · rw [cl_list hs hk.1 hk.2] at h; rw [h]; rfl
    · rw [cl_nolist hs hk] at h; cases h
  · rename_i hs
    simp only [Bool.or_eq_true, not_or, Bool.not_eq_true] at hs
    split
    · rename_i h3
      rw [cl_not hs.1 hs.2 h3] at h
      obtain ⟨m, hm, rfl⟩ := Option.map_eq_some_iff.1 h
      rw [hm]; rfl
    · rw [h]; rfl

/-- what count of the reference is known to answer, going down d -/
def RCountAt (d : Nat) : Prop := ∀ (f : JV) (x : Value) (w : World), formedF d f = true → JAt (cf w) f x →
  Calls Tryz.prog 101 #[x] w fun e w' => e = .returned (.tuple #[.int .i64 (numO (countF d f)), .bool (countF d f).isSome]) ∧ Below w.heap.size w w'
def RClauseAt (d : Nat) : Prop := ∀ (s : ByteArray) (v : JV) (x : Value) (w : World), s.size ≤ 1000000 → formedF d v = true → JAt (cf w) v x →
  Calls Tryz.prog 141 #[.string s, x] w fun e w' => e = .returned (.tuple #[.int .i64 (rclF (countF d) s v), .bool (clauseF (countF d) s v).isSome]) ∧ Below w.heap.size w w'

set_option maxRecDepth 100000 in
set_option maxHeartbeats 8000000 in
theorem rcount_step (d : Nat) (hd : d < 6) (H : RClauseAt d) : RCountAt (d + 1) := by
  intro f x w hf hx
  have HL := Hold.mk (formed_lens hf)
  have HFK := Hold.mk (fun y (hy : y ∈ f.items) => formed_kids hf hy)
  have HNM := Hold.mk (fun (h6 : f.kind ≠ 6) => formed_names hf h6)
  have HNS : Hold (∀ s ∈ f.names, s.size ≤ 1000000) := ⟨fun s hs => by
    obtain ⟨k, n, t, nm, it⟩ := f
    by_cases h5 : k < 5
    · rw [formedF, if_pos h5, Bool.and_eq_true] at hf
      rw [List.length_eq_zero_iff.1 (of_decide_eq_true hf.2).2] at hs; cases hs
    · exact Nat.le_trans (text_size ((formed_body hf h5).2.2.1 s hs)) (by decide)⟩
  have HBD := Hold.mk (fun (s : ByteArray) (y : JV) (m : Nat) (hy : formedF d y = true) (h : clauseF (countF d) s y = some m) => clause_le (fun z m hz hm => count_le d z m hz hm) hy h)
  have HCB := Hold.mk (cntB_le d (by omega))
  obtain ⟨k, n, t, nm, it, na, ncap, ia, icap, rfl, rfl, _, _, _, hst, hit⟩ := hx.open
  have HH := Hold.mk H
  clear hx H hf
  obtain ⟨na', ncap', e, hnlen, hns⟩ := hst
  cases e
  obtain ⟨ia', icap', e, hilen, his⟩ := hit
  cases e
  have HN := Hold.mk hns
  have HI := Hold.mk his
  have HLE : Hold (nm.length ≤ it.length) := ⟨HL.out.2⟩
  have HC0 : Hold (k = 6 → countF (d + 1) (.mk k n t nm it) = sumO 0 ((nm.zip it).map fun p => clauseF (countF d) p.1 p.2)) := ⟨fun h6 => by rw [countF, if_pos (show (JV.mk k n t nm it).kind = 6 from h6)]; rfl⟩
  have HC1 : Hold (k ≠ 6 → countF (d + 1) (.mk k n t nm it) = none ∧ nm = []) := ⟨fun h6 => ⟨by rw [countF, if_neg (show ¬ (JV.mk k n t nm it).kind = 6 from h6)], HNM.out h6⟩⟩
  clear hns his HNM
  go_enter Tryz.func101, Tryz.ntmps101
  go_wp2_with fail
  go_loopw [4, 5] (fun a i wr => ∃ j m : Nat, i = .int .i64 j ∧ a = .int .i64 m ∧ j ≤ nm.length ∧ m ≤ j * (2 + 24 * cntB d) ∧ (sumO 0 ((nm.zip it).map fun p => clauseF (countF d) p.1 p.2) = sumO m (((nm.zip it).drop j).map fun p => clauseF (countF d) p.1 p.2)) ∧ Boxed w wr _) (fun _ i _ => nm.length - (intOf i).toNat)
  case atStart => exact ⟨0, 0, rfl, rfl, Nat.zero_le _, by simp, rfl, Boxed.refl _ _⟩
  case round =>
    obtain ⟨j, m, rfl, rfl, hj, hm, hst, hbx⟩ := hrel
    have HM := Hold.mk hm
    have HST := Hold.mk hst
    have HB := Hold.mk hbx
    clear hm hst hbx
    by_cases hlt : j < nm.length
    · have h6 : k = 6 := Classical.byContradiction fun h => by have := (HC1.out h).2; rw [this] at hlt; simp at hlt
      replace HC0 := Hold.mk (HC0.out h6)
      clear HC1 h6
      have hlt2 : j < it.length := by have := HLE.out; omega
      obtain ⟨s, hs⟩ : ∃ s, nm[j]? = some s := ⟨nm[j], List.getElem?_eq_getElem hlt⟩
      obtain ⟨x, hx⟩ : ∃ x, it[j]? = some x := ⟨it[j], List.getElem?_eq_getElem hlt2⟩
      obtain ⟨_, sb, so, rfl, hsc⟩ := HN.out j s hs
      obtain ⟨b, off, k2, n2, t2, nm2, it2, na2, ncap2, ia2, icap2, rfl, hxe, x0, x1, x2, x3, x4, hxj⟩ := HI.out j x hx
      have hcl := cle_below HB.out.below
      have y3 := HB.out.c3
      have g0 := Grow.cell (hcl _ _ _ x0)
      have g1 := Grow.cell (hcl _ _ _ x1)
      have g2 := Grow.cell (hcl _ _ _ x2)
      have g3 := Grow.cell (hcl _ _ _ x3)
      have g4 := Grow.cell (hcl _ _ _ x4)
      have g5 := Grow.cell (hcl _ _ _ hsc)
      have g6 := Grow.cell HB.out.c3
      have g7 := Grow.cell HB.out.c4
      have hfx := HFK.out x (List.mem_of_getElem? hx)
      have HX := Hold.mk (Calls.grow (fun e : Grow wr => HH.out s x _ e.val (HNS.out s (List.mem_of_getElem? hs)) hfx ((hxj.mono hcl).mono (cle_below e.property))))
      have HD := Hold.mk (HST.out.trans (congrArg (sumO m) (sum_drop (f := fun p : ByteArray × JV => clauseF (countF d) p.1 p.2) (zip_at hs hx))))
      have HCL := Hold.mk (fun q h => HBD.out s x q hfx h)
      clear x0 x1 x2 x3 x4 hcl hx hxe hxj hsc hs hfx
      cases hc : clauseF (countF d) s x with
      | none =>
        rw [hc] at HX
        have HR : Hold (countF (d + 1) (.mk k n t nm it) = none) := ⟨by rw [HC0.out, HD.out]; show sumO m (clauseF (countF d) s x :: _) = none; rw [hc, sumO]⟩
        clear hc
        obtain ⟨r, hr⟩ : ∃ r, rclF (countF d) s x = r := ⟨_, rfl⟩
        rw [hr, Option.isSome_none] at HX
        clear hr
        go_wp2_with fail
        clear y3
        refine wp_region_grow (by kernel_rfl) (by kernel_rfl) ?_
        repeat (go_big_quiet_step (exact HX.out _))
        refine wpQuiet_nil ?_
        rintro ⟨w3, hb3⟩
        replace HB := Hold.mk (HB.out.next hb3)
        simp only
        clear hb3 HX g0 g1 g2 g3 g4 g5 g6 g7
        go_wp2_with fail
        go_ret2
        exact ⟨by rw [HR.out]; rfl, HB.out.below⟩
      | some q =>
        rw [hc, rcl_some hc, Option.isSome_some] at HX
        have hq := HCL.out q hc
        have HR : Hold (sumO 0 ((nm.zip it).map fun p => clauseF (countF d) p.1 p.2) = sumO (m + q) (((nm.zip it).drop (j + 1)).map fun p => clauseF (countF d) p.1 p.2)) := ⟨by rw [HD.out]; show sumO m (clauseF (countF d) s x :: _) = _; rw [hc, sumO]⟩
        have hm2 : m + q ≤ (j + 1) * (2 + 24 * cntB d) := by rw [Nat.add_mul, Nat.one_mul]; have := HM.out; omega
        have hbig : (j + 1) * (2 + 24 * cntB d) ≤ 24 * (2 + 24 * 10000000000000000) := Nat.mul_le_mul (by have := HL.out.1; have h2 : it.length ≤ 24 := this; omega) (by have := HCB.out; omega)
        have hmq : m + q ≤ 9000000000000000000 := Nat.le_trans (Nat.le_trans hm2 hbig) (by decide)
        have HM2 := Hold.mk hm2
        clear hc hq hm2 hbig
        go_wp2_with fail
        clear y3
        refine wp_region_grow (by kernel_rfl) (by kernel_rfl) ?_
        repeat (go_big_quiet_step (exact HX.out _))
        refine wpQuiet_nil ?_
        rintro ⟨w3, hb3⟩
        replace HB := Hold.mk (HB.out.next hb3)
        simp only
        clear hb3 HX g0 g1 g2 g3 g4 g5 g6 g7
        go_wp2_with fail
        exact ⟨⟨j + 1, m + q, by go_num, by go_num, hlt, HM2.out, HR.out, HB.out⟩, by simp [intOf]; omega⟩
    · have HS : Hold (sumO 0 ((nm.zip it).map fun p => clauseF (countF d) p.1 p.2) = some m) := ⟨by rw [HST.out, List.drop_eq_nil_of_le (by rw [List.length_zip]; omega)]; rfl⟩
      have y3 := HB.out.c3
      have g0 := Grow.cell HB.out.c0
      by_cases h6 : k = 6
      · have HR := Hold.mk ((HC0.out h6).trans HS.out)
        have b6 : (k == 6) = true := by simpa using h6
        clear h6 HC0 HC1
        go_wp2_with fail
        clear y3
        refine wp_region_grow (by kernel_rfl) (by kernel_rfl) ?_
        repeat (go_big_quiet_step (fail))
        refine wpQuiet_nil ?_
        rintro ⟨w3, hb3⟩
        replace HB := Hold.mk (HB.out.next hb3)
        simp only
        clear hb3 g0
        go_wp2_with fail
        go_ret2
        exact ⟨by rw [HR.out]; simp [numO], HB.out.below⟩
      · have HR := Hold.mk (HC1.out h6).1
        have HM0 : Hold (m = 0) := ⟨by have := HS.out; rw [(HC1.out h6).2] at this; simpa [sumO] using this.symm⟩
        have b6 : (k == 6) = false := by simpa using h6
        clear h6 HC0 HC1
        go_wp2_with fail
        clear y3
        refine wp_region_grow (by kernel_rfl) (by kernel_rfl) ?_
        repeat (go_big_quiet_step (fail))
        refine wpQuiet_nil ?_
        rintro ⟨w3, hb3⟩
        replace HB := Hold.mk (HB.out.next hb3)
        simp only
        clear hb3 g0
        go_wp2_with fail
        go_ret2
        exact ⟨by rw [HR.out, HM0.out]; simp [numO], HB.out.below⟩

end Go.Proofs.YtcmfanfkcbjeoaaGreatDoor

namespace Go.Proofs.YtcmfanfkcbjeoaaGreatDoor
open Go.RowKit

theorem rcl_list {cnt : JV → Option Nat} {s : ByteArray} {v : JV} (h : isN s sAnd = true ∨ isN s sOr = true) : rclF cnt s v = numO (sumO 1 (v.items.map cnt)) := by
  unfold rclF; rw [if_pos (by simpa using h)]
theorem rcl_not {cnt : JV → Option Nat} {s : ByteArray} {v : JV} (h1 : isN s sAnd = false) (h2 : isN s sOr = false) (h3 : isN s sNot = true) : rclF cnt s v = numO (cnt v) + 1 := by
  unfold rclF; rw [if_neg (by simp [h1, h2]), if_pos h3]
theorem rcl_path {cnt : JV → Option Nat} {s : ByteArray} {v : JV} (h1 : isN s sAnd = false) (h2 : isN s sOr = false) (h3 : isN s sNot = false) : rclF cnt s v = numO (clauseF cnt s v) := by
  unfold rclF; rw [if_neg (by simp [h1, h2]), if_neg (by simp [h3])]
theorem sum_none {l : List JV} {cnt : JV → Option Nat} {s : ByteArray} {v : JV} (h : isN s sAnd = true ∨ isN s sOr = true) (hv : v.items = l) (hn : sumO 1 (l.map cnt) = none) : clauseF cnt s v = none := by
  by_cases hk : v.kind = 5 ∧ v.items.length ≠ 0
  · rw [cl_list h hk.1 hk.2, hv, hn]
  · rw [cl_nolist h hk]

set_option maxRecDepth 100000 in
set_option maxHeartbeats 8000000 in
theorem rclause_list (d : Nat) (hd : d ≤ 6) (H : RCountAt d) (s : ByteArray) (hs : s.toList = sAnd ∨ s.toList = sOr) (k n : Int) (t : ByteArray) (nm : List ByteArray) (it : List JV) (nv : Value) (ia : Option Addr) (icap : Nat) (w : World)
    (hf : formedF d (.mk k n t nm it) = true) (hit : ItemsAt (cf w) (.slice ia it.length icap) it) :
    Calls Tryz.prog 141 #[.string s, .agg #[.int .i64 k, .int .i64 n, .string t, nv, .slice ia it.length icap]] w fun e w' => e = .returned (.tuple #[.int .i64 (rclF (countF d) s (.mk k n t nm it)), .bool (clauseF (countF d) s (.mk k n t nm it)).isSome]) ∧ Below w.heap.size w w' := by
  have hnm : isN s sAnd = true ∨ isN s sOr = true := by
    rcases hs with h | h
    · exact .inl (isN_yes h)
    · exact .inr (isN_yes h)
  have hb12 : (s.toList = [36, 97, 110, 100]) ∨ ((s.toList == [36, 97, 110, 100]) = false ∧ s.toList = [36, 111, 114]) := by
    rcases hs with h | h
    · exact .inl h
    · exact .inr ⟨by rw [h]; rfl, h⟩
  have HFK : Hold (∀ y ∈ it, formedF d y = true) := ⟨fun y hy => by
    cases d with
    | zero => simp [formedF] at hf
    | succ d => exact formed_mono d y (item_formed hf hy)⟩
  have HL := Hold.mk (formed_lens hf).1
  have HCB := Hold.mk (cntB_le d hd)
  have HH := Hold.mk H
  have HBD := Hold.mk (fun (y : JV) (m : Nat) (hy : formedF d y = true) (h : countF d y = some m) => count_le d y m hy h)
  have HNO : Hold (sumO 1 (it.map (countF d)) = none → clauseF (countF d) s (.mk k n t nm it) = none) := ⟨fun h => sum_none hnm rfl h⟩
  have HYES := Hold.mk (fun (hk : k = 5) (h0 : it.length ≠ 0) => cl_list (cnt := countF d) (v := .mk k n t nm it) hnm hk h0)
  have HOUT := Hold.mk (fun (hk : ¬ (k = 5 ∧ it.length ≠ 0)) => cl_nolist (cnt := countF d) (v := .mk k n t nm it) hnm hk)
  have HRC : Hold (rclF (countF d) s (.mk k n t nm it) = numO (sumO 1 (it.map (countF d)))) := ⟨rcl_list hnm⟩
  obtain ⟨ia', icap', e, hilen, his⟩ := hit
  cases e
  have HI := Hold.mk his
  clear H hf his hs hnm
  rcases hb12 with h | ⟨h1, h2⟩
  all_goals
    go_enter Tryz.func141, Tryz.ntmps141
    go_wp2_with fail
    go_loopw [6, 7] (fun a i wr => ∃ j m : Nat, i = .int .i64 j ∧ a = .int .i64 m ∧ j ≤ it.length ∧ m ≤ 1 + j * cntB d ∧ sumO 1 (it.map (countF d)) = sumO m ((it.drop j).map (countF d)) ∧ Boxed w wr _) (fun _ i _ => it.length - (intOf i).toNat)
    case atStart => exact ⟨0, 1, rfl, rfl, Nat.zero_le _, by simp, rfl, Boxed.refl _ _⟩
    case round =>
      obtain ⟨j, m, rfl, rfl, hj, hm, hst, hbl⟩ := hrel
      have HM := Hold.mk hm
      have HST := Hold.mk hst
      have HB := Hold.mk hbl
      clear hm hst hbl
      by_cases hlt : j < it.length
      · obtain ⟨x, hx⟩ : ∃ x, it[j]? = some x := ⟨it[j], List.getElem?_eq_getElem hlt⟩
        obtain ⟨b, off, k2, n2, t2, nm2, it2, na2, ncap2, ia2, icap2, rfl, hxe, x0, x1, x2, x3, x4, hxj⟩ := HI.out j x hx
        have hcl := cle_below HB.out.below
        have z0 := hcl _ _ _ x0
        have z1 := hcl _ _ _ x1
        have z2 := hcl _ _ _ x2
        have z3 := hcl _ _ _ x3
        have z4 := hcl _ _ _ x4
        unfold cf at z0 z1 z2 z3 z4
        have y4 := HB.out.c4
        have hfx := HFK.out x (List.mem_of_getElem? hx)
        have HX := Hold.mk (HH.out x _ wr hfx (hxj.mono hcl))
        have HD := Hold.mk (HST.out.trans (congrArg (sumO m) (sum_drop (f := countF d) hx)))
        have HCL := Hold.mk (fun q h => HBD.out x q hfx h)
        clear x0 x1 x2 x3 x4 hcl hx hxe hxj hfx
        cases hc : countF d x with
        | none =>
          rw [hc] at HX
          have HS : Hold (sumO 1 (it.map (countF d)) = none) := ⟨by rw [HD.out, hc, sumO]⟩
          have HR := Hold.mk (HNO.out HS.out)
          have HR2 : Hold (rclF (countF d) s (.mk k n t nm it) = 0) := ⟨by rw [HRC.out, HS.out]; rfl⟩
          clear hc
          change Hold (Calls _ _ _ _ fun e w' => e = .returned (.tuple #[.int .i64 0, .bool false]) ∧ _) at HX
          go_wp2_with fail
          refine HX.out.mono ?_
          rintro e w3 ⟨rfl, hb3⟩
          replace HB := Hold.mk (HB.out.next hb3)
          clear hb3 HX z0 z1 z2 z3 z4 y4
          go_wp2_with fail
          go_ret2
          exact ⟨by rw [HR.out, HR2.out]; rfl, HB.out.below⟩
        | some q =>
          rw [hc] at HX
          have hq := HCL.out q hc
          have HR : Hold (sumO 1 (it.map (countF d)) = sumO (m + q) ((it.drop (j + 1)).map (countF d))) := ⟨by rw [HD.out, hc, sumO]⟩
          have hm2 : m + q ≤ 1 + (j + 1) * cntB d := by rw [Nat.add_mul, Nat.one_mul]; have := HM.out; omega
          have hbig : (j + 1) * cntB d ≤ 24 * 10000000000000000 := Nat.mul_le_mul (by have h2 : it.length ≤ 24 := HL.out; omega) HCB.out
          have hmq : m + q ≤ 9000000000000000000 := Nat.le_trans (Nat.le_trans hm2 (Nat.add_le_add_left hbig 1)) (by decide)
          have HM2 := Hold.mk hm2
          clear hc hq hm2 hbig
          change Hold (Calls _ _ _ _ fun e w' => e = .returned (.tuple #[.int .i64 (q : Int), .bool true]) ∧ _) at HX
          go_wp2_with fail
          refine HX.out.mono ?_
          rintro e w3 ⟨rfl, hb3⟩
          replace HB := Hold.mk (HB.out.next hb3)
          clear hb3 HX z0 z1 z2 z3 z4 y4
          go_wp2_with fail
          exact ⟨⟨j + 1, m + q, by go_num, by go_num, hlt, HM2.out, HR.out, HB.out⟩, by simp [intOf]; omega⟩
      · have HS : Hold (sumO 1 (it.map (countF d)) = some m) := ⟨by rw [HST.out, List.drop_eq_nil_of_le (by omega)]; rfl⟩
        have HR2 : Hold (rclF (countF d) s (.mk k n t nm it) = m) := ⟨by rw [HRC.out, HS.out]; rfl⟩
        have y4 := HB.out.c4
        have g0 := Grow.cell HB.out.c0
        have g4 := Grow.cell HB.out.c4
        by_cases h5 : k = 5
        · by_cases h0 : it.length = 0
          · have HR := Hold.mk (HOUT.out (fun h => h.2 h0))
            have b5 : (k == 5) = true := by simpa using h5
            have b0 : ¬ 0 < it.length := by omega
            clear h5 h0 HYES HOUT
            go_wp2_with fail
            clear y4
            refine wp_region_grow (by kernel_rfl) (by kernel_rfl) ?_
            repeat (go_big_quiet_step (fail))
            refine wpQuiet_nil ?_
            rintro ⟨w3, hb3⟩
            replace HB := Hold.mk (HB.out.next hb3)
            simp only
            clear hb3 g0 g4
            go_wp2_with fail
            go_ret2
            exact ⟨by rw [HR.out, HR2.out]; rfl, HB.out.below⟩
          · have HR := Hold.mk ((HYES.out h5 h0).trans HS.out)
            have b5 : (k == 5) = true := by simpa using h5
            have b0 : 0 < it.length := by omega
            clear h5 h0 HYES HOUT
            go_wp2_with fail
            clear y4
            refine wp_region_grow (by kernel_rfl) (by kernel_rfl) ?_
            repeat (go_big_quiet_step (fail))
            refine wpQuiet_nil ?_
            rintro ⟨w3, hb3⟩
            replace HB := Hold.mk (HB.out.next hb3)
            simp only
            clear hb3 g0 g4
            go_wp2_with fail
            go_ret2
            exact ⟨by rw [HR.out, HR2.out]; rfl, HB.out.below⟩
        · have HR := Hold.mk (HOUT.out (fun h => h5 h.1))
          have b5 : (k == 5) = false := by simpa using h5
          clear h5 HYES HOUT
          go_wp2_with fail
          clear y4
          refine wp_region_grow (by kernel_rfl) (by kernel_rfl) ?_
          repeat (go_big_quiet_step (fail))
          refine wpQuiet_nil ?_
          rintro ⟨w3, hb3⟩
          replace HB := Hold.mk (HB.out.next hb3)
          simp only
          clear hb3 g0 g4
          go_wp2_with fail
          go_ret2
          exact ⟨by rw [HR.out, HR2.out]; rfl, HB.out.below⟩

set_option maxRecDepth 100000 in
set_option maxHeartbeats 8000000 in
theorem rclause_not (d : Nat) (hd : d ≤ 6) (H : RCountAt d) (s : ByteArray) (hs : s.toList = sNot) (v : JV) (x : Value) (w : World) (hf : formedF d v = true) (hx : JAt (cf w) v x) :
    Calls Tryz.prog 141 #[.string s, x] w fun e w' => e = .returned (.tuple #[.int .i64 (rclF (countF d) s v), .bool (clauseF (countF d) s v).isSome]) ∧ Below w.heap.size w w' := by
  have HC0 := Hold.mk (cl_not (cnt := countF d) (v := v) (isN_ne hs (by decide)) (isN_ne hs (by decide)) (isN_yes hs))
  have HC1 := Hold.mk (rcl_not (cnt := countF d) (v := v) (isN_ne hs (by decide)) (isN_ne hs (by decide)) (isN_yes hs))
  have hq : (countF d v).getD 0 ≤ 10000000000000000 := by
    cases hc : countF d v with
    | none => simp
    | some q => exact Nat.le_trans (count_le d v q hf hc) (cntB_le d hd)
  obtain ⟨k, n, t, nm, it, na, ncap, ia, icap, hve, rfl, _⟩ := hx.open
  have HB := Hold.mk (Boxed.refl w (.cells #[.int .i64 k, .int .i64 n, .string t, .slice na nm.length ncap, .slice ia it.length icap] 25))
  have HX := Hold.mk (H v _ _ hf (hx.mono (cle_below HB.out.below)))
  have b1 : (s.toList == [36, 97, 110, 100]) = false := by rw [hs]; rfl
  have b2 : (s.toList == [36, 111, 114]) = false := by rw [hs]; rfl
  have b0 : s.toList = [36, 110, 111, 116] := hs
  have HR : Hold ((clauseF (countF d) s v).isSome = (countF d v).isSome) := ⟨by rw [HC0.out]; cases countF d v <;> rfl⟩
  clear H hx hf hve hs HC0
  unfold numO at HX HC1
  generalize (countF d v).getD 0 = q at *
  generalize (countF d v).isSome = p at *
  go_enter Tryz.func141, Tryz.ntmps141
  go_wp2_with fail
  refine HX.out.mono ?_
  rintro e w3 ⟨rfl, hb3⟩
  replace HB := Hold.mk (HB.out.next hb3)
  clear hb3 HX
  go_wp2_with fail
  go_ret2
  exact ⟨by rw [HR.out, HC1.out]; rfl, HB.out.below⟩

set_option maxRecDepth 100000 in
set_option maxHeartbeats 8000000 in
theorem rclause_path (d : Nat) (s : ByteArray) (hsz : s.size ≤ 1000000) (h1 : ¬ s.toList = sAnd) (h2 : ¬ s.toList = sOr) (h3 : ¬ s.toList = sNot) (v : JV) (x : Value) (w : World) (hf : formedF d v = true) (hx : JAt (cf w) v x) :
    Calls Tryz.prog 141 #[.string s, x] w fun e w' => e = .returned (.tuple #[.int .i64 (rclF (countF d) s v), .bool (clauseF (countF d) s v).isSome]) ∧ Below w.heap.size w w' := by
  have i1 := isN_no h1
  have i2 := isN_no h2
  have i3 := isN_no h3
  have b1 : (s.toList == [36, 97, 110, 100]) = false := i1
  have b2 : (s.toList == [36, 111, 114]) = false := i2
  have b3 : (s.toList == [36, 110, 111, 116]) = false := i3
  have HI1 := Hold.mk i1
  have HI2 := Hold.mk i2
  have HI3 := Hold.mk i3
  obtain ⟨k, n, t, nm, it, na, ncap, ia, icap, rfl, rfl, _, _, _, hst, hit⟩ := hx.open
  have HJ := Hold.mk hx
  have HLEN := Hold.mk (formed_lens hf).2
  have HB := Hold.mk (Boxed.refl w (.cells #[.int .i64 k, .int .i64 n, .string t, .slice na nm.length ncap, .slice ia it.length icap] 25))
  have HP := Hold.mk (fun w => rsign_any s w (by omega))
  have HRC : Hold (rclF (countF d) s (.mk k n t nm it) = numO (clauseF (countF d) s (.mk k n t nm it))) := ⟨rcl_path i1 i2 i3⟩
  obtain ⟨na', ncap', e, hnlen, hns⟩ := hst
  cases e
  obtain ⟨ia', icap', e, hilen, his⟩ := hit
  cases e
  have HN := Hold.mk hns
  have HI := Hold.mk his
  clear hx hf i1 i2 i3 h1 h2 h3 hns his
  go_enter Tryz.func141, Tryz.ntmps141
  go_wp2_with fail
  refine (rSteps_any s _ hsz).mono ?_
  rintro e w2 ⟨hsp, hb2⟩
  replace HB := Hold.mk (HB.out.next hb2)
  clear hb2
  have hsp2 : ∃ sv er, e = .returned (.tuple #[sv, .int .i64 er]) ∧ (er = 0 ↔ (stepsF s).isSome = true) := by
    cases hl : stepsF s with
    | none => rw [hl] at hsp; exact ⟨_, 2, hsp, by simp⟩
    | some l => rw [hl] at hsp; obtain ⟨sv, rfl, _⟩ := hsp; exact ⟨sv, 0, rfl, by simp⟩
  clear hsp
  obtain ⟨sv, er, rfl, her⟩ := hsp2
  have HER := Hold.mk her
  clear her
  go_wp2_with fail
  refine (HP.out _).mono ?_
  rintro e w1 ⟨rfl, hw1⟩
  subst hw1
  cases hsg : signF s with
  | true =>
    have HR := Hold.mk (cl_sign (cnt := countF d) (v := .mk k n t nm it) HI1.out HI2.out HI3.out hsg)
    clear hsg HP
    go_wp2_with fail
    go_ret2
    exact ⟨by rw [HRC.out, HR.out]; rfl, HB.out.below⟩
  | false =>
    have HSG := Hold.mk hsg
    clear hsg HP
    cases hl : stepsF s with
    | none =>
      have HR := Hold.mk (cl_steps (cnt := countF d) (v := .mk k n t nm it) HI1.out HI2.out HI3.out HSG.out hl)
      have hne : (er != 0) = true := by
        have := HER.out; rw [hl] at this; simp at this; simpa using this
      clear hl HER
      go_wp2_with fail
      go_ret2
      exact ⟨by rw [HRC.out, HR.out]; rfl, HB.out.below⟩
    | some l =>
      obtain rfl : er = 0 := HER.out.2 (by rw [hl]; rfl)
      have HC0 := Hold.mk (cl_path (cnt := countF d) (v := .mk k n t nm it) HI1.out HI2.out HI3.out HSG.out hl)
      clear hl HER
      have HTS := Hold.mk (fun w hx => rTests_any (.mk k n t nm it) (.agg #[.int .i64 k, .int .i64 n, .string t, .slice na nm.length ncap, .slice ia it.length icap]) w hx)
      go_wp2_with fail
      go_loopw [14] (fun i wr => ∃ j : Nat, i = .int .i64 j ∧ j ≤ nm.length ∧ (testsF (.mk k n t nm it) = true → TestsTo nm it j) ∧ Boxed w wr _) (fun i _ => nm.length - (intOf i).toNat)
      case atStart => exact ⟨0, rfl, Nat.zero_le _, fun _ q p h => by omega, HB.out⟩
      case round =>
        obtain ⟨j, rfl, hj, htt, hbx⟩ := hrel
        clear HB
        have HTT := Hold.mk htt
        have HB := Hold.mk hbx
        clear htt hbx
        have y0 := HB.out.c0
        have y1 := HB.out.c1
        have y2 := HB.out.c2
        have y3 := HB.out.c3
        have y4 := HB.out.c4
        by_cases hlt : j < nm.length
        · have hlt2 : j < it.length := by have h2 : nm.length ≤ it.length := HLEN.out; omega
          obtain ⟨u, hu⟩ : ∃ s, nm[j]? = some s := ⟨nm[j], List.getElem?_eq_getElem hlt⟩
          obtain ⟨x, hx⟩ : ∃ x, it[j]? = some x := ⟨it[j], List.getElem?_eq_getElem hlt2⟩
          obtain ⟨_, sb, so, rfl, hsc⟩ := HN.out j u hu
          obtain ⟨b, off, k2, n2, t2, nm2, it2, na2, ncap2, ia2, icap2, rfl, hxe, x0, x1, x2, x3, x4, hxj⟩ := HI.out j x hx
          have HX0 := Hold.mk x0
          have HX1 := Hold.mk x1
          have HX2 := Hold.mk x2
          have HX3 := Hold.mk x3
          have HX4 := Hold.mk x4
          have HX5 := Hold.mk hsc
          have HXJ := Hold.mk hxj
          have HZ := Hold.mk (zip_at hu hx)
          clear x0 x1 x2 x3 x4 hxj hsc hx hxe hu
          go_wp2_with fail
          refine (HTS.out _ (HJ.out.mono (cle_below HB.out.below))).mono ?_
          rintro e w3 ⟨rfl, hb3⟩
          replace HB := Hold.mk (HB.out.next hb3)
          clear hb3 y0 y1 y2 y3 y4
          cases htst : testsF (.mk k n t nm it) with
          | false =>
            have HR : Hold (clauseF (countF d) s (.mk k n t nm it) = some 1) := ⟨by rw [HC0.out, htst]; rfl⟩
            clear htst
            go_wp2_with fail
            go_ret2
            exact ⟨by rw [HRC.out, HR.out]; rfl, HB.out.below⟩
          | true =>
            have HTE := Hold.mk htst
            clear htst
            have hcl := cle_below HB.out.below
            have g0 := Grow.cell (hcl _ _ _ HX0.out)
            have g1 := Grow.cell (hcl _ _ _ HX1.out)
            have g2 := Grow.cell (hcl _ _ _ HX2.out)
            have g3 := Grow.cell (hcl _ _ _ HX3.out)
            have g4 := Grow.cell (hcl _ _ _ HX4.out)
            have g5 := Grow.cell (hcl _ _ _ HX5.out)
            have g6 := Grow.cell HB.out.c3
            have g7 := Grow.cell HB.out.c4
            have HX := Hold.mk (Calls.grow (fun e : Grow w3 => rtest_any u x _ e.val ((HXJ.out.mono hcl).mono (cle_below e.property))))
            clear hcl
            go_wp2_with fail
            refine wp_region_grow (by kernel_rfl) (by kernel_rfl) ?_
            repeat (go_big_quiet_step (exact HX.out _))
            refine wpQuiet_nil ?_
            rintro ⟨w4, hb4⟩
            replace HB := Hold.mk (HB.out.next hb4)
            simp only
            clear hb4 HX g0 g1 g2 g3 g4 g5 g6 g7
            cases htx : testF u x with
            | false =>
              have HR : Hold (clauseF (countF d) s (.mk k n t nm it) = none) := ⟨by
                rw [HC0.out, HTE.out]
                have : ((JV.mk k n t nm it).names.zip (JV.mk k n t nm it).items).all (fun p => testF p.1 p.2) = false := all_false (l := nm.zip it) HZ.out htx
                rw [this]; rfl⟩
              clear htx
              go_wp2_with fail
              go_ret2
              exact ⟨by rw [HRC.out, HR.out]; rfl, HB.out.below⟩
            | true =>
              have HNX : Hold (testsF (.mk k n t nm it) = true → TestsTo nm it (j + 1)) := ⟨fun h => (HTT.out h).next HZ.out htx⟩
              clear htx
              go_wp2_with fail
              exact ⟨⟨j + 1, by go_num, hlt, HNX.out, HB.out⟩, by simp [intOf]; omega⟩
        · have HR : Hold (clauseF (countF d) s (.mk k n t nm it) = some 1) := ⟨by
            rw [HC0.out]
            cases htst : testsF (.mk k n t nm it) with
            | false => rfl
            | true =>
              have : ((JV.mk k n t nm it).names.zip (JV.mk k n t nm it).items).all (fun p => testF p.1 p.2) = true := all_true (l := nm.zip it) (fun q p hq hp => HTT.out htst q p (by rw [List.length_zip] at hq; omega) hp)
              rw [this]; rfl⟩
          go_wp2_with fail
          go_ret2
          exact ⟨by rw [HRC.out, HR.out]; rfl, HB.out.below⟩

theorem rclause_any (d : Nat) (hd : d ≤ 6) (H : RCountAt d) : RClauseAt d := by
  intro s v x w hs hf hx
  by_cases h1 : s.toList = sAnd ∨ s.toList = sOr
  · obtain ⟨k, n, t, nm, it, na, ncap, ia, icap, rfl, rfl, _, _, _, _, hit⟩ := hx.open
    exact rclause_list d hd H s h1 k n t nm it _ ia icap w hf hit
  by_cases h3 : s.toList = sNot
  · exact rclause_not d hd H s h3 v x w hf hx
  · exact rclause_path d s hs (fun h => h1 (.inl h)) (fun h => h1 (.inr h)) h3 v x w hf hx
theorem rcount_any : ∀ d, d ≤ 6 → RCountAt d
  | 0, _ => fun f x w hf => by simp [formedF] at hf
  | d + 1, hd => rcount_step d (by omega) (rclause_any d (by omega) (rcount_any d (by omega)))

set_option maxHeartbeats 4000000 in
theorem rCheck_any (f : JV) (x : Value) (w : World) (hx : JAt (cf w) f x) :
    Calls Tryz.prog 46 #[x] w fun e w' => e = .returned (.int .i64 (checkF f)) ∧ Below w.heap.size w w' := by
  obtain ⟨k, n, t, nm, it, na, ncap, ia, icap, hve, rfl, _⟩ := hx.open
  have HB := Hold.mk (Boxed.refl w (.cells #[.int .i64 k, .int .i64 n, .string t, .slice na nm.length ncap, .slice ia it.length icap] 25))
  have HX := Hold.mk (rFormed_any f _ _ (hx.mono (cle_below HB.out.below)))
  rw [← formed_law] at HX
  have HJ := Hold.mk hx
  clear hx hve
  cases hf : formedF 6 f with
  | false =>
    rw [hf] at HX
    have HR : Hold (checkF f = 2) := ⟨by unfold checkF; rw [if_neg (by simp [hf])]⟩
    clear hf
    go_enter Tryz.func46, Tryz.ntmps46
    go_wp2_with fail
    refine HX.out.mono ?_
    rintro e w1 ⟨rfl, hb1⟩
    replace HB := Hold.mk (HB.out.next hb1)
    clear hb1 HX
    go_wp2_with fail
    go_ret
    exact ⟨by rw [HR.out]; rfl, HB.out.below⟩
  | true =>
    rw [hf] at HX
    have HC0 : Hold (checkF f = (match countF 6 f with | none => 2 | some n => if 12 < n then 3 else 0)) := ⟨by unfold checkF; rw [if_pos hf]; cases countF 6 f <;> rfl⟩
    have HF := Hold.mk hf
    clear hf
    go_enter Tryz.func46, Tryz.ntmps46
    go_wp2_with fail
    refine HX.out.mono ?_
    rintro e w1 ⟨rfl, hb1⟩
    replace HB := Hold.mk (HB.out.next hb1)
    clear hb1 HX
    have y0 := HB.out.c0
    have y1 := HB.out.c1
    have y2 := HB.out.c2
    have y3 := HB.out.c3
    have y4 := HB.out.c4
    have HX := Hold.mk (rcount_any 6 (Nat.le_refl 6) f _ w1 HF.out (HJ.out.mono (cle_below HB.out.below)))
    cases hc : countF 6 f with
    | none =>
      rw [hc] at HX HC0
      have HR : Hold (checkF f = 2) := ⟨HC0.out⟩
      clear hc
      change Hold (Calls _ _ _ _ fun e w' => e = .returned (.tuple #[.int .i64 0, .bool false]) ∧ _) at HX
      go_wp2_with fail
      refine HX.out.mono ?_
      rintro e w2 ⟨rfl, hb2⟩
      replace HB := Hold.mk (HB.out.next hb2)
      clear hb2 HX y0 y1 y2 y3 y4
      go_wp2_with fail
      go_ret
      exact ⟨by rw [HR.out]; rfl, HB.out.below⟩
    | some q =>
      rw [hc] at HX HC0
      clear hc
      change Hold (Calls _ _ _ _ fun e w' => e = .returned (.tuple #[.int .i64 (q : Int), .bool true]) ∧ _) at HX
      go_wp2_with fail
      refine HX.out.mono ?_
      rintro e w2 ⟨rfl, hb2⟩
      replace HB := Hold.mk (HB.out.next hb2)
      clear hb2 HX y0 y1 y2 y3 y4
      by_cases h12 : 12 < q
      · have HR : Hold (checkF f = 3) := ⟨by rw [HC0.out]; simp [h12]⟩
        go_wp2_with fail
        go_ret
        exact ⟨by rw [HR.out]; rfl, HB.out.below⟩
      · have HR : Hold (checkF f = 0) := ⟨by rw [HC0.out]; simp; omega⟩
        go_wp2_with fail
        go_ret
        exact ⟨by rw [HR.out]; rfl, HB.out.below⟩

end Go.Proofs.YtcmfanfkcbjeoaaGreatDoor
