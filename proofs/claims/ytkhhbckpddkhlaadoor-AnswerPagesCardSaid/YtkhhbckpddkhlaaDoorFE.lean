/- cmp: Compare and Or, walked. compare of order, walked. -/
import Derived.Test.YtkhhbckpddkhlaaDoorFO
import Derived.Test.YtkhhbckpddkhlaaDoorSA
import Derived.StillTailTactics
import Derived.Deep.RegionWith
import Derived.Test.YtkhhbckpddkhlaaDoorJK
namespace Go.Proofs.YtkhhbckpddkhlaaDoor
open Go.RowKit

theorem isNaN_int (a : Int) (w : World) : Calls Tryd.prog 100 #[.int .i64 a] w fun e w' => e = .returned (.bool false) ∧ w' = w := by
  go_enter Tryd.func100, Tryd.ntmps100
  go_wp2_with fail
  go_ret
  exact ⟨by simp, rfl⟩

set_option maxHeartbeats 2000000 in
theorem compare_int (a b : Int) (w : World) : Calls Tryd.prog 95 #[.int .i64 a, .int .i64 b] w fun e w' => e = .returned (.int .i64 (cmpI a b)) ∧ w' = w := by
  have hc : (a < b ∧ cmpI a b = -1) ∨ (¬ a < b ∧ b < a ∧ cmpI a b = 1) ∨ (¬ a < b ∧ ¬ b < a ∧ cmpI a b = 0) := by
    unfold cmpI
    by_cases h1 : a < b
    · exact .inl ⟨h1, by rw [if_pos h1]⟩
    · by_cases h2 : b < a
      · exact .inr (.inl ⟨h1, h2, by rw [if_neg h1, if_pos h2]⟩)
      · exact .inr (.inr ⟨h1, h2, by rw [if_neg h1, if_neg h2]⟩)
  rcases hc with ⟨h1, h2⟩ | ⟨h0, h1, h2⟩ | ⟨h0, h1, h2⟩
  all_goals
    have HC := Hold.mk h2
    clear h2
    go_enter Tryd.func95, Tryd.ntmps95
    go_wp2_with fail
    refine (isNaN_int a w).mono ?_
    rintro e w1 ⟨rfl, hw1⟩
    subst hw1
    go_wp2_with fail
    refine (isNaN_int b _).mono ?_
    rintro e w2 ⟨rfl, hw2⟩
    subst hw2
    go_wp2_with fail
    go_ret
    exact ⟨by rw [HC.out]; rfl, rfl⟩

theorem isNaN_i64 (a : Int) (w : World) : Calls Tryd.prog 101 #[.int .i64 a] w fun e w' => e = .returned (.bool false) ∧ w' = w := by
  go_enter Tryd.func101, Tryd.ntmps101
  go_wp2_with fail
  go_ret
  exact ⟨by simp, rfl⟩

set_option maxHeartbeats 2000000 in
theorem compare_i64 (a b : Int) (w : World) : Calls Tryd.prog 96 #[.int .i64 a, .int .i64 b] w fun e w' => e = .returned (.int .i64 (cmpI a b)) ∧ w' = w := by
  have hc : (a < b ∧ cmpI a b = -1) ∨ (¬ a < b ∧ b < a ∧ cmpI a b = 1) ∨ (¬ a < b ∧ ¬ b < a ∧ cmpI a b = 0) := by
    unfold cmpI
    by_cases h1 : a < b
    · exact .inl ⟨h1, by rw [if_pos h1]⟩
    · by_cases h2 : b < a
      · exact .inr (.inl ⟨h1, h2, by rw [if_neg h1, if_pos h2]⟩)
      · exact .inr (.inr ⟨h1, h2, by rw [if_neg h1, if_neg h2]⟩)
  rcases hc with ⟨h1, h2⟩ | ⟨h0, h1, h2⟩ | ⟨h0, h1, h2⟩
  all_goals
    have HC := Hold.mk h2
    clear h2
    go_enter Tryd.func96, Tryd.ntmps96
    go_wp2_with fail
    refine (isNaN_i64 a w).mono ?_
    rintro e w1 ⟨rfl, hw1⟩
    subst hw1
    go_wp2_with fail
    refine (isNaN_i64 b _).mono ?_
    rintro e w2 ⟨rfl, hw2⟩
    subst hw2
    go_wp2_with fail
    go_ret
    exact ⟨by rw [HC.out]; rfl, rfl⟩

theorem isNaN_str (a : ByteArray) (w : World) : Calls Tryd.prog 56 #[.string a] w fun e w' => e = .returned (.bool false) ∧ w' = w := by
  go_enter Tryd.func56, Tryd.ntmps56
  go_wp2_with fail
  go_ret
  exact ⟨by simp, rfl⟩

set_option maxHeartbeats 2000000 in
theorem compare_str (a b : ByteArray) (w : World) : Calls Tryd.prog 34 #[.string a, .string b] w fun e w' => e = .returned (.int .i64 (cmpS a b)) ∧ w' = w := by
  have hc : (Op.bytesLess a.toList b.toList = true ∧ cmpS a b = -1) ∨ (Op.bytesLess a.toList b.toList = false ∧ (a.toList == b.toList) = false ∧ cmpS a b = 1) ∨ (Op.bytesLess a.toList b.toList = false ∧ (a.toList == b.toList) = true ∧ cmpS a b = 0) := by
    unfold cmpS strLt
    cases h1 : Op.bytesLess a.toList b.toList with
    | true => exact .inl ⟨rfl, by simp⟩
    | false =>
      by_cases h2 : a = b
      · exact .inr (.inr ⟨rfl, by rw [h2]; simp, by simp [h2]⟩)
      · exact .inr (.inl ⟨rfl, str_ne h2, by simp [h2]⟩)
  rcases hc with ⟨h1, h2⟩ | ⟨h0, h1, h2⟩ | ⟨h0, h1, h2⟩
  all_goals
    have HC := Hold.mk h2
    clear h2
    go_enter Tryd.func34, Tryd.ntmps34
    go_wp2_with fail
    refine (isNaN_str a w).mono ?_
    rintro e w1 ⟨rfl, hw1⟩
    subst hw1
    go_wp2_with fail
    refine (isNaN_str b _).mono ?_
    rintro e w2 ⟨rfl, hw2⟩
    subst hw2
    go_wp2_with fail
    go_ret
    exact ⟨by rw [HC.out]; rfl, rfl⟩

/-- the first that isn't 0, of many -/
def orL : List Int → Int
  | [] => 0
  | x :: l => orI x (orL l)
theorem orL_three (a b c : Int) : orL [a, b, c] = orI a (orI b c) := by
  have : orI c 0 = c := by unfold orI; split <;> simp_all
  simp [orL, this]

set_option maxHeartbeats 4000000 in
theorem or_any (l : List Int) (g : Nat) (w : World) (hl : l.length ≤ 1000) (h : ∀ (i : Nat) x, l[i]? = some x → w.cell? ⟨g, i, none⟩ = some (.int .i64 x)) :
    Calls Tryd.prog 94 #[.slice (some ⟨g, 0, none⟩) l.length l.length] w fun e w' => e = .returned (.int .i64 (orL l)) ∧ w = w' := by
  have HC := Hold.mk h
  clear h
  go_enter Tryd.func94, Tryd.ntmps94
  go_wp2_with fail
  go_loop [8] (fun i => ∃ j : Nat, i = .int .i64 j ∧ j ≤ l.length ∧ orL l = orL (l.drop j)) (fun i => l.length - (intOf i).toNat)
  case atStart => exact ⟨0, rfl, Nat.zero_le _, rfl⟩
  case round =>
    obtain ⟨j, rfl, hj, hst⟩ := hrel
    have HST := Hold.mk hst
    clear hst
    by_cases hlt : j < l.length
    · obtain ⟨x, hx⟩ : ∃ x, l[j]? = some x := ⟨l[j], List.getElem?_eq_getElem hlt⟩
      have hcell := HC.out j x hx
      have HD : Hold (orL (l.drop j) = orI x (orL (l.drop (j + 1)))) := ⟨by
        obtain ⟨h1, e1⟩ := List.getElem?_eq_some_iff.1 hx
        rw [List.drop_eq_getElem_cons h1, orL, e1]⟩
      clear hx
      by_cases h0 : x = 0
      · subst h0
        have HR : Hold (orL l = orL (l.drop (j + 1))) := ⟨by rw [HST.out, HD.out]; simp [orI]⟩
        go_wp2_with fail
        exact ⟨⟨j + 1, by go_num, hlt, HR.out⟩, by simp [intOf]; omega⟩
      · have hb : (x != 0) = true := by simpa using h0
        have HR : Hold (orL l = x) := ⟨by rw [HST.out, HD.out]; simp [orI, h0]⟩
        clear h0
        go_wp2_with fail
        go_ret
        exact ⟨by rw [HR.out]; rfl, rfl⟩
    · have HR : Hold (orL l = 0) := ⟨by rw [HST.out, List.drop_eq_nil_of_le (by omega), orL]⟩
      go_wp2_with fail
      go_ret
      exact ⟨by rw [HR.out]; rfl, rfl⟩

end Go.Proofs.YtkhhbckpddkhlaaDoor

namespace Go.Proofs.YtkhhbckpddkhlaaDoor
open Go.RowKit

/-- what compare is known to answer, going down d -/
def CompareAt (d : Nat) : Prop := ∀ (a b : JV) (x y : Value) (w : World), formedF d a = true → formedF d b = true → JAt (cf w) a x → JAt (cf w) b y →
  Calls Tryd.prog 78 #[x, y] w fun e w' => e = .returned (.int .i64 (cmpF d a b)) ∧ Below w.heap.size w w'

theorem three_cells (w : World) (a b c : Int) (t : TypeId) : ∀ (i : Nat) x, [a, b, c][i]? = some x → (w.alloc (.cells #[.int .i64 a, .int .i64 b, .int .i64 c] t)).cell? ⟨w.heap.size, i, none⟩ = some (.int .i64 x) := by
  intro i x hx
  match i, hx with
  | 0, hx => simp at hx; subst hx; simp
  | 1, hx => simp at hx; subst hx; simp
  | 2, hx => simp at hx; subst hx; simp

theorem or_zero {a b c : Int} (h : orL [a, b, c] = 0) : a = 0 := by
  rw [orL_three] at h
  unfold orI at h
  split at h
  · assumption
  · assumption
theorem names_len {d : Nat} {k n : Int} {t : ByteArray} {nm : List ByteArray} {it : List JV} (hf : formedF (d + 1) (.mk k n t nm it) = true) (h6 : k = 6) : nm.length = it.length := by
  have := (formed_body hf (by omega)).2.1
  rw [if_pos h6] at this; exact this
theorem item_formed {d : Nat} {k n : Int} {t : ByteArray} {nm : List ByteArray} {it : List JV} (hf : formedF (d + 1) (.mk k n t nm it) = true) {x : JV} (hx : x ∈ it) : formedF d x = true := by
  by_cases hk : k < 5
  · rw [formedF, if_pos hk, Bool.and_eq_true] at hf
    have := (of_decide_eq_true hf.2).1
    rw [List.length_eq_zero_iff.1 this] at hx; cases hx
  · exact (formed_body hf hk).2.2.2.1 x hx

set_option maxRecDepth 100000 in
set_option maxHeartbeats 8000000 in
theorem compare_step (d : Nat) (IH : CompareAt d) (k n : Int) (t : ByteArray) (nm : List ByteArray) (it : List JV) (q m : Int) (u : ByteArray) (nu : List ByteArray) (ju : List JV)
    (na : Option Addr) (ncap : Nat) (ia : Option Addr) (icap : Nat) (ma : Option Addr) (mcap : Nat) (ja : Option Addr) (jcap : Nat) (w : World)
    (hst : StrsAt (cf w) (.slice na nm.length ncap) nm) (hit : ItemsAt (cf w) (.slice ia it.length icap) it) (hsu : StrsAt (cf w) (.slice ma nu.length mcap) nu) (hju : ItemsAt (cf w) (.slice ja ju.length jcap) ju)
    (hfa : formedF (d + 1) (.mk k n t nm it) = true) (hfb : formedF (d + 1) (.mk q m u nu ju) = true) :
    Calls Tryd.prog 78 #[.agg #[.int .i64 k, .int .i64 n, .string t, .slice na nm.length ncap, .slice ia it.length icap], .agg #[.int .i64 q, .int .i64 m, .string u, .slice ma nu.length mcap, .slice ja ju.length jcap]] w
      fun e w' => e = .returned (.int .i64 (cmpF (d + 1) (.mk k n t nm it) (.mk q m u nu ju))) ∧ Below w.heap.size w w' := by
  have H2 := Hold.mk (Two.refl w #[.int .i64 k, .int .i64 n, .string t, .slice na nm.length ncap, .slice ia it.length icap] #[.int .i64 q, .int .i64 m, .string u, .slice ma nu.length mcap, .slice ja ju.length jcap])
  have HEQ : Hold (cmpF (d + 1) (.mk k n t nm it) (.mk q m u nu ju) = orI (orL [cmpI k q, cmpI n m, cmpS t u]) (membC (cmpF d) k it ju nm nu)) := ⟨by
    rw [cmpF, orL_three]; unfold orI; repeat' split
    all_goals simp_all⟩
  go_enter Tryd.func78, Tryd.ntmps78
  go_wp2_with fail
  obtain ⟨w1, hw1⟩ : ∃ w1, w1 = ((w.alloc (.cells #[.int .i64 k, .int .i64 n, .string t, .slice na nm.length ncap, .slice ia it.length icap] 25)).alloc (.cells #[.int .i64 q, .int .i64 m, .string u, .slice ma nu.length mcap, .slice ja ju.length jcap] 25)) := ⟨_, rfl⟩
  rw [← hw1] at H2 ⊢
  clear hw1
  obtain ⟨y0, y1, y2, y3, y4⟩ := cells_five H2.out.one
  obtain ⟨z0, z1, z2, z3, z4⟩ := cells_five H2.out.two
  refine wp_region_still_tail 15 (by kernel_rfl) (by kernel_rfl) ?_
  simp only [List.take_succ_cons, List.take_zero, List.drop_succ_cons, List.drop_zero]
  repeat (first | still_step | still_call (compare_int _ _ _) | still_call (compare_i64 _ _ _) | still_call (compare_str _ _ _))
  refine wpStill_nil ?_
  go_wp2_with fail
  refine (or_any [cmpI k q, cmpI n m, cmpS t u] w1.heap.size _ (by simp) (by exact three_cells w1 _ _ _ _)).mono ?_
  rintro e w2 ⟨rfl, rfl⟩
  replace H2 := Hold.mk (H2.out.next (((Below.refl _ w1).alloc (Nat.le_refl _) (.cells #[.int .i64 (cmpI k q), .int .i64 (cmpI n m), .int .i64 (cmpS t u)] 3)).drew))
  clear y0 y1 y2 y3 y4 z0 z1 z2 z3 z4
  obtain ⟨w2, hw2⟩ : ∃ w2, w2 = (w1.alloc (.cells #[.int .i64 (cmpI k q), .int .i64 (cmpI n m), .int .i64 (cmpS t u)] 3)).drew := ⟨_, rfl⟩
  rw [← hw2] at H2 ⊢
  clear hw2
  obtain ⟨y0, y1, y2, y3, y4⟩ := cells_five H2.out.one
  obtain ⟨z0, z1, z2, z3, z4⟩ := cells_five H2.out.two
  by_cases ho : orL [cmpI k q, cmpI n m, cmpS t u] = 0
  · rw [ho]
    have HO := Hold.mk ho
    clear ho
    obtain rfl : k = q := cmpI_zero (or_zero HO.out)
    have HR0 : Hold (cmpF (d + 1) (.mk k n t nm it) (.mk k m u nu ju) = membC (cmpF d) k it ju nm nu) := ⟨by rw [HEQ.out, HO.out]; simp [orI]⟩
    have HNA := Hold.mk (fun h6 : k = 6 => names_len hfa h6)
    have HNB := Hold.mk (fun h6 : k = 6 => names_len hfb h6)
    have HFA := Hold.mk (fun x (hx : x ∈ it) => item_formed hfa hx)
    have HFB := Hold.mk (fun x (hx : x ∈ ju) => item_formed hfb hx)
    have HST := Hold.mk hst
    have HSU := Hold.mk hsu
    obtain ⟨ia', icap', e, hilen, his⟩ := hit
    cases e
    obtain ⟨ja', jcap', e, hjlen, hjs⟩ := hju
    cases e
    have HI := Hold.mk his
    have HJ := Hold.mk hjs
    have HIH := Hold.mk IH
    clear hst hsu his hjs IH HEQ HO hfa hfb
    have hnl : nm.length ≤ 9223372036854775807 := by obtain ⟨_, _, _, h, _⟩ := HST.out; exact h
    have hul : nu.length ≤ 9223372036854775807 := by obtain ⟨_, _, _, h, _⟩ := HSU.out; exact h
    go_wp2_with fail
    rw [show min (it.length : Int) (ju.length : Int) = ((min it.length ju.length : Nat) : Int) by omega]
    obtain ⟨M, hM⟩ : ∃ M, M = min it.length ju.length := ⟨_, rfl⟩
    rw [← hM]
    have hM1 : M ≤ it.length := by omega
    have hM2 : M ≤ ju.length := by omega
    have HM := Hold.mk hM
    clear hM y0 y1 y2 y3 y4 z0 z1 z2 z3 z4
    go_loopw [35] (fun i wr => ∃ j : Nat, i = .int .i64 j ∧ j ≤ M ∧ membC (cmpF d) k it ju nm nu = membC (cmpF d) k (it.drop j) (ju.drop j) (nm.drop j) (nu.drop j) ∧ Two w wr #[.int .i64 k, .int .i64 n, .string t, .slice na nm.length ncap, .slice ia it.length icap] #[.int .i64 k, .int .i64 m, .string u, .slice ma nu.length mcap, .slice ja ju.length jcap]) (fun i _ => M - (intOf i).toNat)
    case atStart => exact ⟨0, rfl, Nat.zero_le _, rfl, H2.out⟩
    case round =>
      obtain ⟨j, rfl, hj, hme, h2⟩ := hrel
      clear H2
      have HME := Hold.mk hme
      have H2 := Hold.mk h2
      clear hme h2
      obtain ⟨y0, y1, y2, y3, y4⟩ := cells_five H2.out.one
      obtain ⟨z0, z1, z2, z3, z4⟩ := cells_five H2.out.two
      by_cases hlt : j < M
      · have hlt1 : j < it.length := by omega
        have hlt2 : j < ju.length := by omega
        obtain ⟨x, hx⟩ : ∃ x, it[j]? = some x := ⟨it[j], List.getElem?_eq_getElem hlt1⟩
        obtain ⟨y, hy⟩ : ∃ y, ju[j]? = some y := ⟨ju[j], List.getElem?_eq_getElem hlt2⟩
        obtain ⟨b, off, k2, n2, t2, nm2, it2, na2, ncap2, ia2, icap2, rfl, hxe, x0, x1, x2, x3, x4, hxj⟩ := HI.out j x hx
        obtain ⟨b3, off3, k3, n3, t3, nm3, it3, na3, ncap3, ia3, icap3, rfl, hye, v0, v1, v2, v3, v4, hyj⟩ := HJ.out j y hy
        have HX0 := Hold.mk x0
        have HX1 := Hold.mk x1
        have HX2 := Hold.mk x2
        have HX3 := Hold.mk x3
        have HX4 := Hold.mk x4
        have HV0 := Hold.mk v0
        have HV1 := Hold.mk v1
        have HV2 := Hold.mk v2
        have HV3 := Hold.mk v3
        have HV4 := Hold.mk v4
        have HXJ := Hold.mk hxj
        have HYJ := Hold.mk hyj
        have HSTEP := Hold.mk (HME.out.trans (memb_step (f := cmpF d) (k := k) (nm := nm) (nu := nu) hx hy))
        have HFX := Hold.mk (HFA.out x (List.mem_of_getElem? hx))
        have HFY := Hold.mk (HFB.out y (List.mem_of_getElem? hy))
        clear x0 x1 x2 x3 x4 v0 v1 v2 v3 v4 hxj hyj hx hy hxe hye
        by_cases h6 : k = 6
        · subst h6
          have hna : j < nm.length := by rw [HNA.out rfl]; exact hlt1
          have hnb : j < nu.length := by rw [HNB.out rfl]; exact hlt2
          obtain ⟨s, hs⟩ : ∃ s, nm[j]? = some s := ⟨nm[j], List.getElem?_eq_getElem hna⟩
          obtain ⟨r, hr⟩ : ∃ r, nu[j]? = some r := ⟨nu[j], List.getElem?_eq_getElem hnb⟩
          obtain ⟨na', ncap', e, _, hsel⟩ := HST.out
          cases e
          obtain ⟨ma', mcap', e, _, hrel⟩ := HSU.out
          cases e
          obtain ⟨_, sb, so, rfl, hsc⟩ := hsel j s hs
          obtain ⟨_, rb, ro, rfl, hrc⟩ := hrel j r hr
          have g0 := Grow.cell (cle_below H2.out.bel _ _ _ hsc)
          have g1 := Grow.cell (cle_below H2.out.bel _ _ _ hrc)
          have g2 := Grow.cell y3
          have g3 := Grow.cell z3
          have HC := Hold.mk (Calls.grow (fun e : Grow wr => (compare_str s r e.val).mono fun _ w' ⟨h1, h2⟩ => ⟨h1, by rw [h2]; exact Below.refl _ _⟩))
          replace HSTEP : Hold (membC (cmpF d) 6 it ju nm nu = orI (cmpS s r) (orI (cmpF d x y) (membC (cmpF d) 6 (it.drop (j + 1)) (ju.drop (j + 1)) (nm.drop (j + 1)) (nu.drop (j + 1))))) := ⟨by
            rw [HSTEP.out, if_pos rfl, List.getD_eq_getElem?_getD, List.getD_eq_getElem?_getD, hs, hr]; rfl⟩
          clear hsel hrel hsc hrc hs hr
          go_wp2_with fail
          clear y0 y1 y2 y3 y4 z0 z1 z2 z3 z4
          refine wp_region_grow (by kernel_rfl) (by kernel_rfl) ?_
          repeat (go_big_quiet_step (exact HC.out _))
          refine wpQuiet_nil ?_
          rintro ⟨w3, hb3⟩
          replace H2 := Hold.mk (H2.out.next hb3)
          simp only
          clear hb3 g0 g1 g2 g3 HC
          by_cases hcs : cmpS s r = 0
          · replace HSTEP : Hold (membC (cmpF d) 6 it ju nm nu = orI (cmpF d x y) (membC (cmpF d) 6 (it.drop (j + 1)) (ju.drop (j + 1)) (nm.drop (j + 1)) (nu.drop (j + 1)))) := ⟨by rw [HSTEP.out, hcs]; simp [orI]⟩
            rw [hcs]
            clear hcs
            obtain ⟨y0, y1, y2, y3, y4⟩ := cells_five H2.out.one
            obtain ⟨z0, z1, z2, z3, z4⟩ := cells_five H2.out.two
            have hcl := cle_below H2.out.bel
            have g0 := Grow.cell (hcl _ _ _ HX0.out)
            have g1 := Grow.cell (hcl _ _ _ HX1.out)
            have g2 := Grow.cell (hcl _ _ _ HX2.out)
            have g3 := Grow.cell (hcl _ _ _ HX3.out)
            have g4 := Grow.cell (hcl _ _ _ HX4.out)
            have u0 := Grow.cell (hcl _ _ _ HV0.out)
            have u1 := Grow.cell (hcl _ _ _ HV1.out)
            have u2 := Grow.cell (hcl _ _ _ HV2.out)
            have u3 := Grow.cell (hcl _ _ _ HV3.out)
            have u4 := Grow.cell (hcl _ _ _ HV4.out)
            have g5 := Grow.cell y4
            have g6 := Grow.cell z4
            have HC := Hold.mk (Calls.grow (fun e : Grow w3 => HIH.out x y _ _ e.val HFX.out HFY.out ((HXJ.out.mono hcl).mono (cle_below e.property)) ((HYJ.out.mono hcl).mono (cle_below e.property))))
            clear hcl
            go_wp2_with fail
            clear y0 y1 y2 y3 y4 z0 z1 z2 z3 z4
            refine wp_region_grow (by kernel_rfl) (by kernel_rfl) ?_
            repeat (go_big_quiet_step (exact HC.out _))
            refine wpQuiet_nil ?_
            rintro ⟨w4, hb4⟩
            replace H2 := Hold.mk (H2.out.next hb4)
            simp only
            clear hb4 g0 g1 g2 g3 g4 g5 g6 u0 u1 u2 u3 u4 HC
            by_cases hcx : cmpF d x y = 0
            · have HN : Hold (membC (cmpF d) 6 it ju nm nu = membC (cmpF d) 6 (it.drop (j + 1)) (ju.drop (j + 1)) (nm.drop (j + 1)) (nu.drop (j + 1))) := ⟨by rw [HSTEP.out, hcx]; simp [orI]⟩
              rw [hcx]
              clear hcx
              go_wp2_with fail
              exact ⟨⟨j + 1, by go_num, hlt, HN.out, H2.out⟩, by simp [intOf]; omega⟩
            · have hb2 : (cmpF d x y != 0) = true := by simpa using hcx
              have HR : Hold (cmpF (d + 1) (.mk 6 n t nm it) (.mk 6 m u nu ju) = cmpF d x y) := ⟨by rw [HR0.out, HSTEP.out]; simp [orI, hcx]⟩
              clear hcx
              go_wp2_with fail
              go_ret
              exact ⟨by rw [HR.out]; rfl, H2.out.bel⟩
          · have hb1 : (cmpS s r == 0) = false := by simpa using hcs
            have hb2 : (cmpS s r != 0) = true := by simpa using hcs
            have HR : Hold (cmpF (d + 1) (.mk 6 n t nm it) (.mk 6 m u nu ju) = cmpS s r) := ⟨by rw [HR0.out, HSTEP.out]; simp [orI, hcs]⟩
            clear hcs
            go_wp2_with fail
            go_ret
            exact ⟨by rw [HR.out]; rfl, H2.out.bel⟩
        · have b6 : (k == 6) = false := by simpa using h6
          replace HSTEP : Hold (membC (cmpF d) k it ju nm nu = orI (cmpF d x y) (membC (cmpF d) k (it.drop (j + 1)) (ju.drop (j + 1)) (nm.drop (j + 1)) (nu.drop (j + 1)))) := ⟨by
            rw [HSTEP.out, if_neg h6]; simp [orI]⟩
          clear h6
          clear y0 y1 y2 y3 y4 z0 z1 z2 z3 z4
          obtain ⟨y0, y1, y2, y3, y4⟩ := cells_five H2.out.one
          obtain ⟨z0, z1, z2, z3, z4⟩ := cells_five H2.out.two
          have hcl := cle_below H2.out.bel
          have g0 := Grow.cell (hcl _ _ _ HX0.out)
          have g1 := Grow.cell (hcl _ _ _ HX1.out)
          have g2 := Grow.cell (hcl _ _ _ HX2.out)
          have g3 := Grow.cell (hcl _ _ _ HX3.out)
          have g4 := Grow.cell (hcl _ _ _ HX4.out)
          have u0 := Grow.cell (hcl _ _ _ HV0.out)
          have u1 := Grow.cell (hcl _ _ _ HV1.out)
          have u2 := Grow.cell (hcl _ _ _ HV2.out)
          have u3 := Grow.cell (hcl _ _ _ HV3.out)
          have u4 := Grow.cell (hcl _ _ _ HV4.out)
          have g5 := Grow.cell y4
          have g6 := Grow.cell z4
          have HC := Hold.mk (Calls.grow (fun e : Grow wr => HIH.out x y _ _ e.val HFX.out HFY.out ((HXJ.out.mono hcl).mono (cle_below e.property)) ((HYJ.out.mono hcl).mono (cle_below e.property))))
          clear hcl
          go_wp2_with fail
          clear y0 y1 y2 y3 y4 z0 z1 z2 z3 z4
          refine wp_region_grow (by kernel_rfl) (by kernel_rfl) ?_
          repeat (go_big_quiet_step (exact HC.out _))
          refine wpQuiet_nil ?_
          rintro ⟨w4, hb4⟩
          replace H2 := Hold.mk (H2.out.next hb4)
          simp only
          clear hb4 g0 g1 g2 g3 g4 g5 g6 u0 u1 u2 u3 u4 HC
          by_cases hcx : cmpF d x y = 0
          · have HN : Hold (membC (cmpF d) k it ju nm nu = membC (cmpF d) k (it.drop (j + 1)) (ju.drop (j + 1)) (nm.drop (j + 1)) (nu.drop (j + 1))) := ⟨by rw [HSTEP.out, hcx]; simp [orI]⟩
            rw [hcx]
            clear hcx
            go_wp2_with fail
            exact ⟨⟨j + 1, by go_num, hlt, HN.out, H2.out⟩, by simp [intOf]; omega⟩
          · have hb2 : (cmpF d x y != 0) = true := by simpa using hcx
            have HR : Hold (cmpF (d + 1) (.mk k n t nm it) (.mk k m u nu ju) = cmpF d x y) := ⟨by rw [HR0.out, HSTEP.out]; simp [orI, hcx]⟩
            clear hcx
            go_wp2_with fail
            go_ret
            exact ⟨by rw [HR.out]; rfl, H2.out.bel⟩
      · have HR : Hold (cmpF (d + 1) (.mk k n t nm it) (.mk k m u nu ju) = cmpI it.length ju.length) := ⟨by rw [HR0.out, HME.out]; have := HM.out; exact memb_end (by omega) (by omega) (by omega)⟩
        go_wp2_with fail
        refine (compare_int _ _ _).mono ?_
        rintro e w3 ⟨rfl, hw3⟩
        subst hw3
        go_wp2_with fail
        go_ret
        exact ⟨by rw [HR.out]; rfl, H2.out.bel⟩
  · have hb : (orL [cmpI k q, cmpI n m, cmpS t u] != 0) = true := by simpa using ho
    have HR : Hold (cmpF (d + 1) (.mk k n t nm it) (.mk q m u nu ju) = orL [cmpI k q, cmpI n m, cmpS t u]) := ⟨by rw [HEQ.out]; simp [orI, ho]⟩
    clear ho
    go_wp2_with fail
    go_ret
    exact ⟨by rw [HR.out]; rfl, H2.out.bel⟩

theorem compare_any : ∀ d, CompareAt d
  | 0 => fun a b x y w hf => by simp [formedF] at hf
  | d + 1 => fun a b x y w hfa hfb hx hy => by
    obtain ⟨k, n, t, nm, it, na, ncap, ia, icap, rfl, rfl, _, _, _, hst, hit⟩ := hx.open
    obtain ⟨q, m, u, nu, ju, ma, mcap, ja, jcap, rfl, rfl, _, _, _, hsu, hju⟩ := hy.open
    exact compare_step d (compare_any d) k n t nm it q m u nu ju na ncap ia icap ma mcap ja jcap w hst hit hsu hju hfa hfb

end Go.Proofs.YtkhhbckpddkhlaaDoor
