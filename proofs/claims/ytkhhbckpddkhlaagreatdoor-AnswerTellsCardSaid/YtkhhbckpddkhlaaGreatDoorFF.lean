/- Plain of the reference's order, walked. -/
import Derived.Test.YtkhhbckpddkhlaaGreatDoorFE
namespace Go.Proofs.YtkhhbckpddkhlaaGreatDoor
open Go.RowKit

theorem lengths_any (a b : Int) (w : World) : Calls Tryz.prog 101 #[.int .i64 a, .int .i64 b] w fun e w' => e = .returned (.int .i64 (cmpI a b)) ∧ w' = w := by
  have hc : (a < b ∧ cmpI a b = -1) ∨ (¬ a < b ∧ b < a ∧ cmpI a b = 1) ∨ (¬ a < b ∧ ¬ b < a ∧ cmpI a b = 0) := by
    unfold cmpI
    by_cases h1 : a < b
    · exact .inl ⟨h1, by rw [if_pos h1]⟩
    · by_cases h2 : b < a
      · exact .inr (.inl ⟨h1, h2, by rw [if_neg h1, if_pos h2]⟩)
      · exact .inr (.inr ⟨h1, h2, by rw [if_neg h1, if_neg h2]⟩)
  rcases hc with ⟨h1, h2⟩ | ⟨h0, h1, h2⟩ | ⟨h0, h1, h2⟩
  all_goals
    have HC := Hold.mk h2
    clear h2
    go_enter Tryz.func101, Tryz.ntmps101
    go_wp2_with fail
    go_ret
    exact ⟨by rw [HC.out]; rfl, rfl⟩

theorem byte_here {s : ByteArray} {j : Nat} (h : j < s.size) : s.data.toList[j]? = some s[j] := by
  rw [Array.getElem?_toList]; exact Array.getElem?_eq_getElem h

set_option maxHeartbeats 4000000 in
theorem texts_any (a b : ByteArray) (w : World) (ha : a.size ≤ 9223372036854775807) (_ : b.size ≤ 9223372036854775807) :
    Calls Tryz.prog 102 #[.string a, .string b] w fun e w' => e = .returned (.int .i64 (cmpS a b)) ∧ Below w.heap.size w w' := by
  go_enter Tryz.func102, Tryz.ntmps102
  go_wp2_with fail
  go_loopw [5] (fun i wr => ∃ j : Nat, i = .int .i64 j ∧ j ≤ a.size ∧ j ≤ b.size ∧ cmpS a b = lexC (a.data.toList.drop j) (b.data.toList.drop j) ∧ Below w.heap.size w wr) (fun i _ => a.size - (intOf i).toNat)
  case atStart => exact ⟨0, rfl, Nat.zero_le _, Nat.zero_le _, (lexC_cmp a b).symm, Below.refl _ _⟩
  case round =>
    obtain ⟨j, rfl, hj1, hj2, hst, hbl⟩ := hrel
    have HST := Hold.mk hst
    have HB := Hold.mk hbl
    clear hst hbl
    by_cases h1 : j < a.size
    · by_cases h2 : j < b.size
      · have HS := Hold.mk (HST.out.trans (lex_step (byte_here h1) (byte_here h2)))
        obtain ⟨c, hc⟩ : ∃ c, a[j]'h1 = c := ⟨_, rfl⟩
        obtain ⟨d, hd⟩ : ∃ d, b[j]'h2 = d := ⟨_, rfl⟩
        rw [hc, hd] at HS
        by_cases hlt : c.toNat < d.toNat
        · replace HS := Hold.mk (HS.out.trans (if_pos hlt))
          go_wp2_with fail
          go_quiet (fail)
          go_wp2_with fail
          go_ret
          exact ⟨by rw [HS.out]; rfl, ⟨HB.out.os, HB.out.tape, HB.out.output, HB.out.size, HB.out.block⟩⟩
        replace HS := Hold.mk (HS.out.trans (if_neg hlt))
        by_cases hgt : d.toNat < c.toNat
        · replace HS := Hold.mk (HS.out.trans (if_pos hgt))
          go_wp2_with fail
          go_quiet (fail)
          go_wp2_with fail
          go_quiet (fail)
          go_wp2_with fail
          go_ret
          exact ⟨by rw [HS.out]; rfl, ⟨HB.out.os, HB.out.tape, HB.out.output, HB.out.size, HB.out.block⟩⟩
        replace HS := Hold.mk (HS.out.trans (if_neg hgt))
        go_wp2_with fail
        go_quiet (fail)
        go_wp2_with fail
        go_quiet (fail)
        go_wp2_with fail
        exact ⟨⟨j + 1, by go_num, h1, h2, HS.out, ⟨HB.out.os, HB.out.tape, HB.out.output, HB.out.size, HB.out.block⟩⟩, by simp [intOf]; omega⟩
      · have HS : Hold (cmpS a b = cmpI a.size b.size) := ⟨by rw [HST.out]; exact lex_end (by rw [size_list, size_list]; omega) (by rw [size_list]; omega) (by rw [size_list]; omega)⟩
        go_wp2_with fail
        refine (lengths_any _ _ _).mono ?_
        rintro e w3 ⟨rfl, hw3⟩
        subst hw3
        go_wp2_with fail
        go_ret
        exact ⟨by rw [HS.out]; rfl, HB.out⟩
    · have HS : Hold (cmpS a b = cmpI a.size b.size) := ⟨by rw [HST.out]; exact lex_end (by rw [size_list, size_list]; omega) (by rw [size_list]; omega) (by rw [size_list]; omega)⟩
      go_wp2_with fail
      refine (lengths_any _ _ _).mono ?_
      rintro e w3 ⟨rfl, hw3⟩
      subst hw3
      go_wp2_with fail
      go_ret
      exact ⟨by rw [HS.out]; rfl, HB.out⟩

/-! of formed values of one kind -/
theorem orI_zeroF (a : Int) : orI a 0 = a := by unfold orI; split <;> simp_all
theorem text_noneF {t : ByteArray} (h : t.toList = []) : t = ⟨#[]⟩ := by
  have e : t.data.toList = [] := by rw [← ByteArray.toList_eq]; exact h
  cases t
  simp at e
  rw [e]
theorem formed_leaf0 {d : Nat} {k n : Int} {t : ByteArray} {nm : List ByteArray} {it : List JV} (h : formedF (d + 1) (.mk k n t nm it) = true) (hk : k < 5) : it = [] ∧ nm = [] := by
  rw [formedF, if_pos hk, Bool.and_eq_true] at h
  have h1 := of_decide_eq_true h.2
  exact ⟨List.length_eq_zero_iff.1 h1.1, List.length_eq_zero_iff.1 h1.2⟩
section
variable {d : Nat} {k n q m : Int} {t u : ByteArray} {nm nu : List ByteArray} {it ju : List JV} (ha : formedF (d + 1) (.mk k n t nm it) = true) (hb : formedF (d + 1) (.mk q m u nu ju) = true)
include ha hb
omit ha hb in
theorem cmp_kinds (hk : k ≠ q) : cmpF (d + 1) (.mk k n t nm it) (.mk q m u nu ju) = cmpI k q := by
  rw [cmpF]
  have : cmpI k q ≠ 0 := fun h => hk (cmpI_zero h)
  unfold orI; rw [if_neg this]
theorem cmp_int (hk : k = 3) (hq : q = 3) : cmpF (d + 1) (.mk k n t nm it) (.mk q m u nu ju) = cmpI n m := by
  obtain ⟨rfl, rfl⟩ := formed_leaf0 ha (by omega)
  obtain ⟨rfl, rfl⟩ := formed_leaf0 hb (by omega)
  obtain rfl := text_noneF ((formed_head ha).2.2.2.1.resolve_left (by omega))
  obtain rfl := text_noneF ((formed_head hb).2.2.2.1.resolve_left (by omega))
  rw [cmpF, hk, hq, cmpI_self, cmpS_zero.2 rfl, membC]
  simp [orI]
  exact fun h => h.symm
theorem cmp_text (hk : k = 4) (hq : q = 4) : cmpF (d + 1) (.mk k n t nm it) (.mk q m u nu ju) = cmpS t u := by
  obtain ⟨rfl, rfl⟩ := formed_leaf0 ha (by omega)
  obtain ⟨rfl, rfl⟩ := formed_leaf0 hb (by omega)
  obtain rfl := (formed_head ha).2.2.1.resolve_left (by omega)
  obtain rfl := (formed_head hb).2.2.1.resolve_left (by omega)
  rw [cmpF, hk, hq, cmpI_self, cmpI_self, membC, orI_zeroF]
  simp [orI]
theorem cmp_memb (h3 : k ≠ 3) (h4 : k ≠ 4) (hq : k = q) : cmpF (d + 1) (.mk k n t nm it) (.mk q m u nu ju) = membC (cmpF d) k it ju nm nu := by
  subst hq
  obtain rfl := text_noneF ((formed_head ha).2.2.2.1.resolve_left h4)
  obtain rfl := text_noneF ((formed_head hb).2.2.2.1.resolve_left h4)
  obtain rfl := (formed_head ha).2.2.1.resolve_left h3
  obtain rfl := (formed_head hb).2.2.1.resolve_left h3
  rw [cmpF, cmpI_self, cmpI_self, cmpS_zero.2 rfl]
  simp [orI]
theorem cmp_word (h5 : k < 3) (hq : k = q) : cmpF (d + 1) (.mk k n t nm it) (.mk q m u nu ju) = 0 := by
  rw [cmp_memb ha hb (by omega) (by omega) hq]
  subst hq
  obtain ⟨rfl, rfl⟩ := formed_leaf0 ha (by omega)
  obtain ⟨rfl, rfl⟩ := formed_leaf0 hb (by omega)
  rw [membC]
end

/-- what Plain of the reference is known to answer, going down d -/
def PlainAt (d : Nat) : Prop := ∀ (a b : JV) (x y : Value) (w : World), formedF d a = true → formedF d b = true → JAt (cf w) a x → JAt (cf w) b y →
  Calls Tryz.prog 59 #[x, y] w fun e w' => e = .returned (.int .i64 (cmpF d a b)) ∧ Below w.heap.size w w'

set_option maxRecDepth 100000 in
set_option maxHeartbeats 8000000 in
theorem plain_leaf (d : Nat) (k n : Int) (t : ByteArray) (nm : List ByteArray) (it : List JV) (q m : Int) (u : ByteArray) (nu : List ByteArray) (ju : List JV) (nv iv mv jv : Value) (w : World)
    (ht : t.size ≤ 9223372036854775807) (hu : u.size ≤ 9223372036854775807) (hfa : formedF (d + 1) (.mk k n t nm it) = true) (hfb : formedF (d + 1) (.mk q m u nu ju) = true) (hleaf : k ≠ q ∨ k < 5) :
    Calls Tryz.prog 59 #[.agg #[.int .i64 k, .int .i64 n, .string t, nv, iv], .agg #[.int .i64 q, .int .i64 m, .string u, mv, jv]] w
      fun e w' => e = .returned (.int .i64 (cmpF (d + 1) (.mk k n t nm it) (.mk q m u nu ju))) ∧ Below w.heap.size w w' := by
  have H2 := Hold.mk (Two.refl w #[.int .i64 k, .int .i64 n, .string t, nv, iv] #[.int .i64 q, .int .i64 m, .string u, mv, jv])
  by_cases hk : k = q
  · have hk5 : k < 5 := by rcases hleaf with h | h; exact absurd hk h; exact h
    have h0 := (formed_head hfa).1
    by_cases h3 : k = 3
    · have HR := Hold.mk (cmp_int hfa hfb h3 (hk ▸ h3))
      obtain rfl : q = 3 := hk ▸ h3
      subst hk
      clear hfa hfb hleaf
      have hc : (n < m ∧ cmpI n m = -1) ∨ (¬ n < m ∧ m < n ∧ cmpI n m = 1) ∨ (¬ n < m ∧ ¬ m < n ∧ cmpI n m = 0) := by
        unfold cmpI
        by_cases h1 : n < m
        · exact .inl ⟨h1, by rw [if_pos h1]⟩
        · by_cases h2 : m < n
          · exact .inr (.inl ⟨h1, h2, by rw [if_neg h1, if_pos h2]⟩)
          · exact .inr (.inr ⟨h1, h2, by rw [if_neg h1, if_neg h2]⟩)
      rcases hc with ⟨h1, h2⟩ | ⟨h0, h1, h2⟩ | ⟨h0, h1, h2⟩
      all_goals
        rw [h2] at HR
        clear h2
        go_enter Tryz.func59, Tryz.ntmps59
        go_wp2_with fail
        go_ret
        exact ⟨by rw [HR.out]; rfl, H2.out.bel⟩
    by_cases h4 : k = 4
    · have HR := Hold.mk (cmp_text hfa hfb h4 (hk ▸ h4))
      obtain rfl : q = 4 := hk ▸ h4
      subst hk
      clear hfa hfb hleaf
      go_enter Tryz.func59, Tryz.ntmps59
      go_wp2_with fail
      refine (texts_any t u _ ht hu).mono ?_
      rintro e w1 ⟨rfl, hb1⟩
      replace H2 := Hold.mk (H2.out.next hb1)
      clear hb1
      go_wp2_with fail
      go_ret
      exact ⟨by rw [HR.out]; rfl, H2.out.bel⟩
    have HR := Hold.mk (cmp_word hfa hfb (by omega) hk)
    subst hk
    have b3 : (k == 3) = false := by simpa using h3
    have b4 : (k == 4) = false := by simpa using h4
    have b5 : (k == 5) = false := by rw [beq_eq_false_iff_ne]; omega
    have b6 : (k == 6) = false := by rw [beq_eq_false_iff_ne]; omega
    clear hfa hfb hleaf h3 h4
    go_enter Tryz.func59, Tryz.ntmps59
    go_wp2_with fail
    go_ret
    exact ⟨by rw [HR.out]; rfl, H2.out.bel⟩
  · have HR := Hold.mk (cmp_kinds (d := d) (n := n) (m := m) (t := t) (u := u) (nm := nm) (nu := nu) (it := it) (ju := ju) hk)
    have hb : (k != q) = true := by simpa using hk
    clear hfa hfb hleaf hk
    go_enter Tryz.func59, Tryz.ntmps59
    go_wp2_with fail
    refine (lengths_any _ _ _).mono ?_
    rintro e w3 ⟨rfl, hw3⟩
    subst hw3
    go_wp2_with fail
    go_ret
    exact ⟨by rw [HR.out]; rfl, H2.out.bel⟩

set_option maxRecDepth 100000 in
set_option maxHeartbeats 8000000 in
theorem plain_body (d : Nat) (IH : PlainAt d) (k n : Int) (hk : k = 5 ∨ k = 6) (t : ByteArray) (nm : List ByteArray) (it : List JV) (m : Int) (u : ByteArray) (nu : List ByteArray) (ju : List JV)
    (na : Option Addr) (ncap : Nat) (ia : Option Addr) (icap : Nat) (ma : Option Addr) (mcap : Nat) (ja : Option Addr) (jcap : Nat) (w : World)
    (hst : StrsAt (cf w) (.slice na nm.length ncap) nm) (hit : ItemsAt (cf w) (.slice ia it.length icap) it) (hsu : StrsAt (cf w) (.slice ma nu.length mcap) nu) (hju : ItemsAt (cf w) (.slice ja ju.length jcap) ju)
    (hfa : formedF (d + 1) (.mk k n t nm it) = true) (hfb : formedF (d + 1) (.mk k m u nu ju) = true) :
    Calls Tryz.prog 59 #[.agg #[.int .i64 k, .int .i64 n, .string t, .slice na nm.length ncap, .slice ia it.length icap], .agg #[.int .i64 k, .int .i64 m, .string u, .slice ma nu.length mcap, .slice ja ju.length jcap]] w
      fun e w' => e = .returned (.int .i64 (cmpF (d + 1) (.mk k n t nm it) (.mk k m u nu ju))) ∧ Below w.heap.size w w' := by
  have H2 := Hold.mk (Two.refl w #[.int .i64 k, .int .i64 n, .string t, .slice na nm.length ncap, .slice ia it.length icap] #[.int .i64 k, .int .i64 m, .string u, .slice ma nu.length mcap, .slice ja ju.length jcap])
  have HR0 := Hold.mk (cmp_memb hfa hfb (by omega) (by omega) rfl)
  have HNA := Hold.mk (fun h6 : k = 6 => names_len hfa h6)
  have HNB := Hold.mk (fun h6 : k = 6 => names_len hfb h6)
  have HFA := Hold.mk (fun x (hx : x ∈ it) => item_formed hfa hx)
  have HFB := Hold.mk (fun x (hx : x ∈ ju) => item_formed hfb hx)
  have HST := Hold.mk hst
  have HSU := Hold.mk hsu
  obtain ⟨ia', icap', e, hilen, his⟩ := hit
  cases e
  obtain ⟨ja', jcap', e, hjlen, hjs⟩ := hju
  cases e
  have HI := Hold.mk his
  have HJ := Hold.mk hjs
  have HIH := Hold.mk IH
  clear hst hsu his hjs IH hfa hfb
  have hnl : nm.length ≤ 9223372036854775807 := by obtain ⟨_, _, _, h, _⟩ := HST.out; exact h
  have hul : nu.length ≤ 9223372036854775807 := by obtain ⟨_, _, _, h, _⟩ := HSU.out; exact h
  rcases hk with rfl | rfl
  · go_enter Tryz.func59, Tryz.ntmps59
    go_wp2_with fail
    go_loopw [5] (fun i wr => ∃ j : Nat, i = .int .i64 j ∧ j ≤ it.length ∧ j ≤ ju.length ∧ membC (cmpF d) 5 it ju nm nu = membC (cmpF d) 5 (it.drop j) (ju.drop j) (nm.drop j) (nu.drop j) ∧ Two w wr #[.int .i64 5, .int .i64 n, .string t, .slice na nm.length ncap, .slice ia it.length icap] #[.int .i64 5, .int .i64 m, .string u, .slice ma nu.length mcap, .slice ja ju.length jcap]) (fun i _ => it.length - (intOf i).toNat)
    case atStart => exact ⟨0, rfl, Nat.zero_le _, Nat.zero_le _, rfl, H2.out⟩
    case round =>
      obtain ⟨j, rfl, hj1, hj2, hme, h2⟩ := hrel
      clear H2
      have HME := Hold.mk hme
      have H2 := Hold.mk h2
      clear hme h2
      obtain ⟨y0, y1, y2, y3, y4⟩ := cells_five H2.out.one
      obtain ⟨z0, z1, z2, z3, z4⟩ := cells_five H2.out.two
      have fin : ¬ (j < it.length ∧ j < ju.length) → cmpF (d + 1) (.mk 5 n t nm it) (.mk 5 m u nu ju) = cmpI it.length ju.length := fun h => by
        rw [HR0.out, HME.out]; exact memb_end h hj1 hj2
      have HFIN := Hold.mk fin
      clear fin
      by_cases hlt1 : j < it.length
      · by_cases hlt2 : j < ju.length
        · clear HFIN
          obtain ⟨x, hx⟩ : ∃ x, it[j]? = some x := ⟨it[j], List.getElem?_eq_getElem hlt1⟩
          obtain ⟨y, hy⟩ : ∃ y, ju[j]? = some y := ⟨ju[j], List.getElem?_eq_getElem hlt2⟩
          obtain ⟨b, off, k2, n2, t2, nm2, it2, na2, ncap2, ia2, icap2, rfl, hxe, x0, x1, x2, x3, x4, hxj⟩ := HI.out j x hx
          obtain ⟨b3, off3, k3, n3, t3, nm3, it3, na3, ncap3, ia3, icap3, rfl, hye, v0, v1, v2, v3, v4, hyj⟩ := HJ.out j y hy
          have HX0 := Hold.mk x0
          have HX1 := Hold.mk x1
          have HX2 := Hold.mk x2
          have HX3 := Hold.mk x3
          have HX4 := Hold.mk x4
          have HV0 := Hold.mk v0
          have HV1 := Hold.mk v1
          have HV2 := Hold.mk v2
          have HV3 := Hold.mk v3
          have HV4 := Hold.mk v4
          have HXJ := Hold.mk hxj
          have HYJ := Hold.mk hyj
          have HSTEP := Hold.mk (HME.out.trans (memb_step (f := cmpF d) (k := 5) (nm := nm) (nu := nu) hx hy))
          have HFX := Hold.mk (HFA.out x (List.mem_of_getElem? hx))
          have HFY := Hold.mk (HFB.out y (List.mem_of_getElem? hy))
          clear x0 x1 x2 x3 x4 v0 v1 v2 v3 v4 hxj hyj hx hy hxe hye
          replace HSTEP : Hold (membC (cmpF d) 5 it ju nm nu = orI (cmpF d x y) (membC (cmpF d) 5 (it.drop (j + 1)) (ju.drop (j + 1)) (nm.drop (j + 1)) (nu.drop (j + 1)))) := ⟨by
            rw [HSTEP.out, if_neg (by decide)]; simp [orI]⟩
          clear y0 y1 y2 y3 y4 z0 z1 z2 z3 z4
          obtain ⟨y0, y1, y2, y3, y4⟩ := cells_five H2.out.one
          obtain ⟨z0, z1, z2, z3, z4⟩ := cells_five H2.out.two
          have hcl := cle_below H2.out.bel
          have g0 := Grow.cell (hcl _ _ _ HX0.out)
          have g1 := Grow.cell (hcl _ _ _ HX1.out)
          have g2 := Grow.cell (hcl _ _ _ HX2.out)
          have g3 := Grow.cell (hcl _ _ _ HX3.out)
          have g4 := Grow.cell (hcl _ _ _ HX4.out)
          have u0 := Grow.cell (hcl _ _ _ HV0.out)
          have u1 := Grow.cell (hcl _ _ _ HV1.out)
          have u2 := Grow.cell (hcl _ _ _ HV2.out)
          have u3 := Grow.cell (hcl _ _ _ HV3.out)
          have u4 := Grow.cell (hcl _ _ _ HV4.out)
          have g5 := Grow.cell y4
          have g6 := Grow.cell z4
          have HC := Hold.mk (Calls.grow (fun e : Grow wr => HIH.out x y _ _ e.val HFX.out HFY.out ((HXJ.out.mono hcl).mono (cle_below e.property)) ((HYJ.out.mono hcl).mono (cle_below e.property))))
          clear hcl
          go_wp2_with fail
          clear y0 y1 y2 y3 y4 z0 z1 z2 z3 z4
          refine wp_region_grow (by kernel_rfl) (by kernel_rfl) ?_
          repeat (go_big_quiet_step (exact HC.out _))
          refine wpQuiet_nil ?_
          rintro ⟨w4, hb4⟩
          replace H2 := Hold.mk (H2.out.next hb4)
          simp only
          clear hb4 g0 g1 g2 g3 g4 g5 g6 u0 u1 u2 u3 u4 HC
          by_cases hcx : cmpF d x y = 0
          · have HN : Hold (membC (cmpF d) 5 it ju nm nu = membC (cmpF d) 5 (it.drop (j + 1)) (ju.drop (j + 1)) (nm.drop (j + 1)) (nu.drop (j + 1))) := ⟨by rw [HSTEP.out, hcx]; simp [orI]⟩
            rw [hcx]
            clear hcx
            go_wp2_with fail
            exact ⟨⟨j + 1, by go_num, hlt1, hlt2, HN.out, H2.out⟩, by simp [intOf]; omega⟩
          · have hb2 : (cmpF d x y != 0) = true := by simpa using hcx
            have HR : Hold (cmpF (d + 1) (.mk 5 n t nm it) (.mk 5 m u nu ju) = cmpF d x y) := ⟨by rw [HR0.out, HSTEP.out]; simp [orI, hcx]⟩
            clear hcx
            go_wp2_with fail
            go_ret
            exact ⟨by rw [HR.out]; rfl, H2.out.bel⟩
        · have HR := Hold.mk (HFIN.out (fun h => absurd h.2 hlt2))
          go_wp2_with fail
          refine (lengths_any _ _ _).mono ?_
          rintro e w3 ⟨rfl, hw3⟩
          subst hw3
          go_wp2_with fail
          go_ret
          exact ⟨by rw [HR.out]; rfl, H2.out.bel⟩
      · have HR := Hold.mk (HFIN.out (fun h => absurd h.1 hlt1))
        go_wp2_with fail
        refine (lengths_any _ _ _).mono ?_
        rintro e w3 ⟨rfl, hw3⟩
        subst hw3
        go_wp2_with fail
        go_ret
        exact ⟨by rw [HR.out]; rfl, H2.out.bel⟩
  · go_enter Tryz.func59, Tryz.ntmps59
    go_wp2_with fail
    go_loopw [5] (fun i wr => ∃ j : Nat, i = .int .i64 j ∧ j ≤ it.length ∧ j ≤ ju.length ∧ membC (cmpF d) 6 it ju nm nu = membC (cmpF d) 6 (it.drop j) (ju.drop j) (nm.drop j) (nu.drop j) ∧ Two w wr #[.int .i64 6, .int .i64 n, .string t, .slice na nm.length ncap, .slice ia it.length icap] #[.int .i64 6, .int .i64 m, .string u, .slice ma nu.length mcap, .slice ja ju.length jcap]) (fun i _ => it.length - (intOf i).toNat)
    case atStart => exact ⟨0, rfl, Nat.zero_le _, Nat.zero_le _, rfl, H2.out⟩
    case round =>
      obtain ⟨j, rfl, hj1, hj2, hme, h2⟩ := hrel
      clear H2
      have HME := Hold.mk hme
      have H2 := Hold.mk h2
      clear hme h2
      obtain ⟨y0, y1, y2, y3, y4⟩ := cells_five H2.out.one
      obtain ⟨z0, z1, z2, z3, z4⟩ := cells_five H2.out.two
      have fin : ¬ (j < it.length ∧ j < ju.length) → cmpF (d + 1) (.mk 6 n t nm it) (.mk 6 m u nu ju) = cmpI it.length ju.length := fun h => by
        rw [HR0.out, HME.out]; exact memb_end h hj1 hj2
      have HFIN := Hold.mk fin
      clear fin
      by_cases hlt1 : j < it.length
      · by_cases hlt2 : j < ju.length
        · clear HFIN
          obtain ⟨x, hx⟩ : ∃ x, it[j]? = some x := ⟨it[j], List.getElem?_eq_getElem hlt1⟩
          obtain ⟨y, hy⟩ : ∃ y, ju[j]? = some y := ⟨ju[j], List.getElem?_eq_getElem hlt2⟩
          obtain ⟨b, off, k2, n2, t2, nm2, it2, na2, ncap2, ia2, icap2, rfl, hxe, x0, x1, x2, x3, x4, hxj⟩ := HI.out j x hx
          obtain ⟨b3, off3, k3, n3, t3, nm3, it3, na3, ncap3, ia3, icap3, rfl, hye, v0, v1, v2, v3, v4, hyj⟩ := HJ.out j y hy
          have HX0 := Hold.mk x0
          have HX1 := Hold.mk x1
          have HX2 := Hold.mk x2
          have HX3 := Hold.mk x3
          have HX4 := Hold.mk x4
          have HV0 := Hold.mk v0
          have HV1 := Hold.mk v1
          have HV2 := Hold.mk v2
          have HV3 := Hold.mk v3
          have HV4 := Hold.mk v4
          have HXJ := Hold.mk hxj
          have HYJ := Hold.mk hyj
          have HSTEP := Hold.mk (HME.out.trans (memb_step (f := cmpF d) (k := 6) (nm := nm) (nu := nu) hx hy))
          have HFX := Hold.mk (HFA.out x (List.mem_of_getElem? hx))
          have HFY := Hold.mk (HFB.out y (List.mem_of_getElem? hy))
          clear x0 x1 x2 x3 x4 v0 v1 v2 v3 v4 hxj hyj hx hy hxe hye
          have hna : j < nm.length := by rw [HNA.out (by simp)]; exact hlt1
          have hnb : j < nu.length := by rw [HNB.out (by simp)]; exact hlt2
          obtain ⟨s, hs⟩ : ∃ s, nm[j]? = some s := ⟨nm[j], List.getElem?_eq_getElem hna⟩
          obtain ⟨r, hr⟩ : ∃ r, nu[j]? = some r := ⟨nu[j], List.getElem?_eq_getElem hnb⟩
          obtain ⟨na', ncap', e, _, hsel⟩ := HST.out
          cases e
          obtain ⟨ma', mcap', e, _, hrel⟩ := HSU.out
          cases e
          obtain ⟨hss, sb, so, rfl, hsc⟩ := hsel j s hs
          obtain ⟨hrs, rb, ro, rfl, hrc⟩ := hrel j r hr
          have g0 := Grow.cell (cle_below H2.out.bel _ _ _ hsc)
          have g1 := Grow.cell (cle_below H2.out.bel _ _ _ hrc)
          have g2 := Grow.cell y3
          have g3 := Grow.cell z3
          have HC := Hold.mk (Calls.grow (fun e : Grow wr => texts_any s r e.val hss hrs))
          replace HSTEP : Hold (membC (cmpF d) 6 it ju nm nu = orI (cmpS s r) (orI (cmpF d x y) (membC (cmpF d) 6 (it.drop (j + 1)) (ju.drop (j + 1)) (nm.drop (j + 1)) (nu.drop (j + 1))))) := ⟨by
            rw [HSTEP.out, if_pos rfl, List.getD_eq_getElem?_getD, List.getD_eq_getElem?_getD, hs, hr]; rfl⟩
          clear hsel hrel hsc hrc hs hr hss hrs
          go_wp2_with fail
          clear y0 y1 y2 y3 y4 z0 z1 z2 z3 z4
          refine wp_region_grow (by kernel_rfl) (by kernel_rfl) ?_
          repeat (go_big_quiet_step (exact HC.out _))
          refine wpQuiet_nil ?_
          rintro ⟨w3, hb3⟩
          replace H2 := Hold.mk (H2.out.next hb3)
          simp only
          clear hb3 g0 g1 g2 g3 HC
          by_cases hcs : cmpS s r = 0
          · replace HSTEP : Hold (membC (cmpF d) 6 it ju nm nu = orI (cmpF d x y) (membC (cmpF d) 6 (it.drop (j + 1)) (ju.drop (j + 1)) (nm.drop (j + 1)) (nu.drop (j + 1)))) := ⟨by rw [HSTEP.out, hcs]; simp [orI]⟩
            rw [hcs]
            clear hcs
            obtain ⟨y0, y1, y2, y3, y4⟩ := cells_five H2.out.one
            obtain ⟨z0, z1, z2, z3, z4⟩ := cells_five H2.out.two
            have hcl := cle_below H2.out.bel
            have g0 := Grow.cell (hcl _ _ _ HX0.out)
            have g1 := Grow.cell (hcl _ _ _ HX1.out)
            have g2 := Grow.cell (hcl _ _ _ HX2.out)
            have g3 := Grow.cell (hcl _ _ _ HX3.out)
            have g4 := Grow.cell (hcl _ _ _ HX4.out)
            have u0 := Grow.cell (hcl _ _ _ HV0.out)
            have u1 := Grow.cell (hcl _ _ _ HV1.out)
            have u2 := Grow.cell (hcl _ _ _ HV2.out)
            have u3 := Grow.cell (hcl _ _ _ HV3.out)
            have u4 := Grow.cell (hcl _ _ _ HV4.out)
            have g5 := Grow.cell y4
            have g6 := Grow.cell z4
            have HC := Hold.mk (Calls.grow (fun e : Grow w3 => HIH.out x y _ _ e.val HFX.out HFY.out ((HXJ.out.mono hcl).mono (cle_below e.property)) ((HYJ.out.mono hcl).mono (cle_below e.property))))
            clear hcl
            go_wp2_with fail
            clear y0 y1 y2 y3 y4 z0 z1 z2 z3 z4
            refine wp_region_grow (by kernel_rfl) (by kernel_rfl) ?_
            repeat (go_big_quiet_step (exact HC.out _))
            refine wpQuiet_nil ?_
            rintro ⟨w4, hb4⟩
            replace H2 := Hold.mk (H2.out.next hb4)
            simp only
            clear hb4 g0 g1 g2 g3 g4 g5 g6 u0 u1 u2 u3 u4 HC
            by_cases hcx : cmpF d x y = 0
            · have HN : Hold (membC (cmpF d) 6 it ju nm nu = membC (cmpF d) 6 (it.drop (j + 1)) (ju.drop (j + 1)) (nm.drop (j + 1)) (nu.drop (j + 1))) := ⟨by rw [HSTEP.out, hcx]; simp [orI]⟩
              rw [hcx]
              clear hcx
              go_wp2_with fail
              exact ⟨⟨j + 1, by go_num, hlt1, hlt2, HN.out, H2.out⟩, by simp [intOf]; omega⟩
            · have hb2 : (cmpF d x y != 0) = true := by simpa using hcx
              have HR : Hold (cmpF (d + 1) (.mk 6 n t nm it) (.mk 6 m u nu ju) = cmpF d x y) := ⟨by rw [HR0.out, HSTEP.out]; simp [orI, hcx]⟩
              clear hcx
              go_wp2_with fail
              go_ret
              exact ⟨by rw [HR.out]; rfl, H2.out.bel⟩
          · have hb2 : (cmpS s r != 0) = true := by simpa using hcs
            have HR : Hold (cmpF (d + 1) (.mk 6 n t nm it) (.mk 6 m u nu ju) = cmpS s r) := ⟨by rw [HR0.out, HSTEP.out]; simp [orI, hcs]⟩
            clear hcs
            go_wp2_with fail
            go_ret
            exact ⟨by rw [HR.out]; rfl, H2.out.bel⟩
        · have HR := Hold.mk (HFIN.out (fun h => absurd h.2 hlt2))
          go_wp2_with fail
          refine (lengths_any _ _ _).mono ?_
          rintro e w3 ⟨rfl, hw3⟩
          subst hw3
          go_wp2_with fail
          go_ret
          exact ⟨by rw [HR.out]; rfl, H2.out.bel⟩
      · have HR := Hold.mk (HFIN.out (fun h => absurd h.1 hlt1))
        go_wp2_with fail
        refine (lengths_any _ _ _).mono ?_
        rintro e w3 ⟨rfl, hw3⟩
        subst hw3
        go_wp2_with fail
        go_ret
        exact ⟨by rw [HR.out]; rfl, H2.out.bel⟩

theorem plain_any : ∀ d, PlainAt d
  | 0 => fun a b x y w hf => by simp [formedF] at hf
  | d + 1 => fun a b x y w hfa hfb hx hy => by
    obtain ⟨k, n, t, nm, it, na, ncap, ia, icap, rfl, rfl, _, _, ht, hst, hit⟩ := hx.open
    obtain ⟨q, m, u, nu, ju, ma, mcap, ja, jcap, rfl, rfl, _, _, hu, hsu, hju⟩ := hy.open
    by_cases hleaf : k ≠ q ∨ k < 5
    · exact plain_leaf d k n t nm it q m u nu ju _ _ _ _ w ht hu hfa hfb hleaf
    · obtain rfl : k = q := by omega
      have h6 := (formed_head hfa).2.1
      exact plain_body d (plain_any d) k n (by omega) t nm it m u nu ju na ncap ia icap ma mcap ja jcap w hst hit hsu hju hfa hfb

end Go.Proofs.YtkhhbckpddkhlaaGreatDoor
