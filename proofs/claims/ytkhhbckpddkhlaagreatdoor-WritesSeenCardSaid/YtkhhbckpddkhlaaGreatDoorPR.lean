/- The reference's digits and quoted texts. The reference's text of a value, and its Print. -/
import Derived.Test.YtkhhbckpddkhlaaGreatDoorJD
import Derived.Test.YtkhhbckpddkhlaaGreatDoorJK
import Derived.BigQuiet
import Derived.Deep.QuietTactic
import Derived.Test.YtkhhbckpddkhlaaGreatDoorJL
namespace Go.Proofs.YtkhhbckpddkhlaaGreatDoor
open Go.RowKit

theorem itoa_one {n : Int} (h0 : 0 ≤ n) (h1 : n < 10) : Lib.itoa n = [(48 + n.toNat).toUInt8] := by
  unfold Lib.itoa
  rw [if_neg (by omega), Lib.decDigits, dif_pos (by omega)]
theorem itoa_minus {n : Int} (h0 : n < 0) : Lib.itoa n = 45 :: Lib.itoa (-n) := by
  unfold Lib.itoa
  rw [if_pos h0, if_neg (by omega), show n.natAbs = (-n).toNat by omega]
theorem run_one (k : Nat) (hk : k < 256) (w : World) : (convert 148 9 (.slice (some ⟨w.heap.size, 0, none⟩) 1 1)).run Tryz.prog (w.alloc (.cells #[.int .u8 (k : Int)] 5)) = .ok (.string (ba [k.toUInt8])) (w.alloc (.cells #[.int .u8 (k : Int)] 5)) := by
  refine run_convert_bytes_back _ 148 9 5 ⟨w.heap.size, 0, none⟩ 1 [k.toUInt8] Tryz.underlying148 Tryz.underlying5 Tryz.underlying9 ?_
  intro j hj
  obtain rfl : j = 0 := by simp at hj; omega
  simp [Addr.add, Nat.toUInt8, Nat.mod_eq_of_lt hk]

set_option maxHeartbeats 4000000 in
set_option maxRecDepth 100000 in
theorem rDigits_small (n : Nat) (w : World) (h : n < 10) :
    Calls Tryz.prog 208 #[.int .i64 (n : Int)] w fun e w' => e = .returned (.string (ba (Lib.itoa (n : Int)))) ∧ Below w.heap.size w w' := by
  have HI := Hold.mk (itoa_one (n := (n : Int)) (by omega) (by omega))
  have hc := run_one (48 + n) (by omega) w
  rw [show ((48 + n : Nat) : Int) = 48 + (n : Int) by omega] at hc
  rw [show (48 + (n : Int).toNat).toUInt8 = (48 + n).toUInt8 by rw [Int.toNat_natCast]] at HI
  generalize (48 + n).toUInt8 = u at hc HI
  go_enter Tryz.func208, Tryz.ntmps208
  go_wp2_with fail
  go_ret
  exact ⟨ret_str (by rw [HI.out]), (Below.refl _ _).alloc (Nat.le_refl _) _⟩

theorem rDigits_zero (w : World) :
    Calls Tryz.prog 208 #[.int .i64 0] w fun e w' => e = .returned (.string (ba (Lib.itoa 0))) ∧ Below w.heap.size w w' := rDigits_small 0 w (by omega)

set_option maxHeartbeats 4000000 in
set_option maxRecDepth 100000 in
theorem rDigits_minus (n : Nat) (w : World) (h0 : 0 < n) (h : n < 10) :
    Calls Tryz.prog 208 #[.int .i64 (-(n : Int))] w fun e w' => e = .returned (.string (ba (Lib.itoa (-(n : Int))))) ∧ Below w.heap.size w w' := by
  have HI := Hold.mk (itoa_minus (n := -(n : Int)) (by omega))
  rw [Int.neg_neg] at HI
  have h1 : -(n : Int) < 0 := by omega
  have h2 : -10 < -(n : Int) := by omega
  have h3 : ¬ 0 ≤ -(n : Int) := by omega
  have hz := itoa_size (n := (n : Int)) (by omega) (by omega)
  go_enter Tryz.func208, Tryz.ntmps208
  go_wp2_with fail
  refine (rDigits_small n _ h).mono ?_
  rintro e w1 ⟨rfl, hb⟩
  have HB := Hold.mk hb
  clear hb
  go_wp2_with fail
  go_ret
  exact ⟨ret_str (by rw [HI.out, app_ba]; rfl), HB.out⟩

theorem itoa_up (u : Nat) (h : 10 ≤ u) : Lib.itoa (u : Int) = Lib.itoa ((u / 10 : Nat) : Int) ++ Lib.itoa ((u % 10 : Nat) : Int) := by
  rw [itoa_one (n := ((u % 10 : Nat) : Int)) (by omega) (by omega), Lib.itoa_nonneg, Lib.itoa_nonneg, Lib.decDigits, dif_neg (by omega)]
  rfl
theorem itoa_down (u : Nat) (h : 10 ≤ u) : Lib.itoa (-(u : Int)) = Lib.itoa (-((u / 10 : Nat) : Int)) ++ Lib.itoa ((u % 10 : Nat) : Int) := by
  rw [itoa_one (n := ((u % 10 : Nat) : Int)) (by omega) (by omega), Lib.itoa_neg u (by omega), Lib.itoa_neg (u / 10) (by omega), Lib.decDigits, dif_neg (by omega)]
  rfl

set_option maxHeartbeats 4000000 in
set_option maxRecDepth 100000 in
theorem rDigits_up (u : Nat) : ∀ (w : World), u ≤ 9223372036854775807 →
    Calls Tryz.prog 208 #[.int .i64 (u : Int)] w fun e w' => e = .returned (.string (ba (Lib.itoa (u : Int)))) ∧ Below w.heap.size w w' := by
  induction u using Nat.strongRecOn with
  | ind u ih =>
    intro w h1
    by_cases ha : u < 10
    · exact rDigits_small u w ha
    have IH := Hold.mk (fun w => ih (u / 10) (by omega) w (by omega))
    clear ih
    have HI := Hold.mk (itoa_up u (by omega))
    have e1 : (u : Int) / 10 = ((u / 10 : Nat) : Int) := by omega
    have e2 : (u : Int).tmod 10 = ((u % 10 : Nat) : Int) := by rw [Int.tmod_eq_emod_of_nonneg (by omega)]; omega
    have hr : u % 10 < 10 := by omega
    have hq : u / 10 ≤ 922337203685477580 := by omega
    have h3 : ¬ (u : Int) < 10 := by omega
    have h4 : ¬ (u : Int) < 0 := by omega
    generalize u / 10 = q at *
    generalize u % 10 = r at *
    have h5 : ¬ (r : Int) < 0 := by omega
    have hz := itoa_size (n := (q : Int)) (by omega) (by omega)
    have hz2 := itoa_size (n := (r : Int)) (by omega) (by omega)
    go_enter Tryz.func208, Tryz.ntmps208
    go_wp2_with fail
    refine (IH.out _).mono ?_
    rintro e w1 ⟨rfl, hb⟩
    have HB := Hold.mk hb
    clear hb
    go_wp2_with fail
    refine (rDigits_small r _ hr).mono ?_
    rintro e w2 ⟨rfl, hb⟩
    have HB2 := Hold.mk (HB.out.trans (hb.mono HB.out.size))
    clear hb
    go_wp2_with fail
    go_ret
    exact ⟨ret_str (by rw [HI.out, ba_add]), HB2.out⟩

set_option maxHeartbeats 4000000 in
set_option maxRecDepth 100000 in
theorem rDigits_down (u : Nat) : ∀ (w : World), 0 < u → u ≤ 9223372036854775808 →
    Calls Tryz.prog 208 #[.int .i64 (-(u : Int))] w fun e w' => e = .returned (.string (ba (Lib.itoa (-(u : Int))))) ∧ Below w.heap.size w w' := by
  induction u using Nat.strongRecOn with
  | ind u ih =>
    intro w h0 h1
    by_cases ha : u < 10
    · exact rDigits_minus u w h0 ha
    have IH := Hold.mk (fun w => ih (u / 10) (by omega) w (by omega) (by omega))
    clear ih
    have HI := Hold.mk (itoa_down u (by omega))
    have e1 : (-(u : Int)).tdiv 10 = -((u / 10 : Nat) : Int) := by rw [Int.neg_tdiv, Int.tdiv_eq_ediv_of_nonneg (by omega)]; omega
    have e2 : (-(u : Int)).tmod 10 = -((u % 10 : Nat) : Int) := by rw [Int.neg_tmod, Int.tmod_eq_emod_of_nonneg (by omega)]; omega
    have hr : u % 10 < 10 := by omega
    have h3 : ¬ 0 ≤ -(u : Int) := by omega
    have h4 : ¬ -10 < -(u : Int) := by omega
    have h6 : -(u : Int) < 0 := by omega
    have h7 : -9223372036854775808 ≤ -(u : Int) := by omega
    have hq : u / 10 ≤ 922337203685477580 := by omega
    generalize u / 10 = q at *
    generalize u % 10 = r at *
    have hz := itoa_size (n := -(q : Int)) (by omega) (by omega)
    have hz2 := itoa_size (n := (r : Int)) (by omega) (by omega)
    by_cases hr0 : r = 0
    · subst hr0
      have e3 : (-(u : Int)).tmod 10 = 0 := by rw [e2]; rfl
      have hz3 := itoa_size (n := 0) (by omega) (by omega)
      clear e2 hz2
      go_enter Tryz.func208, Tryz.ntmps208
      go_wp2_with fail
      refine (IH.out _).mono ?_
      rintro e w1 ⟨rfl, hb⟩
      have HB := Hold.mk hb
      clear hb
      go_wp2_with fail
      refine (rDigits_zero _).mono ?_
      rintro e w2 ⟨rfl, hb⟩
      have HB2 := Hold.mk (HB.out.trans (hb.mono HB.out.size))
      clear hb
      go_wp2_with fail
      go_ret
      exact ⟨ret_str (by rw [HI.out, ba_add]; rfl), HB2.out⟩
    · have h8 : -(r : Int) < 0 := by omega
      go_enter Tryz.func208, Tryz.ntmps208
      go_wp2_with fail
      refine (IH.out _).mono ?_
      rintro e w1 ⟨rfl, hb⟩
      have HB := Hold.mk hb
      clear hb
      go_wp2_with fail
      refine (rDigits_small r _ hr).mono ?_
      rintro e w2 ⟨rfl, hb⟩
      have HB2 := Hold.mk (HB.out.trans (hb.mono HB.out.size))
      clear hb
      go_wp2_with fail
      go_ret
      exact ⟨ret_str (by rw [HI.out, ba_add]), HB2.out⟩

theorem rDigits_any (n : Int) (w : World) (hn : (Lit.int .i64 n).wf = true) :
    Calls Tryz.prog 208 #[.int .i64 n] w fun e w' => e = .returned (.string (ba (Lib.itoa n))) ∧ Below w.heap.size w w' := by
  have h := wf_i64 hn
  by_cases h0 : 0 ≤ n
  · obtain ⟨u, rfl⟩ : ∃ u : Nat, n = u := ⟨n.toNat, by omega⟩
    exact rDigits_up u w (by omega)
  · obtain ⟨u, rfl⟩ : ∃ u : Nat, n = -(u : Int) := ⟨n.natAbs, by omega⟩
    exact rDigits_down u w (by omega) (by omega)

theorem one_cut {s : ByteArray} {j : Nat} (h : j < s.size) : s.extract j (j + 1) = ⟨#[s[j]]⟩ := by
  apply ByteArray.ext
  apply Array.ext
  · rw [ByteArray.data_extract]; simp; have : s.data.size = s.size := rfl; omega
  · intro i h1 h2
    obtain rfl : i = 0 := by simp at h2; omega
    simp [ByteArray.data_extract]
    rfl

theorem quoted_up {s : ByteArray} {j : Nat} (hj : j < s.size) {c : UInt8} (hc : s[j] = c) : 34 :: (s.data.toList.take (j + 1)).flatMap escF = (34 :: (s.data.toList.take j).flatMap escF) ++ escF c := by
  have e : s.data.toList[j]? = some c := by
    rw [← hc, Array.getElem?_toList]
    exact Array.getElem?_eq_getElem hj
  rw [take_succ e]
  simp
theorem so_far {s : ByteArray} {j : Nat} (hs : s.size ≤ 1000000000) : (ba (34 :: (s.data.toList.take j).flatMap escF)).size ≤ 7000000000 := by
  have h1 := @flatMap_len (s.data.toList.take j)
  have h2 : (s.data.toList.take j).length ≤ s.data.toList.length := List.length_take_le' _ _
  rw [size_list] at h2
  rw [ba_size, List.length_cons]
  omega

set_option maxRecDepth 100000 in
set_option maxHeartbeats 4000000 in
theorem rQuoted_any (s : ByteArray) (w : World) (hs : s.size ≤ 1000000000) :
    Calls Tryz.prog 209 #[.string s] w fun e w' => e = .returned (.string (ba (quotedF s.data.toList))) ∧ Below w.heap.size w w' := by
  have h34 : (⟨#[34]⟩ : ByteArray) = ba [34] := rfl
  go_enter Tryz.func209, Tryz.ntmps209
  go_wp2_with fail
  clear h34
  go_loopw [3, 4] (fun o i wr => ∃ j : Nat, i = .int .i64 j ∧ j ≤ s.size ∧ o = .string (ba (34 :: (s.data.toList.take j).flatMap escF)) ∧ Below w.heap.size w wr) (fun _ i _ => s.size - (intOf i).toNat)
  case atStart => exact ⟨0, rfl, Nat.zero_le _, by simp [ba], Below.refl _ _⟩
  case round =>
    obtain ⟨j, rfl, hj, rfl, hbl⟩ := hrel
    have HB := Hold.mk hbl
    have hz := @so_far s j hs
    clear hbl
    by_cases hjl : j < s.size
    · obtain ⟨c, hc⟩ : ∃ c, s[j]'hjl = c := ⟨_, rfl⟩
      have HUP := Hold.mk (quoted_up hjl hc)
      generalize 34 :: (s.data.toList.take j).flatMap escF = l1 at *
      by_cases h34 : c = 34
      · subst h34
        go_wp2_with fail
        exact ⟨⟨j + 1, by go_num, hjl, by rw [HUP.out, ba_app]; rfl, HB.out⟩, by simp [intOf]; omega⟩
      by_cases h92 : c = 92
      · subst h92
        go_wp2_with fail
        exact ⟨⟨j + 1, by go_num, hjl, by rw [HUP.out, ba_app]; rfl, HB.out⟩, by simp [intOf]; omega⟩
      by_cases h8 : c = 8
      · subst h8
        go_wp2_with fail
        exact ⟨⟨j + 1, by go_num, hjl, by rw [HUP.out, ba_app]; rfl, HB.out⟩, by simp [intOf]; omega⟩
      by_cases h9 : c = 9
      · subst h9
        go_wp2_with fail
        exact ⟨⟨j + 1, by go_num, hjl, by rw [HUP.out, ba_app]; rfl, HB.out⟩, by simp [intOf]; omega⟩
      by_cases h10 : c = 10
      · subst h10
        go_wp2_with fail
        exact ⟨⟨j + 1, by go_num, hjl, by rw [HUP.out, ba_app]; rfl, HB.out⟩, by simp [intOf]; omega⟩
      by_cases h12 : c = 12
      · subst h12
        go_wp2_with fail
        exact ⟨⟨j + 1, by go_num, hjl, by rw [HUP.out, ba_app]; rfl, HB.out⟩, by simp [intOf]; omega⟩
      by_cases h13 : c = 13
      · subst h13
        go_wp2_with fail
        exact ⟨⟨j + 1, by go_num, hjl, by rw [HUP.out, ba_app]; rfl, HB.out⟩, by simp [intOf]; omega⟩
      have HF := Hold.mk (escF_else h34 h92 h8 h9 h10 h12 h13)
      have b34 : ((c.toNat : Int) == 34) = false := byte_ne h34
      have b92 : ((c.toNat : Int) == 92) = false := byte_ne h92
      have b8 : ((c.toNat : Int) == 8) = false := byte_ne h8
      have b9 : ((c.toNat : Int) == 9) = false := byte_ne h9
      have b10 : ((c.toNat : Int) == 10) = false := byte_ne h10
      have b12 : ((c.toNat : Int) == 12) = false := byte_ne h12
      have b13 : ((c.toNat : Int) == 13) = false := byte_ne h13
      clear h34 h92 h8 h9 h10 h12 h13
      by_cases h32 : c.toNat < 32
      · have hc1 : (c.toNat : Int) < 32 := by omega
        replace HF := Hold.mk (HF.out.trans (if_pos h32))
        have e1 := wrap_div c
        have e2 := tmod_byte c
        have hq : c.toNat / 16 < 16 := by omega
        have hr : c.toNat % 16 < 16 := by omega
        have hlow := low_data (c.toNat / 16) (c.toNat % 16)
        generalize c.toNat / 16 = q at *
        generalize c.toNat % 16 = r at *
        have e3 := wrap_add q (by omega)
        have e4 := wrap_add r (by omega)
        have s1 := run_hex hq
        have s2 := run_hex hr
        have HLOW := Hold.mk hlow
        clear hlow
        go_wp2_with fail
        go_quiet (fail)
        go_wp2_with fail
        exact ⟨⟨j + 1, by go_num, hjl, by rw [HUP.out, HF.out, ← HLOW.out]; exact congrArg Value.string (ba_of (by simp [ByteArray.data_append, ba_list])), ⟨HB.out.os, HB.out.tape, HB.out.output, HB.out.size, HB.out.block⟩⟩, by simp [intOf]; omega⟩
      · have hc1 : ¬ (c.toNat : Int) < 32 := by omega
        replace HF := Hold.mk (HF.out.trans (if_neg h32))
        have e1 := one_cut hjl
        rw [hc] at e1
        go_wp2_with fail
        exact ⟨⟨j + 1, by go_num, hjl, by rw [HUP.out, HF.out, ba_app], HB.out⟩, by simp [intOf]; omega⟩
    · have e : s.data.toList.take j = s.data.toList := List.take_of_length_le (by rw [size_list]; omega)
      rw [e] at hz ⊢
      clear e
      have HQ : Hold (quotedF s.data.toList = (34 :: s.data.toList.flatMap escF) ++ [34]) := ⟨by simp [quotedF]⟩
      generalize 34 :: s.data.toList.flatMap escF = l1 at *
      go_wp2_with fail
      go_ret
      exact ⟨ret_str (by rw [HQ.out, ba_app]), HB.out⟩

end Go.Proofs.YtkhhbckpddkhlaaGreatDoor

namespace Go.Proofs.YtkhhbckpddkhlaaGreatDoor
open Go.RowKit

/-- what show of the reference is known to answer, going down d -/
def ShowAt (d : Nat) : Prop := ∀ (v : JV) (x : Value) (w : World), formedF d v = true → JAt (cf w) v x →
  Calls Tryz.prog 177 #[x] w fun e w' => e = .returned (.string (ba (showF d v))) ∧ Below w.heap.size w w'

/-- a bound that nothing passes: of depth 6 -/
theorem lenB_le : ∀ d : Nat, d ≤ 6 → lenB d ≤ 100000000000
  | 0, _ => by decide
  | 1, _ => by decide
  | 2, _ => by decide
  | 3, _ => by decide
  | 4, _ => by decide
  | 5, _ => by decide
  | 6, _ => by decide
  | n + 7, h => by omega
theorem show_size {d : Nat} (hd : d ≤ 6) {v : JV} {c : CF} {x : Value} (hv : JAt c v x) (hf : formedF d v = true) : (ba (showF d v)).size ≤ 100000000000 := by
  rw [ba_size]; exact Nat.le_trans (showF_len d v c x hv hf) (lenB_le d hd)
theorem part_size {d : Nat} (hd : d ≤ 6) {c : CF} {iv : Value} {nm : List ByteArray} {it : List JV} {k : Int} (hit : ItemsAt c iv it) (hn : ∀ s ∈ nm, textF s = true) (hf : ∀ x ∈ it, formedF d x = true) (h24 : it.length ≤ 24) {j : Nat} (hj : j ≤ it.length) :
    (ba (partF (showF d) k nm it j)).size ≤ 3000000000000 := by
  rw [ba_size]
  refine Nat.le_trans (partF_len (L := 100000000000) hn (fun x hx => ?_) j) ?_
  · obtain ⟨y, hy⟩ := JAt.item hit hx
    exact Nat.le_trans (showF_len d x c y hy (hf x hx)) (lenB_le d hd)
  · refine Nat.le_trans (Nat.mul_le_mul_right _ (Nat.le_trans hj h24)) (by decide)
theorem quoted_size {s : ByteArray} (h : s.size ≤ 60) : (ba (quotedF s.data.toList)).size ≤ 400 := by
  have := @quotedF_len s
  rw [ba_size]; omega

set_option maxRecDepth 100000 in
set_option maxHeartbeats 4000000 in
theorem show_leaf (k n : Int) (hk : k = 0 ∨ k = 1 ∨ k = 2 ∨ k = 3 ∨ k = 4) (t : ByteArray) (nv iv : Value) (d : Nat) (nm : List ByteArray) (it : List JV) (w : World) (hn : (Lit.int .i64 n).wf = true) (ht : t.size ≤ 60) :
    Calls Tryz.prog 177 #[.agg #[.int .i64 k, .int .i64 n, .string t, nv, iv]] w fun e w' => e = .returned (.string (ba (showF (d + 1) (.mk k n t nm it)))) ∧ Below w.heap.size w w' := by
  have HD := Hold.mk (fun w => rDigits_any n w hn)
  have HQ := Hold.mk (fun w => rQuoted_any t w (by omega))
  clear hn
  rcases hk with rfl | rfl | rfl | rfl | rfl
  · go_enter Tryz.func177, Tryz.ntmps177
    go_wp2_with fail
    go_ret
    exact ⟨rfl, (Below.refl _ _).alloc (Nat.le_refl _) _⟩
  · go_enter Tryz.func177, Tryz.ntmps177
    go_wp2_with fail
    go_ret
    exact ⟨rfl, (Below.refl _ _).alloc (Nat.le_refl _) _⟩
  · go_enter Tryz.func177, Tryz.ntmps177
    go_wp2_with fail
    go_ret
    exact ⟨rfl, (Below.refl _ _).alloc (Nat.le_refl _) _⟩
  · go_enter Tryz.func177, Tryz.ntmps177
    go_wp2_with fail
    refine (HD.out _).mono ?_
    rintro e w1 ⟨rfl, hb⟩
    have HB := Hold.mk (((Below.refl _ w).alloc (Nat.le_refl _) _).trans (hb.mono (by simp)))
    clear hb
    go_wp2_with fail
    go_ret
    exact ⟨rfl, HB.out⟩
  · go_enter Tryz.func177, Tryz.ntmps177
    go_wp2_with fail
    refine (HQ.out _).mono ?_
    rintro e w1 ⟨rfl, hb⟩
    have HB := Hold.mk (((Below.refl _ w).alloc (Nat.le_refl _) _).trans (hb.mono (by simp)))
    clear hb
    go_wp2_with fail
    go_ret
    exact ⟨rfl, HB.out⟩

set_option maxRecDepth 100000 in
set_option maxHeartbeats 8000000 in
theorem show_array (d : Nat) (hd : d ≤ 6) (IH : ShowAt d) (n : Int) (t : ByteArray) (nm : List ByteArray) (it : List JV) (na : Option Addr) (ncap : Nat) (ia : Option Addr) (icap : Nat) (w : World)
    (h24 : it.length ≤ 24) (hnm : ∀ s ∈ nm, textF s = true) (hfi : ∀ x ∈ it, formedF d x = true) (hit : ItemsAt (cf w) (.slice ia it.length icap) it) :
    Calls Tryz.prog 177 #[.agg #[.int .i64 5, .int .i64 n, .string t, .slice na nm.length ncap, .slice ia it.length icap]] w fun e w' => e = .returned (.string (ba ([91] ++ partF (showF d) 5 nm it it.length ++ [93]))) ∧ Below w.heap.size w w' := by
  have HPS := Hold.mk (fun j hj => part_size (k := 5) (j := j) hd hit hnm hfi h24 hj)
  obtain ⟨ia', icap', e, hlen, hel⟩ := hit
  cases e
  have HE := Hold.mk hel
  have HIH := Hold.mk IH
  have HFI := Hold.mk hfi
  have HNM := Hold.mk hnm
  have HD := Hold.mk hd
  clear hel IH hfi hnm hd
  go_enter Tryz.func177, Tryz.ntmps177
  go_wp2_with fail
  go_loopw [3, 4] (fun o i wr => ∃ j : Nat, i = .int .i64 j ∧ j ≤ it.length ∧ o = .string (ba (partF (showF d) 5 nm it j)) ∧ Boxed w wr _) (fun _ i _ => it.length - (intOf i).toNat)
  case atStart => exact ⟨0, rfl, Nat.zero_le _, rfl, Boxed.refl _ _⟩
  case round =>
    obtain ⟨j, rfl, hj, rfl, hbx⟩ := hrel
    have y0 := hbx.c0
    have y3 := hbx.c3
    have y4 := hbx.c4
    have HB := Hold.mk hbx
    have hz := HPS.out j hj
    clear hbx
    by_cases hlt : j < it.length
    · obtain ⟨x, hx⟩ : ∃ x, it[j]? = some x := ⟨it[j], List.getElem?_eq_getElem hlt⟩
      obtain ⟨bb, off, k2, n2, t2, nm2, it2, na2, ncap2, ia2, icap2, rfl, hxe, x0, x1, x2, x3, x4, hxj⟩ := HE.out j x hx
      have hcl := cle_below HB.out.below
      have z0 := hcl _ _ _ x0
      have z1 := hcl _ _ _ x1
      have z2 := hcl _ _ _ x2
      have z3 := hcl _ _ _ x3
      have z4 := hcl _ _ _ x4
      unfold cf at z0 z1 z2 z3 z4
      have HX := Hold.mk hxj
      have HFX := Hold.mk (HFI.out x (List.mem_of_getElem? hx))
      have hz2 := show_size HD.out hxj HFX.out
      have HST : Hold (partF (showF d) 5 nm it (j + 1) = partF (showF d) 5 nm it j ++ (headF 5 nm j ++ showF d x)) := ⟨by rw [partF, hx]; rfl⟩
      clear x0 x1 x2 x3 x4 hx hxe hxj hcl
      generalize partF (showF d) 5 nm it j = l1 at *
      by_cases hj0 : j = 0
      · have hj1 : ¬ 0 < j := by omega
        have HH : Hold (headF 5 nm j = []) := ⟨by simp [headF, hj0]⟩
        clear hj0
        go_wp2_with fail
        refine (HIH.out x _ _ HFX.out (HX.out.mono (cle_below HB.out.below))).mono ?_
        rintro e w3 ⟨rfl, hb3⟩
        replace HB := Hold.mk (HB.out.next hb3)
        clear hb3 y0 y3 y4 z0 z1 z2 z3 z4
        go_wp2_with fail
        exact ⟨⟨j + 1, by go_num, hlt, by rw [HST.out, HH.out]; exact congrArg Value.string (ba_of (by simp [ByteArray.data_append, ba_list])), HB.out⟩, by simp [intOf]; omega⟩
      · have hj1 : 0 < j := by omega
        have HH : Hold (headF 5 nm j = [44]) := ⟨by simp [headF, hj0]⟩
        clear hj0
        go_wp2_with fail
        refine (HIH.out x _ _ HFX.out (HX.out.mono (cle_below HB.out.below))).mono ?_
        rintro e w3 ⟨rfl, hb3⟩
        replace HB := Hold.mk (HB.out.next hb3)
        clear hb3 y0 y3 y4 z0 z1 z2 z3 z4
        go_wp2_with fail
        exact ⟨⟨j + 1, by go_num, hlt, by rw [HST.out, HH.out]; exact congrArg Value.string (ba_of (by simp [ByteArray.data_append, ba_list])), HB.out⟩, by simp [intOf]; omega⟩
    · have ej : j = it.length := by omega
      have HJ := Hold.mk ej
      clear ej
      go_wp2_with fail
      go_ret
      exact ⟨ret_str (by rw [HJ.out]; exact ba_of (by simp [ByteArray.data_append, ba_list])), HB.out.below⟩

set_option maxRecDepth 100000 in
set_option maxHeartbeats 8000000 in
theorem show_object (d : Nat) (hd : d ≤ 6) (IH : ShowAt d) (n : Int) (t : ByteArray) (nm : List ByteArray) (it : List JV) (na : Option Addr) (ncap : Nat) (ia : Option Addr) (icap : Nat) (w : World)
    (h24 : it.length ≤ 24) (hnl : nm.length = it.length) (hnm : ∀ s ∈ nm, textF s = true) (hfi : ∀ x ∈ it, formedF d x = true) (hst : StrsAt (cf w) (.slice na nm.length ncap) nm) (hit : ItemsAt (cf w) (.slice ia it.length icap) it) :
    Calls Tryz.prog 177 #[.agg #[.int .i64 6, .int .i64 n, .string t, .slice na nm.length ncap, .slice ia it.length icap]] w fun e w' => e = .returned (.string (ba ([123] ++ partF (showF d) 6 nm it it.length ++ [125]))) ∧ Below w.heap.size w w' := by
  have HPS := Hold.mk (fun j hj => part_size (k := 6) (j := j) hd hit hnm hfi h24 hj)
  obtain ⟨ia', icap', e, hlen, hel⟩ := hit
  cases e
  obtain ⟨na', ncap', e, hnlen, hnel⟩ := hst
  cases e
  have HS := Hold.mk hnel
  have HNL := Hold.mk hnl
  clear hnel hnl
  have HE := Hold.mk hel
  have HIH := Hold.mk IH
  have HFI := Hold.mk hfi
  have HNM := Hold.mk hnm
  have HD := Hold.mk hd
  clear hel IH hfi hnm hd
  go_enter Tryz.func177, Tryz.ntmps177
  go_wp2_with fail
  go_loopw [3, 4] (fun o i wr => ∃ j : Nat, i = .int .i64 j ∧ j ≤ it.length ∧ o = .string (ba (partF (showF d) 6 nm it j)) ∧ Boxed w wr _) (fun _ i _ => it.length - (intOf i).toNat)
  case atStart => exact ⟨0, rfl, Nat.zero_le _, rfl, Boxed.refl _ _⟩
  case round =>
    obtain ⟨j, rfl, hj, rfl, hbx⟩ := hrel
    have y0 := hbx.c0
    have y3 := hbx.c3
    have y4 := hbx.c4
    have HB := Hold.mk hbx
    have hz := HPS.out j hj
    clear hbx
    by_cases hlt : j < it.length
    · obtain ⟨x, hx⟩ : ∃ x, it[j]? = some x := ⟨it[j], List.getElem?_eq_getElem hlt⟩
      obtain ⟨bb, off, k2, n2, t2, nm2, it2, na2, ncap2, ia2, icap2, rfl, hxe, x0, x1, x2, x3, x4, hxj⟩ := HE.out j x hx
      obtain ⟨s, hs⟩ : ∃ s, nm[j]? = some s := ⟨nm[j]'(by rw [HNL.out]; exact hlt), List.getElem?_eq_getElem (by rw [HNL.out]; exact hlt)⟩
      have hsj : j < nm.length := by rw [HNL.out]; exact hlt
      obtain ⟨_, sb, so, rfl, hsc⟩ := HS.out j s hs
      have hq := quoted_size (text_size (HNM.out s (List.mem_of_getElem? hs)))
      have HQ := Hold.mk (fun w => rQuoted_any s w (Nat.le_trans (text_size (HNM.out s (List.mem_of_getElem? hs))) (by decide)))
      have hcl := cle_below HB.out.below
      have z0 := hcl _ _ _ x0
      have z1 := hcl _ _ _ x1
      have z2 := hcl _ _ _ x2
      have z3 := hcl _ _ _ x3
      have z4 := hcl _ _ _ x4
      have z5 := hcl _ _ _ hsc
      unfold cf at z0 z1 z2 z3 z4 z5
      have HX := Hold.mk hxj
      have HFX := Hold.mk (HFI.out x (List.mem_of_getElem? hx))
      have hz2 := show_size HD.out hxj HFX.out
      have HST : Hold (partF (showF d) 6 nm it (j + 1) = partF (showF d) 6 nm it j ++ (headF 6 nm j ++ showF d x)) := ⟨by rw [partF, hx]; rfl⟩
      have HSX := Hold.mk hs
      have HX0 := Hold.mk x0
      have HX1 := Hold.mk x1
      have HX2 := Hold.mk x2
      have HX3 := Hold.mk x3
      have HX4 := Hold.mk x4
      clear x0 x1 x2 x3 x4 hx hxe hxj hcl hsc hs
      generalize partF (showF d) 6 nm it j = l1 at *
      by_cases hj0 : j = 0
      · have hj1 : ¬ 0 < j := by omega
        have HH : Hold (headF 6 nm j = quotedF s.data.toList ++ [58]) := ⟨by unfold headF; rw [if_pos hj0, if_pos rfl, List.getD_eq_getElem?_getD, HSX.out]; rfl⟩
        clear hj0
        go_wp2_with fail
        refine (HQ.out _).mono ?_
        rintro e w2 ⟨rfl, hb2⟩
        replace HB := Hold.mk (HB.out.next hb2)
        clear y0 y3 y4 z0 z1 z2 z3 z4 z5 hb2
        have y0 := HB.out.c0
        have y3 := HB.out.c3
        have y4 := HB.out.c4
        have hcl := cle_below HB.out.below
        have z0 := hcl _ _ _ HX0.out
        have z1 := hcl _ _ _ HX1.out
        have z2 := hcl _ _ _ HX2.out
        have z3 := hcl _ _ _ HX3.out
        have z4 := hcl _ _ _ HX4.out
        unfold cf at z0 z1 z2 z3 z4
        clear hcl
        go_wp2_with fail
        refine (HIH.out x _ _ HFX.out (HX.out.mono (cle_below HB.out.below))).mono ?_
        rintro e w3 ⟨rfl, hb3⟩
        replace HB := Hold.mk (HB.out.next hb3)
        clear hb3 y0 y3 y4 z0 z1 z2 z3 z4
        go_wp2_with fail
        exact ⟨⟨j + 1, by go_num, hlt, by rw [HST.out, HH.out]; exact congrArg Value.string (ba_of (by simp [ByteArray.data_append, ba_list])), HB.out⟩, by simp [intOf]; omega⟩
      · have hj1 : 0 < j := by omega
        have HH : Hold (headF 6 nm j = [44] ++ quotedF s.data.toList ++ [58]) := ⟨by unfold headF; rw [if_neg hj0, if_pos rfl, List.getD_eq_getElem?_getD, HSX.out]; rfl⟩
        clear hj0
        go_wp2_with fail
        refine (HQ.out _).mono ?_
        rintro e w2 ⟨rfl, hb2⟩
        replace HB := Hold.mk (HB.out.next hb2)
        clear y0 y3 y4 z0 z1 z2 z3 z4 z5 hb2
        have y0 := HB.out.c0
        have y3 := HB.out.c3
        have y4 := HB.out.c4
        have hcl := cle_below HB.out.below
        have z0 := hcl _ _ _ HX0.out
        have z1 := hcl _ _ _ HX1.out
        have z2 := hcl _ _ _ HX2.out
        have z3 := hcl _ _ _ HX3.out
        have z4 := hcl _ _ _ HX4.out
        unfold cf at z0 z1 z2 z3 z4
        clear hcl
        go_wp2_with fail
        refine (HIH.out x _ _ HFX.out (HX.out.mono (cle_below HB.out.below))).mono ?_
        rintro e w3 ⟨rfl, hb3⟩
        replace HB := Hold.mk (HB.out.next hb3)
        clear hb3 y0 y3 y4 z0 z1 z2 z3 z4
        go_wp2_with fail
        exact ⟨⟨j + 1, by go_num, hlt, by rw [HST.out, HH.out]; exact congrArg Value.string (ba_of (by simp [ByteArray.data_append, ba_list])), HB.out⟩, by simp [intOf]; omega⟩
    · have ej : j = it.length := by omega
      have HJ := Hold.mk ej
      clear ej
      go_wp2_with fail
      go_ret
      exact ⟨ret_str (by rw [HJ.out]; exact ba_of (by simp [ByteArray.data_append, ba_list])), HB.out.below⟩

theorem show_any : ∀ d, d ≤ 6 → ShowAt d
  | 0, _ => fun v x w hf => by simp [formedF] at hf
  | d + 1, hd => fun v x w hf hv => by
    have IH := show_any d (by omega)
    obtain ⟨k, n, t, nm, it, na, ncap, ia, icap, rfl, rfl, _, hn, _, hst, hit⟩ := hv.open
    have h1 := formed_head hf
    by_cases h5 : k = 5
    · subst h5
      obtain ⟨h24, _, hnm, hfi, _⟩ := formed_body hf (by decide)
      rw [showF, if_neg (by decide), if_neg (by decide), if_pos rfl]
      exact show_array d (by omega) IH n t nm it na ncap ia icap w h24 hnm hfi hit
    by_cases h6 : k = 6
    · subst h6
      obtain ⟨h24, hnl, hnm, hfi, _⟩ := formed_body hf (by decide)
      rw [showF, if_neg (by decide), if_neg (by decide), if_neg (by decide), if_pos rfl]
      exact show_object d (by omega) IH n t nm it na ncap ia icap w h24 (by simpa using hnl) hnm hfi hst hit
    have h0 := h1.1
    have h7 := h1.2.1
    exact show_leaf k n (by omega) t _ _ d nm it w hn (text_size h1.2.2.2.2)

end Go.Proofs.YtkhhbckpddkhlaaGreatDoor
