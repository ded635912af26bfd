/- The reference's digits and quoted texts. -/
import Derived.Test.YtdhilnnohokoeaaDoorJD
import Derived.Test.YtdhilnnohokoeaaDoorJK
import Derived.BigQuiet
import Derived.Deep.QuietTactic
namespace Go.Proofs.YtdhilnnohokoeaaDoor
open Go.RowKit

theorem itoa_one {n : Int} (h0 : 0 ≤ n) (h1 : n < 10) : Lib.itoa n = [(48 + n.toNat).toUInt8] := by
  unfold Lib.itoa
  rw [if_neg (by omega), Lib.decDigits, dif_pos (by omega)]
theorem itoa_minus {n : Int} (h0 : n < 0) : Lib.itoa n = 45 :: Lib.itoa (-n) := by
  unfold Lib.itoa
  rw [if_pos h0, if_neg (by omega), show n.natAbs = (-n).toNat by omega]
theorem run_one (k : Nat) (hk : k < 256) (w : World) : (convert 49 9 (.slice (some ⟨w.heap.size, 0, none⟩) 1 1)).run Tryd.prog (w.alloc (.cells #[.int .u8 (k : Int)] 5)) = .ok (.string (ba [k.toUInt8])) (w.alloc (.cells #[.int .u8 (k : Int)] 5)) := by
  refine run_convert_bytes_back _ 49 9 5 ⟨w.heap.size, 0, none⟩ 1 [k.toUInt8] Tryd.underlying49 Tryd.underlying5 Tryd.underlying9 ?_
  intro j hj
  obtain rfl : j = 0 := by simp at hj; omega
  simp [Addr.add, Nat.toUInt8, Nat.mod_eq_of_lt hk]

set_option maxHeartbeats 4000000 in
set_option maxRecDepth 100000 in
theorem rDigits_small (n : Nat) (w : World) (h : n < 10) :
    Calls Tryd.prog 12 #[.int .i64 (n : Int)] w fun e w' => e = .returned (.string (ba (Lib.itoa (n : Int)))) ∧ Below w.heap.size w w' := by
  have HI := Hold.mk (itoa_one (n := (n : Int)) (by omega) (by omega))
  have hc := run_one (48 + n) (by omega) w
  rw [show ((48 + n : Nat) : Int) = 48 + (n : Int) by omega] at hc
  rw [show (48 + (n : Int).toNat).toUInt8 = (48 + n).toUInt8 by rw [Int.toNat_natCast]] at HI
  generalize (48 + n).toUInt8 = u at hc HI
  go_enter Tryd.func12, Tryd.ntmps12
  go_wp2_with fail
  go_ret
  exact ⟨ret_str (by rw [HI.out]), (Below.refl _ _).alloc (Nat.le_refl _) _⟩

theorem rDigits_zero (w : World) :
    Calls Tryd.prog 12 #[.int .i64 0] w fun e w' => e = .returned (.string (ba (Lib.itoa 0))) ∧ Below w.heap.size w w' := rDigits_small 0 w (by omega)

set_option maxHeartbeats 4000000 in
set_option maxRecDepth 100000 in
theorem rDigits_minus (n : Nat) (w : World) (h0 : 0 < n) (h : n < 10) :
    Calls Tryd.prog 12 #[.int .i64 (-(n : Int))] w fun e w' => e = .returned (.string (ba (Lib.itoa (-(n : Int))))) ∧ Below w.heap.size w w' := by
  have HI := Hold.mk (itoa_minus (n := -(n : Int)) (by omega))
  rw [Int.neg_neg] at HI
  have h1 : -(n : Int) < 0 := by omega
  have h2 : -10 < -(n : Int) := by omega
  have h3 : ¬ 0 ≤ -(n : Int) := by omega
  have hz := itoa_size (n := (n : Int)) (by omega) (by omega)
  go_enter Tryd.func12, Tryd.ntmps12
  go_wp2_with fail
  refine (rDigits_small n _ h).mono ?_
  rintro e w1 ⟨rfl, hb⟩
  have HB := Hold.mk hb
  clear hb
  go_wp2_with fail
  go_ret
  exact ⟨ret_str (by rw [HI.out, app_ba]; rfl), HB.out⟩

theorem itoa_up (u : Nat) (h : 10 ≤ u) : Lib.itoa (u : Int) = Lib.itoa ((u / 10 : Nat) : Int) ++ Lib.itoa ((u % 10 : Nat) : Int) := by
  rw [itoa_one (n := ((u % 10 : Nat) : Int)) (by omega) (by omega), Lib.itoa_nonneg, Lib.itoa_nonneg, Lib.decDigits, dif_neg (by omega)]
  rfl
theorem itoa_down (u : Nat) (h : 10 ≤ u) : Lib.itoa (-(u : Int)) = Lib.itoa (-((u / 10 : Nat) : Int)) ++ Lib.itoa ((u % 10 : Nat) : Int) := by
  rw [itoa_one (n := ((u % 10 : Nat) : Int)) (by omega) (by omega), Lib.itoa_neg u (by omega), Lib.itoa_neg (u / 10) (by omega), Lib.decDigits, dif_neg (by omega)]
  rfl

set_option maxHeartbeats 4000000 in
set_option maxRecDepth 100000 in
theorem rDigits_up (u : Nat) : ∀ (w : World), u ≤ 9223372036854775807 →
    Calls Tryd.prog 12 #[.int .i64 (u : Int)] w fun e w' => e = .returned (.string (ba (Lib.itoa (u : Int)))) ∧ Below w.heap.size w w' := by
  induction u using Nat.strongRecOn with
  | ind u ih =>
    intro w h1
    by_cases ha : u < 10
    · exact rDigits_small u w ha
    have IH := Hold.mk (fun w => ih (u / 10) (by omega) w (by omega))
    clear ih
    have HI := Hold.mk (itoa_up u (by omega))
    have e1 : (u : Int) / 10 = ((u / 10 : Nat) : Int) := by omega
    have e2 : (u : Int).tmod 10 = ((u % 10 : Nat) : Int) := by rw [Int.tmod_eq_emod_of_nonneg (by omega)]; omega
    have hr : u % 10 < 10 := by omega
    have hq : u / 10 ≤ 922337203685477580 := by omega
    have h3 : ¬ (u : Int) < 10 := by omega
    have h4 : ¬ (u : Int) < 0 := by omega
    generalize u / 10 = q at *
    generalize u % 10 = r at *
    have h5 : ¬ (r : Int) < 0 := by omega
    have hz := itoa_size (n := (q : Int)) (by omega) (by omega)
    have hz2 := itoa_size (n := (r : Int)) (by omega) (by omega)
    go_enter Tryd.func12, Tryd.ntmps12
    go_wp2_with fail
    refine (IH.out _).mono ?_
    rintro e w1 ⟨rfl, hb⟩
    have HB := Hold.mk hb
    clear hb
    go_wp2_with fail
    refine (rDigits_small r _ hr).mono ?_
    rintro e w2 ⟨rfl, hb⟩
    have HB2 := Hold.mk (HB.out.trans (hb.mono HB.out.size))
    clear hb
    go_wp2_with fail
    go_ret
    exact ⟨ret_str (by rw [HI.out, ba_add]), HB2.out⟩

set_option maxHeartbeats 4000000 in
set_option maxRecDepth 100000 in
theorem rDigits_down (u : Nat) : ∀ (w : World), 0 < u → u ≤ 9223372036854775808 →
    Calls Tryd.prog 12 #[.int .i64 (-(u : Int))] w fun e w' => e = .returned (.string (ba (Lib.itoa (-(u : Int))))) ∧ Below w.heap.size w w' := by
  induction u using Nat.strongRecOn with
  | ind u ih =>
    intro w h0 h1
    by_cases ha : u < 10
    · exact rDigits_minus u w h0 ha
    have IH := Hold.mk (fun w => ih (u / 10) (by omega) w (by omega) (by omega))
    clear ih
    have HI := Hold.mk (itoa_down u (by omega))
    have e1 : (-(u : Int)).tdiv 10 = -((u / 10 : Nat) : Int) := by rw [Int.neg_tdiv, Int.tdiv_eq_ediv_of_nonneg (by omega)]; omega
    have e2 : (-(u : Int)).tmod 10 = -((u % 10 : Nat) : Int) := by rw [Int.neg_tmod, Int.tmod_eq_emod_of_nonneg (by omega)]; omega
    have hr : u % 10 < 10 := by omega
    have h3 : ¬ 0 ≤ -(u : Int) := by omega
    have h4 : ¬ -10 < -(u : Int) := by omega
    have h6 : -(u : Int) < 0 := by omega
    have h7 : -9223372036854775808 ≤ -(u : Int) := by omega
    have hq : u / 10 ≤ 922337203685477580 := by omega
    generalize u / 10 = q at *
    generalize u % 10 = r at *
    have hz := itoa_size (n := -(q : Int)) (by omega) (by omega)
    have hz2 := itoa_size (n := (r : Int)) (by omega) (by omega)
    by_cases hr0 : r = 0
    · subst hr0
      have e3 : (-(u : Int)).tmod 10 = 0 := by rw [e2]; rfl
      have hz3 := itoa_size (n := 0) (by omega) (by omega)
      clear e2 hz2
      go_enter Tryd.func12, Tryd.ntmps12
      go_wp2_with fail
      refine (IH.out _).mono ?_
      rintro e w1 ⟨rfl, hb⟩
      have HB := Hold.mk hb
      clear hb
      go_wp2_with fail
      refine (rDigits_zero _).mono ?_
      rintro e w2 ⟨rfl, hb⟩
      have HB2 := Hold.mk (HB.out.trans (hb.mono HB.out.size))
      clear hb
      go_wp2_with fail
      go_ret
      exact ⟨ret_str (by rw [HI.out, ba_add]; rfl), HB2.out⟩
    · have h8 : -(r : Int) < 0 := by omega
      go_enter Tryd.func12, Tryd.ntmps12
      go_wp2_with fail
      refine (IH.out _).mono ?_
      rintro e w1 ⟨rfl, hb⟩
      have HB := Hold.mk hb
      clear hb
      go_wp2_with fail
      refine (rDigits_small r _ hr).mono ?_
      rintro e w2 ⟨rfl, hb⟩
      have HB2 := Hold.mk (HB.out.trans (hb.mono HB.out.size))
      clear hb
      go_wp2_with fail
      go_ret
      exact ⟨ret_str (by rw [HI.out, ba_add]), HB2.out⟩

theorem rDigits_any (n : Int) (w : World) (hn : (Lit.int .i64 n).wf = true) :
    Calls Tryd.prog 12 #[.int .i64 n] w fun e w' => e = .returned (.string (ba (Lib.itoa n))) ∧ Below w.heap.size w w' := by
  have h := wf_i64 hn
  by_cases h0 : 0 ≤ n
  · obtain ⟨u, rfl⟩ : ∃ u : Nat, n = u := ⟨n.toNat, by omega⟩
    exact rDigits_up u w (by omega)
  · obtain ⟨u, rfl⟩ : ∃ u : Nat, n = -(u : Int) := ⟨n.natAbs, by omega⟩
    exact rDigits_down u w (by omega) (by omega)

theorem one_cut {s : ByteArray} {j : Nat} (h : j < s.size) : s.extract j (j + 1) = ⟨#[s[j]]⟩ := by
  apply ByteArray.ext
  apply Array.ext
  · rw [ByteArray.data_extract]; simp; have : s.data.size = s.size := rfl; omega
  · intro i h1 h2
    obtain rfl : i = 0 := by simp at h2; omega
    simp [ByteArray.data_extract]
    rfl

theorem quoted_up {s : ByteArray} {j : Nat} (hj : j < s.size) {c : UInt8} (hc : s[j] = c) : 34 :: (s.data.toList.take (j + 1)).flatMap escF = (34 :: (s.data.toList.take j).flatMap escF) ++ escF c := by
  have e : s.data.toList[j]? = some c := by
    rw [← hc, Array.getElem?_toList]
    exact Array.getElem?_eq_getElem hj
  rw [take_succ e]
  simp
theorem so_far {s : ByteArray} {j : Nat} (hs : s.size ≤ 1000000000) : (ba (34 :: (s.data.toList.take j).flatMap escF)).size ≤ 7000000000 := by
  have h1 := @flatMap_len (s.data.toList.take j)
  have h2 : (s.data.toList.take j).length ≤ s.data.toList.length := List.length_take_le' _ _
  rw [size_list] at h2
  rw [ba_size, List.length_cons]
  omega

end Go.Proofs.YtdhilnnohokoeaaDoor
