/- JsonAgain walked. -/
import Derived.Test.YtdhilnnohokoeaaDoorQB
import Derived.Test.YtdhilnnohokoeaaDoorSC
import Derived.Test.YtdhilnnohokoeaaDoorPF
namespace Go.Proofs.YtdhilnnohokoeaaDoor
open Go.Shelf Go.RowKit

theorem read_errs (l : List UInt8) : (readF l).2 = 0 ∨ (readF l).2 = 2 ∨ (readF l).2 = 3 := by
  unfold readF
  repeat' split
  all_goals simp
theorem Errs.after {w w' : World} (h : Errs w.heap.size w) (hb : Below w.heap.size w w') : Errs w'.heap.size w' := by
  have h2 := h.below hb
  exact ⟨Nat.lt_of_lt_of_le h2.g1 hb.size, Nat.lt_of_lt_of_le h2.g2 hb.size, h2.syn, h2.rng⟩

set_option maxHeartbeats 16000000 in
set_option maxRecDepth 100000 in
theorem jsonAgain_walk (s : ByteArray) (w : World) (hT : Tabs w) (hP : Pow w.heap.size w) (hE : Errs w.heap.size w) :
    Calls Tryd.prog 4 #[.string s] w fun e w' => e = .returned (.bool true) ∧ Below w.heap.size w w' := by
  have HT := Hold.mk hT
  have HP := Hold.mk hP
  have HE := Hold.mk hE
  have HA := Hold.mk (awake_any w hT)
  clear hT hP hE
  go_enter Tryd.func4, Tryd.ntmps4
  go_wp2_with fail
  refine HA.out.mono ?_
  rintro e w1 ⟨rfl, hb1⟩
  have HB := Hold.mk hb1
  replace HT := Hold.mk (HT.out.below hb1)
  replace HP := Hold.mk (Pow.below HP.out hb1)
  replace HE := Hold.mk (HE.out.after hb1)
  clear hb1 HA
  by_cases hlong : 2000 < s.size
  · have k0 : (2000 : Int) < (s.size : Int) := by omega
    have HA := Hold.mk (awake_any w1 HT.out)
    go_wp2_with fail
    refine HA.out.mono ?_
    rintro e w2 ⟨rfl, hb2⟩
    have HBF := HB.out.trans (hb2.mono HB.out.size)
    clear HA hb2
    go_wp2_with fail
    go_ret
    exact ⟨rfl, HBF⟩
  · have k0 : ¬ (2000 : Int) < (s.size : Int) := by omega
    have HRD := Hold.mk (Read_any s w1 (by omega) HT.out HE.out)
    have hsl : s.data.toList.length ≤ 2000 := by rw [size_list]; omega
    go_wp2_with fail
    refine HRD.out.mono ?_
    rintro e w2 ⟨hb2, x, rfl, hj⟩
    obtain ⟨xk, xn, xt, nm, it, na, ncap, ia, icap, hv, rfl, _⟩ := hj.open
    generalize hve : (readF s.data.toList).1 = v at hj hv
    have HV := Hold.mk hve
    have hs1 := HB.out.size
    obtain ⟨W3, hW3⟩ : ∃ W3, W3 = w2.alloc (.cells #[.int .i64 xk, .int .i64 xn, .string xt, .slice na nm.length ncap, .slice ia it.length icap] 26) := ⟨_, rfl⟩
    have hb3 : Below w2.heap.size w2 W3 := by rw [hW3]; exact (Below.refl _ w2).alloc (Nat.le_refl _) _
    have HX3 : Hold (W3.heap[w2.heap.size]? = some (.cells #[.int .i64 xk, .int .i64 xn, .string xt, .slice na nm.length ncap, .slice ia it.length icap] 26 (0, 0))) := ⟨by rw [hW3]; exact heap_alloc_new w2 _⟩
    have HJ3 := Hold.mk (((hj.mono (cfF_cf _ _)).mono (cle_below hb3)))
    have hb23 := hb2.trans (hb3.mono hb2.size)
    replace HB := Hold.mk (HB.out.trans (hb23.mono hs1))
    replace HT := Hold.mk (HT.out.below hb23)
    replace HP := Hold.mk (Pow.below HP.out hb23)
    replace HE := Hold.mk (HE.out.after hb23)
    have hs3 : w.heap.size ≤ w2.heap.size := Nat.le_trans hs1 hb2.size
    clear hb2 hb3 hb23 hj hve hv HRD hlong k0 hs1
    rcases read_errs s.data.toList with he | he | he
    · have HFV : Hold (readF s.data.toList = (v, 0)) := ⟨by rw [← HV.out, ← he]⟩
      obtain ⟨hf, hrs⟩ := read_show HFV.out hsl ⟨_, _, HJ3.out⟩
      rw [he]
      clear he
      have HF := Hold.mk hf
      obtain ⟨pt, hpt⟩ : ∃ pt, pt = ba (showF 6 v) := ⟨_, rfl⟩
      have HRS : Hold (readF pt.data.toList = (v, 0)) := ⟨by rw [hpt, ba_list]; exact hrs⟩
      have hps : pt.size ≤ 1000000 := by
        rcases Nat.lt_or_ge 20000 pt.size with h | h
        · have h2 := HRS.out
          unfold readF at h2
          rw [if_pos (by rw [size_list]; exact h)] at h2
          simp at h2
        · omega
      have HPR : Hold (Calls Tryd.prog 10 #[.agg #[.int .i64 xk, .int .i64 xn, .string xt, .slice na nm.length ncap, .slice ia it.length icap]] W3 fun e w' => e = .returned (.tuple #[.string pt, .int .i64 0]) ∧ Below W3.heap.size W3 w') := ⟨by
        rw [hpt]; exact Print_yes v _ W3 HJ3.out HT.out HP.out hf⟩
      clear hf hrs hpt hsl HFV HV
      go_upto_region 4 with (fail)
      rw [← hW3]
      clear hW3
      obtain ⟨y0, y1, y2, y3, y4⟩ := cells5R HX3.out
      go_wp2_with fail
      clear y0 y1 y2 y3 y4
      refine HPR.out.mono ?_
      rintro e w4 ⟨rfl, hb4⟩
      have hs34 := HB.out.size
      replace HB := Hold.mk (HB.out.trans (hb4.mono hs34))
      have HX4 := Hold.mk (keptR HX3.out hb4)
      have HJ4 := Hold.mk (HJ3.out.mono (cle_below hb4))
      replace HT := Hold.mk (HT.out.below hb4)
      replace HE := Hold.mk (HE.out.after hb4)
      have HRD := Hold.mk (Read_any pt w4 hps HT.out HE.out)
      clear hb4 HPR HP HX3 HJ3 hs34
      go_wp2_with fail
      refine HRD.out.mono ?_
      rintro e w5 ⟨hb5, x, rfl, hj⟩
      rw [HRS.out] at hj ⊢
      obtain ⟨zk, zn, zt, nm2, it2, na2, ncap2, ia2, icap2, hv2, rfl, _⟩ := hj.open
      have HJX := Hold.mk hj
      obtain ⟨W6, hW6⟩ : ∃ W6, W6 = w5.alloc (.cells #[.int .i64 zk, .int .i64 zn, .string zt, .slice na2 nm2.length ncap2, .slice ia2 it2.length icap2] 26) := ⟨_, rfl⟩
      have hb6 : Below w5.heap.size w5 W6 := by rw [hW6]; exact (Below.refl _ w5).alloc (Nat.le_refl _) _
      have HZ6 : Hold (W6.heap[w5.heap.size]? = some (.cells #[.int .i64 zk, .int .i64 zn, .string zt, .slice na2 nm2.length ncap2, .slice ia2 it2.length icap2] 26 (0, 0))) := ⟨by rw [hW6]; exact heap_alloc_new w5 _⟩
      have hb56 := hb5.trans (hb6.mono hb5.size)
      have HK6 := Hold.mk ((HJX.out.mono (cfF_cf _ _)).mono (cle_below hb6))
      have HX6 := Hold.mk (keptR HX4.out hb56)
      have HJ6 := Hold.mk (HJ4.out.mono (cle_below hb56))
      have hs4 := HB.out.size
      replace HB := Hold.mk (HB.out.trans (hb56.mono hs4))
      replace HT := Hold.mk (HT.out.below hb56)
      have HFM := Hold.mk (Formed_any v _ W6 HJ6.out HT.out)
      rw [HF.out] at HFM
      clear hb5 hb6 hb56 hj hv2 HJX HRD HX4 HJ4 HE hs4
      go_upto_region 8 with (fail)
      rw [← hW6]
      clear hW6
      obtain ⟨y0, y1, y2, y3, y4⟩ := cells5R HX6.out
      go_wp2_with fail
      clear y0 y1 y2 y3 y4
      refine HFM.out.mono ?_
      rintro e w7 ⟨rfl, hb7⟩
      have hs6 := HB.out.size
      replace HB := Hold.mk (HB.out.trans (hb7.mono hs6))
      have HX7 := Hold.mk (keptR HX6.out hb7)
      have HZ7 := Hold.mk (keptR HZ6.out hb7)
      have HSM := Hold.mk (rSame_any v v _ _ w7 (HJ6.out.mono (cle_below hb7)) (HK6.out.mono (cle_below hb7)))
      rw [sameB_true rfl] at HSM
      clear hb7 HFM hs6
      obtain ⟨y0, y1, y2, y3, y4⟩ := cells5R HX7.out
      obtain ⟨z0, z1, z2, z3, z4⟩ := cells5R HZ7.out
      go_wp2_with fail
      clear y0 y1 y2 y3 y4 z0 z1 z2 z3 z4
      refine HSM.out.mono ?_
      rintro e w8 ⟨rfl, hb8⟩
      have HBF := HB.out.trans (hb8.mono HB.out.size)
      clear hb8 HSM
      go_wp2_with fail
      go_ret
      exact ⟨rfl, HBF⟩
    · rw [he]
      clear he HV hsl
      go_upto_region 4 with (fail)
      rw [← hW3]
      clear hW3
      go_wp2_with fail
      go_ret
      exact ⟨rfl, HB.out⟩
    · rw [he]
      clear he HV hsl
      go_upto_region 4 with (fail)
      rw [← hW3]
      clear hW3
      go_wp2_with fail
      go_ret
      exact ⟨rfl, HB.out⟩

end Go.Proofs.YtdhilnnohokoeaaDoor
