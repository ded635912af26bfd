/- Read of the reference. (printed by genXQP.py) JsonReads walked. -/
import Derived.Test.YtkhhbckpddkhlaaGreatDoorQL
import Derived.Test.YtkhhbckpddkhlaaGreatDoorRP
import Derived.Test.YtkhhbckpddkhlaaGreatDoorJL
import Derived.Test.YtkhhbckpddkhlaaGreatDoorRW
import Derived.Test.YtkhhbckpddkhlaaGreatDoorSC
import Derived.Test.YtkhhbckpddkhlaaGreatDoorJM
namespace Go.Proofs.YtkhhbckpddkhlaaGreatDoor
open Go.Shelf Go.RowKit

set_option maxHeartbeats 16000000 in
set_option maxRecDepth 100000 in
/-- Read of the reference reads as readF does -/
theorem rRead_any (s : ByteArray) (w : World) (hs : s.size ≤ 20000) : Calls Tryz.prog 40 #[.string s] w (ReadPost s w) := by
  obtain ⟨W, hW⟩ : ∃ W, W = w.alloc (.cells zero5R 25) := ⟨_, rfl⟩
  have HB : Hold (Below w.heap.size w W) := ⟨by rw [hW]; exact (Below.refl _ w).alloc (Nat.le_refl _) _⟩
  have HV : Hold (W.heap[w.heap.size]? = some (.cells zero5R 25 (0, 0))) := ⟨by rw [hW]; exact heap_alloc_new w _⟩
  have hWs : W.heap.size = w.heap.size + 1 := by rw [hW]; simp
  obtain ⟨W1, hW1⟩ : ∃ W1, W1 = W.alloc (.cells #[.string s, .int .i64 0, .bool false] 122) := ⟨_, rfl⟩
  have HR : Hold (RC (w.heap.size + 1) s 0 false W1) := ⟨by rw [hW1, ← hWs]; exact heap_alloc_new W _, Nat.zero_le _⟩
  have hb1 : Below W.heap.size W W1 := by rw [hW1]; exact (Below.refl _ W).alloc (Nat.le_refl _) _
  have hW1s : W1.heap.size = w.heap.size + 2 := by rw [hW1]; simp [hWs]
  replace HV := Hold.mk (keptR HV.out hb1)
  have HB1 : Hold (Below w.heap.size w W1) := ⟨HB.out.trans (hb1.mono (by omega))⟩
  have HF : Hold (readF s.data.toList = if Lib.validD s.data.toList = false then (zeroJ, (2 : Int)) else match valL (2 * s.size + 1) (dl s 0) with
    | none => (zeroJ, (2 : Int))
    | some (v, r) => if skipL r = [] then (if formedF 6 v then (v, (0 : Int)) else (zeroJ, 3)) else (zeroJ, 2)) := ⟨by unfold readF; rw [if_neg (by rw [size_list]; omega), size_list]; rfl⟩
  have k0 : ¬ (20000 : Int) < (s.size : Int) := by omega
  clear hb1 HB
  go_enter Tryz.func40, Tryz.ntmps40
  go_upto_region 1 with (fail)
  rw [← hW]
  clear hW
  go_upto_region 4 with (fail)
  rw [← hW1]
  clear hW1 hWs
  go_wp2_with fail
  refine (rValue_any (w.heap.size + 1) s (by omega) W1 HR.out).mono ?_
  rintro e w2 ⟨hb2, bd, x, j, rfl, ⟨xk, xn, xt, xna, xnl, xnc, xia, xil, xic, rfl⟩, hr2, hf, ht⟩
  have hv2 := But.keep hb2 HV.out (by omega)
  have hb2' := hb2.below (B := w.heap.size) (by omega) (by omega)
  have hs2 := hb2.size
  obtain ⟨W3, hW3⟩ : ∃ W3, W3 = w2.alloc (.cells #[.int .i64 xk, .int .i64 xn, .string xt, .slice xna xnl xnc, .slice xia xil xic] 25) := ⟨_, rfl⟩
  have hb3 : Below w2.heap.size w2 W3 := by rw [hW3]; exact (Below.refl _ w2).alloc (Nat.le_refl _) _
  have HX3 : Hold (W3.heap[w2.heap.size]? = some (.cells #[.int .i64 xk, .int .i64 xn, .string xt, .slice xna xnl xnc, .slice xia xil xic] 25 (0, 0))) := ⟨by rw [hW3]; exact heap_alloc_new w2 _⟩
  have hr3 := hr2.below hb3
  have HV3 := Hold.mk (keptR hv2 hb3)
  have HB3 : Hold (Below w.heap.size w W3) := ⟨(HB1.out.trans hb2').trans (hb3.mono (by omega))⟩
  have HJ3 : Hold (bd = false → ∃ v r, valL (2 * s.size + 1) (dl s 0) = some (v, r) ∧ dl s j = skipL r ∧ JAt (cfF (w.heap.size + 2) W3) v (.agg #[.int .i64 xk, .int .i64 xn, .string xt, .slice xna xnl xnc, .slice xia xil xic])) := ⟨fun h => by
    obtain ⟨v, hv, hj⟩ := hf h
    obtain ⟨r, h1, h2⟩ := skp_some hv
    rw [hW1s] at hj
    exact ⟨v, r, h1, h2, hj.mono (cfF_below hb3)⟩⟩
  have HT3 : Hold (bd = true → valL (2 * s.size + 1) (dl s 0) = none) := ⟨fun h => skp_none (ht h)⟩
  have x0 := hr3.c0
  have x1 := hr3.c1
  have x2 := hr3.c2
  have hjs := hr3.le
  clear hb2 hf ht hr2 hv2 hb2' hb3 hs2 HR HV HB1 hr3
  have HVA := Hold.mk (Valid_any s W3 (by omega))
  have HBAD : Hold (readF s.data.toList = (zeroJ, 2) → ∀ w5, Below W3.heap.size W3 w5 → ∃ W5, W5 = set5R w5 w.heap.size (.int .i64 0) (.int .i64 0) (.string ⟨#[]⟩) (.slice none 0 0) (.slice none 0 0) ∧ W5.heap[w.heap.size]? = some (.cells zero5R 25 (0, 0)) ∧ ReadPost s w (.returned (.tuple #[.agg zero5R, .int .i64 2])) W5) := ⟨fun h w5 hb5 =>
    read_end (s := s) (.int .i64 0) (.int .i64 0) (.string ⟨#[]⟩) (.slice none 0 0) (.slice none 0 0) rfl (keptR HV3.out hb5) (HB3.out.trans (hb5.mono HB3.out.size)) (w.heap.size + 1) (by omega) 2 (by rw [h]) (by rw [h]; exact zero_at _)⟩
  have hways : (bd = true ∨ bd = false ∧ j < s.size) ∨ (bd = false ∧ s.size ≤ j) := by
    cases bd
    · rcases Nat.lt_or_ge j s.size with h | h
      · exact .inl (.inr ⟨rfl, h⟩)
      · exact .inr ⟨rfl, h⟩
    · exact .inl (.inl rfl)
  rcases hways with hbad | ⟨rfl, hge⟩
  · have HFF : Hold (readF s.data.toList = (zeroJ, 2)) := ⟨by
      rw [HF.out]
      split
      · rfl
      · rcases hbad with rfl | ⟨rfl, hlt⟩
        · rw [HT3.out rfl]
        · obtain ⟨v, r, hv, hr, _⟩ := HJ3.out rfl
          rw [hv]
          dsimp only
          rw [if_neg (by rw [← hr, dl_cons hlt]; simp)]⟩
    have HP := Hold.mk (HBAD.out HFF.out W3 (Below.refl _ _))
    have hv5 := HV3.out
    clear HF HFF HBAD HVA HJ3 HT3
    rcases hbad with rfl | ⟨rfl, hlt⟩
    all_goals
      go_upto_region 5 with (fail)
      rw [← hW3]
      clear hW3
      obtain ⟨v0, v1, v2, v3, v4⟩ := cells5R hv5
      have g0 := freeR hv5 0
      have g1 := freeR hv5 1
      have g2 := freeR hv5 2
      have g3 := freeR hv5 3
      have g4 := freeR hv5 4
      clear hv5
      go_wp2_with fail
      clear v0 v1 v2 v3 v4 g0 g1 g2 g3 g4
      obtain ⟨W5, hW5, hv3, hp⟩ := HP.out
      unfold set5R at hW5
      rw [← hW5]
      clear hW5
      obtain ⟨v0, v1, v2, v3, v4⟩ := cells5R hv3
      exact bodyPost_ret (v := .tuple #[.agg zero5R, .int .i64 2]) (by simp [results, Tryz.results40, go_sem, v0, v1, v2, v3, v4]) rfl hp
  · have hEND : dl s j = [] := List.length_eq_zero_iff.1 (by rw [dl_len]; omega)
    have hjl : ¬ (j : Int) < (s.size : Int) := by omega
    obtain ⟨v, r, hv, hr, hj⟩ := HJ3.out rfl
    have HFV : Hold (readF s.data.toList = if Lib.validD s.data.toList = false then (zeroJ, (2 : Int)) else if formedF 6 v then (v, (0 : Int)) else (zeroJ, 3)) := ⟨by
      have hsk : skipL r = [] := by rw [← hr, hEND]
      rw [HF.out, hv]
      dsimp only
      rw [if_pos hsk]⟩
    have HJV := Hold.mk hj
    clear HF HJ3 HT3 hv hr hj hEND hge
    go_upto_region 5 with (fail)
    rw [← hW3]
    clear hW3
    cases hvd : Lib.validD s.data.toList with
    | false =>
      rw [hvd] at HVA
      have HFF : Hold (readF s.data.toList = (zeroJ, 2)) := ⟨by rw [HFV.out, if_pos hvd]⟩
      clear hvd
      go_wp2_with fail
      refine HVA.out.mono ?_
      rintro e w5 ⟨rfl, hb5⟩
      have HP := Hold.mk (HBAD.out HFF.out w5 hb5)
      have hv5 := keptR HV3.out hb5
      clear hb5 HVA HBAD HFF HFV x0 x1 x2
      obtain ⟨v0, v1, v2, v3, v4⟩ := cells5R hv5
      have g0 := freeR hv5 0
      have g1 := freeR hv5 1
      have g2 := freeR hv5 2
      have g3 := freeR hv5 3
      have g4 := freeR hv5 4
      clear hv5
      go_wp2_with fail
      clear v0 v1 v2 v3 v4 g0 g1 g2 g3 g4
      obtain ⟨W5, hW5, hv3, hp⟩ := HP.out
      unfold set5R at hW5
      rw [← hW5]
      clear hW5
      obtain ⟨v0, v1, v2, v3, v4⟩ := cells5R hv3
      exact bodyPost_ret (v := .tuple #[.agg zero5R, .int .i64 2]) (by simp [results, Tryz.results40, go_sem, v0, v1, v2, v3, v4]) rfl hp
    | true =>
      rw [hvd] at HVA
      replace HFV : Hold (readF s.data.toList = if formedF 6 v then (v, (0 : Int)) else (zeroJ, 3)) := ⟨by rw [HFV.out, if_neg (by rw [hvd]; simp)]⟩
      clear hvd HBAD
      go_wp2_with fail
      refine HVA.out.mono ?_
      rintro e w4 ⟨rfl, hb4⟩
      replace HV3 := Hold.mk (keptR HV3.out hb4)
      replace HX3 := Hold.mk (keptR HX3.out hb4)
      replace HJV := Hold.mk (HJV.out.mono (cfF_below hb4))
      replace HB3 := Hold.mk (HB3.out.trans (hb4.mono HB3.out.size))
      clear hb4 HVA x0 x1 x2
      have HFO := Hold.mk (rFormed_any v _ w4 (HJV.out.mono (cfF_cf _ _)))
      rw [← formed_law 6 v] at HFO
      obtain ⟨y0, y1, y2, y3, y4⟩ := cells5R HX3.out
      cases hfo : formedF 6 v with
      | false =>
        rw [hfo] at HFO HFV
        clear hfo
        go_wp2_with fail
        refine HFO.out.mono ?_
        rintro e w5 ⟨rfl, hb5⟩
        have hv5 := keptR HV3.out hb5
        have HP := Hold.mk (read_end (s := s) (.int .i64 0) (.int .i64 0) (.string ⟨#[]⟩) (.slice none 0 0) (.slice none 0 0) rfl hv5 (HB3.out.trans (hb5.mono HB3.out.size)) (w.heap.size + 1) (by omega) 3 (by rw [HFV.out]; rfl) (by rw [HFV.out]; exact zero_at _))
        clear hb5 HFO HJV y0 y1 y2 y3 y4
        obtain ⟨v0, v1, v2, v3, v4⟩ := cells5R hv5
        have g0 := freeR hv5 0
        have g1 := freeR hv5 1
        have g2 := freeR hv5 2
        have g3 := freeR hv5 3
        have g4 := freeR hv5 4
        clear hv5
        go_wp2_with fail
        clear v0 v1 v2 v3 v4 g0 g1 g2 g3 g4
        obtain ⟨W5, hW5, hv3, hp⟩ := HP.out
        unfold set5R at hW5
        rw [← hW5]
        clear hW5
        obtain ⟨v0, v1, v2, v3, v4⟩ := cells5R hv3
        exact bodyPost_ret (v := .tuple #[.agg zero5R, .int .i64 3]) (by simp [results, Tryz.results40, go_sem, v0, v1, v2, v3, v4]) rfl hp
      | true =>
        rw [hfo] at HFO HFV
        clear hfo
        go_wp2_with fail
        refine HFO.out.mono ?_
        rintro e w5 ⟨rfl, hb5⟩
        have hv5 := keptR HV3.out hb5
        have hx5 := keptR HX3.out hb5
        have HP := Hold.mk (read_end (s := s) (.int .i64 xk) (.int .i64 xn) (.string xt) (.slice xna xnl xnc) (.slice xia xil xic) rfl hv5 (HB3.out.trans (hb5.mono HB3.out.size)) (w.heap.size + 2) (by omega) 0 (by rw [HFV.out]; rfl) (by rw [HFV.out]; exact HJV.out.mono (cfF_below hb5)))
        have hlx := ltR hx5
        clear hb5 HFO HJV y0 y1 y2 y3 y4
        obtain ⟨y0, y1, y2, y3, y4⟩ := cells5R hx5
        obtain ⟨v0, v1, v2, v3, v4⟩ := cells5R hv5
        have g0 := freeR hv5 0
        have g1 := freeR hv5 1
        have g2 := freeR hv5 2
        have g3 := freeR hv5 3
        have g4 := freeR hv5 4
        clear hv5
        go_wp2_with fail
        clear v0 v1 v2 v3 v4 g0 g1 g2 g3 g4
        obtain ⟨W5, hW5, hv3, hp⟩ := HP.out
        unfold set5R at hW5
        rw [← hW5]
        clear hW5
        obtain ⟨v0, v1, v2, v3, v4⟩ := cells5R hv3
        exact bodyPost_ret (v := .tuple #[.agg #[.int .i64 xk, .int .i64 xn, .string xt, .slice xna xnl xnc, .slice xia xil xic], .int .i64 0]) (by simp [results, Tryz.results40, go_sem, v0, v1, v2, v3, v4]) rfl hp

end Go.Proofs.YtkhhbckpddkhlaaGreatDoor

namespace Go.Proofs.YtkhhbckpddkhlaaGreatDoor
open Go.Shelf Go.RowKit

theorem errs_after {w w' : World} (h : Errs w.heap.size w) (hb : Below w.heap.size w w') : Errs w'.heap.size w' := by
  have h2 := h.below hb
  exact ⟨Nat.lt_of_lt_of_le h2.g1 hb.size, Nat.lt_of_lt_of_le h2.g2 hb.size, h2.syn, h2.rng⟩
end Go.Proofs.YtkhhbckpddkhlaaGreatDoor
