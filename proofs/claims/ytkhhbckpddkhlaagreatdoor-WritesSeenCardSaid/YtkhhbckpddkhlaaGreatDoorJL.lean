/- formed and Depth of both, whole; the plain law. -/
import Derived.Test.YtkhhbckpddkhlaaGreatDoorJK
import Derived.Test.YtkhhbckpddkhlaaGreatDoorJB
namespace Go.Proofs.YtkhhbckpddkhlaaGreatDoor
open Go.RowKit

set_option maxHeartbeats 2000000 in
theorem rformed_bad3 (t : ByteArray) (na : Option Addr) (nl ncap : Nat) (ia : Option Addr) (il icap : Nat) (w : World) (ht : t.toList = []) (hs : t.size ≤ 9223372036854775807) (htx : textF t = true) (hil : il ≤ 24) (_hnl : nl ≤ 9223372036854775807) (hne : nl ≠ il) :
    Calls Tryz.prog 112 #[.agg #[.int .i64 6, .int .i64 0, .string t, .slice na nl ncap, .slice ia il icap]] w fun e w' => e = .returned (.bool false) ∧ Below w.heap.size w w' := by
  have HX := Lib.hid (rtext_any t (one w 6 0 t na nl ncap ia il icap) hs)
  rw [htx] at HX
  have hnb : ((nl : Int) != (il : Int)) = true := by simp; omega
  clear htx hne
  go_enter Tryz.func112, Tryz.ntmps112
  go_wp2_with fail
  refine HX.out.mono ?_
  rintro e w1 ⟨rfl, hb1⟩
  have hbx : Boxed w w1 _ := (Boxed.refl w _).next hb1
  have y0 := hbx.c0
  have y3 := hbx.c3
  have y4 := hbx.c4
  have hbl := hbx.below
  clear HX hb1 hbx
  go_wp2_with fail
  go_ret
  exact ⟨rfl, hbl⟩

theorem rformed_any {c : CF} {v : JV} {x : Value} (h : JAt c v x) : ∀ w, CLe c (cf w) →
    Calls Tryz.prog 112 #[x] w fun e w' => e = .returned (.bool (rformedF v)) ∧ Below w.heap.size w w' := by
  induction h with
  | mk k n t nm it nv a cap cell hk hn ht hs hl hc hi ih =>
    intro w hw
    obtain ⟨na, ncap, rfl, hnl, hel⟩ := id hs
    rw [rformedF]
    by_cases h1 : kindOk k n t
    · by_cases h2 : sizeOk k nm.length it.length ∧ textF t = true
      · have hh : headOk k n t := ⟨h1.1, h1.2.1, h1.2.2.1, h1.2.2.2, h2.2⟩
        by_cases h3 : k = 6 → nm.length = it.length
        · refine (rformed_names k n t nm it na ncap a cap cell w h1 ht h2.1 h2.2 h3 (hs.mono hw) (fun i v hv => ?_) (fun i v hv w' hw' => ih i v hv w' (hw.trans hw'))).mono fun e w' he => ?_
          · obtain ⟨b, off, e, h⟩ := hc i v hv
            exact ⟨b, off, e, h.mono hw⟩
          · rw [decide_eq_true hh, decide_eq_true ⟨h2.1.1, h2.1.2.1, h2.1.2.2, h3⟩, rformedL_all]
            simpa using he
        · obtain ⟨rfl, hne⟩ : k = 6 ∧ ¬ nm.length = it.length := by
            refine ⟨Classical.byContradiction fun h => h3 fun h' => absurd h' h, fun h => h3 fun _ => h⟩
          obtain rfl : n = 0 := by
            rcases h1.2.2.1 with h | h
            · omega
            · exact h
          have ht0 : t.toList = [] := by
            rcases h1.2.2.2 with h | h
            · omega
            · exact h
          refine (rformed_bad3 t na nm.length ncap a it.length cap w ht0 ht h2.2 h2.1.2.2 hnl hne).mono fun e w' he => ?_
          rw [decide_eq_true hh, decide_eq_false (p := _ ∧ _) (fun h => hne (h.2.2.2 rfl))]
          simpa using he
      · refine (rformed_bad2 k n t na nm.length ncap a it.length cap w h1 ht h2).mono fun e w' he => ?_
        have : (decide (headOk k n t) && decide ((k = 6 ∨ nm.length = 0) ∧ (5 ≤ k ∨ it.length = 0) ∧ it.length ≤ 24 ∧ (k = 6 → nm.length = it.length))) = false := by
          rw [← Bool.not_eq_true, Bool.and_eq_true, decide_eq_true_eq, decide_eq_true_eq]
          rintro ⟨a1, a2⟩
          exact h2 ⟨⟨a2.1, a2.2.1, a2.2.2.1⟩, a1.2.2.2.2⟩
        rw [this]
        simpa using he
    · refine (rformed_bad1 k n t na nm.length ncap a it.length cap w h1).mono fun e w' he => ?_
      rw [decide_eq_false (fun h : headOk k n t => h1 ⟨h.1, h.2.1, h.2.2.1, h.2.2.2.1⟩)]
      simpa using he

set_option maxHeartbeats 1000000 in
theorem rDepth_any (v : JV) (x : Value) (w : World) (hx : JAt (cf w) v x) :
    Calls Tryz.prog 111 #[x] w fun e w' => e = .returned (.int .i64 (depthF 7 v)) ∧ Below w.heap.size w w' := by
  obtain ⟨k, n, t, nm, it, na, ncap, ia, icap, rfl, rfl, _⟩ := hx.open
  have HX := Lib.hid (rdepth_any 6 _ _ (w.alloc (.cells #[.int .i64 k, .int .i64 n, .string t, .slice na nm.length ncap, .slice ia it.length icap] 25)) (by omega) (hx.mono (cle_alloc _ _)))
  clear hx
  generalize depthF (6 + 1) (JV.mk k n t nm it) = r at HX ⊢
  go_enter Tryz.func111, Tryz.ntmps111
  go_wp2_with fail
  refine HX.out.mono ?_
  rintro e w1 ⟨rfl, hb1⟩
  have hb2 := ((Boxed.refl w (.cells #[.int .i64 k, .int .i64 n, .string t, .slice na nm.length ncap, .slice ia it.length icap] 25)).next hb1).below
  clear HX hb1
  go_wp2_with fail
  go_ret
  exact ⟨rfl, hb2⟩

set_option maxHeartbeats 1000000 in
theorem rFormed_any (v : JV) (x : Value) (w : World) (hx : JAt (cf w) v x) :
    Calls Tryz.prog 66 #[x] w fun e w' => e = .returned (.bool (decide (depthF 7 v ≤ 6) && rformedF v)) ∧ Below w.heap.size w w' := by
  obtain ⟨k, n, t, nm, it, na, ncap, ia, icap, rfl, rfl, _⟩ := hx.open
  have HX := Lib.hid (rDepth_any _ _ (w.alloc (.cells #[.int .i64 k, .int .i64 n, .string t, .slice na nm.length ncap, .slice ia it.length icap] 25)) (hx.mono (cle_alloc _ _)))
  have HY := Lib.hid (rformed_any hx)
  clear hx
  generalize depthF 7 (JV.mk k n t nm it) = r at HX ⊢
  generalize rformedF (JV.mk k n t nm it) = q at HY ⊢
  by_cases hr : r ≤ 6
  · go_enter Tryz.func66, Tryz.ntmps66
    go_wp2_with fail
    refine HX.out.mono ?_
    rintro e w1 ⟨rfl, hb1⟩
    have hbx := (Boxed.refl w (.cells #[.int .i64 k, .int .i64 n, .string t, .slice na nm.length ncap, .slice ia it.length icap] 25)).next hb1
    have y0 := hbx.c0
    have y1 := hbx.c1
    have y2 := hbx.c2
    have y3 := hbx.c3
    have y4 := hbx.c4
    have HB := Lib.hid hbx
    have HZ := Lib.hid (HY.out w1 (cle_below hbx.below))
    clear HX hb1 hbx HY
    go_wp2_with fail
    refine HZ.out.mono ?_
    rintro e w2 ⟨rfl, hb2⟩
    have hb3 := (HB.out.next hb2).below
    clear HZ hb2
    go_wp2_with fail
    go_ret
    exact ⟨ret_b (by rw [decide_eq_true hr, Bool.true_and]), hb3⟩
  · go_enter Tryz.func66, Tryz.ntmps66
    go_wp2_with fail
    refine HX.out.mono ?_
    rintro e w1 ⟨rfl, hb1⟩
    have hb3 := ((Boxed.refl w (.cells #[.int .i64 k, .int .i64 n, .string t, .slice na nm.length ncap, .slice ia it.length icap] 25)).next hb1).below
    clear HX hb1 HY
    go_wp2_with fail
    go_ret
    exact ⟨ret_b (by simp), hb3⟩

theorem maxOf_le_iff {l : List Nat} {b : Nat} : maxOf l ≤ b ↔ ∀ x ∈ l, x ≤ b := by
  constructor
  · induction l with
    | nil => intro _ x hx; cases hx
    | cons y l ih =>
      intro h x hx
      unfold maxOf at h; rw [List.foldl_cons, foldl_max] at h
      rcases List.mem_cons.1 hx with rfl | hx
      · omega
      · exact ih (by omega) x hx
  · exact maxOf_le

/-- what the program asks and what the reference asks is one -/
theorem formed_law : ∀ l v, formedF l v = (decide (depthF (l + 1) v ≤ l) && rformedF v)
  | 0, v => by rw [depthF_one]; simp [formedF]
  | l + 1, .mk k n t nm it => by
    rw [formedF, rformedF]
    by_cases hh : headOk k n t
    · rw [decide_eq_true hh, Bool.true_and, Bool.true_and]
      by_cases hk : k < 5
      · rw [if_pos hk, depthF_leaf _ _ (by simp [JV.kind]; omega) (by simp [JV.kind]; omega)]
        by_cases he : it.length = 0 ∧ nm.length = 0
        · obtain ⟨h1, h2⟩ := he
          rw [List.eq_nil_of_length_eq_zero h1, List.eq_nil_of_length_eq_zero h2]
          simp [rises, rformedL]
        · rw [decide_eq_false he, decide_eq_false (p := (k = 6 ∨ nm.length = 0) ∧ _) (fun h => he (by omega))]
          simp
      · rw [if_neg hk, depthF_node _ _ (by have := hh.2.1; simp [JV.kind]; omega)]
        have e : it.all (formedF l) = (decide (maxOf (it.map (depthF (l + 1))) ≤ l) && rformedL it) := by
          rw [rformedL_all, Bool.eq_iff_iff, Bool.and_eq_true, List.all_eq_true, List.all_eq_true, decide_eq_true_eq, maxOf_le_iff]
          constructor
          · intro h
            refine ⟨fun x hx => ?_, fun x hx => ?_⟩
            · obtain ⟨y, hy, rfl⟩ := List.mem_map.1 hx
              have := h y hy; rw [formed_law l y, Bool.and_eq_true, decide_eq_true_eq] at this; exact this.1
            · have := h x hx; rw [formed_law l x, Bool.and_eq_true] at this; exact this.2
          · rintro ⟨h1, h2⟩ x hx
            rw [formed_law l x, Bool.and_eq_true, decide_eq_true_eq]
            exact ⟨h1 _ (List.mem_map.2 ⟨x, hx, rfl⟩), h2 x hx⟩
        have e2 : decide (maxOf ((JV.mk k n t nm it).items.map (depthF (l + 1))) + 1 ≤ l + 1) = decide (maxOf (it.map (depthF (l + 1))) ≤ l) := by
          rw [decide_eq_decide]; exact Nat.succ_le_succ_iff
        rw [e, e2]
        generalize decide (maxOf (it.map (depthF (l + 1))) ≤ l) = p
        generalize rformedL it = q
        have e3 : bodyOk k nm it.length = (decide ((k = 6 ∨ nm.length = 0) ∧ (5 ≤ k ∨ it.length = 0) ∧ it.length ≤ 24 ∧ (k = 6 → nm.length = it.length)) && nm.all textF && rises nm) := by
          unfold bodyOk
          congr 2
          rw [Bool.eq_iff_iff, Bool.and_eq_true, decide_eq_true_eq, decide_eq_true_eq, decide_eq_true_eq]
          split <;> omega
        rw [e3]
        generalize (decide ((k = 6 ∨ nm.length = 0) ∧ (5 ≤ k ∨ it.length = 0) ∧ it.length ≤ 24 ∧ (k = 6 → nm.length = it.length)) && nm.all textF && rises nm) = r
        cases p <;> cases q <;> cases r <;> rfl
    · rw [decide_eq_false hh]; simp

end Go.Proofs.YtkhhbckpddkhlaaGreatDoor
