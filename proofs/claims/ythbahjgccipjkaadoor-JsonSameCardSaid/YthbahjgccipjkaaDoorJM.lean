/- the law JsonForms, walked. -/
import Derived.Test.YthbahjgccipjkaaDoorJL
import Derived.Test.YthbahjgccipjkaaDoorJC
namespace Go.Proofs.YthbahjgccipjkaaDoor
open Go.RowKit

theorem strs_nil (c : CF) : StrsAt c (.slice none 0 0) [] := ⟨none, 0, rfl, by simp, fun i s h => by simp at h⟩
theorem items_nil (c : CF) : ItemsAt c (.slice none 0 0) [] := ⟨none, 0, rfl, by simp, fun i s h => by simp at h⟩
theorem five_at (c : CF) : JAt c (.mk 3 5 ⟨#[]⟩ [] []) (.agg #[.int .i64 3, .int .i64 5, .string ⟨#[]⟩, .slice none 0 0, .slice none 0 0]) :=
  JAt.shut (by kernel_rfl) (by kernel_rfl) (by simp [ByteArray.size]) (strs_nil c) (items_nil c)

theorem five_formed : formedF 6 (.mk 3 5 ⟨#[]⟩ [] []) = true := by
  have h : textF ⟨#[]⟩ = true := by unfold textF; simp [ByteArray.size, Lib.validD, Lib.validGoD]
  have h2 : headOk 3 5 ⟨#[]⟩ := ⟨by omega, by omega, .inl rfl, .inr (by kernel_rfl), h⟩
  rw [formedF, decide_eq_true h2]; rfl

set_option maxHeartbeats 1000000 in
theorem awake_any (w : World) (hT : Tabs w) :
    Calls Tryd.prog 10 #[] w fun e w' => e = .returned (.bool true) ∧ Below w.heap.size w w' := by
  have HX := Lib.hid (Formed_any _ _ w (five_at (cf w)) hT)
  rw [five_formed] at HX
  clear hT
  go_enter Tryd.func10, Tryd.ntmps10
  go_wp2_with fail
  refine HX.out.mono ?_
  rintro e w1 ⟨rfl, hb1⟩
  clear HX
  go_wp2_with fail
  go_ret
  exact ⟨rfl, hb1⟩

set_option maxHeartbeats 4000000 in
theorem jsonForms_walk (v : JV) (x : Value) (w : World) (hx : JAt (cf w) v x) (hT : Tabs w) :
    Calls Tryd.prog 3 #[x] w fun e w' => e = .returned (.bool true) ∧ Below w.heap.size w w' := by
  obtain ⟨k, n, t, nm, it, na, ncap, ia, icap, rfl, rfl, _⟩ := hx.open
  have HJ := Lib.hid hx
  have HT := Lib.hid hT
  have HX := Lib.hid (awake_any (w.alloc (.cells #[.int .i64 k, .int .i64 n, .string t, .slice na nm.length ncap, .slice ia it.length icap] 25)) (hT.alloc _))
  clear hx hT
  generalize hv : JV.mk k n t nm it = v at HJ
  clear hv
  go_enter Tryd.func3, Tryd.ntmps3
  go_wp2_with fail
  refine HX.out.mono ?_
  rintro e w1 ⟨rfl, hb1⟩
  have hbx := (Boxed.refl w (.cells #[.int .i64 k, .int .i64 n, .string t, .slice na nm.length ncap, .slice ia it.length icap] 25)).next hb1
  have y0 := hbx.c0
  have y1 := hbx.c1
  have y2 := hbx.c2
  have y3 := hbx.c3
  have y4 := hbx.c4
  have HB := Lib.hid hbx
  have HY := Lib.hid (few_any HJ.out w1 (cle_below hbx.below))
  clear HX hb1 hbx
  cases hf : fewF v with
  | false =>
    rw [hf] at HY
    clear hf
    go_wp2_with fail
    refine HY.out.mono ?_
    rintro e w2 ⟨rfl, hb2⟩
    have HB2 := Lib.hid (HB.out.next hb2)
    have HX := Lib.hid (awake_any w2 (HT.out.below HB2.out.below))
    clear HY hb2 HB y0 y1 y2 y3 y4
    go_wp2_with fail
    refine HX.out.mono ?_
    rintro e w3 ⟨rfl, hb3⟩
    have hb4 := (HB2.out.next hb3).below
    clear HX hb3
    go_wp2_with fail
    go_ret
    exact ⟨rfl, hb4⟩
  | true =>
    rw [hf] at HY
    clear hf
    go_wp2_with fail
    refine HY.out.mono ?_
    rintro e w2 ⟨rfl, hb2⟩
    have hbx := HB.out.next hb2
    clear HY hb2 HB y0 y1 y2 y3 y4
    have y0 := Grow.cell hbx.c0
    have y1 := Grow.cell hbx.c1
    have y2 := Grow.cell hbx.c2
    have y3 := Grow.cell hbx.c3
    have y4 := Grow.cell hbx.c4
    have HB := Lib.hid hbx
    have HP := Lib.hid (Calls.grow (fun e : Grow w2 => Formed_any v _ e.val ((HJ.out.mono (cle_below HB.out.below)).mono (cle_below e.property)) ((HT.out.below HB.out.below).below e.property)))
    have HR := Lib.hid (Calls.grow (fun e : Grow w2 => rFormed_any v _ e.val ((HJ.out.mono (cle_below HB.out.below)).mono (cle_below e.property))))
    rw [← formed_law 6 v] at HR
    generalize formedF 6 v = r at HP HR
    clear hbx HJ HT
    go_wp2_with fail
    refine wp_region_grow (by kernel_rfl) (by kernel_rfl) ?_
    repeat (go_big_quiet_step (first | exact HP.out _ | exact HR.out _))
    refine wpQuiet_nil ?_
    rintro ⟨w3, hb3⟩
    have hb4 := (HB.out.next hb3).below
    simp only
    clear hb3 y0 y1 y2 y3 y4 HP HR
    go_wp2_with fail
    go_ret
    exact ⟨by simp, hb4⟩

end Go.Proofs.YthbahjgccipjkaaDoor
