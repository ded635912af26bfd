/- Print, of the program and of the reference. the law JsonPrints, walked. -/
import Derived.Test.YtkhhbckpddkhlaaGreatDoorPA
import Derived.Test.YtkhhbckpddkhlaaGreatDoorPR
import Derived.Test.YtkhhbckpddkhlaaGreatDoorJM
namespace Go.Proofs.YtkhhbckpddkhlaaGreatDoor
open Go.Shelf Go.RowKit

/-- the cells below B -/
def cfB (B : Nat) (w : World) : CF := fun b o => if b < B then w.cell? ⟨b, o, none⟩ else none
theorem cfB_low (B : Nat) (w : World) : Low B (cfB B w) := fun b o u h => by
  unfold cfB at h; split at h
  · assumption
  · cases h
theorem cfB_le (B : Nat) (w : World) : CLe (cfB B w) (cf w) := fun b o u h => by
  unfold cfB at h; split at h
  · exact h
  · cases h
theorem cle_cfB (w : World) : CLe (cf w) (cfB w.heap.size w) := fun b o u h => by
  unfold cfB; rw [if_pos (lt_of_cell h)]; exact h

theorem decDigits_ne (u : Nat) : Lib.decDigits u ≠ [] := by
  rw [Lib.decDigits]; split <;> simp
theorem itoa_ne (n : Int) : Lib.itoa n ≠ [] := by
  unfold Lib.itoa; split
  · simp
  · exact decDigits_ne _
theorem showF_ne (d : Nat) (v : JV) : showF (d + 1) v ≠ [] := by
  obtain ⟨k, n, t, nm, it⟩ := v
  rw [showF]
  repeat' split
  · exact itoa_ne n
  · simp [quotedF]
  · simp
  · simp
  · unfold wordF; repeat' split
    all_goals simp

theorem pb_new {B : Nat} {w : World} (h : B ≤ w.heap.size) : PB B w.heap.size [] (w.alloc (.cells #[.pointer none, .slice none 0 0] 152)) :=
  .inl ⟨h, .slice none 0 0, heap_alloc_new w _, World.ownsRowF_nil _ _ _ _, by simp [Value.ownBlock]⟩

set_option maxHeartbeats 4000000 in
theorem Print_no (v : JV) (x : Value) (w : World) (hx : JAt (cf w) v x) (hT : Tabs w) (hf : formedF 6 v = false) :
    Calls Tryz.prog 70 #[x] w fun e w' => e = .returned (.tuple #[.string ⟨#[]⟩, .int .i64 2]) ∧ Below w.heap.size w w' := by
  obtain ⟨k, n, t, nm, it, na, ncap, ia, icap, hve, rfl, _⟩ := hx.open
  have hb0 := (Below.refl _ w).alloc (Nat.le_refl _) (.cells #[.int .i64 k, .int .i64 n, .string t, .slice na nm.length ncap, .slice ia it.length icap] 25)
  have HX := Hold.mk (Formed_any v _ _ (hx.mono (cle_below hb0)) (hT.below hb0))
  rw [hf] at HX
  have HB0 := Hold.mk hb0
  clear hx hT hve hf hb0
  go_enter Tryz.func70, Tryz.ntmps70
  go_wp2_with fail
  refine HX.out.mono ?_
  rintro e w1 ⟨rfl, hb1⟩
  have HB1 := Hold.mk (HB0.out.trans (hb1.mono HB0.out.size))
  clear HX hb1
  go_wp2_with fail
  go_ret2
  exact ⟨rfl, HB1.out⟩

set_option maxRecDepth 100000 in
set_option maxHeartbeats 4000000 in
theorem Print_yes (v : JV) (x : Value) (w : World) (hx : JAt (cf w) v x) (hT : Tabs w) (hP : Pow w.heap.size w) (hf : formedF 6 v = true) :
    Calls Tryz.prog 70 #[x] w fun e w' => e = .returned (.tuple #[.string ⟨(showF 6 v).toArray⟩, .int .i64 0]) ∧ Below w.heap.size w w' := by
  obtain ⟨k, n, t, nm, it, na, ncap, ia, icap, hve, rfl, _⟩ := hx.open
  have hb0 := (Below.refl _ w).alloc (Nat.le_refl _) (.cells #[.int .i64 k, .int .i64 n, .string t, .slice na nm.length ncap, .slice ia it.length icap] 25)
  have HX := Hold.mk (Formed_any v _ _ (hx.mono (cle_below hb0)) (hT.below hb0))
  rw [hf] at HX
  have HF := Hold.mk hf
  have HJ := Hold.mk (hx.mono (cle_cfB w))
  have HP := Hold.mk hP
  have HBX := Hold.mk (Boxed.refl w (.cells #[.int .i64 k, .int .i64 n, .string t, .slice na nm.length ncap, .slice ia it.length icap] 25))
  clear hx hT hve hf hb0 hP
  go_enter Tryz.func70, Tryz.ntmps70
  go_wp2_with fail
  refine HX.out.mono ?_
  rintro e w1 ⟨rfl, hb1⟩
  replace HBX := Hold.mk (HBX.out.next hb1)
  have y0 := HBX.out.c0
  have y1 := HBX.out.c1
  have y2 := HBX.out.c2
  have y3 := HBX.out.c3
  have y4 := HBX.out.c4
  have hlt : w.heap.size < w1.heap.size := HBX.out.lt
  clear HX hb1
  go_wp2_with fail
  have hbw : Below w.heap.size w (w1.alloc (.cells #[.pointer none, .slice none 0 0] 152)) := HBX.out.below.alloc (Nat.le_of_lt hlt) _
  refine (value_any 6 v _ (cfB w.heap.size w) w.heap.size w1.heap.size [] _ HF.out HJ.out (cfB_low _ _) ((cfB_low _ _).keep (cfB_le _ _) hbw) (pb_new (Nat.le_of_lt hlt)) (HP.out.keep hbw) (by decide)).mono ?_
  rintro e w2 ⟨rfl, h2, hk2⟩
  rw [List.nil_append] at h2
  have H2 := Hold.mk h2
  have HBW := Hold.mk (hbw.trans hk2.below)
  clear hbw hk2 h2 y0 y1 y2 y3 y4
  go_wp2_with fail
  refine (pb_String _ _ (showF 6 v) _ H2.out (showF_ne 5 v)).mono ?_
  rintro e w3 ⟨rfl, hb3, _⟩
  have HB3 := Hold.mk (HBW.out.trans hb3)
  clear hb3
  go_wp2_with fail
  go_ret2
  exact ⟨rfl, HB3.out⟩

set_option maxHeartbeats 4000000 in
theorem rPrint_no (v : JV) (x : Value) (w : World) (hx : JAt (cf w) v x) (hf : formedF 6 v = false) :
    Calls Tryz.prog 117 #[x] w fun e w' => e = .returned (.tuple #[.string ⟨#[]⟩, .int .i64 2]) ∧ Below w.heap.size w w' := by
  obtain ⟨k, n, t, nm, it, na, ncap, ia, icap, hve, rfl, _⟩ := hx.open
  have hb0 := (Below.refl _ w).alloc (Nat.le_refl _) (.cells #[.int .i64 k, .int .i64 n, .string t, .slice na nm.length ncap, .slice ia it.length icap] 25)
  have HX := Hold.mk (rFormed_any v _ _ (hx.mono (cle_below hb0)))
  rw [← formed_law 6 v, hf] at HX
  have HB0 := Hold.mk hb0
  clear hx hve hf hb0
  go_enter Tryz.func117, Tryz.ntmps117
  go_wp2_with fail
  refine HX.out.mono ?_
  rintro e w1 ⟨rfl, hb1⟩
  have HB1 := Hold.mk (HB0.out.trans (hb1.mono HB0.out.size))
  clear HX hb1
  go_wp2_with fail
  go_ret2
  exact ⟨rfl, HB1.out⟩

set_option maxHeartbeats 4000000 in
theorem rPrint_yes (v : JV) (x : Value) (w : World) (hx : JAt (cf w) v x) (hf : formedF 6 v = true) :
    Calls Tryz.prog 117 #[x] w fun e w' => e = .returned (.tuple #[.string (ba (showF 6 v)), .int .i64 0]) ∧ Below w.heap.size w w' := by
  obtain ⟨k, n, t, nm, it, na, ncap, ia, icap, hve, rfl, _⟩ := hx.open
  have hb0 := (Below.refl _ w).alloc (Nat.le_refl _) (.cells #[.int .i64 k, .int .i64 n, .string t, .slice na nm.length ncap, .slice ia it.length icap] 25)
  have HX := Hold.mk (rFormed_any v _ _ (hx.mono (cle_below hb0)))
  rw [← formed_law 6 v, hf] at HX
  have HF := Hold.mk hf
  have HJ := Hold.mk hx
  have HBX := Hold.mk (Boxed.refl w (.cells #[.int .i64 k, .int .i64 n, .string t, .slice na nm.length ncap, .slice ia it.length icap] 25))
  clear hx hve hf hb0
  go_enter Tryz.func117, Tryz.ntmps117
  go_wp2_with fail
  refine HX.out.mono ?_
  rintro e w1 ⟨rfl, hb1⟩
  replace HBX := Hold.mk (HBX.out.next hb1)
  have y0 := HBX.out.c0
  have y1 := HBX.out.c1
  have y2 := HBX.out.c2
  have y3 := HBX.out.c3
  have y4 := HBX.out.c4
  clear HX hb1
  go_wp2_with fail
  refine (show_any 6 (Nat.le_refl 6) v _ _ HF.out (HJ.out.mono (cle_below HBX.out.below))).mono ?_
  rintro e w2 ⟨rfl, hb2⟩
  replace HBX := Hold.mk (HBX.out.next hb2)
  clear hb2 y0 y1 y2 y3 y4
  go_wp2_with fail
  go_ret2
  exact ⟨rfl, HBX.out.below⟩

end Go.Proofs.YtkhhbckpddkhlaaGreatDoor

namespace Go.Proofs.YtkhhbckpddkhlaaGreatDoor
open Go.RowKit

/-- what Print hands back -/
def printS (v : JV) : ByteArray := if formedF 6 v = true then ba (showF 6 v) else ⟨#[]⟩
def printE (v : JV) : Int := if formedF 6 v = true then 0 else 2

theorem Print_any (v : JV) (x : Value) (w : World) (hx : JAt (cf w) v x) (hT : Tabs w) (hP : Pow w.heap.size w) :
    Calls Tryz.prog 70 #[x] w fun e w' => e = .returned (.tuple #[.string (printS v), .int .i64 (printE v)]) ∧ Below w.heap.size w w' := by
  unfold printS printE
  cases hf : formedF 6 v with
  | false => exact Print_no v x w hx hT hf
  | true => exact Print_yes v x w hx hT hP hf
theorem rPrint_any (v : JV) (x : Value) (w : World) (hx : JAt (cf w) v x) :
    Calls Tryz.prog 117 #[x] w fun e w' => e = .returned (.tuple #[.string (printS v), .int .i64 (printE v)]) ∧ Below w.heap.size w w' := by
  unfold printS printE
  cases hf : formedF 6 v with
  | false => exact rPrint_no v x w hx hf
  | true => exact rPrint_yes v x w hx hf

theorem Pow.below {w w' : World} (h : Pow w.heap.size w) (hb : Below w.heap.size w w') : Pow w'.heap.size w' := ⟨(h.keep hb).1, Nat.lt_of_lt_of_le h.2 hb.size⟩

end Go.Proofs.YtkhhbckpddkhlaaGreatDoor
