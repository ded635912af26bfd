/- the law JsonPrints, walked. -/
import Derived.Test.YthbahjgccipjkaaDoorPE
namespace Go.Proofs.YthbahjgccipjkaaDoor
open Go.RowKit

/-- what Print hands back -/
def printS (v : JV) : ByteArray := if formedF 6 v = true then ba (showF 6 v) else ⟨#[]⟩
def printE (v : JV) : Int := if formedF 6 v = true then 0 else 2

theorem Print_any (v : JV) (x : Value) (w : World) (hx : JAt (cf w) v x) (hT : Tabs w) (hP : Pow w.heap.size w) :
    Calls Tryd.prog 16 #[x] w fun e w' => e = .returned (.tuple #[.string (printS v), .int .i64 (printE v)]) ∧ Below w.heap.size w w' := by
  unfold printS printE
  cases hf : formedF 6 v with
  | false => exact Print_no v x w hx hT hf
  | true => exact Print_yes v x w hx hT hP hf
theorem rPrint_any (v : JV) (x : Value) (w : World) (hx : JAt (cf w) v x) :
    Calls Tryd.prog 17 #[x] w fun e w' => e = .returned (.tuple #[.string (printS v), .int .i64 (printE v)]) ∧ Below w.heap.size w w' := by
  unfold printS printE
  cases hf : formedF 6 v with
  | false => exact rPrint_no v x w hx hf
  | true => exact rPrint_yes v x w hx hf

theorem Pow.below {w w' : World} (h : Pow w.heap.size w) (hb : Below w.heap.size w w') : Pow w'.heap.size w' := ⟨(h.keep hb).1, Nat.lt_of_lt_of_le h.2 hb.size⟩

set_option maxHeartbeats 4000000 in
theorem jsonPrints_walk (v : JV) (x : Value) (w : World) (hx : JAt (cf w) v x) (hT : Tabs w) (hP : Pow w.heap.size w) :
    Calls Tryd.prog 5 #[x] w fun e w' => e = .returned (.bool true) ∧ Below w.heap.size w w' := by
  obtain ⟨k, n, t, nm, it, na, ncap, ia, icap, hve, rfl, _⟩ := hx.open
  have HJ := Hold.mk hx
  have HT := Hold.mk hT
  have HP := Hold.mk hP
  have HX := Hold.mk (awake_any (w.alloc (.cells #[.int .i64 k, .int .i64 n, .string t, .slice na nm.length ncap, .slice ia it.length icap] 25)) (hT.alloc _))
  clear hx hT hP hve
  go_enter Tryd.func5, Tryd.ntmps5
  go_wp2_with fail
  refine HX.out.mono ?_
  rintro e w1 ⟨rfl, hb1⟩
  have HB := Hold.mk ((Boxed.refl w (.cells #[.int .i64 k, .int .i64 n, .string t, .slice na nm.length ncap, .slice ia it.length icap] 25)).next hb1)
  have y0 := HB.out.c0
  have y1 := HB.out.c1
  have y2 := HB.out.c2
  have y3 := HB.out.c3
  have y4 := HB.out.c4
  have HY := Hold.mk (few_any HJ.out w1 (cle_below HB.out.below))
  clear HX hb1
  cases hf : fewF v with
  | false =>
    rw [hf] at HY
    clear hf
    go_wp2_with fail
    refine HY.out.mono ?_
    rintro e w2 ⟨rfl, hb2⟩
    replace HB := Hold.mk (HB.out.next hb2)
    have HX := Hold.mk (awake_any w2 (HT.out.below HB.out.below))
    clear HY hb2 y0 y1 y2 y3 y4
    go_wp2_with fail
    refine HX.out.mono ?_
    rintro e w3 ⟨rfl, hb3⟩
    replace HB := Hold.mk (HB.out.next hb3)
    clear HX hb3
    go_wp2_with fail
    go_ret
    exact ⟨rfl, HB.out.below⟩
  | true =>
    rw [hf] at HY
    clear hf
    go_wp2_with fail
    refine HY.out.mono ?_
    rintro e w2 ⟨rfl, hb2⟩
    replace HB := Hold.mk (HB.out.next hb2)
    clear HY hb2 y0 y1 y2 y3 y4
    have y0 := HB.out.c0
    have y1 := HB.out.c1
    have y2 := HB.out.c2
    have y3 := HB.out.c3
    have y4 := HB.out.c4
    go_wp2_with fail
    refine (Print_any v _ _ (HJ.out.mono (cle_below HB.out.below)) (HT.out.below HB.out.below) (HP.out.below HB.out.below)).mono ?_
    rintro e w3 ⟨rfl, hb3⟩
    replace HB := Hold.mk (HB.out.next hb3)
    clear hb3 y0 y1 y2 y3 y4
    have y0 := HB.out.c0
    have y1 := HB.out.c1
    have y2 := HB.out.c2
    have y3 := HB.out.c3
    have y4 := HB.out.c4
    go_wp2_with fail
    refine (rPrint_any v _ _ (HJ.out.mono (cle_below HB.out.below))).mono ?_
    rintro e w4 ⟨rfl, hb4⟩
    replace HB := Hold.mk (HB.out.next hb4)
    clear hb4 y0 y1 y2 y3 y4
    go_wp2_with fail
    go_ret
    exact ⟨rfl, HB.out.below⟩

end Go.Proofs.YthbahjgccipjkaaDoor
