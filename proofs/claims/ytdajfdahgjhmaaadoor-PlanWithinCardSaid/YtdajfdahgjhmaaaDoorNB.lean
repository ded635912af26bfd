/- Plans: bytes.Compare walked; Within of both; PlanWithin walked. -/
import Derived.Test.YtdajfdahgjhmaaaDoorNA
import Derived.Test.YtdajfdahgjhmaaaDoorFL
import Derived.Test.YtdajfdahgjhmaaaDoorEB
namespace Go.Proofs.YtdajfdahgjhmaaaDoor
open Go.RowKit

set_option maxHeartbeats 1000000 in
set_option maxRecDepth 100000 in
theorem CompareB_any (l m : List UInt8) (u v : Value) (w : World) (hu : BytesAt (cf w) u l) (hv : BytesAt (cf w) v m) :
    Calls Tryd.prog 11 #[u, v] w fun e w' => e = .returned (.int .i64 (lexC l m)) ∧ w' = w := by
  have HU := Hold.mk hu
  have HV := Hold.mk hv
  clear hu hv
  go_enter Tryd.func11, Tryd.ntmps11
  go_wp2
  rw [run_callFunc_extern Tryd.func19 (by kernel_rfl) (by kernel_rfl) (by kernel_rfl) (e := Extern.BytealgCompare.compare) (by kernel_rfl), run_compareB HU.out HV.out]
  simp only [Result.andThen]
  rw [Oper.upon_value]
  go_wp2
  go_ret
  exact ⟨rfl, rfl⟩

/-- a plan: an index's number, two rows of bytes -/
structure PX where
  idx : Int
  from_ : List UInt8
  to_ : List UInt8
def PAt (c : CF) (p : PX) (v : Value) : Prop := ∃ fv tv, v = .agg #[.int .i64 p.idx, fv, tv] ∧ BytesAt c fv p.from_ ∧ BytesAt c tv p.to_
theorem PAt.mono {c d : CF} {p : PX} {v : Value} (h : PAt c p v) (hl : CLe c d) : PAt d p v := by
  obtain ⟨fv, tv, e, h1, h2⟩ := h
  exact ⟨fv, tv, e, h1.mono hl, h2.mono hl⟩
def withinF (p : PX) (k : List UInt8) : Bool := decide (p.idx = -1) || (!lessY k p.from_ && lessY k p.to_)
theorem lessY_ge (l m : List UInt8) : decide (0 ≤ lexC l m) = !lessY l m := by
  unfold lessY
  by_cases h : 0 ≤ lexC l m
  · rw [decide_eq_true h, decide_eq_false (by omega)]; rfl
  · rw [decide_eq_false h, decide_eq_true (by omega)]; rfl
theorem within_scan {p : PX} (k : List UInt8) (h : p.idx = -1) : withinF p k = true := by simp [withinF, h]
theorem within_index {p : PX} (k : List UInt8) (h : p.idx ≠ -1) : withinF p k = (!lessY k p.from_ && lessY k p.to_) := by simp [withinF, h]

set_option maxHeartbeats 4000000 in
set_option maxRecDepth 100000 in
theorem Within_any (p : PX) (k : List UInt8) (v u : Value) (w : World) (hp : PAt (cf w) p v) (hk : BytesAt (cf w) u k) :
    Calls Tryd.prog 6 #[v, u] w fun e w' => e = .returned (.bool (withinF p k)) ∧ Below w.heap.size w w' := by
  obtain ⟨fv, tv, rfl, hf, ht⟩ := hp
  obtain ⟨fa, fcap, hfe, _⟩ := id hf
  obtain ⟨ta, tcap, hte, _⟩ := id ht
  have HB := Hold.mk ((Below.refl w.heap.size w).alloc (Nat.le_refl _) (.cells #[.int .i64 p.idx, fv, tv] 24))
  have HF := Hold.mk (hf.mono (cle_below HB.out))
  have HT := Hold.mk (ht.mono (cle_below HB.out))
  have HK := Hold.mk (hk.mono (cle_below HB.out))
  by_cases h1 : p.idx = -1
  · have b1 : (p.idx == -1) = true := by simpa using h1
    have HW := Hold.mk (within_scan k h1)
    clear hf ht hk h1
    subst hfe hte
    go_enter Tryd.func6, Tryd.ntmps6
    go_wp2_with fail
    go_ret
    exact ⟨by rw [HW.out]; rfl, HB.out⟩
  · have b1 : (p.idx == -1) = false := by simpa using h1
    have HW := Hold.mk (within_index k h1)
    have HG := Hold.mk (lessY_ge k p.from_)
    have HL : Hold (decide (lexC k p.to_ < 0) = lessY k p.to_) := ⟨rfl⟩
    clear hf ht hk h1
    subst hfe hte
    cases h2 : lessY k p.from_ with
    | true =>
      rw [h2] at HG HW
      clear h2
      go_enter Tryd.func6, Tryd.ntmps6
      go_wp2_with fail
      refine (CompareB_any _ _ _ _ _ HK.out HF.out).mono ?_
      rintro e w' ⟨rfl, rfl⟩
      have g := HG.out
      go_wp2_with fail
      go_ret
      exact ⟨by rw [HW.out]; rfl, HB.out⟩
    | false =>
      rw [h2] at HG HW
      clear h2
      go_enter Tryd.func6, Tryd.ntmps6
      go_wp2_with fail
      refine (CompareB_any _ _ _ _ _ HK.out HF.out).mono ?_
      rintro e w' ⟨rfl, rfl⟩
      have g := HG.out
      go_wp2_with fail
      refine (CompareB_any _ _ _ _ _ HK.out HT.out).mono ?_
      rintro e w' ⟨rfl, rfl⟩
      have g2 := HL.out
      go_wp2_with fail
      go_ret
      exact ⟨by rw [HW.out]; rfl, HB.out⟩

set_option maxHeartbeats 4000000 in
set_option maxRecDepth 100000 in
theorem rWithin_any (p : PX) (k : List UInt8) (v u : Value) (w : World) (hp : PAt (cf w) p v) (hk : BytesAt (cf w) u k) :
    Calls Tryd.prog 7 #[v, u] w fun e w' => e = .returned (.bool (withinF p k)) ∧ Below w.heap.size w w' := by
  obtain ⟨fv, tv, rfl, hf, ht⟩ := hp
  obtain ⟨fa, fcap, hfe, _⟩ := id hf
  obtain ⟨ta, tcap, hte, _⟩ := id ht
  have HB := Hold.mk ((Below.refl w.heap.size w).alloc (Nat.le_refl _) (.cells #[.int .i64 p.idx, fv, tv] 28))
  have HX : Hold ((w.alloc (.cells #[.int .i64 p.idx, fv, tv] 28)).heap[w.heap.size]? = some (.cells #[.int .i64 p.idx, fv, tv] 28 (0, 0))) := ⟨heap_alloc_new w _⟩
  have HF := Hold.mk (hf.mono (cle_below HB.out))
  have HT := Hold.mk (ht.mono (cle_below HB.out))
  have HK := Hold.mk (hk.mono (cle_below HB.out))
  by_cases h1 : p.idx = -1
  · have b1 : (p.idx == -1) = true := by simpa using h1
    have HW := Hold.mk (within_scan k h1)
    clear hf ht hk h1
    subst hfe hte
    go_enter Tryd.func7, Tryd.ntmps7
    go_wp2_with fail
    go_ret
    exact ⟨by rw [HW.out]; rfl, HB.out⟩
  · have b1 : (p.idx == -1) = false := by simpa using h1
    have HW := Hold.mk (within_index k h1)
    clear hf ht hk h1
    subst hfe hte
    cases h2 : lessY k p.from_ with
    | true =>
      rw [h2] at HW
      have HL := Hold.mk (Less4_any _ _ _ _ _ HK.out HF.out)
      rw [h2] at HL
      clear h2
      go_enter Tryd.func7, Tryd.ntmps7
      go_wp2_with fail
      refine HL.out.mono ?_
      rintro e w1 ⟨rfl, hb1⟩
      have HB1 := Hold.mk (HB.out.trans (hb1.mono HB.out.size))
      clear hb1
      go_wp2_with fail
      go_ret
      exact ⟨by rw [HW.out]; rfl, HB1.out⟩
    | false =>
      rw [h2] at HW
      have HL := Hold.mk (Less4_any _ _ _ _ _ HK.out HF.out)
      rw [h2] at HL
      clear h2
      go_enter Tryd.func7, Tryd.ntmps7
      go_wp2_with fail
      refine HL.out.mono ?_
      rintro e w1 ⟨rfl, hb1⟩
      have HB1 := Hold.mk (HB.out.trans (hb1.mono HB.out.size))
      replace HX := Hold.mk (kept HX.out hb1)
      replace HK := Hold.mk (HK.out.mono (cle_below hb1))
      replace HT := Hold.mk (HT.out.mono (cle_below hb1))
      clear hb1
      obtain ⟨y0, y1, y2⟩ := cells_three HX.out
      go_wp2_with fail
      refine (Less4_any _ _ _ _ _ HK.out HT.out).mono ?_
      rintro e w2 ⟨rfl, hb2⟩
      replace HB1 := Hold.mk (HB1.out.trans (hb2.mono HB1.out.size))
      clear hb2 y0 y1 y2
      go_wp2_with fail
      go_ret
      exact ⟨by rw [HW.out]; rfl, HB1.out⟩

end Go.Proofs.YtdajfdahgjhmaaaDoor
