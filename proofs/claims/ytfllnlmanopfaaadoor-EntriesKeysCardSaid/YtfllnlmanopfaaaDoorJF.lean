/- formed of the program: values of kinds below Array. -/
import Derived.Test.YtfllnlmanopfaaaDoorJE
namespace Go.Proofs.YtfllnlmanopfaaaDoor
open Go.RowKit Go.Lib

/-- the two boxes, read -/
theorem two_cells {w w' : World} {k n : Int} {t : ByteArray} {na : Option Addr} {nl ncap : Nat} {ia : Option Addr} {il icap : Nat} {l : Int} (h : Below (two w k n t na nl ncap ia il icap l).heap.size (two w k n t na nl ncap ia il icap l) w') :
    w'.cell? ⟨w.heap.size, 0, none⟩ = some (.int .i64 k) ∧ w'.cell? ⟨w.heap.size, 1, none⟩ = some (.int .i64 n) ∧ w'.cell? ⟨w.heap.size, 2, none⟩ = some (.string t) ∧ w'.cell? ⟨w.heap.size, 3, none⟩ = some (.slice na nl ncap) ∧
    w'.cell? ⟨w.heap.size, 4, none⟩ = some (.slice ia il icap) ∧ w'.cell? ⟨w.heap.size + 1, 0, none⟩ = some (.int .i64 l) := by
  have e0 : w'.heap[w.heap.size]? = some (.cells #[.int .i64 k, .int .i64 n, .string t, .slice na nl ncap, .slice ia il icap] 25) := by
    rw [h.block _ (by simp; omega)]
    show ((w.alloc _).alloc _).heap[w.heap.size]? = _
    rw [Below.heap_alloc _ _ _ (by simp)]; exact heap_alloc_new w _
  have e1 : w'.heap[w.heap.size + 1]? = some (.cells #[.int .i64 l] 3) := by
    rw [h.block _ (by simp)]
    have := heap_alloc_new (w.alloc (.cells #[.int .i64 k, .int .i64 n, .string t, .slice na nl ncap, .slice ia il icap] 25)) (.cells #[.int .i64 l] 3)
    simpa using this
  simp [World.cell?, e0, e1]

set_option maxHeartbeats 2000000 in
theorem formed_leaf (k n : Int) (t : ByteArray) (na : Option Addr) (nl ncap : Nat) (ia : Option Addr) (il icap : Nat) (l : Nat) (w : World) (hl : l ≤ 1000) (hs : t.size ≤ 9223372036854775807) (hT : Tabs w) (hh : headOk k n t) (hk : k < 5) :
    Calls Tryd.prog 50 #[.agg #[.int .i64 k, .int .i64 n, .string t, .slice na nl ncap, .slice ia il icap], .int .i64 ((l : Int) + 1)] w fun e w' => e = .returned (.bool (decide (il = 0 ∧ nl = 0))) ∧ Below w.heap.size w w' := by
  have hl1 : ((l : Int) + 1 == 0) = false := by simp; omega
  have HX := Lib.hid (text_two w k n t na nl ncap ia il icap ((l : Int) + 1) hs hT)
  obtain ⟨h0, h6, hn, ht, htx⟩ := hh
  rw [htx] at HX
  clear hT htx
  have hcls : (k = 3 ∧ t.toList = []) ∨ (k = 4 ∧ n = 0) ∨ ((k != 3) = true ∧ (k != 4) = true ∧ n = 0 ∧ t.toList = []) := by
    by_cases h3 : k = 3
    · left; subst h3; exact ⟨rfl, by simpa using ht⟩
    · by_cases h4 : k = 4
      · right; left; exact ⟨h4, by simpa [h3] using hn⟩
      · right; right; exact ⟨by simpa using h3, by simpa using h4, by simpa [h3] using hn, by simpa [h4] using ht⟩
  have hres : (il = 0 ∧ nl = 0) ∨ (il = 0 ∧ ((nl : Int) == 0) = false) ∨ ((il : Int) == 0) = false := by
    by_cases a : il = 0
    · by_cases b : nl = 0
      · exact .inl ⟨a, b⟩
      · exact .inr (.inl ⟨a, by simpa using b⟩)
    · exact .inr (.inr (by simpa using a))
  clear hn ht
  rcases hres with ⟨rfl, rfl⟩ | ⟨rfl, hnl⟩ | hil
  · rcases hcls with ⟨rfl, ht⟩ | ⟨rfl, rfl⟩ | ⟨h3, h4, rfl, ht⟩
    all_goals
      go_enter Tryd.func50, Tryd.ntmps50
      go_wp2_with fail
      refine HX.out.mono ?_
      rintro e w1 ⟨rfl, hb1⟩
      have hb2 := two_then hb1
      have y := two_cells hb1
      obtain ⟨y0, y1, y2, y3, y4, y5⟩ := y
      clear HX hb1
      go_wp2_with fail
      go_ret
      exact ⟨rfl, hb2⟩
  · have hr : decide ((0 : Nat) = 0 ∧ nl = 0) = false := by simp at hnl ⊢; omega
    have HR := Lib.hid hr; clear hr
    rcases hcls with ⟨rfl, ht⟩ | ⟨rfl, rfl⟩ | ⟨h3, h4, rfl, ht⟩
    all_goals
      go_enter Tryd.func50, Tryd.ntmps50
      go_wp2_with fail
      refine HX.out.mono ?_
      rintro e w1 ⟨rfl, hb1⟩
      have hb2 := two_then hb1
      have y := two_cells hb1
      obtain ⟨y0, y1, y2, y3, y4, y5⟩ := y
      clear HX hb1
      go_wp2_with fail
      go_ret
      exact ⟨by rw [HR.out]; rfl, hb2⟩
  · have hr : decide (il = 0 ∧ nl = 0) = false := by simp at hil ⊢; omega
    have HR := Lib.hid hr; clear hr
    rcases hcls with ⟨rfl, ht⟩ | ⟨rfl, rfl⟩ | ⟨h3, h4, rfl, ht⟩
    all_goals
      go_enter Tryd.func50, Tryd.ntmps50
      go_wp2_with fail
      refine HX.out.mono ?_
      rintro e w1 ⟨rfl, hb1⟩
      have hb2 := two_then hb1
      have y := two_cells hb1
      obtain ⟨y0, y1, y2, y3, y4, y5⟩ := y
      clear HX hb1
      go_wp2_with fail
      go_ret
      exact ⟨by rw [HR.out]; rfl, hb2⟩

end Go.Proofs.YtfllnlmanopfaaaDoor
