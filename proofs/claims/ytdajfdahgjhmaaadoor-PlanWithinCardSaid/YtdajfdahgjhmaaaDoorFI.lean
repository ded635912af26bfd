/- Filters: formed tests; the conditions, counted by the program. -/
import Derived.Test.YtdajfdahgjhmaaaDoorFH
namespace Go.Proofs.YtdajfdahgjhmaaaDoor
open Go.RowKit

theorem isN_yes {s : ByteArray} {l : List UInt8} (h : s.toList = l) : isN s l = true := by unfold isN; rw [h]; simp
theorem isN_no {s : ByteArray} {l : List UInt8} (h : ¬ s.toList = l) : isN s l = false := by unfold isN; simpa using h
theorem isN_ne {s : ByteArray} {l m : List UInt8} (h : s.toList = l) (hm : l ≠ m) : isN s m = false := isN_no (by rw [h]; exact hm)

set_option maxHeartbeats 4000000 in
theorem test_any (s : ByteArray) (v : JV) (x : Value) (w : World) (hx : JAt (cf w) v x) :
    Calls Tryd.prog 51 #[.string s, x] w fun e w' => e = .returned (.bool (testF s v)) ∧ Below w.heap.size w w' := by
  obtain ⟨k, n, t, nm, it, na, ncap, ia, icap, rfl, rfl, _⟩ := hx.open
  clear hx
  have HB0 := Hold.mk ((Below.refl _ w).alloc (Nat.le_refl _) (.cells #[.int .i64 k, .int .i64 n, .string t, .slice na nm.length ncap, .slice ia it.length icap] 32))
  by_cases h0 : s.toList = [36, 101, 113]
  · have HR : Hold (testF s (.mk k n t nm it) = true) := ⟨by unfold testF; rw [isN_yes (l := sEq) h0]; simp⟩
    go_enter Tryd.func51, Tryd.ntmps51
    go_wp2_with fail
    go_ret
    exact ⟨by rw [HR.out]; rfl, HB0.out⟩
  have b0 : (s.toList == [36, 101, 113]) = false := isN_no h0
  by_cases h1 : s.toList = [36, 110, 101]
  · have HR : Hold (testF s (.mk k n t nm it) = true) := ⟨by unfold testF; rw [isN_yes (l := sNe) h1]; simp⟩
    go_enter Tryd.func51, Tryd.ntmps51
    go_wp2_with fail
    go_ret
    exact ⟨by rw [HR.out]; rfl, HB0.out⟩
  have b1 : (s.toList == [36, 110, 101]) = false := isN_no h1
  by_cases h2 : s.toList = [36, 108, 116]
  · have HR : Hold (testF s (.mk k n t nm it) = true) := ⟨by unfold testF; rw [isN_yes (l := sLt) h2]; simp⟩
    go_enter Tryd.func51, Tryd.ntmps51
    go_wp2_with fail
    go_ret
    exact ⟨by rw [HR.out]; rfl, HB0.out⟩
  have b2 : (s.toList == [36, 108, 116]) = false := isN_no h2
  by_cases h3 : s.toList = [36, 108, 101]
  · have HR : Hold (testF s (.mk k n t nm it) = true) := ⟨by unfold testF; rw [isN_yes (l := sLe) h3]; simp⟩
    go_enter Tryd.func51, Tryd.ntmps51
    go_wp2_with fail
    go_ret
    exact ⟨by rw [HR.out]; rfl, HB0.out⟩
  have b3 : (s.toList == [36, 108, 101]) = false := isN_no h3
  by_cases h4 : s.toList = [36, 103, 116]
  · have HR : Hold (testF s (.mk k n t nm it) = true) := ⟨by unfold testF; rw [isN_yes (l := sGt) h4]; simp⟩
    go_enter Tryd.func51, Tryd.ntmps51
    go_wp2_with fail
    go_ret
    exact ⟨by rw [HR.out]; rfl, HB0.out⟩
  have b4 : (s.toList == [36, 103, 116]) = false := isN_no h4
  by_cases h5 : s.toList = [36, 103, 101]
  · have HR : Hold (testF s (.mk k n t nm it) = true) := ⟨by unfold testF; rw [isN_yes (l := sGe) h5]; simp⟩
    go_enter Tryd.func51, Tryd.ntmps51
    go_wp2_with fail
    go_ret
    exact ⟨by rw [HR.out]; rfl, HB0.out⟩
  have b5 : (s.toList == [36, 103, 101]) = false := isN_no h5
  have hsix : (isN s sEq || isN s sNe || isN s sLt || isN s sLe || isN s sGt || isN s sGe) = false := by
    rw [isN_no (l := sEq) h0, isN_no (l := sNe) h1, isN_no (l := sLt) h2, isN_no (l := sLe) h3, isN_no (l := sGt) h4, isN_no (l := sGe) h5]; rfl
  have H6 := Hold.mk hsix
  clear h0 h1 h2 h3 h4 h5 hsix
  by_cases h6 : s.toList = [36, 105, 110]
  · have HR0 : Hold (testF s (.mk k n t nm it) = decide (k = 5)) := ⟨by unfold testF; rw [H6.out, isN_yes (l := sIn) h6]; rfl⟩
    clear b0 b1 b2 b3 b4 b5
    by_cases hk : k = 5
    · have HR : Hold (testF s (.mk k n t nm it) = true) := ⟨by rw [HR0.out, hk]; rfl⟩
      subst hk
      go_enter Tryd.func51, Tryd.ntmps51
      go_wp2_with fail
      go_ret
      exact ⟨by rw [HR.out]; rfl, HB0.out⟩
    
    · have HR : Hold (testF s (.mk k n t nm it) = false) := ⟨by rw [HR0.out]; simpa using hk⟩
      have bk : (k == 5) = false := by simpa using hk
      clear hk
      go_enter Tryd.func51, Tryd.ntmps51
      go_wp2_with fail
      go_ret
      exact ⟨by rw [HR.out]; rfl, HB0.out⟩
  have b6 : (s.toList == [36, 105, 110]) = false := isN_no h6
  have H7 := Hold.mk (isN_no (l := sIn) h6)
  clear h6
  by_cases h7 : s.toList = [36, 104, 97, 115]
  · have HR0 : Hold (testF s (.mk k n t nm it) = (decide (k = 2) || decide (k = 1))) := ⟨by unfold testF; rw [H6.out, H7.out, isN_yes (l := sHas) h7]; rfl⟩
    clear b0 b1 b2 b3 b4 b5 b6
    by_cases hk : k = 2
    · have HR : Hold (testF s (.mk k n t nm it) = true) := ⟨by rw [HR0.out, hk]; rfl⟩
      subst hk
      go_enter Tryd.func51, Tryd.ntmps51
      go_wp2_with fail
      go_ret
      exact ⟨by rw [HR.out]; rfl, HB0.out⟩
    have bk : (k == 2) = false := by simpa using hk
    by_cases hk1 : k = 1
    · have HR : Hold (testF s (.mk k n t nm it) = true) := ⟨by rw [HR0.out, hk1]; rfl⟩
      subst hk1
      clear hk
      go_enter Tryd.func51, Tryd.ntmps51
      go_wp2_with fail
      go_ret
      exact ⟨by rw [HR.out]; rfl, HB0.out⟩
    · have HR : Hold (testF s (.mk k n t nm it) = false) := ⟨by rw [HR0.out]; simp [hk, hk1]⟩
      have bk1 : (k == 1) = false := by simpa using hk1
      clear hk hk1
      go_enter Tryd.func51, Tryd.ntmps51
      go_wp2_with fail
      go_ret
      exact ⟨by rw [HR.out]; rfl, HB0.out⟩
  have b7 : (s.toList == [36, 104, 97, 115]) = false := isN_no h7
  have HR : Hold (testF s (.mk k n t nm it) = false) := ⟨by unfold testF; rw [H6.out, H7.out, isN_no (l := sHas) h7]; rfl⟩
  clear h7
  go_enter Tryd.func51, Tryd.ntmps51
  go_wp2_with fail
  go_ret
  exact ⟨by rw [HR.out]; rfl, HB0.out⟩

end Go.Proofs.YtdajfdahgjhmaaaDoor
