/- formed of the program: its head, and values without members. -/
import Derived.Test.YtfllnlmanopfaaaDoorJD
namespace Go.Proofs.YtfllnlmanopfaaaDoor
open Go.RowKit Go.Lib

/-- what is asked of a value itself -/
def headOk (k n : Int) (t : ByteArray) : Prop := 0 ≤ k ∧ k ≤ 6 ∧ (k = 3 ∨ n = 0) ∧ (k = 4 ∨ t.toList = []) ∧ textF t = true
instance (k n : Int) (t : ByteArray) : Decidable (headOk k n t) := by unfold headOk; infer_instance

/-- the two boxes that formed lays -/
abbrev two (w : World) (k n : Int) (t : ByteArray) (na : Option Addr) (nl ncap : Nat) (ia : Option Addr) (il icap : Nat) (l : Int) : World :=
  (w.alloc (.cells #[.int .i64 k, .int .i64 n, .string t, .slice na nl ncap, .slice ia il icap] 25)).alloc (.cells #[.int .i64 l] 3)
theorem two_below (w : World) (k n : Int) (t : ByteArray) (na : Option Addr) (nl ncap : Nat) (ia : Option Addr) (il icap : Nat) (l : Int) : Below w.heap.size w (two w k n t na nl ncap ia il icap l) :=
  ((Below.refl _ w).alloc (Nat.le_refl _) _).alloc (by simp) _
theorem two_then {w w' : World} {k n : Int} {t : ByteArray} {na : Option Addr} {nl ncap : Nat} {ia : Option Addr} {il icap : Nat} {l : Int} (h : Below (two w k n t na nl ncap ia il icap l).heap.size (two w k n t na nl ncap ia il icap l) w') : Below w.heap.size w w' :=
  (two_below w k n t na nl ncap ia il icap l).trans (h.mono (by simp; omega))

set_option maxHeartbeats 1000000 in
theorem formed_zero (v : JV) (x : Value) (w : World) (h : JAt (cf w) v x) :
    Calls Tryd.prog 50 #[x, .int .i64 0] w fun e w' => e = .returned (.bool false) ∧ Below w.heap.size w w' := by
  obtain ⟨k, n, t, nm, it, na, ncap, ia, icap, rfl, rfl, _⟩ := h.open
  clear h
  go_enter Tryd.func50, Tryd.ntmps50
  go_wp2_with fail
  go_ret
  exact ⟨rfl, two_below _ _ _ _ _ _ _ _ _ _ _⟩

theorem text_two (w : World) (k n : Int) (t : ByteArray) (na : Option Addr) (nl ncap : Nat) (ia : Option Addr) (il icap : Nat) (l : Int) (hs : t.size ≤ 9223372036854775807) (hT : Tabs w) :
    Calls Tryd.prog 79 #[.string t] (two w k n t na nl ncap ia il icap l) fun e w' => e = .returned (.bool (textF t)) ∧ Below (two w k n t na nl ncap ia il icap l).heap.size (two w k n t na nl ncap ia il icap l) w' :=
  text_any t _ hs ((hT.alloc _).alloc _)

set_option maxHeartbeats 2000000 in
theorem formed_bad (k n : Int) (t : ByteArray) (na : Option Addr) (nl ncap : Nat) (ia : Option Addr) (il icap : Nat) (l : Nat) (w : World) (hl : l ≤ 1000) (hs : t.size ≤ 9223372036854775807) (hT : Tabs w) (hb : ¬ headOk k n t) :
    Calls Tryd.prog 50 #[.agg #[.int .i64 k, .int .i64 n, .string t, .slice na nl ncap, .slice ia il icap], .int .i64 ((l : Int) + 1)] w fun e w' => e = .returned (.bool false) ∧ Below w.heap.size w w' := by
  have hl1 : ((l : Int) + 1 == 0) = false := by simp; omega
  have HX := Lib.hid (text_two w k n t na nl ncap ia il icap ((l : Int) + 1) hs hT)
  clear hT
  by_cases h0 : 0 ≤ k
  · by_cases h6 : k ≤ 6
    · by_cases hn : n = 0
      · subst hn
        by_cases ht : t.toList = []
        · have htx : textF t = false := by
            cases e : textF t with
            | false => rfl
            | true => exact absurd ⟨h0, h6, .inr rfl, .inr ht, e⟩ hb
          rw [htx] at HX
          clear hb htx
          by_cases h3 : k = 3
          · subst h3
            go_enter Tryd.func50, Tryd.ntmps50
            go_wp2_with (go_at_call 79; refine HX.out.mono ?_; rintro e w1 ⟨rfl, hb1⟩)
            go_ret
            exact ⟨rfl, two_then hb1⟩
          · have h3b : (k != 3) = true := by simpa using h3
            clear h3
            by_cases h4 : k = 4
            · subst h4
              go_enter Tryd.func50, Tryd.ntmps50
              go_wp2_with (go_at_call 79; refine HX.out.mono ?_; rintro e w1 ⟨rfl, hb1⟩)
              go_ret
              exact ⟨rfl, two_then hb1⟩
            · have h4b : (k != 4) = true := by simpa using h4
              clear h4
              go_enter Tryd.func50, Tryd.ntmps50
              go_wp2_with (go_at_call 79; refine HX.out.mono ?_; rintro e w1 ⟨rfl, hb1⟩)
              go_ret
              exact ⟨rfl, two_then hb1⟩
        · by_cases h4 : k = 4
          · subst h4
            have htx : textF t = false := by
              cases e : textF t with
              | false => rfl
              | true => exact absurd ⟨h0, h6, .inr rfl, .inl rfl, e⟩ hb
            rw [htx] at HX
            clear hb htx
            go_enter Tryd.func50, Tryd.ntmps50
            go_wp2_with (go_at_call 79; refine HX.out.mono ?_; rintro e w1 ⟨rfl, hb1⟩)
            go_ret
            exact ⟨rfl, two_then hb1⟩
          · have h4b : (k != 4) = true := by simpa using h4
            clear h4 hb
            by_cases h3 : k = 3
            · subst h3
              go_enter Tryd.func50, Tryd.ntmps50
              go_wp2_with fail
              go_ret
              exact ⟨rfl, two_below _ _ _ _ _ _ _ _ _ _ _⟩
            · have h3b : (k != 3) = true := by simpa using h3
              clear h3
              go_enter Tryd.func50, Tryd.ntmps50
              go_wp2_with fail
              go_ret
              exact ⟨rfl, two_below _ _ _ _ _ _ _ _ _ _ _⟩
      · have hnb : (n != 0) = true := by simpa using hn
        by_cases h3 : k = 3
        · subst h3
          by_cases ht : t.toList = []
          · have htx : textF t = false := by
              cases e : textF t with
              | false => rfl
              | true => exact absurd ⟨h0, h6, .inl rfl, .inr ht, e⟩ hb
            rw [htx] at HX
            clear hb htx
            go_enter Tryd.func50, Tryd.ntmps50
            go_wp2_with (go_at_call 79; refine HX.out.mono ?_; rintro e w1 ⟨rfl, hb1⟩)
            go_ret
            exact ⟨rfl, two_then hb1⟩
          · clear hb
            go_enter Tryd.func50, Tryd.ntmps50
            go_wp2_with fail
            go_ret
            exact ⟨rfl, two_below _ _ _ _ _ _ _ _ _ _ _⟩
        · have h3b : (k != 3) = true := by simpa using h3
          clear h3 hb
          go_enter Tryd.func50, Tryd.ntmps50
          go_wp2_with fail
          go_ret
          exact ⟨rfl, two_below _ _ _ _ _ _ _ _ _ _ _⟩
    · clear hb
      go_enter Tryd.func50, Tryd.ntmps50
      go_wp2_with fail
      go_ret
      exact ⟨rfl, two_below _ _ _ _ _ _ _ _ _ _ _⟩
  · clear hb
    go_enter Tryd.func50, Tryd.ntmps50
    go_wp2_with fail
    go_ret
    exact ⟨rfl, two_below _ _ _ _ _ _ _ _ _ _ _⟩

end Go.Proofs.YtfllnlmanopfaaaDoor
