/- formed of the reference: what is asked of a value itself. -/
import Derived.Test.YtfllnlmanopfaaaDoorJI
import Derived.Test.YtfllnlmanopfaaaDoorJH
import Derived.Deep.RegionWith
namespace Go.Proofs.YtfllnlmanopfaaaDoor
open Go.RowKit

mutual
/-- formed, but for the depth -/
def rformedF : JV → Bool
  | .mk k n t nm it => decide (headOk k n t) && decide ((k = 6 ∨ nm.length = 0) ∧ (5 ≤ k ∨ it.length = 0) ∧ it.length ≤ 24 ∧ (k = 6 → nm.length = it.length)) && nm.all textF && rises nm && rformedL it
def rformedL : List JV → Bool
  | [] => true
  | v :: l => rformedF v && rformedL l
end
theorem rformedL_all : ∀ l, rformedL l = l.all rformedF
  | [] => rfl
  | v :: l => by rw [rformedL, rformedL_all l]; rfl

abbrev one (w : World) (k n : Int) (t : ByteArray) (na : Option Addr) (nl ncap : Nat) (ia : Option Addr) (il icap : Nat) : World :=
  w.alloc (.cells #[.int .i64 k, .int .i64 n, .string t, .slice na nl ncap, .slice ia il icap] 25)

/-- the first question -/
def kindOk (k n : Int) (t : ByteArray) : Prop := 0 ≤ k ∧ k ≤ 6 ∧ (k = 3 ∨ n = 0) ∧ (k = 4 ∨ t.toList = [])

set_option maxHeartbeats 2000000 in
theorem rformed_bad1 (k n : Int) (t : ByteArray) (na : Option Addr) (nl ncap : Nat) (ia : Option Addr) (il icap : Nat) (w : World) (hb : ¬ kindOk k n t) :
    Calls Tryd.prog 77 #[.agg #[.int .i64 k, .int .i64 n, .string t, .slice na nl ncap, .slice ia il icap]] w fun e w' => e = .returned (.bool false) ∧ Below w.heap.size w w' := by
  by_cases h0 : 0 ≤ k
  · by_cases h6 : k ≤ 6
    · by_cases hn : k ≠ 3 ∧ n ≠ 0
      · have hnb : (n != 0) = true := by simpa using hn.2
        have h3b : (k != 3) = true := by simpa using hn.1
        clear hn hb
        go_enter Tryd.func77, Tryd.ntmps77
        go_wp2_with fail
        go_ret
        exact ⟨rfl, (Below.refl _ _).alloc (Nat.le_refl _) _⟩
      · have h4 : k ≠ 4 := fun h4 => hb ⟨h0, h6, by omega, .inl h4⟩
        have ht : ¬ t.toList = [] := fun ht => hb ⟨h0, h6, by omega, .inr ht⟩
        have h4b : (k != 4) = true := by simpa using h4
        have hte : t.toList.isEmpty = false := by simpa using ht
        by_cases h3 : k = 3
        · subst h3
          clear hn hb h4
          go_enter Tryd.func77, Tryd.ntmps77
          go_wp2_with fail
          go_ret
          exact ⟨rfl, (Below.refl _ _).alloc (Nat.le_refl _) _⟩
        · have h3b : (k != 3) = true := by simpa using h3
          obtain rfl : n = 0 := by omega
          clear hn hb h4 h3
          go_enter Tryd.func77, Tryd.ntmps77
          go_wp2_with fail
          go_ret
          exact ⟨rfl, (Below.refl _ _).alloc (Nat.le_refl _) _⟩
    · clear hb
      go_enter Tryd.func77, Tryd.ntmps77
      go_wp2_with fail
      go_ret
      exact ⟨rfl, (Below.refl _ _).alloc (Nat.le_refl _) _⟩
  · clear hb
    go_enter Tryd.func77, Tryd.ntmps77
    go_wp2_with fail
    go_ret
    exact ⟨rfl, (Below.refl _ _).alloc (Nat.le_refl _) _⟩

/-- the kinds that pass the first question -/
theorem kind_cases {k n : Int} {t : ByteArray} (h : kindOk k n t) : (k = 3 ∧ t.toList = []) ∨ (k = 4 ∧ n = 0) ∨ (k = 5 ∧ n = 0 ∧ t.toList = []) ∨ (k = 6 ∧ n = 0 ∧ t.toList = []) ∨ ((k != 3) = true ∧ (k != 4) = true ∧ k < 5 ∧ 0 ≤ k ∧ n = 0 ∧ t.toList = []) := by
  obtain ⟨h0, h6, hn, ht⟩ := h
  by_cases h3 : k = 3
  · left; exact ⟨h3, by rcases ht with ht | ht; · omega
                        · exact ht⟩
  by_cases h4 : k = 4
  · right; left; exact ⟨h4, by omega⟩
  have hn : n = 0 := by omega
  have ht : t.toList = [] := by rcases ht with ht | ht; · omega
                                · exact ht
  by_cases h5 : k = 5
  · right; right; left; exact ⟨h5, hn, ht⟩
  by_cases h6 : k = 6
  · right; right; right; left; exact ⟨h6, hn, ht⟩
  · right; right; right; right; exact ⟨by simpa using h3, by simpa using h4, by omega, h0, hn, ht⟩

/-- the second question -/
def sizeOk (k : Int) (nl il : Nat) : Prop := (k = 6 ∨ nl = 0) ∧ (5 ≤ k ∨ il = 0) ∧ il ≤ 24

set_option maxHeartbeats 4000000 in
theorem rformed_bad2 (k n : Int) (t : ByteArray) (na : Option Addr) (nl ncap : Nat) (ia : Option Addr) (il icap : Nat) (w : World) (hk : kindOk k n t) (hs : t.size ≤ 9223372036854775807) (hb : ¬ (sizeOk k nl il ∧ textF t = true)) :
    Calls Tryd.prog 77 #[.agg #[.int .i64 k, .int .i64 n, .string t, .slice na nl ncap, .slice ia il icap]] w fun e w' => e = .returned (.bool false) ∧ Below w.heap.size w w' := by
  have HX := Lib.hid (rtext_any t (one w k n t na nl ncap ia il icap) hs)
  have hkc := kind_cases hk
  clear hk
  by_cases hsz : sizeOk k nl il
  · have htx : textF t = false := by
      cases e : textF t with
      | false => rfl
      | true => exact absurd ⟨hsz, e⟩ hb
    rw [htx] at HX
    clear hb htx
    obtain ⟨hs1, hs2, hs3⟩ := hsz
    rcases hkc with ⟨rfl, ht⟩ | ⟨rfl, rfl⟩ | ⟨rfl, rfl, ht⟩ | ⟨rfl, rfl, ht⟩ | ⟨h3, h4, h5, h0, rfl, ht⟩
    · obtain rfl : nl = 0 := by omega
      obtain rfl : il = 0 := by omega
      go_enter Tryd.func77, Tryd.ntmps77
      go_wp2_with (go_at_call 116; refine HX.out.mono ?_; rintro e w1 ⟨rfl, hb1⟩)
      go_ret
      exact ⟨rfl, ((Boxed.refl w _).next hb1).below⟩
    · obtain rfl : nl = 0 := by omega
      obtain rfl : il = 0 := by omega
      go_enter Tryd.func77, Tryd.ntmps77
      go_wp2_with (go_at_call 116; refine HX.out.mono ?_; rintro e w1 ⟨rfl, hb1⟩)
      go_ret
      exact ⟨rfl, ((Boxed.refl w _).next hb1).below⟩
    · obtain rfl : nl = 0 := by omega
      go_enter Tryd.func77, Tryd.ntmps77
      go_wp2_with (go_at_call 116; refine HX.out.mono ?_; rintro e w1 ⟨rfl, hb1⟩)
      go_ret
      exact ⟨rfl, ((Boxed.refl w _).next hb1).below⟩
    · go_enter Tryd.func77, Tryd.ntmps77
      go_wp2_with (go_at_call 116; refine HX.out.mono ?_; rintro e w1 ⟨rfl, hb1⟩)
      go_ret
      exact ⟨rfl, ((Boxed.refl w _).next hb1).below⟩
    · obtain rfl : nl = 0 := by omega
      obtain rfl : il = 0 := by omega
      have h6 : (k != 6) = true := by simp; omega
      go_enter Tryd.func77, Tryd.ntmps77
      go_wp2_with (go_at_call 116; refine HX.out.mono ?_; rintro e w1 ⟨rfl, hb1⟩)
      go_ret
      exact ⟨rfl, ((Boxed.refl w _).next hb1).below⟩
  · clear hb HX
    have hsz2 : (k ≠ 6 ∧ 0 < nl) ∨ ((k = 6 ∨ nl = 0) ∧ k < 5 ∧ 0 < il) ∨ ((k = 6 ∨ nl = 0) ∧ 5 ≤ k ∧ 24 < il) := by
      unfold sizeOk at hsz; omega
    clear hsz
    rcases hkc with ⟨rfl, ht⟩ | ⟨rfl, rfl⟩ | ⟨rfl, rfl, ht⟩ | ⟨rfl, rfl, ht⟩ | ⟨h3, h4, h5, h0, rfl, ht⟩
    · by_cases hnl : 0 < nl
      · clear hsz2
        go_enter Tryd.func77, Tryd.ntmps77
        go_wp2_with fail
        go_ret
        exact ⟨rfl, (Boxed.refl w _).below⟩
      · have hil : 0 < il := by omega
        obtain rfl : nl = 0 := by omega
        clear hsz2 hnl
        go_enter Tryd.func77, Tryd.ntmps77
        go_wp2_with fail
        go_ret
        exact ⟨rfl, (Boxed.refl w _).below⟩
    · by_cases hnl : 0 < nl
      · clear hsz2
        go_enter Tryd.func77, Tryd.ntmps77
        go_wp2_with fail
        go_ret
        exact ⟨rfl, (Boxed.refl w _).below⟩
      · have hil : 0 < il := by omega
        obtain rfl : nl = 0 := by omega
        clear hsz2 hnl
        go_enter Tryd.func77, Tryd.ntmps77
        go_wp2_with fail
        go_ret
        exact ⟨rfl, (Boxed.refl w _).below⟩
    · by_cases hnl : 0 < nl
      · clear hsz2
        go_enter Tryd.func77, Tryd.ntmps77
        go_wp2_with fail
        go_ret
        exact ⟨rfl, (Boxed.refl w _).below⟩
      · have hil : 24 < il := by omega
        obtain rfl : nl = 0 := by omega
        clear hsz2 hnl
        go_enter Tryd.func77, Tryd.ntmps77
        go_wp2_with fail
        go_ret
        exact ⟨rfl, (Boxed.refl w _).below⟩
    · have hil : 24 < il := by omega
      clear hsz2
      go_enter Tryd.func77, Tryd.ntmps77
      go_wp2_with fail
      go_ret
      exact ⟨rfl, (Boxed.refl w _).below⟩
    · have h6 : (k != 6) = true := by simp; omega
      by_cases hnl : 0 < nl
      · clear hsz2
        go_enter Tryd.func77, Tryd.ntmps77
        go_wp2_with fail
        go_ret
        exact ⟨rfl, (Boxed.refl w _).below⟩
      · have hil : 0 < il := by omega
        obtain rfl : nl = 0 := by omega
        clear hsz2 hnl
        go_enter Tryd.func77, Tryd.ntmps77
        go_wp2_with fail
        go_ret
        exact ⟨rfl, (Boxed.refl w _).below⟩

end Go.Proofs.YtfllnlmanopfaaaDoor
