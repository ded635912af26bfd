/- The reader of the program: word. -/
import Derived.Test.YtdhilnnohokoeaaDoorRD
namespace Go.Proofs.YtdhilnnohokoeaaDoor
open Go.Shelf Go.RowKit

theorem cut_at {s : ByteArray} {i : Nat} : (s.extract i s.size).data.toList = dl s i := by
  rw [ByteArray.data_extract, Array.toList_extract, List.extract_eq_take_drop]
  unfold dl
  rw [List.take_of_length_le]
  rw [List.length_drop, size_list]; exact Nat.le_refl _
theorem prefix_any (s p : ByteArray) (w : World) :
    Calls Tryd.prog 47 #[.string s, .string p] w fun e w' => e = .returned (.bool (Lib.hasPrefix s.data.toList p.data.toList)) ∧ w' = w :=
  Any.strings_HasPrefix Tryd.laysHP s p w

/-- a value of a word's kind, or bad -/
def WordPost (b : Nat) (s : ByteArray) (l : Option (List UInt8)) (x : Value) (w : World) (e : Ending) (w' : World) : Prop :=
  But b w w' ∧ match l with
    | some r => e = .returned x ∧ ∃ j, dl s j = r ∧ RB b s j false w'
    | none => e = .returned (.agg zero5R) ∧ RBad b s w'

set_option maxHeartbeats 4000000 in
set_option maxRecDepth 100000 in
theorem word_any (b : Nat) (s p : ByteArray) (k : Int) (i : Nat) (w : World) (h : RB b s i false w) (hs : s.size ≤ 1000000) (hp : p.size ≤ 10) :
    Calls Tryd.prog 23 #[.pointer (some ⟨b, 0, none⟩), .string p, .int .i64 k] w (WordPost b s (wordL p.data.toList (dl s i)) (.agg #[.int .i64 k, .int .i64 0, .string ⟨#[]⟩, .slice none 0 0, .slice none 0 0]) w) := by
  have HR := Hold.mk h
  have hlt := h.lt
  have hle := h.le
  have x0 := h.c0
  have x1 := h.c1
  have f1 := h.fz 1
  have hpre : ∀ W : World, Calls Tryd.prog 47 #[.string (s.extract i s.size), .string p] W fun e w' => e = .returned (.bool (p.data.toList.isPrefixOf (dl s i))) ∧ w' = W := fun W => by
    have := prefix_any (s.extract i s.size) p W
    rw [cut_at] at this
    exact this
  clear h
  have HN : ∀ n, Hold (RB b s i false ((w.alloc (.cells zero5R 26)).drewN n) ∧ ((w.alloc (.cells zero5R 26)).drewN n).heap[w.heap.size]? = some (.cells zero5R 26 (0, 0)) ∧ But b w ((w.alloc (.cells zero5R 26)).drewN n)) := fun n =>
    ⟨(HR.out.below ((Below.refl _ w).alloc (Nat.le_refl _) _)).drewN n, heap_alloc_new w _, ((But.refl b w).alloc _).drewN n⟩
  cases hp2 : p.data.toList.isPrefixOf (dl s i) with
  | true =>
    have HL : Hold (wordL p.data.toList (dl s i) = some ((dl s i).drop p.size)) := ⟨by unfold wordL; rw [if_pos hp2]; rfl⟩
    have hln : i + p.size ≤ s.size := by
      obtain ⟨t, ht⟩ := List.isPrefixOf_iff_prefix.1 hp2
      have h1 := congrArg List.length ht
      rw [List.length_append, dl_len, size_list] at h1
      omega
    rw [hp2] at hpre
    have HPR := Hold.mk hpre
    clear hp2 hpre
    go_enter Tryd.func23, Tryd.ntmps23
    go_wp2_with fail
    go_quiet ((go_at_call 47; exact Calls.quiet_of_same (HPR.out _)))
    go_wp2_with fail
    obtain ⟨W2, hW2⟩ : ∃ W2, W2 = set5R (((w.alloc (.cells zero5R 26)).drewN nq).setCell ⟨b, 1, none⟩ (.int .i64 ((i : Int) + (p.size : Int)))) w.heap.size (.int .i64 k) (.int .i64 0) (.string ⟨#[]⟩) (.slice none 0 0) (.slice none 0 0) := ⟨_, rfl⟩
    obtain ⟨hr, hv, hb⟩ := (HN nq).out
    have hne : w.heap.size ≠ b := by omega
    have hv2 : W2.heap[w.heap.size]? = some (.cells #[.int .i64 k, .int .i64 0, .string ⟨#[]⟩, .slice none 0 0, .slice none 0 0] 26 (0, 0)) := by
      rw [hW2]; exact set5R_self (by rw [Below.heap_setCell _ _ _ _ hne]; exact hv)
    have hr2 : RB b s (i + p.size) false W2 := by
      rw [hW2]
      have := hr.to hln
      rw [show ((i + p.size : Nat) : Int) = (i : Int) + (p.size : Int) by omega] at this
      exact this.keep (set5R_but _ _ _ _ _ _ _) (by omega)
    have hb2 : But b w W2 := by
      rw [hW2]
      exact But.own (hb.trans (But.set _ _ _)) (Nat.le_refl _) (set5R_but _ _ _ _ _ _ _)
    unfold set5R at hW2
    rw [← hW2]
    clear hW2 hr hv hb
    obtain ⟨v0, v1, v2, v3, v4⟩ := cells5R hv2
    exact bodyPost_ret (v := .agg #[.int .i64 k, .int .i64 0, .string ⟨#[]⟩, .slice none 0 0, .slice none 0 0]) (by simp [results, Tryd.results23, go_sem, v0, v1, v2, v3, v4]) rfl ⟨hb2, by rw [HL.out]; exact ⟨rfl, i + p.size, (dl_drop s i p.size).symm, hr2⟩⟩
  | false =>
    have HL : Hold (wordL p.data.toList (dl s i) = none) := ⟨by unfold wordL; rw [if_neg (by rw [hp2]; simp)]⟩
    rw [hp2] at hpre
    have HPR := Hold.mk hpre
    clear hp2 hpre
    go_enter Tryd.func23, Tryd.ntmps23
    go_wp2_with fail
    go_quiet ((go_at_call 47; exact Calls.quiet_of_same (HPR.out _)))
    go_wp2_with fail
    obtain ⟨hr, hv, hb⟩ := (HN nq).out
    refine (fail_any b s i false _ hr).mono ?_
    rintro e w2 ⟨rfl, hbad, hb2⟩
    have hv2 := hb2.keep hv (by omega)
    have HBAD := Hold.mk hbad
    have HB := Hold.mk (hb.trans hb2)
    clear hr hv hb hbad hb2
    obtain ⟨v0, v1, v2, v3, v4⟩ := cells5R hv2
    have g0 := freeR hv2 0
    have g1 := freeR hv2 1
    have g2 := freeR hv2 2
    have g3 := freeR hv2 3
    have g4 := freeR hv2 4
    go_wp2_with fail
    obtain ⟨W2, hW2⟩ : ∃ W2, W2 = set5R w2 w.heap.size (.int .i64 0) (.int .i64 0) (.string ⟨#[]⟩) (.slice none 0 0) (.slice none 0 0) := ⟨_, rfl⟩
    have hv3 : W2.heap[w.heap.size]? = some (.cells zero5R 26 (0, 0)) := by rw [hW2]; exact set5R_self hv2
    obtain ⟨j, hj⟩ := HBAD.out
    have hr3 : RB b s j true W2 := by rw [hW2]; exact hj.keep (set5R_but _ _ _ _ _ _ _) (by omega)
    have hb3 : But b w W2 := by rw [hW2]; exact But.own HB.out (Nat.le_refl _) (set5R_but _ _ _ _ _ _ _)
    unfold set5R at hW2
    rw [← hW2]
    clear hW2 v0 v1 v2 v3 v4
    obtain ⟨v0, v1, v2, v3, v4⟩ := cells5R hv3
    exact bodyPost_ret (v := .agg zero5R) (by simp [results, Tryd.results23, go_sem, v0, v1, v2, v3, v4]) rfl ⟨hb3, by rw [HL.out]; exact ⟨rfl, j, hr3⟩⟩

end Go.Proofs.YtdhilnnohokoeaaDoor
