/- clock.Live: the keys, sorted. -/
import Derived.Test.YthdbmmefnlediaaClockF
import Derived.Test.YthdbmmefnlediaaLive
namespace Go.Proofs.Ythdbmmefnlediaa
open Go.RowKit Go.Maps Go.Sort Go.Shelf

theorem Try.sorts (m : Nat) : AnyZI.SortsIn Try.prog Try.sortedA_ren Fence.wide m :=
  ⟨fun blk off cap ss W hH hblk hsz => callsIn_wide.2 (AnyM.slices_Sort_int Try.sortA blk off cap ss W hH hblk hsz),
   fun p cap W => callsIn_wide.2 (AnyM.slices_Sort_int_none Try.sortA p cap W)⟩

theorem liveTo_mem {ts : List Int} {ls : List Bool} (hl : ts.length = ls.length) (k : Int) : k ∈ liveTo ls ls.length ↔ (liveAt ts ls k).isSome = true := by
  unfold liveTo
  rw [List.mem_map]
  constructor
  · rintro ⟨i, hi, rfl⟩
    rw [List.mem_filter, List.mem_range] at hi
    rw [liveAt_in rfl hi.1, if_pos (by simpa using hi.2)]
    simp [hl, hi.1]
  · intro h
    by_cases hk : 1 ≤ k ∧ k ≤ ls.length
    · refine ⟨(k - 1).toNat, ?_, by omega⟩
      rw [List.mem_filter, List.mem_range]
      refine ⟨by omega, ?_⟩
      rw [liveAt_in (j := (k - 1).toNat) (by omega) (by omega)] at h
      split at h
      · rename_i h'; simpa using h'
      · cases h
    · rw [liveAt_out (by omega)] at h; cases h

theorem liveTo_rises (ls : List Bool) (j : Nat) : (liveTo ls j).Pairwise (· < ·) := by
  unfold liveTo
  refine List.pairwise_map.2 ((List.pairwise_lt_range.filter _).imp fun {a b} h => by omega)

theorem liveTo_perm {D : DataW Unit} {w : World} {mb k : Nat} {ts : List Int} {ls : List Bool} (hl : ts.length = ls.length) (hown : w.ownsMap Try.prog 3 (plainElem Try.prog 22) mb k D) (hD : MapFn D (liveAt ts ls)) :
    (liveTo ls ls.length).Perm (intKeys D) := by
  refine CollectedI.perm (left := fun _ => false) ⟨?_, fun x => ?_⟩ hown Clk.law Try.underlying3 (fun _ => rfl)
  · exact (liveTo_rises ls ls.length).imp fun {a b} h => by omega
  · rw [liveTo_mem hl]
    by_cases hw : (Lit.int .i64 x).wf = true
    · rw [(hD.2.1 x hw).1]; simp
    · constructor
      · intro h
        obtain ⟨v, hv⟩ := Option.isSome_iff_exists.1 h
        exact absurd (hD.2.2 x v hv).1 hw
      · rintro ⟨h, _⟩
        exfalso; apply hw
        obtain ⟨es, hDe, hpw, _⟩ := hown.entries Clk.law
        obtain ⟨es', c, hb, F, hs, hDe'⟩ := hown
        rw [hDe] at hDe' h
        cases hDe'
        rw [has_eq, List.any_eq_true] at h
        obtain ⟨p, hp, hsk⟩ := h
        rw [mem_sorted] at hp
        have := fit_keys F p hp
        obtain ⟨v, hv⟩ := this
        obtain ⟨y, _, hy, hwy⟩ := keyOf_i64 Try.underlying3 hv
        rw [hy] at hsk
        simp [Lit.sameKey] at hsk
        subst hsk; exact hwy

theorem mergeSort_rises {l : List Int} (h : l.Pairwise (· < ·)) : l.mergeSort leI = l := by
  have tr : ∀ a b c : Int, leI a b = true → leI b c = true → leI a c = true := fun a b c h1 h2 => by simp only [leI, decide_eq_true_eq] at *; omega
  have to : ∀ a b : Int, (leI a b || leI b a) = true := fun a b => by simp only [leI, Bool.or_eq_true, decide_eq_true_eq]; omega
  refine List.Perm.eq_of_pairwise (le := fun a b => leI a b = true) (fun a b _ _ h1 h2 => ?_) (List.pairwise_mergeSort tr to l) (h.imp fun {a b} h => by simp only [leI, decide_eq_true_eq]; omega) (List.mergeSort_perm l leI)
  simp only [leI, decide_eq_true_eq] at h1 h2
  omega

set_option maxHeartbeats 1000000 in
theorem clk_live {b mb k : Nat} {n : Int} {ts : List Int} {ls : List Bool} (hl : ts.length = ls.length) (w : World) (h : Clk w b mb k n (liveAt ts ls)) (hk : k ≤ 1000) :
    Calls Try.prog 17 #[.pointer (some ⟨b, 0, none⟩)] w fun e w' => ∃ v, e = .returned v ∧
      w'.ownsRow w.heap.size 3 1 v (liveTo ls ls.length).length ((liveTo ls ls.length).map (Value.int .i64)) ∧ Below w.heap.size w w' := by
  have hc := h.c1
  obtain ⟨D, hown, hD⟩ := h.own
  clear h
  have hmax : Maps.size D ≤ maxLen := by have := hown.size_le; unfold maxLen; omega
  have hbytes : Maps.size D * 8 ≤ 140737488355328 := by have := hown.size_le; omega
  refine (callsIn_wide (n := 6)).1 ?_
  have hbl := hown.lt
  have hseq : SeqGives Fence.wide 2 Try.prog 29 #[.pointer (some ⟨w.heap.size, 0, none⟩)] encZ (fun ss => ss.Perm (intKeys D)) (Maps.size D) (w.alloc (.cells #[.map (some mb)] 49)) :=
    AnyZI.keys_gives (ρ := Try.keysA_ren) { Try.keysA with } Fence.wide _ trivial rfl (by omega) w.heap.size mb k D _ (by simp) (by simp) (by
      obtain ⟨es, clock, hb, Ft, hs, hD⟩ := hown
      exact ⟨es, clock, (Below.heap_alloc _ _ mb hbl).trans hb, Ft, hs, hD⟩)
  have cK : ∀ mb W, CallsIn Fence.wide 5 Try.prog 26 #[.map mb] W fun e w' => e = .returned (.func (.func 29) #[] #[.pointer (some ⟨W.heap.size, 0, none⟩)]) ∧ w' = W.alloc (.cells #[.map mb] 49) := fun mb W => AnyZI.keys_in Try.keysA Fence.wide 5 trivial rfl mb W
  have cS := AnyZI.sorted_in Try.sortedA Fence.wide 5 trivial trivial trivial trivial rfl (by omega) (Try.sorts _) (enters_of Try.func28 (by kernel_rfl) rfl) 29 #[.pointer (some ⟨w.heap.size, 0, none⟩)] trivial (enters_of Try.func29 (by kernel_rfl) rfl) _ _ hmax hbytes _ hseq
  change CallsIn _ _ Try.prog 25 _ _ _ at cS
  have hfK : Fence.wide.fn 26 := trivial
  have hfS : Fence.wide.fn 25 := trivial
  have HO := Lib.hid hown
  clear hseq hown
  refine callsIn_of_wp Try.func17 rfl trivial ?_ rfl
  simp only [Try.ntmps17, List.size_toArray, List.length_cons, List.length_nil, Nat.reduceAdd, Nat.reduceSub, Array.replicate_succ, Array.replicate_zero, List.push_toArray, List.append_toArray, List.nil_append, List.cons_append]
  gi_wp2_with (first
    | (gi_at_call 26; refine (cK _ _).mono ?_; rintro e w' ⟨rfl, rfl⟩)
    | (gi_at_call 25; refine cS.mono ?_; rintro e w' ⟨v, ss, rfl, hS, hrow, hnil, hb⟩))
  go_ret
  have hp : (liveTo ls ls.length).Perm (intKeys D) := liveTo_perm hl HO.out hD
  have e1 : ss.mergeSort leI = liveTo ls ls.length := by rw [mergeSort_of_perm_i (hS.trans hp.symm), mergeSort_rises (liveTo_rises _ _)]
  have e2 : ss.length = (liveTo ls ls.length).length := (hS.trans hp.symm).length_eq
  refine ⟨v, rfl, ?_, ((Below.refl _ w).alloc (Nat.le_refl _) _).trans (hb.mono (by simp))⟩
  have h3 : w'.ownsRow w.heap.size 3 1 v ss.length ((ss.mergeSort leI).map (Value.int .i64)) := ownsRow_base_a hrow (by simp)
  rw [e1, e2] at h3
  exact h3

end Go.Proofs.Ythdbmmefnlediaa
