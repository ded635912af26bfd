/- Depth, of the program and of the reference. -/
import Derived.Test.YtcmfanfkcbjeoaaGreatDoorJA
namespace Go.Proofs.YtcmfanfkcbjeoaaGreatDoor
open Go.RowKit

def maxOf (l : List Nat) : Nat := l.foldl max 0
theorem foldl_max (l : List Nat) (a : Nat) : l.foldl max a = max a (maxOf l) := by
  unfold maxOf
  induction l generalizing a with
  | nil => simp
  | cons x l ih => simp only [List.foldl_cons]; rw [ih, ih (max 0 x)]; omega
theorem maxOf_snoc (l : List Nat) (x : Nat) : maxOf (l ++ [x]) = max (maxOf l) x := by simp [maxOf, List.foldl_append]
theorem maxOf_le {l : List Nat} {b : Nat} (h : ∀ x ∈ l, x ≤ b) : maxOf l ≤ b := by
  induction l with
  | nil => exact Nat.zero_le _
  | cons x l ih =>
    unfold maxOf; rw [List.foldl_cons, foldl_max]
    have := h x (by simp); have := ih (fun y hy => h y (by simp [hy])); omega

/-- how deep, at most so much -/
def depthF : Nat → JV → Nat
  | 0, _ => 1
  | m + 1, v => if (v.kind = 5 ∨ v.kind = 6) ∧ m ≠ 0 then maxOf (v.items.map (depthF m)) + 1 else 1
theorem depthF_le : ∀ m v, depthF m v ≤ m + 1
  | 0, _ => by simp [depthF]
  | m + 1, v => by
    unfold depthF; split
    · have : maxOf (v.items.map (depthF m)) ≤ m + 1 := maxOf_le fun x hx => by
        obtain ⟨y, _, rfl⟩ := List.mem_map.1 hx; exact depthF_le m y
      omega
    · omega
theorem depthF_one (v : JV) : depthF 1 v = 1 := by simp [depthF]
theorem depthF_leaf (m : Nat) (v : JV) (h5 : v.kind ≠ 5) (h6 : v.kind ≠ 6) : depthF (m + 1) v = 1 := by simp [depthF, h5, h6]
theorem depthF_node (m : Nat) (v : JV) (h : v.kind = 5 ∨ v.kind = 6) : depthF (m + 1 + 1) v = maxOf (v.items.map (depthF (m + 1))) + 1 := by
  rw [depthF, if_pos ⟨h, by omega⟩]

set_option maxHeartbeats 1000000 in
theorem rdepth_any (m : Nat) : ∀ (v : JV) (x : Value) (w : World), m ≤ 1000 → JAt (cf w) v x →
    Calls Tryz.prog 175 #[x, .int .i64 ((m : Int) + 1)] w fun e w' => e = .returned (.int .i64 (depthF (m + 1) v)) ∧ Below w.heap.size w w' := by
  induction m with
  | zero =>
    intro v x w hm hv
    obtain ⟨k, n, t, nm, it, na, ncap, ia, icap, rfl, rfl, _⟩ := hv.open
    clear hv
    by_cases h5 : k = 5
    · subst h5
      go_enter Tryz.func175, Tryz.ntmps175
      go_wp2_with fail
      go_ret
      exact ⟨rfl, (Below.refl _ _).alloc (Nat.le_refl _) _⟩
    · have h5b : (k != 5) = true := by simpa using h5
      by_cases h6 : k = 6
      · subst h6
        go_enter Tryz.func175, Tryz.ntmps175
        go_wp2_with fail
        go_ret
        exact ⟨rfl, (Below.refl _ _).alloc (Nat.le_refl _) _⟩
      · have h6b : (k != 6) = true := by simpa using h6
        clear h5 h6
        go_enter Tryz.func175, Tryz.ntmps175
        go_wp2_with fail
        go_ret
        exact ⟨ret_i64 (by rw [depthF_one]; rfl), (Below.refl _ _).alloc (Nat.le_refl _) _⟩
  | succ m ih =>
    intro v x w hm hv
    obtain ⟨k, n, t, nm, it, na, ncap, a, cap, rfl, rfl, _, _, _, _, hit⟩ := hv.open
    have IH := Lib.hid ih; clear ih hv
    obtain ⟨a', cap', ha, hlen, hel⟩ := hit
    cases ha
    have HE := Lib.hid hel; clear hel
    have e1 : ((m + 1 : Nat) : Int) + 1 = (m : Int) + 2 := by omega
    rw [e1]; clear e1
    by_cases hleaf : k ≠ 5 ∧ k ≠ 6
    · have h5b : (k != 5) = true := by simpa using hleaf.1
      have h6b : (k != 6) = true := by simpa using hleaf.2
      have HL := Lib.hid hleaf; clear hleaf
      go_enter Tryz.func175, Tryz.ntmps175
      go_wp2_with fail
      go_ret
      exact ⟨ret_i64 (by rw [depthF_leaf _ (.mk k n t nm it) HL.out.1 HL.out.2]; rfl), (Below.refl _ _).alloc (Nat.le_refl _) _⟩
    · have hk : k = 5 ∨ k = 6 := by omega
      have HK : Hid ((JV.mk k n t nm it).kind = 5 ∨ (JV.mk k n t nm it).kind = 6) := hk
      have hm1 : ((m : Int) + 2 == 1) = false := by simp; omega
      rcases hk with rfl | rfl
      all_goals
        clear hleaf
        go_enter Tryz.func175, Tryz.ntmps175
        go_wp2_with fail
        go_loopw [5, 6] (fun s i wr => ∃ j : Nat, i = .int .i64 j ∧ j ≤ it.length ∧ s = .int .i64 (maxOf ((it.take j).map (depthF (m + 1)))) ∧ Boxed w wr _) (fun _ i _ => it.length - (intOf i).toNat)
        case atStart => exact ⟨0, rfl, Nat.zero_le _, by simp [maxOf], Boxed.refl _ _⟩
        case round =>
          obtain ⟨j, rfl, hj, rfl, hbx⟩ := hrel
          have hbl := hbx.below
          have w4 := hbx.c4
          by_cases hlt : j < it.length
          · obtain ⟨x, hx⟩ : ∃ x, it[j]? = some x := ⟨it[j], List.getElem?_eq_getElem hlt⟩
            obtain ⟨b, off, k2, n2, t2, nm2, it2, na2, ncap2, ia2, icap2, rfl, hxe, x0, x1, x2, x3, x4, hxj⟩ := HE.out j x hx
            have y := cle_below hbl
            have z0 := y _ _ _ x0
            have z1 := y _ _ _ x1
            have z2 := y _ _ _ x2
            have z3 := y _ _ _ x3
            have z4 := y _ _ _ x4
            unfold cf at z0 z1 z2 z3 z4
            have HX := Lib.hid (hxj.mono y)
            have HXE := Lib.hid hx
            clear x0 x1 x2 x3 x4 y hx hxe hxj
            go_wp2_with fail
            rw [show (m : Int) + 2 - 1 = (m : Int) + 1 from by omega]
            refine (IH.out _ _ _ (by omega) HX.out).mono ?_
            rintro e w2 ⟨rfl, hb2⟩
            have hb3 := hbx.next hb2
            have hle := depthF_le (m + 1) x
            clear hb2 HX
            have hmx := maxOf_snoc ((it.take j).map (depthF (m + 1))) (depthF (m + 1) x)
            have HMX := Lib.hid hmx; clear hmx
            generalize maxOf ((it.take j).map (depthF (m + 1))) = mo at HMX ⊢
            go_wp2_with fail
            go_roundw
            case rel => 
              refine ⟨j + 1, by go_num, hlt, ?_, hb3⟩
              rw [take_succ HXE.out, List.map_append, List.map_singleton, HMX.out]
              rw [max_ite]
            case measure => simp [intOf]; omega
          · have e : it.take j = it := List.take_of_length_le (by omega)
            rw [e]
            have hmo : maxOf (it.map (depthF (m + 1))) ≤ m + 2 := maxOf_le fun y hy => by obtain ⟨z, _, rfl⟩ := List.mem_map.1 hy; exact depthF_le _ z
            have hf := depthF_node m (.mk _ n t nm it) HK.out
            have HF := Lib.hid hf
            clear hf e HE
            change Hid (_ = maxOf (it.map (depthF (m + 1))) + 1) at HF
            generalize maxOf (it.map (depthF (m + 1))) = mo at hmo HF ⊢
            go_wp2_with fail
            go_ret
            exact ⟨ret_i64 (by rw [HF.out]; rfl), hbl⟩

end Go.Proofs.YtcmfanfkcbjeoaaGreatDoor
