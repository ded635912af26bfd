/- The reference's text of a value, and its Print. -/
import Derived.Test.YthbahjgccipjkaaDoorPR
import Derived.Test.YthbahjgccipjkaaDoorJL
namespace Go.Proofs.YthbahjgccipjkaaDoor
open Go.RowKit

/-- what show of the reference is known to answer, going down d -/
def ShowAt (d : Nat) : Prop := ∀ (v : JV) (x : Value) (w : World), formedF d v = true → JAt (cf w) v x →
  Calls Tryd.prog 30 #[x] w fun e w' => e = .returned (.string (ba (showF d v))) ∧ Below w.heap.size w w'

/-- a bound that nothing passes: of depth 6 -/
theorem lenB_le : ∀ d : Nat, d ≤ 6 → lenB d ≤ 100000000000
  | 0, _ => by decide
  | 1, _ => by decide
  | 2, _ => by decide
  | 3, _ => by decide
  | 4, _ => by decide
  | 5, _ => by decide
  | 6, _ => by decide
  | n + 7, h => by omega
theorem show_size {d : Nat} (hd : d ≤ 6) {v : JV} {c : CF} {x : Value} (hv : JAt c v x) (hf : formedF d v = true) : (ba (showF d v)).size ≤ 100000000000 := by
  rw [ba_size]; exact Nat.le_trans (showF_len d v c x hv hf) (lenB_le d hd)
theorem part_size {d : Nat} (hd : d ≤ 6) {c : CF} {iv : Value} {nm : List ByteArray} {it : List JV} {k : Int} (hit : ItemsAt c iv it) (hn : ∀ s ∈ nm, textF s = true) (hf : ∀ x ∈ it, formedF d x = true) (h24 : it.length ≤ 24) {j : Nat} (hj : j ≤ it.length) :
    (ba (partF (showF d) k nm it j)).size ≤ 3000000000000 := by
  rw [ba_size]
  refine Nat.le_trans (partF_len (L := 100000000000) hn (fun x hx => ?_) j) ?_
  · obtain ⟨y, hy⟩ := JAt.item hit hx
    exact Nat.le_trans (showF_len d x c y hy (hf x hx)) (lenB_le d hd)
  · refine Nat.le_trans (Nat.mul_le_mul_right _ (Nat.le_trans hj h24)) (by decide)
theorem quoted_size {s : ByteArray} (h : s.size ≤ 60) : (ba (quotedF s.data.toList)).size ≤ 400 := by
  have := @quotedF_len s
  rw [ba_size]; omega

set_option maxRecDepth 100000 in
set_option maxHeartbeats 4000000 in
theorem show_leaf (k n : Int) (hk : k = 0 ∨ k = 1 ∨ k = 2 ∨ k = 3 ∨ k = 4) (t : ByteArray) (nv iv : Value) (d : Nat) (nm : List ByteArray) (it : List JV) (w : World) (hn : (Lit.int .i64 n).wf = true) (ht : t.size ≤ 60) :
    Calls Tryd.prog 30 #[.agg #[.int .i64 k, .int .i64 n, .string t, nv, iv]] w fun e w' => e = .returned (.string (ba (showF (d + 1) (.mk k n t nm it)))) ∧ Below w.heap.size w w' := by
  have HD := Hold.mk (fun w => rDigits_any n w hn)
  have HQ := Hold.mk (fun w => rQuoted_any t w (by omega))
  clear hn
  rcases hk with rfl | rfl | rfl | rfl | rfl
  · go_enter Tryd.func30, Tryd.ntmps30
    go_wp2_with fail
    go_ret
    exact ⟨rfl, (Below.refl _ _).alloc (Nat.le_refl _) _⟩
  · go_enter Tryd.func30, Tryd.ntmps30
    go_wp2_with fail
    go_ret
    exact ⟨rfl, (Below.refl _ _).alloc (Nat.le_refl _) _⟩
  · go_enter Tryd.func30, Tryd.ntmps30
    go_wp2_with fail
    go_ret
    exact ⟨rfl, (Below.refl _ _).alloc (Nat.le_refl _) _⟩
  · go_enter Tryd.func30, Tryd.ntmps30
    go_wp2_with fail
    refine (HD.out _).mono ?_
    rintro e w1 ⟨rfl, hb⟩
    have HB := Hold.mk (((Below.refl _ w).alloc (Nat.le_refl _) _).trans (hb.mono (by simp)))
    clear hb
    go_wp2_with fail
    go_ret
    exact ⟨rfl, HB.out⟩
  · go_enter Tryd.func30, Tryd.ntmps30
    go_wp2_with fail
    refine (HQ.out _).mono ?_
    rintro e w1 ⟨rfl, hb⟩
    have HB := Hold.mk (((Below.refl _ w).alloc (Nat.le_refl _) _).trans (hb.mono (by simp)))
    clear hb
    go_wp2_with fail
    go_ret
    exact ⟨rfl, HB.out⟩

set_option maxRecDepth 100000 in
set_option maxHeartbeats 8000000 in
theorem show_array (d : Nat) (hd : d ≤ 6) (IH : ShowAt d) (n : Int) (t : ByteArray) (nm : List ByteArray) (it : List JV) (na : Option Addr) (ncap : Nat) (ia : Option Addr) (icap : Nat) (w : World)
    (h24 : it.length ≤ 24) (hnm : ∀ s ∈ nm, textF s = true) (hfi : ∀ x ∈ it, formedF d x = true) (hit : ItemsAt (cf w) (.slice ia it.length icap) it) :
    Calls Tryd.prog 30 #[.agg #[.int .i64 5, .int .i64 n, .string t, .slice na nm.length ncap, .slice ia it.length icap]] w fun e w' => e = .returned (.string (ba ([91] ++ partF (showF d) 5 nm it it.length ++ [93]))) ∧ Below w.heap.size w w' := by
  have HPS := Hold.mk (fun j hj => part_size (k := 5) (j := j) hd hit hnm hfi h24 hj)
  obtain ⟨ia', icap', e, hlen, hel⟩ := hit
  cases e
  have HE := Hold.mk hel
  have HIH := Hold.mk IH
  have HFI := Hold.mk hfi
  have HNM := Hold.mk hnm
  have HD := Hold.mk hd
  clear hel IH hfi hnm hd
  go_enter Tryd.func30, Tryd.ntmps30
  go_wp2_with fail
  go_loopw [3, 4] (fun o i wr => ∃ j : Nat, i = .int .i64 j ∧ j ≤ it.length ∧ o = .string (ba (partF (showF d) 5 nm it j)) ∧ Boxed w wr _) (fun _ i _ => it.length - (intOf i).toNat)
  case atStart => exact ⟨0, rfl, Nat.zero_le _, rfl, Boxed.refl _ _⟩
  case round =>
    obtain ⟨j, rfl, hj, rfl, hbx⟩ := hrel
    have y0 := hbx.c0
    have y3 := hbx.c3
    have y4 := hbx.c4
    have HB := Hold.mk hbx
    have hz := HPS.out j hj
    clear hbx
    by_cases hlt : j < it.length
    · obtain ⟨x, hx⟩ : ∃ x, it[j]? = some x := ⟨it[j], List.getElem?_eq_getElem hlt⟩
      obtain ⟨bb, off, k2, n2, t2, nm2, it2, na2, ncap2, ia2, icap2, rfl, hxe, x0, x1, x2, x3, x4, hxj⟩ := HE.out j x hx
      have hcl := cle_below HB.out.below
      have z0 := hcl _ _ _ x0
      have z1 := hcl _ _ _ x1
      have z2 := hcl _ _ _ x2
      have z3 := hcl _ _ _ x3
      have z4 := hcl _ _ _ x4
      unfold cf at z0 z1 z2 z3 z4
      have HX := Hold.mk hxj
      have HFX := Hold.mk (HFI.out x (List.mem_of_getElem? hx))
      have hz2 := show_size HD.out hxj HFX.out
      have HST : Hold (partF (showF d) 5 nm it (j + 1) = partF (showF d) 5 nm it j ++ (headF 5 nm j ++ showF d x)) := ⟨by rw [partF, hx]; rfl⟩
      clear x0 x1 x2 x3 x4 hx hxe hxj hcl
      generalize partF (showF d) 5 nm it j = l1 at *
      by_cases hj0 : j = 0
      · have hj1 : ¬ 0 < j := by omega
        have HH : Hold (headF 5 nm j = []) := ⟨by simp [headF, hj0]⟩
        clear hj0
        go_wp2_with fail
        refine (HIH.out x _ _ HFX.out (HX.out.mono (cle_below HB.out.below))).mono ?_
        rintro e w3 ⟨rfl, hb3⟩
        replace HB := Hold.mk (HB.out.next hb3)
        clear hb3 y0 y3 y4 z0 z1 z2 z3 z4
        go_wp2_with fail
        exact ⟨⟨j + 1, by go_num, hlt, by rw [HST.out, HH.out]; exact congrArg Value.string (ba_of (by simp [ByteArray.data_append, ba_list])), HB.out⟩, by simp [intOf]; omega⟩
      · have hj1 : 0 < j := by omega
        have HH : Hold (headF 5 nm j = [44]) := ⟨by simp [headF, hj0]⟩
        clear hj0
        go_wp2_with fail
        refine (HIH.out x _ _ HFX.out (HX.out.mono (cle_below HB.out.below))).mono ?_
        rintro e w3 ⟨rfl, hb3⟩
        replace HB := Hold.mk (HB.out.next hb3)
        clear hb3 y0 y3 y4 z0 z1 z2 z3 z4
        go_wp2_with fail
        exact ⟨⟨j + 1, by go_num, hlt, by rw [HST.out, HH.out]; exact congrArg Value.string (ba_of (by simp [ByteArray.data_append, ba_list])), HB.out⟩, by simp [intOf]; omega⟩
    · have ej : j = it.length := by omega
      have HJ := Hold.mk ej
      clear ej
      go_wp2_with fail
      go_ret
      exact ⟨ret_str (by rw [HJ.out]; exact ba_of (by simp [ByteArray.data_append, ba_list])), HB.out.below⟩

set_option maxRecDepth 100000 in
set_option maxHeartbeats 8000000 in
theorem show_object (d : Nat) (hd : d ≤ 6) (IH : ShowAt d) (n : Int) (t : ByteArray) (nm : List ByteArray) (it : List JV) (na : Option Addr) (ncap : Nat) (ia : Option Addr) (icap : Nat) (w : World)
    (h24 : it.length ≤ 24) (hnl : nm.length = it.length) (hnm : ∀ s ∈ nm, textF s = true) (hfi : ∀ x ∈ it, formedF d x = true) (hst : StrsAt (cf w) (.slice na nm.length ncap) nm) (hit : ItemsAt (cf w) (.slice ia it.length icap) it) :
    Calls Tryd.prog 30 #[.agg #[.int .i64 6, .int .i64 n, .string t, .slice na nm.length ncap, .slice ia it.length icap]] w fun e w' => e = .returned (.string (ba ([123] ++ partF (showF d) 6 nm it it.length ++ [125]))) ∧ Below w.heap.size w w' := by
  have HPS := Hold.mk (fun j hj => part_size (k := 6) (j := j) hd hit hnm hfi h24 hj)
  obtain ⟨ia', icap', e, hlen, hel⟩ := hit
  cases e
  obtain ⟨na', ncap', e, hnlen, hnel⟩ := hst
  cases e
  have HS := Hold.mk hnel
  have HNL := Hold.mk hnl
  clear hnel hnl
  have HE := Hold.mk hel
  have HIH := Hold.mk IH
  have HFI := Hold.mk hfi
  have HNM := Hold.mk hnm
  have HD := Hold.mk hd
  clear hel IH hfi hnm hd
  go_enter Tryd.func30, Tryd.ntmps30
  go_wp2_with fail
  go_loopw [3, 4] (fun o i wr => ∃ j : Nat, i = .int .i64 j ∧ j ≤ it.length ∧ o = .string (ba (partF (showF d) 6 nm it j)) ∧ Boxed w wr _) (fun _ i _ => it.length - (intOf i).toNat)
  case atStart => exact ⟨0, rfl, Nat.zero_le _, rfl, Boxed.refl _ _⟩
  case round =>
    obtain ⟨j, rfl, hj, rfl, hbx⟩ := hrel
    have y0 := hbx.c0
    have y3 := hbx.c3
    have y4 := hbx.c4
    have HB := Hold.mk hbx
    have hz := HPS.out j hj
    clear hbx
    by_cases hlt : j < it.length
    · obtain ⟨x, hx⟩ : ∃ x, it[j]? = some x := ⟨it[j], List.getElem?_eq_getElem hlt⟩
      obtain ⟨bb, off, k2, n2, t2, nm2, it2, na2, ncap2, ia2, icap2, rfl, hxe, x0, x1, x2, x3, x4, hxj⟩ := HE.out j x hx
      obtain ⟨s, hs⟩ : ∃ s, nm[j]? = some s := ⟨nm[j]'(by rw [HNL.out]; exact hlt), List.getElem?_eq_getElem (by rw [HNL.out]; exact hlt)⟩
      have hsj : j < nm.length := by rw [HNL.out]; exact hlt
      obtain ⟨_, sb, so, rfl, hsc⟩ := HS.out j s hs
      have hq := quoted_size (text_size (HNM.out s (List.mem_of_getElem? hs)))
      have HQ := Hold.mk (fun w => rQuoted_any s w (Nat.le_trans (text_size (HNM.out s (List.mem_of_getElem? hs))) (by decide)))
      have hcl := cle_below HB.out.below
      have z0 := hcl _ _ _ x0
      have z1 := hcl _ _ _ x1
      have z2 := hcl _ _ _ x2
      have z3 := hcl _ _ _ x3
      have z4 := hcl _ _ _ x4
      have z5 := hcl _ _ _ hsc
      unfold cf at z0 z1 z2 z3 z4 z5
      have HX := Hold.mk hxj
      have HFX := Hold.mk (HFI.out x (List.mem_of_getElem? hx))
      have hz2 := show_size HD.out hxj HFX.out
      have HST : Hold (partF (showF d) 6 nm it (j + 1) = partF (showF d) 6 nm it j ++ (headF 6 nm j ++ showF d x)) := ⟨by rw [partF, hx]; rfl⟩
      have HSX := Hold.mk hs
      have HX0 := Hold.mk x0
      have HX1 := Hold.mk x1
      have HX2 := Hold.mk x2
      have HX3 := Hold.mk x3
      have HX4 := Hold.mk x4
      clear x0 x1 x2 x3 x4 hx hxe hxj hcl hsc hs
      generalize partF (showF d) 6 nm it j = l1 at *
      by_cases hj0 : j = 0
      · have hj1 : ¬ 0 < j := by omega
        have HH : Hold (headF 6 nm j = quotedF s.data.toList ++ [58]) := ⟨by unfold headF; rw [if_pos hj0, if_pos rfl, List.getD_eq_getElem?_getD, HSX.out]; rfl⟩
        clear hj0
        go_wp2_with fail
        refine (HQ.out _).mono ?_
        rintro e w2 ⟨rfl, hb2⟩
        replace HB := Hold.mk (HB.out.next hb2)
        clear y0 y3 y4 z0 z1 z2 z3 z4 z5 hb2
        have y0 := HB.out.c0
        have y3 := HB.out.c3
        have y4 := HB.out.c4
        have hcl := cle_below HB.out.below
        have z0 := hcl _ _ _ HX0.out
        have z1 := hcl _ _ _ HX1.out
        have z2 := hcl _ _ _ HX2.out
        have z3 := hcl _ _ _ HX3.out
        have z4 := hcl _ _ _ HX4.out
        unfold cf at z0 z1 z2 z3 z4
        clear hcl
        go_wp2_with fail
        refine (HIH.out x _ _ HFX.out (HX.out.mono (cle_below HB.out.below))).mono ?_
        rintro e w3 ⟨rfl, hb3⟩
        replace HB := Hold.mk (HB.out.next hb3)
        clear hb3 y0 y3 y4 z0 z1 z2 z3 z4
        go_wp2_with fail
        exact ⟨⟨j + 1, by go_num, hlt, by rw [HST.out, HH.out]; exact congrArg Value.string (ba_of (by simp [ByteArray.data_append, ba_list])), HB.out⟩, by simp [intOf]; omega⟩
      · have hj1 : 0 < j := by omega
        have HH : Hold (headF 6 nm j = [44] ++ quotedF s.data.toList ++ [58]) := ⟨by unfold headF; rw [if_neg hj0, if_pos rfl, List.getD_eq_getElem?_getD, HSX.out]; rfl⟩
        clear hj0
        go_wp2_with fail
        refine (HQ.out _).mono ?_
        rintro e w2 ⟨rfl, hb2⟩
        replace HB := Hold.mk (HB.out.next hb2)
        clear y0 y3 y4 z0 z1 z2 z3 z4 z5 hb2
        have y0 := HB.out.c0
        have y3 := HB.out.c3
        have y4 := HB.out.c4
        have hcl := cle_below HB.out.below
        have z0 := hcl _ _ _ HX0.out
        have z1 := hcl _ _ _ HX1.out
        have z2 := hcl _ _ _ HX2.out
        have z3 := hcl _ _ _ HX3.out
        have z4 := hcl _ _ _ HX4.out
        unfold cf at z0 z1 z2 z3 z4
        clear hcl
        go_wp2_with fail
        refine (HIH.out x _ _ HFX.out (HX.out.mono (cle_below HB.out.below))).mono ?_
        rintro e w3 ⟨rfl, hb3⟩
        replace HB := Hold.mk (HB.out.next hb3)
        clear hb3 y0 y3 y4 z0 z1 z2 z3 z4
        go_wp2_with fail
        exact ⟨⟨j + 1, by go_num, hlt, by rw [HST.out, HH.out]; exact congrArg Value.string (ba_of (by simp [ByteArray.data_append, ba_list])), HB.out⟩, by simp [intOf]; omega⟩
    · have ej : j = it.length := by omega
      have HJ := Hold.mk ej
      clear ej
      go_wp2_with fail
      go_ret
      exact ⟨ret_str (by rw [HJ.out]; exact ba_of (by simp [ByteArray.data_append, ba_list])), HB.out.below⟩

theorem show_any : ∀ d, d ≤ 6 → ShowAt d
  | 0, _ => fun v x w hf => by simp [formedF] at hf
  | d + 1, hd => fun v x w hf hv => by
    have IH := show_any d (by omega)
    obtain ⟨k, n, t, nm, it, na, ncap, ia, icap, rfl, rfl, _, hn, _, hst, hit⟩ := hv.open
    have h1 := formed_head hf
    by_cases h5 : k = 5
    · subst h5
      obtain ⟨h24, _, hnm, hfi, _⟩ := formed_body hf (by decide)
      rw [showF, if_neg (by decide), if_neg (by decide), if_pos rfl]
      exact show_array d (by omega) IH n t nm it na ncap ia icap w h24 hnm hfi hit
    by_cases h6 : k = 6
    · subst h6
      obtain ⟨h24, hnl, hnm, hfi, _⟩ := formed_body hf (by decide)
      rw [showF, if_neg (by decide), if_neg (by decide), if_neg (by decide), if_pos rfl]
      exact show_object d (by omega) IH n t nm it na ncap ia icap w h24 (by simpa using hnl) hnm hfi hst hit
    have h0 := h1.1
    have h7 := h1.2.1
    exact show_leaf k n (by omega) t _ _ d nm it w hn (text_size h1.2.2.2.2)

end Go.Proofs.YthbahjgccipjkaaDoor
