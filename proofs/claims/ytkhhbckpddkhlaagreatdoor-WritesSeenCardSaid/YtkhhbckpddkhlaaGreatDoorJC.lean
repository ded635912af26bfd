/- Nodes and Few of the reference. -/
import Derived.Test.YtkhhbckpddkhlaaGreatDoorJA
namespace Go.Proofs.YtkhhbckpddkhlaaGreatDoor
open Go.RowKit

/-- a sum that stops beyond 1000 -/
def addTo : Nat → List Nat → Nat
  | n, [] => n
  | n, x :: xs => if n ≤ 1000 then addTo (n + x) xs else n
def nodesF : Nat → JV → Nat
  | 0, _ => 1001
  | l + 1, v => min (addTo 1 (v.items.map (nodesF l))) 1001
theorem nodesF_le : ∀ l v, nodesF l v ≤ 1001
  | 0, _ => Nat.le_refl _
  | _ + 1, _ => Nat.min_le_right _ _
theorem addTo_stop {n : Nat} (h : ¬ n ≤ 1000) (l : List Nat) : addTo n l = n := by cases l <;> simp [addTo, h]
theorem addTo_step {n x : Nat} (h : n ≤ 1000) (l : List Nat) : addTo n (x :: l) = addTo (n + x) l := by simp [addTo, h]
theorem drop_of {α : Type} {l : List α} {i : Nat} {x : α} (h : l[i]? = some x) : l.drop i = x :: l.drop (i + 1) := by
  obtain ⟨hi, e⟩ := List.getElem?_eq_some_iff.1 h
  rw [List.drop_eq_getElem_cons hi, e]

theorem min_ite (a : Nat) : (if (1001 : Int) < (a : Int) then (1001 : Int) else (a : Int)) = ((min a 1001 : Nat) : Int) := by split <;> omega

set_option maxHeartbeats 1000000 in
theorem nodes_any (m : Nat) : ∀ (v : JV) (x : Value) (w : World), m ≤ 1000 → JAt (cf w) v x →
    Calls Tryz.prog 180 #[x, .int .i64 (m : Int)] w fun e w' => e = .returned (.int .i64 (nodesF m v)) ∧ Below w.heap.size w w' := by
  induction m with
  | zero =>
    intro v x w hm hv
    obtain ⟨k, n, t, nm, it, na, ncap, ia, icap, rfl, rfl, _⟩ := hv.open
    clear hv
    go_enter Tryz.func180, Tryz.ntmps180
    go_wp2_with fail
    go_ret
    exact ⟨rfl, (Below.refl _ _).alloc (Nat.le_refl _) _⟩
  | succ m ih =>
    intro v x w hm hv
    obtain ⟨k, n, t, nm, it, na, ncap, a, cap, rfl, rfl, _, _, _, _, hit⟩ := hv.open
    have IH := Lib.hid ih; clear ih hv
    obtain ⟨a', cap', ha, hlen, hel⟩ := hit
    cases ha
    have HE := Lib.hid hel; clear hel
    have e1 : ((m + 1 : Nat) : Int) = (m : Int) + 1 := by omega
    rw [e1]; clear e1
    have hm1 : ((m : Int) + 1 == 0) = false := by simp; omega
    go_enter Tryz.func180, Tryz.ntmps180
    go_wp2_with fail
    go_loopw [5, 6] (fun s i wr => ∃ j q : Nat, i = .int .i64 j ∧ j ≤ it.length ∧ s = .int .i64 q ∧ q ≤ 2001 ∧ addTo q ((it.drop j).map (nodesF m)) = addTo 1 (it.map (nodesF m)) ∧ Boxed w wr _) (fun _ i _ => it.length - (intOf i).toNat)
    case atStart => exact ⟨0, 1, rfl, Nat.zero_le _, rfl, by omega, rfl, Boxed.refl _ _⟩
    case round =>
      obtain ⟨j, q, rfl, hj, rfl, hq, hadd, hbx⟩ := hrel
      have HA := Lib.hid hadd; clear hadd
      have hbl := hbx.below
      have w4 := hbx.c4
      by_cases hlt : j < it.length
      · by_cases hq1 : q ≤ 1000
        · obtain ⟨x, hx⟩ : ∃ x, it[j]? = some x := ⟨it[j], List.getElem?_eq_getElem hlt⟩
          obtain ⟨b, off, k2, n2, t2, nm2, it2, na2, ncap2, ia2, icap2, rfl, hxe, x0, x1, x2, x3, x4, hxj⟩ := HE.out j x hx
          have y := cle_below hbl
          have z0 := y _ _ _ x0
          have z1 := y _ _ _ x1
          have z2 := y _ _ _ x2
          have z3 := y _ _ _ x3
          have z4 := y _ _ _ x4
          unfold cf at z0 z1 z2 z3 z4
          have HX := Lib.hid (hxj.mono y)
          have HXE := Lib.hid hx
          clear x0 x1 x2 x3 x4 y hx hxe hxj
          go_wp2_with fail
          refine (IH.out _ _ _ (by omega) HX.out).mono ?_
          rintro e w2 ⟨rfl, hb2⟩
          have hb3 := hbx.next hb2
          have hle := nodesF_le m x
          clear hb2 HX
          go_wp2_with fail
          go_roundw
          case rel =>
            refine ⟨j + 1, q + nodesF m x, by go_num, hlt, by go_num, by omega, ?_, hb3⟩
            rw [← HA.out, drop_of HXE.out, List.map_cons, addTo_step hq1]
          case measure => simp [intOf]; omega
        · have hf : nodesF (m + 1) (.mk k n t nm it) = 1001 := by
            have : addTo 1 (it.map (nodesF m)) = q := by rw [← HA.out, addTo_stop hq1]
            show min (addTo 1 (it.map (nodesF m))) 1001 = 1001
            rw [this]; omega
          have HF := Lib.hid hf; clear hf
          go_wp2_with fail
          all_goals
            go_ret
            refine ⟨ret_i64 ?_, hbl⟩
            rw [HF.out]; omega
      · have hf : nodesF (m + 1) (.mk k n t nm it) = min q 1001 := by
          have : addTo 1 (it.map (nodesF m)) = q := by rw [← HA.out, List.drop_of_length_le (by omega)]; rfl
          show min (addTo 1 (it.map (nodesF m))) 1001 = _
          rw [this]
        have HF := Lib.hid hf; clear hf
        go_wp2_with fail
        all_goals
          go_ret
          refine ⟨ret_i64 ?_, hbl⟩
          rw [HF.out]; omega

set_option maxHeartbeats 1000000 in
theorem Nodes_any (v : JV) (x : Value) (w : World) (h : JAt (cf w) v x) :
    Calls Tryz.prog 123 #[x] w fun e w' => e = .returned (.int .i64 (nodesF 40 v)) ∧ Below w.heap.size w w' := by
  have HX := Lib.hid (nodes_any 40 v x (w.alloc (.cells x.cells 25)) (by omega) (h.mono (cle_alloc _ _)))
  obtain ⟨k, n, t, nm, it, na, ncap, ia, icap, rfl, rfl, _⟩ := h.open
  clear h
  go_enter Tryz.func123, Tryz.ntmps123
  go_wp2_with fail
  refine HX.out.mono ?_
  rintro e w2 ⟨rfl, hb2⟩
  go_wp2_with fail
  go_ret
  exact ⟨rfl, ((Below.refl _ _).alloc (Nat.le_refl _) _).trans (hb2.mono (by simp))⟩

mutual
/-- a value of a size that is looked at -/
def fewF : JV → Bool
  | .mk k n t nm it => decide (nodesF 40 (.mk k n t nm it) ≤ 300) && decide (nm.length ≤ 100) && decide (t.size ≤ 1000) && nm.all (fun s => decide (s.size ≤ 1000)) && fewL it
def fewL : List JV → Bool
  | [] => true
  | v :: l => fewF v && fewL l
end
theorem fewL_all : ∀ l, fewL l = l.all fewF
  | [] => rfl
  | v :: l => by rw [fewL, fewL_all l]; rfl

theorem few_head {k n : Int} {t : ByteArray} {nm : List ByteArray} {it : List JV} (h : ¬ (nodesF 40 (.mk k n t nm it) ≤ 300 ∧ nm.length ≤ 100 ∧ t.size ≤ 1000)) : fewF (.mk k n t nm it) = false := by
  rw [fewF, ← Bool.not_eq_true]
  intro hh
  simp only [Bool.and_eq_true, decide_eq_true_eq] at hh
  exact h ⟨hh.1.1.1.1, hh.1.1.1.2, hh.1.1.2⟩
theorem few_name {k n : Int} {t : ByteArray} {nm : List ByteArray} {it : List JV} {i : Nat} {s : ByteArray} (hi : nm[i]? = some s) (hs : ¬ s.size ≤ 1000) : fewF (.mk k n t nm it) = false := by
  rw [fewF, ← Bool.not_eq_true]
  intro hh
  simp only [Bool.and_eq_true, List.all_eq_true, decide_eq_true_eq] at hh
  exact hs (hh.1.2 s (List.mem_of_getElem? hi))
theorem few_item {k n : Int} {t : ByteArray} {nm : List ByteArray} {it : List JV} {i : Nat} {x : JV} (hi : it[i]? = some x) (hs : fewF x = false) : fewF (.mk k n t nm it) = false := by
  rw [fewF, ← Bool.not_eq_true]
  intro hh
  rw [fewL_all] at hh
  simp only [Bool.and_eq_true, List.all_eq_true] at hh
  rw [hh.2 x (List.mem_of_getElem? hi)] at hs; cases hs
theorem few_yes {k n : Int} {t : ByteArray} {nm : List ByteArray} {it : List JV} (h : nodesF 40 (.mk k n t nm it) ≤ 300 ∧ nm.length ≤ 100 ∧ t.size ≤ 1000) (hn : ∀ (i : Nat) s, i < nm.length → nm[i]? = some s → s.size ≤ 1000) (hi : ∀ (i : Nat) x, i < it.length → it[i]? = some x → fewF x = true) : fewF (.mk k n t nm it) = true := by
  rw [fewF, fewL_all]
  simp only [Bool.and_eq_true, List.all_eq_true, decide_eq_true_eq]
  refine ⟨⟨⟨⟨h.1, h.2.1⟩, h.2.2⟩, fun s hs => ?_⟩, fun x hx => ?_⟩
  · obtain ⟨i, hil, e⟩ := List.getElem_of_mem hs
    exact hn i s hil (by rw [← e]; exact List.getElem?_eq_getElem hil)
  · obtain ⟨i, hil, e⟩ := List.getElem_of_mem hx
    exact hi i x hil (by rw [← e]; exact List.getElem?_eq_getElem hil)

theorem ret_bool {a b : Bool} (h : a = b) : Ending.returned (.bool a) = .returned (.bool b) := by rw [h]

set_option maxHeartbeats 2000000 in
theorem few_any {c : CF} {v : JV} {x : Value} (h : JAt c v x) : ∀ w : World, CLe c (cf w) →
    Calls Tryz.prog 80 #[x] w fun e w' => e = .returned (.bool (fewF v)) ∧ Below w.heap.size w w' := by
  induction h with
  | mk k n t nm it nv a cap cell hk hn ht hs hl hc hi ih =>
    intro w hcle
    have hJ : JAt (cf w) (.mk k n t nm it) _ := (JAt.mk k n t nm it nv a cap cell hk hn ht hs hl hc hi).mono hcle
    have HN := Lib.hid (Nodes_any _ _ (w.alloc (.cells #[.int .i64 k, .int .i64 n, .string t, nv, .slice a it.length cap] 25)) (hJ.mono (cle_alloc _ _)))
    have hno := nodesF_le 40 (.mk k n t nm it)
    obtain ⟨na, ncap, rfl, hnl, hnel⟩ := hs.mono hcle
    have HS := Lib.hid hnel; clear hnel
    have IH := Lib.hid ih
    have HC : Hid (∀ (i : Nat) v, it[i]? = some v → ∃ b off, a = some ⟨b, off, none⟩ ∧ Cells5 (cf w) b (off + i * 5) (cell i)) := fun i v hv => by
      obtain ⟨b, off, h1, h2⟩ := hc i v hv
      exact ⟨b, off, h1, h2.mono hcle⟩
    clear ih hJ hs hi hc
    by_cases h1 : nodesF 40 (.mk k n t nm it) ≤ 300 ∧ nm.length ≤ 100 ∧ t.size ≤ 1000
    · obtain ⟨hn1, hn2, hn3⟩ := h1
      have HY := Lib.hid (few_yes (k := k) (n := n) (t := t) (nm := nm) (it := it) ⟨hn1, hn2, hn3⟩)
      generalize hno2 : nodesF 40 (.mk k n t nm it) = no at HN hno hn1
      clear hno2
      go_enter Tryz.func80, Tryz.ntmps80
      go_wp2_with fail
      refine HN.out.mono ?_
      rintro e w2 ⟨rfl, hb2⟩
      have hbx : Boxed w w2 _ := (Boxed.refl w (.cells #[.int .i64 k, .int .i64 n, .string t, .slice na nm.length ncap, .slice a it.length cap] 25)).next hb2
      have y2 := hbx.c2
      have y3 := hbx.c3
      have y4 := hbx.c4
      have hbl := hbx.below
      have HB := Lib.hid hbx
      clear hb2 HN hbx
      go_wp2_with fail
      go_loop [3] (fun i => ∃ j : Nat, i = .int .i64 j ∧ j ≤ nm.length ∧ ∀ (q : Nat) s, q < j → nm[q]? = some s → s.size ≤ 1000) (fun i => nm.length - (intOf i).toNat)
      case atStart => exact ⟨0, rfl, Nat.zero_le _, fun q s h => by omega⟩
      case round =>
        obtain ⟨j, rfl, hj, hall⟩ := hrel
        have HA := Lib.hid hall; clear hall
        by_cases hlt : j < nm.length
        · obtain ⟨s, hs⟩ : ∃ s, nm[j]? = some s := ⟨nm[j], List.getElem?_eq_getElem hlt⟩
          obtain ⟨hsz, b, off, rfl, hcell⟩ := HS.out j s hs
          have z0 := cle_below hbl _ _ _ hcell
          unfold cf at z0
          have HSE := Lib.hid hs
          clear hcell hs
          by_cases hs1 : s.size ≤ 1000
          · go_wp2_with fail
            go_round
            case rel =>
              refine ⟨j + 1, by go_num, hlt, fun q s' hq hs' => ?_⟩
              by_cases e : q = j
              · subst e; rw [HSE.out] at hs'; cases hs'; exact hs1
              · exact HA.out q s' (by omega) hs'
            case measure => simp [intOf]; omega
          · have HF := Lib.hid (few_name (k := k) (n := n) (t := t) (it := it) HSE.out hs1)
            go_wp2_with fail
            go_ret
            exact ⟨ret_bool HF.out.symm, hbl⟩
        · have HA2 : Hid (∀ (q : Nat) s, q < nm.length → nm[q]? = some s → s.size ≤ 1000) := fun q s hq => HA.out q s (by omega)
          clear HA HS
          go_wp2_with fail
          go_loopw [4] (fun i wr => ∃ j : Nat, i = .int .i64 j ∧ j ≤ it.length ∧ (∀ (q : Nat) x, q < j → it[q]? = some x → fewF x = true) ∧ Boxed w wr (.cells #[.int .i64 k, .int .i64 n, .string t, .slice na nm.length ncap, .slice a it.length cap] 25)) (fun i _ => it.length - (intOf i).toNat)
          case atStart => exact ⟨0, rfl, Nat.zero_le _, fun q s h => by omega, HB.out⟩
          case round =>
            clear y2 y3 y4 hbl HB
            obtain ⟨i, rfl, hi, hall, hbx⟩ := hrel
            have HA := Lib.hid hall; clear hall
            have y4 := hbx.c4
            have hbl := hbx.below
            have HB := Lib.hid hbx; clear hbx
            by_cases hil : i < it.length
            · obtain ⟨x, hx⟩ : ∃ x, it[i]? = some x := ⟨it[i], List.getElem?_eq_getElem hil⟩
              obtain ⟨b, off, rfl, c0, c1, c2, c3, c4, hce, x0, x1, x2, x3, x4⟩ := HC.out i x hx
              have y := cle_below hbl
              have z0 := y _ _ _ x0
              have z1 := y _ _ _ x1
              have z2 := y _ _ _ x2
              have z3 := y _ _ _ x3
              have z4 := y _ _ _ x4
              unfold cf at z0 z1 z2 z3 z4
              have HX := Lib.hid (IH.out i x hx wr (hcle.trans y))
              rw [hce] at HX
              have HXE := Lib.hid hx
              clear x0 x1 x2 x3 x4 y hx hce
              cases hfx : fewF x with
              | true =>
                rw [hfx] at HX
                have HFX := Lib.hid hfx; clear hfx
                go_wp2_with fail
                refine HX.out.mono ?_
                rintro e w3 ⟨rfl, hb3⟩
                have HB3 := Lib.hid (HB.out.next hb3)
                clear hb3
                go_wp2_with fail
                go_roundw
                case rel =>
                  refine ⟨i + 1, by go_num, hil, fun q s' hq hs' => ?_, HB3.out⟩
                  by_cases e : q = i
                  · subst e; rw [HXE.out] at hs'; cases hs'; exact HFX.out
                  · exact HA.out q s' (by omega) hs'
                case measure => simp [intOf]; omega
              | false =>
                rw [hfx] at HX
                have HFX := Lib.hid (few_item (k := k) (n := n) (t := t) (nm := nm) HXE.out hfx); clear hfx
                go_wp2_with fail
                refine HX.out.mono ?_
                rintro e w3 ⟨rfl, hb3⟩
                have hb4 := (HB.out.next hb3).below
                clear hb3
                go_wp2_with fail
                go_ret
                exact ⟨ret_bool HFX.out.symm, hb4⟩
            · have HF := Lib.hid (HY.out HA2.out (fun q x hq => HA.out q x (by omega)))
              go_wp2_with fail
              go_ret
              exact ⟨ret_bool HF.out.symm, hbl⟩
    · have HF := Lib.hid (few_head h1)
      clear IH HC HS
      generalize nodesF 40 (.mk k n t nm it) = no at HN hno h1
      by_cases hn1 : no ≤ 300
      · by_cases hn2 : nm.length ≤ 100
        · have hn3 : ¬ t.size ≤ 1000 := fun h => h1 ⟨hn1, hn2, h⟩
          clear h1
          go_enter Tryz.func80, Tryz.ntmps80
          go_wp2_with fail
          refine HN.out.mono ?_
          rintro e w2 ⟨rfl, hb2⟩
          have hbx : Boxed w w2 _ := (Boxed.refl w (.cells #[.int .i64 k, .int .i64 n, .string t, .slice na nm.length ncap, .slice a it.length cap] 25)).next hb2
          have y2 := hbx.c2
          have y3 := hbx.c3
          have hbl := hbx.below
          clear hb2 HN hbx
          go_wp2_with fail
          go_ret
          exact ⟨ret_bool HF.out.symm, hbl⟩
        · clear h1
          go_enter Tryz.func80, Tryz.ntmps80
          go_wp2_with fail
          refine HN.out.mono ?_
          rintro e w2 ⟨rfl, hb2⟩
          have hbx : Boxed w w2 _ := (Boxed.refl w (.cells #[.int .i64 k, .int .i64 n, .string t, .slice na nm.length ncap, .slice a it.length cap] 25)).next hb2
          have y3 := hbx.c3
          have hbl := hbx.below
          clear hb2 HN hbx
          go_wp2_with fail
          go_ret
          exact ⟨ret_bool HF.out.symm, hbl⟩
      · clear h1
        go_enter Tryz.func80, Tryz.ntmps80
        go_wp2_with fail
        refine HN.out.mono ?_
        rintro e w2 ⟨rfl, hb2⟩
        have hbl := ((Boxed.refl w (.cells #[.int .i64 k, .int .i64 n, .string t, .slice na nm.length ncap, .slice a it.length cap] 25)).next hb2).below
        clear hb2 HN
        go_wp2_with fail
        go_ret
        exact ⟨ret_bool HF.out.symm, hbl⟩

end Go.Proofs.YtkhhbckpddkhlaaGreatDoor
