/- formed of the program: its members, by a closure handed to slices.ContainsFunc; formed whole. -/
import Derived.Test.YtfllnlmanopfaaaDoorJF
namespace Go.Proofs.YtfllnlmanopfaaaDoor
open Go.RowKit

/-- one text is ahead of another, byte by byte -/
def strLt (a b : ByteArray) : Bool := Op.bytesLess a.toList b.toList
/-- names rise, byte by byte -/
def rises : List ByteArray → Bool
  | a :: b :: l => strLt a b && rises (b :: l)
  | _ => true

/-- members of an Array or Object, but for the items -/
def bodyOk (k : Int) (nm : List ByteArray) (il : Nat) : Bool :=
  decide (il ≤ 24) && decide (nm.length = if k = 6 then il else 0) && nm.all textF && rises nm

/-- formed, going down so far -/
def formedF : Nat → JV → Bool
  | 0, _ => false
  | l + 1, .mk k n t nm it => decide (headOk k n t) && if k < 5 then decide (it.length = 0 ∧ nm.length = 0) else bodyOk k nm it.length && it.all (formedF l)

/-- what formed is known to answer, going down l -/
def FormedAt (l : Nat) : Prop := ∀ (v : JV) (x : Value) (w : World), JAt (cf w) v x → Tabs w →
  Calls Tryd.prog 50 #[x, .int .i64 (l : Int)] w fun e w' => e = .returned (.bool (formedF l v)) ∧ Below w.heap.size w w'

set_option maxHeartbeats 1000000 in
theorem formed1_any (l : Nat) (hl : l ≤ 1000) (H : FormedAt l) (v : JV) (x : Value) (lb : Nat) (w : World) (hx : JAt (cf w) v x) (hT : Tabs w) (hc : w.cell? ⟨lb, 0, none⟩ = some (.int .i64 ((l : Int) + 1))) :
    Calls Tryd.prog 81 #[x, .pointer (some ⟨lb, 0, none⟩)] w fun e w' => e = .returned (.bool (!formedF l v)) ∧ Below w.heap.size w w' := by
  obtain ⟨k, n, t, nm, it, na, ncap, ia, icap, rfl, rfl, _⟩ := hx.open
  have HX := Lib.hid (H _ _ (w.alloc (.cells #[.int .i64 k, .int .i64 n, .string t, .slice na nm.length ncap, .slice ia it.length icap] 25)) (hx.mono (cle_alloc _ _)) (hT.alloc _))
  have hlt := lt_of_cell hc
  clear hx hT H
  generalize formedF l (JV.mk k n t nm it) = r at HX ⊢
  go_enter Tryd.func81, Tryd.ntmps81
  go_wp2_with fail
  refine HX.out.mono ?_
  rintro e w1 ⟨rfl, hb1⟩
  have hb2 := ((Boxed.refl w (.cells #[.int .i64 k, .int .i64 n, .string t, .slice na nm.length ncap, .slice ia it.length icap] 25)).next hb1).below
  clear HX hb1
  go_wp2_with fail
  go_ret
  exact ⟨rfl, hb2⟩

theorem all_false {α : Type} {l : List α} {p : α → Bool} {i : Nat} {x : α} (hx : l[i]? = some x) (h : p x = false) : l.all p = false := by
  rw [← Bool.not_eq_true, List.all_eq_true]
  intro hh
  rw [hh x (List.mem_of_getElem? hx)] at h; cases h
theorem all_true {α : Type} {l : List α} {p : α → Bool} (h : ∀ (i : Nat) x, i < l.length → l[i]? = some x → p x = true) : l.all p = true := by
  rw [List.all_eq_true]
  intro x hx
  obtain ⟨i, hil, e⟩ := List.getElem_of_mem hx
  exact h i x hil (by rw [← e]; exact List.getElem?_eq_getElem hil)

def IdxPost (l : Nat) (it : List JV) (w : World) (e : Ending) (w' : World) : Prop := ∃ r : Int, e = .returned (.int .i64 r) ∧ decide (0 ≤ r) = !(it.all (formedF l)) ∧ Below w.heap.size w w'

set_option maxHeartbeats 1000000 in
theorem idx_any (l : Nat) (hl : l ≤ 1000) (H : FormedAt l) (iv : Value) (it : List JV) (lb : Nat) (w : World) (hi : ItemsAt (cf w) iv it) (hT : Tabs w) (hc : w.cell? ⟨lb, 0, none⟩ = some (.int .i64 ((l : Int) + 1))) :
    Calls Tryd.prog 120 #[iv, .func (.func 81) #[] #[.pointer (some ⟨lb, 0, none⟩)]] w (IdxPost l it w) := by
  obtain ⟨a, cap, rfl, hlen, hel⟩ := hi
  have HE := Lib.hid hel; clear hel
  have HT := Lib.hid hT; clear hT
  have hlt := lt_of_cell hc
  have HH := Lib.hid H; clear H
  go_enter Tryd.func120, Tryd.ntmps120
  go_wp2_with fail
  go_loopw [8] (fun i wr => ∃ j : Nat, i = .int .i64 j ∧ j ≤ it.length ∧ (∀ (q : Nat) x, q < j → it[q]? = some x → formedF l x = true) ∧ Below w.heap.size w wr) (fun i _ => it.length - (intOf i).toNat)
  case atStart => exact ⟨0, rfl, Nat.zero_le _, fun q x h => by omega, Below.refl _ _⟩
  case round =>
    obtain ⟨j, rfl, hj, hall, hbl⟩ := hrel
    have HA := Lib.hid hall; clear hall
    by_cases hjl : j < it.length
    · obtain ⟨x, hx⟩ : ∃ x, it[j]? = some x := ⟨it[j], List.getElem?_eq_getElem hjl⟩
      obtain ⟨b, off, k2, n2, t2, nm2, it2, na2, ncap2, ia2, icap2, rfl, hxe, x0, x1, x2, x3, x4, hxj⟩ := HE.out j x hx
      have y := cle_below hbl
      have z0 := y _ _ _ x0
      have z1 := y _ _ _ x1
      have z2 := y _ _ _ x2
      have z3 := y _ _ _ x3
      have z4 := y _ _ _ x4
      have z5 := y lb 0 _ hc
      unfold cf at z0 z1 z2 z3 z4 z5
      have HX := Lib.hid (formed1_any l hl HH.out x _ lb wr (hxj.mono y) (HT.out.below hbl) z5)
      have HXE := Lib.hid hx
      clear x0 x1 x2 x3 x4 y hx hxe hxj z5
      cases hfx : formedF l x with
      | true =>
        rw [hfx] at HX
        have HFX := Lib.hid hfx; clear hfx
        go_wp2_with fail
        refine HX.out.mono ?_
        rintro e w3 ⟨rfl, hb3⟩
        have hb4 := hbl.trans (hb3.mono hbl.size)
        clear hb3 HX
        go_wp2_with fail
        go_roundw
        case rel =>
          refine ⟨j + 1, by go_num, hjl, fun q s' hq hs' => ?_, hb4⟩
          by_cases e : q = j
          · subst e; rw [HXE.out] at hs'; cases hs'; exact HFX.out
          · exact HA.out q s' (by omega) hs'
        case measure => simp [intOf]; omega
      | false =>
        rw [hfx] at HX
        have HFX := Lib.hid hfx; clear hfx
        go_wp2_with fail
        refine HX.out.mono ?_
        rintro e w3 ⟨rfl, hb3⟩
        have hb4 := hbl.trans (hb3.mono hbl.size)
        clear hb3 HX
        go_wp2_with fail
        go_ret
        refine ⟨(j : Int), rfl, ?_, hb4⟩
        rw [all_false HXE.out HFX.out]; simp
    · have HAll : Hid (it.all (formedF l) = true) := all_true (fun q x hq => HA.out q x (by omega))
      go_wp2_with fail
      go_ret
      refine ⟨-1, rfl, ?_, hbl⟩
      rw [HAll.out]; rfl

theorem ret_b {a b : Bool} (h : a = b) : Ending.returned (.bool a) = .returned (.bool b) := by rw [h]

set_option maxHeartbeats 1000000 in
theorem contains_any (l : Nat) (hl : l ≤ 1000) (H : FormedAt l) (iv : Value) (it : List JV) (lb : Nat) (w : World) (hi : ItemsAt (cf w) iv it) (hT : Tabs w) (hc : w.cell? ⟨lb, 0, none⟩ = some (.int .i64 ((l : Int) + 1))) :
    Calls Tryd.prog 80 #[iv, .func (.func 81) #[] #[.pointer (some ⟨lb, 0, none⟩)]] w fun e w' => e = .returned (.bool (!(it.all (formedF l)))) ∧ Below w.heap.size w w' := by
  have HX := Lib.hid (idx_any l hl H iv it lb w hi hT hc)
  clear hi hT hc H
  go_enter Tryd.func80, Tryd.ntmps80
  go_wp2_with fail
  refine HX.out.mono ?_
  rintro e w1 ⟨r, rfl, hr, hb1⟩
  have HR := Lib.hid hr
  clear hr HX
  go_wp2_with fail
  go_ret
  exact ⟨ret_b HR.out, hb1⟩

end Go.Proofs.YtfllnlmanopfaaaDoor
