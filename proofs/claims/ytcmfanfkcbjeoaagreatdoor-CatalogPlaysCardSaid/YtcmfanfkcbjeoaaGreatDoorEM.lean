/- Indexes: Same of the reference. -/
import Derived.Test.YtcmfanfkcbjeoaaGreatDoorEE
import Derived.Test.YtcmfanfkcbjeoaaGreatDoorSA
namespace Go.Proofs.YtcmfanfkcbjeoaaGreatDoor
open Go.RowKit

theorem twoEM (w : World) (o0 o1 : Obj) : ∃ W, W = ((w.alloc o0).alloc o1) ∧ Below w.heap.size w W ∧ W.heap[w.heap.size]? = some o0 ∧ W.heap[w.heap.size + 1]? = some o1 :=
  ⟨_, rfl, ((Below.refl _ w).alloc (Nat.le_refl _) o0).alloc (by simp) o1, kept (heap_alloc_new w o0) ((Below.refl _ _).alloc (Nat.le_refl _) o1), by have := heap_alloc_new (w.alloc o0) o1; simpa using this⟩
open Classical in
/-- two indexes are alike -/
noncomputable def sameI (x y : IX) : Bool := decide (x = y)
open Classical in
theorem sameI_no {x y : IX} (h : x ≠ y) : sameI x y = false := by unfold sameI; exact decide_eq_false h
open Classical in
theorem sameI_yes {x y : IX} (h : x = y) : sameI x y = true := by unfold sameI; exact decide_eq_true h

/-- two boxes of indexes -/
structure TwoI (w wr : World) (a b : Array Value) : Prop where
  bel : Below w.heap.size w wr
  one : wr.heap[w.heap.size]? = some (.cells a 48 (0, 0))
  two : wr.heap[w.heap.size + 1]? = some (.cells b 48 (0, 0))
theorem TwoI.drewN {w wr : World} {a b : Array Value} (h : TwoI w wr a b) (n : Nat) : TwoI w (wr.drewN n) a b := ⟨h.bel.trans ⟨rfl, rfl, rfl, Nat.le_refl _, fun _ _ => rfl⟩, h.one, h.two⟩

set_option maxRecDepth 100000 in
set_option maxHeartbeats 8000000 in
theorem rSameI_any (x y : IX) (v u : Value) (w : World) (hx : IAt (cf w) x v) (hy : IAt (cf w) y u) :
    Calls Tryz.prog 55 #[v, u] w fun e w' => e = .returned (.bool (sameI x y)) ∧ Below w.heap.size w w' := by
  obtain ⟨hnm, fv, rfl, a, cap, rfl, hlen, hcap, hel⟩ := hx
  obtain ⟨hnm2, fv2, rfl, a2, cap2, rfl, hlen2, hcap2, hel2⟩ := hy
  obtain ⟨nm, l, bu⟩ := x
  obtain ⟨nm2, l2, bu2⟩ := y
  simp only at *
  obtain ⟨W, hW, hB, e0, e1⟩ := twoEM w (.cells #[.string nm, .slice a l.length cap, .bool bu] 48) (.cells #[.string nm2, .slice a2 l2.length cap2, .bool bu2] 48)
  have HB := Hold.mk hB
  have HE := Hold.mk hel
  have HE2 := Hold.mk hel2
  have H0 := Hold.mk e0
  have H1 := Hold.mk e1
  clear hB hel hel2 e0 e1
  by_cases h1 : nm = nm2
  · subst h1
    by_cases h2 : bu = bu2
    · subst h2
      by_cases h3 : l.length = l2.length
      · have b3 : (((l.length : Nat) : Int) != ((l2.length : Nat) : Int)) = false := by rw [h3]; simp
        have HL := Hold.mk h3
        have H2 : Hold (TwoI w W #[.string nm, .slice a l.length cap, .bool bu] #[.string nm, .slice a2 l2.length cap2, .bool bu]) := ⟨⟨HB.out, H0.out, H1.out⟩⟩
        clear h3
        go_enter Tryz.func55, Tryz.ntmps55
        go_wp2_with fail
        rw [← hW]
        clear hW
        go_loopw [5] (fun i wr => ∃ j : Nat, i = .int .i64 j ∧ j ≤ l.length ∧ EqTo l l2 j ∧ TwoI w wr #[.string nm, .slice a l.length cap, .bool bu] #[.string nm, .slice a2 l2.length cap2, .bool bu]) (fun i _ => l.length - (intOf i).toNat)
        case atStart => exact ⟨0, rfl, Nat.zero_le _, fun q hq => by omega, H2.out⟩
        case round =>
          obtain ⟨j, rfl, hj, hq, h2⟩ := hrel
          clear H2 HB H0 H1
          have HQ := Hold.mk hq
          have H2 := Hold.mk h2
          clear hq h2
          obtain ⟨y0, y1, y2⟩ := cells_three H2.out.one
          obtain ⟨z0, z1, z2⟩ := cells_three H2.out.two
          by_cases hlt : j < l.length
          · have hlt2 : j < l2.length := by rw [← HL.out]; exact hlt
            obtain ⟨f, hf⟩ : ∃ s, l[j]? = some s := ⟨l[j], List.getElem?_eq_getElem hlt⟩
            obtain ⟨g, hg⟩ : ∃ s, l2[j]? = some s := ⟨l2[j], List.getElem?_eq_getElem hlt2⟩
            obtain ⟨_, b, off, rfl, x0, x1⟩ := HE.out j f hf
            obtain ⟨_, b2, off2, rfl, v0, v1⟩ := HE2.out j g hg
            replace x0 := cle_below H2.out.bel _ _ _ x0
            replace x1 := cle_below H2.out.bel _ _ _ x1
            replace v0 := cle_below H2.out.bel _ _ _ v0
            replace v1 := cle_below H2.out.bel _ _ _ v1
            unfold cf at x0 x1 v0 v1
            have HF := Hold.mk hf
            have HG := Hold.mk hg
            clear hf hg
            obtain ⟨s, d⟩ := f
            obtain ⟨s2, d2⟩ := g
            simp only at *
            by_cases hs : s = s2
            · subst hs
              by_cases hd : d = d2
              · subst hd
                have HNX := Hold.mk (HQ.out.next (HF.out.trans HG.out.symm))
                go_wp2_with fail
                go_quiet (fail)
                go_wp2_with fail
                exact ⟨⟨j + 1, by go_num, hlt, HNX.out, H2.out.drewN _⟩, by simp [intOf]; omega⟩
              · have bd : (d == d2) = false := by simpa using hd
                have HR : Hold (sameI ⟨nm, l, bu⟩ ⟨nm, l2, bu⟩ = false) := ⟨sameI_no (fun e => hd (by cases e; have := HF.out.symm.trans HG.out; simpa using this))⟩
                clear hd
                go_wp2_with fail
                go_quiet (fail)
                go_wp2_with fail
                go_ret
                exact ⟨by rw [HR.out]; rfl, (H2.out.drewN _).bel⟩
            · have bs : (s.toList == s2.toList) = false := str_ne hs
              have HR : Hold (sameI ⟨nm, l, bu⟩ ⟨nm, l2, bu⟩ = false) := ⟨sameI_no (fun e => hs (by cases e; have := HF.out.symm.trans HG.out; simp at this; exact this.1))⟩
              clear hs
              go_wp2_with fail
              go_quiet (fail)
              go_wp2_with fail
              go_ret
              exact ⟨by rw [HR.out]; rfl, (H2.out.drewN _).bel⟩
          · obtain rfl : j = l.length := by omega
            have HR : Hold (sameI ⟨nm, l, bu⟩ ⟨nm, l2, bu⟩ = true) := ⟨sameI_yes (by
              have : l = l2 := EqTo.all HL.out HQ.out
              rw [this])⟩
            go_wp2_with fail
            go_ret
            exact ⟨by rw [HR.out]; rfl, H2.out.bel⟩
      · have b3 : (((l.length : Nat) : Int) != ((l2.length : Nat) : Int)) = true := by simp; omega
        have HR : Hold (sameI ⟨nm, l, bu⟩ ⟨nm, l2, bu⟩ = false) := ⟨sameI_no (fun e => h3 (by cases e; rfl))⟩
        clear h3
        go_enter Tryz.func55, Tryz.ntmps55
        go_wp2_with fail
        rw [← hW]
        go_ret
        exact ⟨by rw [HR.out]; rfl, HB.out⟩
    · have HR : Hold (sameI ⟨nm, l, bu⟩ ⟨nm, l2, bu2⟩ = false) := ⟨sameI_no (fun e => h2 (by cases e; rfl))⟩
      cases bu <;> cases bu2 <;> first
        | exact absurd rfl h2
        | (clear h2
           go_enter Tryz.func55, Tryz.ntmps55
           go_wp2_with fail
           rw [← hW]
           go_ret
           exact ⟨by rw [HR.out]; rfl, HB.out⟩)
  · have b1 : (nm.toList == nm2.toList) = false := str_ne h1
    have HR : Hold (sameI ⟨nm, l, bu⟩ ⟨nm2, l2, bu2⟩ = false) := ⟨sameI_no (fun e => h1 (by cases e; rfl))⟩
    clear h1
    go_enter Tryz.func55, Tryz.ntmps55
    go_wp2_with fail
    rw [← hW]
    go_ret
    exact ⟨by rw [HR.out]; rfl, HB.out⟩

end Go.Proofs.YtcmfanfkcbjeoaaGreatDoor
