/- Same of the program, whole; Same of the reference. -/
import Derived.Test.YtfllnlmanopfaaaDoorSA
import Derived.Test.YtfllnlmanopfaaaDoorJGrow
namespace Go.Proofs.YtfllnlmanopfaaaDoor
open Go.RowKit

theorem kept {w w' : World} {k : Nat} {o : Obj} (h : w.heap[k]? = some o) (hb : Below w.heap.size w w') : w'.heap[k]? = some o := by
  rw [hb.block k (Array.getElem?_eq_some_iff.1 h).1]; exact h
theorem heap_lt {w : World} {k : Nat} {o : Obj} (h : w.heap[k]? = some o) : k < w.heap.size := (Array.getElem?_eq_some_iff.1 h).1
theorem cells_five {w : World} {k : Nat} {c0 c1 c2 c3 c4 : Value} {t : TypeId} {fr : Nat × Nat} (h : w.heap[k]? = some (.cells #[c0, c1, c2, c3, c4] t fr)) :
    w.cell? ⟨k, 0, none⟩ = some c0 ∧ w.cell? ⟨k, 1, none⟩ = some c1 ∧ w.cell? ⟨k, 2, none⟩ = some c2 ∧ w.cell? ⟨k, 3, none⟩ = some c3 ∧ w.cell? ⟨k, 4, none⟩ = some c4 := by
  simp [World.cell?, h]
/-- two boxes of values -/
structure Two (w wr : World) (a b : Array Value) : Prop where
  bel : Below w.heap.size w wr
  one : wr.heap[w.heap.size]? = some (.cells a 25 (0, 0))
  two : wr.heap[w.heap.size + 1]? = some (.cells b 25 (0, 0))
theorem Two.refl (w : World) (a b : Array Value) : Two w ((w.alloc (.cells a 25)).alloc (.cells b 25)) a b := by
  refine ⟨((Below.refl _ w).alloc (Nat.le_refl _) _).alloc (by simp) _, ?_, ?_⟩
  · rw [Below.heap_alloc _ _ _ (by simp)]; exact heap_alloc_new w _
  · have := heap_alloc_new (w.alloc (.cells a 25)) (.cells b 25)
    simpa using this
theorem Two.next {w wr w' : World} {a b : Array Value} (h : Two w wr a b) (hb : Below wr.heap.size wr w') : Two w w' a b :=
  ⟨h.bel.trans (hb.mono h.bel.size), kept h.one hb, kept h.two hb⟩
theorem Two.drewN {w wr : World} {a b : Array Value} (h : Two w wr a b) (n : Nat) : Two w (wr.drewN n) a b := h.next ⟨rfl, rfl, rfl, Nat.le_refl _, fun _ _ => rfl⟩

set_option maxHeartbeats 4000000 in
theorem Same_any : ∀ a, SameAt a := by
  intro a
  induction a using JV.ind with
  | h k n t nm it ih =>
    intro v x y w hx hy
    obtain ⟨k', n', t', nm', it', na, ncap, ia, icap, e, rfl, hk, hn, ht, hst, hit⟩ := hx.open
    cases e
    obtain ⟨q, m, u, nu, ju, ma, mcap, ja, jcap, rfl, rfl, hq, hm, hu, hsu, hju⟩ := hy.open
    have H2 := Hold.mk (Two.refl w #[.int .i64 k, .int .i64 n, .string t, .slice na nm.length ncap, .slice ia it.length icap] #[.int .i64 q, .int .i64 m, .string u, .slice ma nu.length mcap, .slice ja ju.length jcap])
    have HE := Hold.mk (fun w' (hb : Below w.heap.size w w') => strsEq_any _ _ nm nu w' (hst.mono (cle_below hb)) (hsu.mono (cle_below hb)))
    have HI := Hold.mk (fun w' (hb : Below w.heap.size w w') => itemsEq_any _ _ it ju w' (hit.mono (cle_below hb)) (hju.mono (cle_below hb)) ih)
    have fin : ∀ r : Bool, (r = true ↔ k = q ∧ n = m ∧ t = u ∧ nm = nu ∧ it = ju) → sameB (.mk k n t nm it) (.mk q m u nu ju) = r := by
      intro r hr
      cases r with
      | false => exact sameB_false fun e => by rw [JV.ext_iff'] at e; exact absurd (hr.2 e) (by simp)
      | true => exact sameB_true (JV.ext_iff'.2 (hr.1 rfl))
    have FIN := Hold.mk fin
    clear hx hy hst hit hsu hju ih hk hn hq hm ht hu fin
    by_cases ek : k = q
    · subst ek
      by_cases en : n = m
      · subst en
        by_cases et : t = u
        · subst et
          go_enter Tryd.func20, Tryd.ntmps20
          go_wp2_with fail
          refine (HE.out _ H2.out.bel).mono ?_
          rintro e w1 ⟨rfl, hb1⟩
          replace H2 := Hold.mk (H2.out.next hb1)
          obtain ⟨y0, y1, y2, y3, y4⟩ := cells_five H2.out.one
          obtain ⟨z0, z1, z2, z3, z4⟩ := cells_five H2.out.two
          clear hb1
          by_cases enm : nm = nu
          · rw [decide_eq_true enm]
            have ENM := Hold.mk enm
            clear enm
            go_wp2_with fail
            refine (HI.out _ H2.out.bel).mono ?_
            rintro e w2 ⟨rfl, hb2⟩
            replace H2 := Hold.mk (H2.out.next hb2)
            clear hb2 y0 y1 y2 y3 y4 z0 z1 z2 z3 z4
            have HF := Hold.mk (FIN.out (itemsB it ju) (by simp [itemsB_iff, ENM.out]))
            go_wp2_with fail
            go_ret
            exact ⟨by rw [HF.out]; rfl, H2.out.bel⟩
          · rw [decide_eq_false enm]
            have HF := Hold.mk (FIN.out false ⟨(fun e => by cases e), fun e => absurd e.2.2.2.1 enm⟩)
            clear enm
            go_wp2_with fail
            go_ret
            exact ⟨by rw [HF.out]; rfl, H2.out.bel⟩
        · have hb : (t.toList == u.toList) = false := str_ne et
          have HF := Hold.mk (FIN.out false ⟨(fun e => by cases e), fun e => absurd e.2.2.1 et⟩)
          clear et
          go_enter Tryd.func20, Tryd.ntmps20
          go_wp2_with fail
          go_ret
          exact ⟨by rw [HF.out]; rfl, H2.out.bel⟩
      · have hb : (n == m) = false := by simpa using en
        have HF := Hold.mk (FIN.out false ⟨(fun e => by cases e), fun e => absurd e.2.1 en⟩)
        clear en
        go_enter Tryd.func20, Tryd.ntmps20
        go_wp2_with fail
        go_ret
        exact ⟨by rw [HF.out]; rfl, H2.out.bel⟩
    · have hb : (k == q) = false := by simpa using ek
      have HF := Hold.mk (FIN.out false ⟨(fun e => by cases e), fun e => absurd e.1 ek⟩)
      clear ek
      go_enter Tryd.func20, Tryd.ntmps20
      go_wp2_with fail
      go_ret
      exact ⟨by rw [HF.out]; rfl, H2.out.bel⟩

end Go.Proofs.YtfllnlmanopfaaaDoor
