/- Filters: Holds of the program. -/
import Derived.Test.YtfllnlmanopfaaaDoorFQ
namespace Go.Proofs.YtfllnlmanopfaaaDoor
open Go.RowKit

theorem one_any (d : Nat) (hd : d ≤ 6) (H : HoldsAt d) : OneAt d := by
  intro s v doc x y w hs hf hg hx hy hT
  by_cases h1 : s.toList = sAnd
  · exact one_logic d H s (.inl h1) v doc x y w hf hg hx hy hT
  by_cases h2 : s.toList = sOr
  · exact one_logic d H s (.inr (.inl h2)) v doc x y w hf hg hx hy hT
  by_cases h3 : s.toList = sNot
  · exact one_logic d H s (.inr (.inr h3)) v doc x y w hf hg hx hy hT
  cases hu : getF doc s with
  | none => exact one_none d hd s hs h1 h2 h3 v doc hu x y w hf hx hy hT
  | some u => exact one_some d hd s hs h1 h2 h3 v doc u hu x y w hf hx hy hT
theorem holds_any : ∀ d, d ≤ 6 → HoldsAt d
  | 0, _ => fun f doc x y w hf => by simp [formedF] at hf
  | d + 1, hd => holds_step d (one_any d (by omega) (holds_any d (by omega)))

set_option maxHeartbeats 8000000 in
theorem Holds_any (f doc : JV) (x y : Value) (w : World) (hx : JAt (cf w) f x) (hy : JAt (cf w) doc y) (hT : Tabs w) :
    Calls Tryd.prog 15 #[x, y] w fun e w' => e = .returned (.bool (HoldsP f doc)) ∧ Below w.heap.size w w' := by
  obtain ⟨k, n, t, nm, it, na, ncap, ia, icap, hfe, rfl, _⟩ := hx.open
  obtain ⟨q, m, u, nu, ju, ma, mcap, ja, jcap, hde, rfl, _⟩ := hy.open
  have HJ := Hold.mk hx
  have HK := Hold.mk hy
  have HT := Hold.mk hT
  have HQ : Hold (doc.kind = q) := ⟨by rw [hde]; rfl⟩
  have H2 := Hold.mk (Two.refl w #[.int .i64 k, .int .i64 n, .string t, .slice na nm.length ncap, .slice ia it.length icap] #[.int .i64 q, .int .i64 m, .string u, .slice ma nu.length mcap, .slice ja ju.length jcap])
  have HX := Hold.mk (Check_any f _ _ (hx.mono (cle_below H2.out.bel)) (hT.below H2.out.bel))
  clear hx hy hT hfe hde
  have hch : checkF f = 0 ∨ (checkF f == 0) = false := by
    by_cases h : checkF f = 0
    · exact .inl h
    · exact .inr (by simpa using h)
  rcases hch with h0 | h0
  · have HFF : Hold (formedF 6 f = true) := ⟨by unfold checkF at h0; split at h0; assumption; cases h0⟩
    have H0 := Hold.mk h0
    rw [h0] at HX
    clear h0
    go_enter Tryd.func15, Tryd.ntmps15
    go_wp2_with fail
    refine HX.out.mono ?_
    rintro e w1 ⟨rfl, hb1⟩
    replace H2 := Hold.mk (H2.out.next hb1)
    clear hb1 HX
    obtain ⟨y0, y1, y2, y3, y4⟩ := cells_five H2.out.one
    obtain ⟨z0, z1, z2, z3, z4⟩ := cells_five H2.out.two
    by_cases h6 : q = 6
    · subst h6
      have HX := Hold.mk (Formed_any doc _ w1 (HK.out.mono (cle_below H2.out.bel)) (HT.out.below H2.out.bel))
      cases hf : formedF 6 doc with
      | false =>
        rw [hf] at HX
        have HR : Hold (HoldsP f doc = false) := ⟨by unfold HoldsP; rw [hf]; simp⟩
        clear hf
        go_wp2_with fail
        refine HX.out.mono ?_
        rintro e w2 ⟨rfl, hb2⟩
        replace H2 := Hold.mk (H2.out.next hb2)
        clear hb2 HX y0 y1 y2 y3 y4 z0 z1 z2 z3 z4
        go_wp2_with fail
        go_ret
        exact ⟨by rw [HR.out]; rfl, H2.out.bel⟩
      | true =>
        rw [hf] at HX
        have HR : Hold (HoldsP f doc = holdsF passP sameB 6 f doc) := ⟨by unfold HoldsP; rw [hf, H0.out, HQ.out]; simp⟩
        have HFD := Hold.mk hf
        clear hf
        go_wp2_with fail
        refine HX.out.mono ?_
        rintro e w2 ⟨rfl, hb2⟩
        replace H2 := Hold.mk (H2.out.next hb2)
        clear hb2 HX y0 y1 y2 y3 y4 z0 z1 z2 z3 z4
        obtain ⟨y0, y1, y2, y3, y4⟩ := cells_five H2.out.one
        obtain ⟨z0, z1, z2, z3, z4⟩ := cells_five H2.out.two
        go_wp2_with fail
        refine (holds_any 6 (Nat.le_refl 6) f doc _ _ _ HFF.out HFD.out (HJ.out.mono (cle_below H2.out.bel)) (HK.out.mono (cle_below H2.out.bel)) (HT.out.below H2.out.bel)).mono ?_
        rintro e w3 ⟨rfl, hb3⟩
        replace H2 := Hold.mk (H2.out.next hb3)
        clear hb3 y0 y1 y2 y3 y4 z0 z1 z2 z3 z4
        go_wp2_with fail
        go_ret
        exact ⟨by rw [HR.out]; rfl, H2.out.bel⟩
    · have HR : Hold (HoldsP f doc = false) := ⟨by unfold HoldsP; rw [HQ.out]; simp [h6]⟩
      have b6 : (q == 6) = false := by simpa using h6
      clear h6
      go_wp2_with fail
      go_ret
      exact ⟨by rw [HR.out]; rfl, H2.out.bel⟩
  · have HR : Hold (HoldsP f doc = false) := ⟨by unfold HoldsP; rw [show decide (checkF f = 0) = false from decide_eq_false (by simpa using h0)]; simp⟩
    go_enter Tryd.func15, Tryd.ntmps15
    go_wp2_with fail
    refine HX.out.mono ?_
    rintro e w1 ⟨rfl, hb1⟩
    replace H2 := Hold.mk (H2.out.next hb1)
    clear hb1 HX
    go_wp2_with fail
    go_ret
    exact ⟨by rw [HR.out]; rfl, H2.out.bel⟩

end Go.Proofs.YtfllnlmanopfaaaDoor
