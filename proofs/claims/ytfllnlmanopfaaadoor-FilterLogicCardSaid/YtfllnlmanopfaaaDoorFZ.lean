/- the law FilterLogic, walked. -/
import Derived.Test.YtfllnlmanopfaaaDoorFX
import Derived.Test.YtfllnlmanopfaaaDoorFY
namespace Go.Proofs.YtfllnlmanopfaaaDoor
open Go.RowKit

/-- the walk stands still here -/
structure Stop (p : Prop) : Prop where out : p
theorem stop_build {P : Program} {ops : Array Oper} {Q : Exit → Act → World → Prop} {rest : List Oper} {a : Act} {dst : Option Nat} {t ty : TypeId} {n : Nat} {xs : Array (Nat × Operand)} {pos : String} {after : Array Edge} {g : Option (Nat × Bool)} (W : World)
    (h : Stop (wpList P ops Q (⟨dst, Op.buildSlice t n xs, ty, pos, after, g⟩ :: rest) a W)) : wpList P ops Q (⟨dst, Op.buildSlice t n xs, ty, pos, after, g⟩ :: rest) a W := h.out
theorem twoA (w : World) (o0 o1 : Obj) : ∃ W, W = ((w.alloc o0).alloc o1) ∧ Below w.heap.size w W ∧ W.heap[w.heap.size]? = some o0 ∧ W.heap[w.heap.size + 1]? = some o1 :=
  ⟨_, rfl, ((Below.refl _ w).alloc (Nat.le_refl _) o0).alloc (by simp) o1, al_old (al_new rfl), al_new (by simp)⟩

theorem Holds_is (f doc : JV) (x y : Value) (w : World) (b : Bool) (hb : HoldsP f doc = b) (hx : JAt (cf w) f x) (hy : JAt (cf w) doc y) (hT : Tabs w) :
    Calls Tryd.prog 15 #[x, y] w fun e w' => e = .returned (.bool b) ∧ Below w.heap.size w w' := by
  subst hb; exact Holds_any f doc x y w hx hy hT
theorem Check_is (f : JV) (x : Value) (w : World) (c : Int) (hc : checkF f = c) (hx : JAt (cf w) f x) (hT : Tabs w) :
    Calls Tryd.prog 18 #[x] w fun e w' => e = .returned (.int .i64 c) ∧ Below w.heap.size w w' := by
  rw [← hc]; exact Check_any f x w hx hT
set_option maxRecDepth 100000 in
set_option maxHeartbeats 32000000 in
theorem filterLogic_walk (f g d : JV) (fv gv dv : Value) (w : World) (hf : JAt (cf w) f fv) (hg : JAt (cf w) g gv) (hd : JAt (cf w) d dv) (hT : Tabs w) :
    Calls Tryd.prog 4 #[fv, gv, dv] w fun e w' => e = .returned (.bool true) ∧ Below w.heap.size w w' := by
  obtain ⟨k, n, t, nm, it, na, ncap, ia, icap, hfe, rfl, _⟩ := hf.open
  obtain ⟨k2, n2, t2, nm2, it2, na2, ncap2, ia2, icap2, hge, rfl, _⟩ := hg.open
  obtain ⟨k3, n3, t3, nm3, it3, na3, ncap3, ia3, icap3, hde, rfl, _⟩ := hd.open
  have HDK := Hold.mk (show d.kind = k3 by rw [hde]; rfl)
  have HX := Hold.mk hf
  have HA := Hold.mk hg
  have HB := Hold.mk hd
  have HT := Hold.mk hT
  have H3 := Hold.mk ((((Bx.nil w).add w.heap.size rfl (A5 k n t na nm.length ncap ia it.length icap)).add (w.heap.size + 1) (by simp) (A5 k2 n2 t2 na2 nm2.length ncap2 ia2 it2.length icap2)).add (w.heap.size + 1 + 1) (by simp) (A5 k3 n3 t3 na3 nm3.length ncap3 ia3 it3.length icap3))
  clear hf hg hd hT hfe hge hde
  go_enter Tryd.func4, Tryd.ntmps4
  go_wp2_with fail
  refine (awake15_any _ (HT.out.below H3.out.bel)).mono ?_
  rintro e w1 ⟨rfl, hb1⟩
  replace H3 := Hold.mk (H3.out.next hb1)
  clear hb1
  obtain ⟨y0, y1, y2, y3, y4⟩ := cells_five H3.out.tl.tl.hd
  obtain ⟨z0, z1, z2, z3, z4⟩ := cells_five H3.out.tl.hd
  obtain ⟨v0, v1, v2, v3, v4⟩ := cells_five H3.out.hd
  go_wp2_with fail
  have hf3 := few15_any _ [f, g, d] _ (items3 (t := 25) (fr := (0, 0)) (al_new (w := w1) rfl) ((HX.out.mono (cle_below H3.out.bel)).mono (cle_alloc _ _)) ((HA.out.mono (cle_below H3.out.bel)).mono (cle_alloc _ _)) ((HB.out.mono (cle_below H3.out.bel)).mono (cle_alloc _ _)))
  refine hf3.mono ?_
  clear hf3
  rintro e w2 ⟨rfl, hb2⟩
  replace H3 := Hold.mk ((H3.out.next ((Below.refl _ w1).alloc (Nat.le_refl _) _)).next hb2)
  clear hb2 y0 y1 y2 y3 y4 z0 z1 z2 z3 z4 v0 v1 v2 v3 v4
  obtain ⟨v0, v1, v2, v3, v4⟩ := cells_five H3.out.hd
  cases hfew : [f, g, d].all fewF with
  | false =>
    clear hfew
    go_wp2_with fail
    refine (awake15_any _ (HT.out.below H3.out.bel)).mono ?_
    rintro e w3 ⟨rfl, hb3⟩
    replace H3 := Hold.mk (H3.out.next hb3)
    clear hb3
    go_wp2_with fail
    go_ret
    exact ⟨rfl, H3.out.bel⟩
  | true =>
    clear hfew
    by_cases hk6 : k3 = 6
    · subst hk6
      go_wp2_with fail
      refine (Formed_any d _ _ (HB.out.mono (cle_below H3.out.bel)) (HT.out.below H3.out.bel)).mono ?_
      rintro e w3 ⟨rfl, hb3⟩
      replace H3 := Hold.mk (H3.out.next hb3)
      clear hb3 v0 v1 v2 v3 v4
      cases hfd : formedF 6 d with
      | false =>
        clear hfd
        go_wp2_with fail
        refine (awake15_any _ (HT.out.below H3.out.bel)).mono ?_
        rintro e w4 ⟨rfl, hb4⟩
        replace H3 := Hold.mk (H3.out.next hb4)
        clear hb4
        go_wp2_with fail
        go_ret
        exact ⟨rfl, H3.out.bel⟩
      | true =>
        have HFD := Hold.mk hfd
        clear hfd
        obtain ⟨y0, y1, y2, y3, y4⟩ := cells_five H3.out.tl.tl.hd
        obtain ⟨z0, z1, z2, z3, z4⟩ := cells_five H3.out.tl.hd
        have hl1 := heap_lt H3.out.tl.tl.hd
        go_wp2_with (refine stop_build ((w3.alloc _).alloc _) ?_)
        obtain ⟨W1, hW, hB, e0, e1⟩ := twoA w3 (.cells #[.int .i64 k, .int .i64 n, .string t, .slice na nm.length ncap, .slice ia it.length icap, .int .i64 k2, .int .i64 n2, .string t2, .slice na2 nm2.length ncap2, .slice ia2 it2.length icap2] 25) (.cells #[.int .i64 5, .int .i64 0, .string ⟨#[]⟩, .slice none 0 0, .slice (some ⟨w3.heap.size, 0, none⟩) 2 2] 25)
        refine ⟨?_⟩
        rw [← hW]
        replace H3 := Hold.mk (H3.out.next hB)
        have HJB : Hold (JAt (cf W1) (bothJ f g) _) := Hold.mk (pair_at e0 (HX.out.mono (cle_below H3.out.bel)) (HA.out.mono (cle_below H3.out.bel)))
        have HBB := Hold.mk e1
        clear hW hB e0 e1 y0 y1 y2 y3 y4 z0 z1 z2 z3 z4
        obtain ⟨y0, y1, y2, y3, y4⟩ := cells_five H3.out.tl.tl.hd
        have hlt := heap_lt H3.out.tl.tl.hd
        go_wp2_with (refine stop_build (((W1.alloc _).alloc _).alloc _) ?_)
        obtain ⟨W2, hW, hB, e0, e1, e2⟩ := three W1 (.cells #[.string ⟨#[36, 110, 111, 116]⟩] 9) (.cells #[.int .i64 k, .int .i64 n, .string t, .slice na nm.length ncap, .slice ia it.length icap] 25) (.cells #[.int .i64 6, .int .i64 0, .string ⟨#[]⟩, .slice (some ⟨W1.heap.size, 0, none⟩) 1 1, .slice (some ⟨W1.heap.size + 1, 0, none⟩) 1 1] 25)
        refine ⟨?_⟩
        rw [← hW]
        replace H3 := Hold.mk (H3.out.next hB)
        replace HJB := Hold.mk (HJB.out.mono (cle_below hB))
        replace HBB := Hold.mk (kept HBB.out hB)
        have HJN := Hold.mk (one_at e0 (by simp [ByteArray.size]) e1 (HX.out.mono (cle_below H3.out.bel)))
        have HN := Hold.mk e2
        clear hW hB e0 e1 e2 y0 y1 y2 y3 y4 hlt
        obtain ⟨y0, y1, y2, y3, y4⟩ := cells_five HBB.out
        have hlt := heap_lt HBB.out
        go_wp2_with (refine stop_build (((W2.alloc _).alloc _).alloc _) ?_)
        obtain ⟨W3, hW, hB, e0, e1, e2⟩ := three W2 (.cells #[.string ⟨#[36, 97, 110, 100]⟩] 9) (.cells #[.int .i64 5, .int .i64 0, .string ⟨#[]⟩, .slice none 0 0, .slice (some ⟨w3.heap.size, 0, none⟩) 2 2] 25) (.cells #[.int .i64 6, .int .i64 0, .string ⟨#[]⟩, .slice (some ⟨W2.heap.size, 0, none⟩) 1 1, .slice (some ⟨W2.heap.size + 1, 0, none⟩) 1 1] 25)
        refine ⟨?_⟩
        rw [← hW]
        replace H3 := Hold.mk (H3.out.next hB)
        replace HJB := Hold.mk (HJB.out.mono (cle_below hB))
        replace HBB := Hold.mk (kept HBB.out hB)
        replace HJN := Hold.mk (HJN.out.mono (cle_below hB))
        replace HN := Hold.mk (kept HN.out hB)
        have HJA := Hold.mk (one_at e0 (by simp [ByteArray.size]) e1 HJB.out)
        have HAN := Hold.mk e2
        clear hW hB e0 e1 e2 y0 y1 y2 y3 y4 hlt
        obtain ⟨y0, y1, y2, y3, y4⟩ := cells_five HBB.out
        have hlt := heap_lt HBB.out
        go_wp2_with fail
        obtain ⟨W, hW, hB, e0, e1, e2⟩ := three W3 (.cells #[.string ⟨#[36, 111, 114]⟩] 9) (.cells #[.int .i64 5, .int .i64 0, .string ⟨#[]⟩, .slice none 0 0, .slice (some ⟨w3.heap.size, 0, none⟩) 2 2] 25) (.cells #[.int .i64 6, .int .i64 0, .string ⟨#[]⟩, .slice (some ⟨W3.heap.size, 0, none⟩) 1 1, .slice (some ⟨W3.heap.size + 1, 0, none⟩) 1 1] 25)
        rw [← hW]
        replace H3 := Hold.mk (H3.out.next hB)
        replace HJB := Hold.mk (HJB.out.mono (cle_below hB))
        replace HBB := Hold.mk (kept HBB.out hB)
        replace HJN := Hold.mk (HJN.out.mono (cle_below hB))
        replace HN := Hold.mk (kept HN.out hB)
        replace HJA := Hold.mk (HJA.out.mono (cle_below hB))
        replace HAN := Hold.mk (kept HAN.out hB)
        have HJO := Hold.mk (one_at e0 (by simp [ByteArray.size]) e1 HJB.out)
        have HO := Hold.mk e2
        clear hW hB e0 e1 e2 y0 y1 y2 y3 y4 hlt
        have jf := HX.out.mono (cle_below H3.out.bel)
        have jg := HA.out.mono (cle_below H3.out.bel)
        have jd := HB.out.mono (cle_below H3.out.bel)
        have hTW := HT.out.below H3.out.bel
        have HJD := Hold.mk jd
        have HTW := Hold.mk hTW
        have HH := Hold.mk (Calls.grow (fun e : Grow W => Holds_any f d _ _ e.val (jf.mono (cle_below e.property)) (jd.mono (cle_below e.property)) (hTW.below e.property)))
        have HC := Hold.mk (Calls.grow (fun e : Grow W => Holds_any g d _ _ e.val (jg.mono (cle_below e.property)) (jd.mono (cle_below e.property)) (hTW.below e.property)))
        clear jf jg jd hTW HJB HBB
        obtain ⟨y0, y1, y2, y3, y4⟩ := cells_five H3.out.tl.tl.hd
        obtain ⟨z0, z1, z2, z3, z4⟩ := cells_five H3.out.tl.hd
        obtain ⟨v0, v1, v2, v3, v4⟩ := cells_five H3.out.hd
        have g0 := Grow.cell y0
        have g1 := Grow.cell y1
        have g2 := Grow.cell y2
        have g3 := Grow.cell y3
        have g4 := Grow.cell y4
        have u0 := Grow.cell z0
        have u1 := Grow.cell z1
        have u2 := Grow.cell z2
        have u3 := Grow.cell z3
        have u4 := Grow.cell z4
        have q0 := Grow.cell v0
        have q1 := Grow.cell v1
        have q2 := Grow.cell v2
        have q3 := Grow.cell v3
        have q4 := Grow.cell v4
        clear y0 y1 y2 y3 y4 z0 z1 z2 z3 z4 v0 v1 v2 v3 v4
        refine wp_region_grow (by kernel_rfl) (by kernel_rfl) ?_
        repeat (go_big_quiet_step (first | with_reducible exact HH.out _ | with_reducible exact HC.out _))
        refine wpQuiet_nil ?_
        rintro ⟨w4, hb4⟩
        simp only
        replace H3 := Hold.mk (H3.out.next hb4)
        replace HJN := Hold.mk (HJN.out.mono (cle_below hb4))
        replace HJA := Hold.mk (HJA.out.mono (cle_below hb4))
        replace HJO := Hold.mk (HJO.out.mono (cle_below hb4))
        replace HJD := Hold.mk (HJD.out.mono (cle_below hb4))
        replace HN := Hold.mk (kept HN.out hb4)
        replace HAN := Hold.mk (kept HAN.out hb4)
        replace HO := Hold.mk (kept HO.out hb4)
        replace HTW := Hold.mk (HTW.out.below hb4)
        clear hb4 HH HC g0 g1 g2 g3 g4 u0 u1 u2 u3 u4 q0 q1 q2 q3 q4
        obtain ⟨a, ha⟩ : ∃ b, HoldsP f d = b := ⟨_, rfl⟩
        obtain ⟨b, hb⟩ : ∃ b, HoldsP g d = b := ⟨_, rfl⟩
        rw [ha, hb]
        have HL1 := Hold.mk (fun h => (not_law (f := f) HDK.out HFD.out h).trans (by rw [ha]))
        have HL2 := Hold.mk (fun h => (and_law (f := f) (g := g) HDK.out HFD.out h).trans (by rw [ha, hb]))
        have HL3 := Hold.mk (fun h => (or_law (f := f) (g := g) HDK.out HFD.out h).trans (by rw [ha, hb]))
        clear ha hb HX HA HB HDK HFD HT
        cases a <;> cases b
        all_goals
          obtain ⟨y0, y1, y2, y3, y4⟩ := cells_five HN.out
          go_wp2_with fail
          obtain ⟨c, hce⟩ : ∃ c, checkF (oneJ nNot f) = c := ⟨_, rfl⟩
          refine (Check_is _ _ _ c hce HJN.out HTW.out).mono ?_
          rintro e w5 ⟨rfl, hb5⟩
          replace H3 := Hold.mk (H3.out.next hb5)
          replace HJN := Hold.mk (HJN.out.mono (cle_below hb5))
          replace HJA := Hold.mk (HJA.out.mono (cle_below hb5))
          replace HJO := Hold.mk (HJO.out.mono (cle_below hb5))
          replace HJD := Hold.mk (HJD.out.mono (cle_below hb5))
          replace HN := Hold.mk (kept HN.out hb5)
          replace HAN := Hold.mk (kept HAN.out hb5)
          replace HO := Hold.mk (kept HO.out hb5)
          replace HTW := Hold.mk (HTW.out.below hb5)
          clear hb5 y0 y1 y2 y3 y4
          by_cases hc : c = 0
          · subst hc
            have HLC := Hold.mk (HL1.out hce)
            clear hce
            obtain ⟨y0, y1, y2, y3, y4⟩ := cells_five HN.out
            obtain ⟨z0, z1, z2, z3, z4⟩ := cells_five H3.out.hd
            go_wp2_with fail
            refine (Holds_is _ d _ _ _ _ HLC.out HJN.out HJD.out HTW.out).mono ?_
            rintro e w6 ⟨rfl, hb6⟩
            replace H3 := Hold.mk (H3.out.next hb6)
            replace HJN := Hold.mk (HJN.out.mono (cle_below hb6))
            replace HJA := Hold.mk (HJA.out.mono (cle_below hb6))
            replace HJO := Hold.mk (HJO.out.mono (cle_below hb6))
            replace HJD := Hold.mk (HJD.out.mono (cle_below hb6))
            replace HN := Hold.mk (kept HN.out hb6)
            replace HAN := Hold.mk (kept HAN.out hb6)
            replace HO := Hold.mk (kept HO.out hb6)
            replace HTW := Hold.mk (HTW.out.below hb6)
            clear hb6 y0 y1 y2 y3 y4 z0 z1 z2 z3 z4 HLC
            obtain ⟨y0, y1, y2, y3, y4⟩ := cells_five HAN.out
            go_wp2_with fail
            obtain ⟨c, hce⟩ : ∃ c, checkF (oneJ nAnd (bothJ f g)) = c := ⟨_, rfl⟩
            refine (Check_is _ _ _ c hce HJA.out HTW.out).mono ?_
            rintro e w5 ⟨rfl, hb5⟩
            replace H3 := Hold.mk (H3.out.next hb5)
            replace HJN := Hold.mk (HJN.out.mono (cle_below hb5))
            replace HJA := Hold.mk (HJA.out.mono (cle_below hb5))
            replace HJO := Hold.mk (HJO.out.mono (cle_below hb5))
            replace HJD := Hold.mk (HJD.out.mono (cle_below hb5))
            replace HN := Hold.mk (kept HN.out hb5)
            replace HAN := Hold.mk (kept HAN.out hb5)
            replace HO := Hold.mk (kept HO.out hb5)
            replace HTW := Hold.mk (HTW.out.below hb5)
            clear hb5 y0 y1 y2 y3 y4
            by_cases hc : c = 0
            · subst hc
              have HLC := Hold.mk (HL2.out hce)
              clear hce
              obtain ⟨y0, y1, y2, y3, y4⟩ := cells_five HAN.out
              obtain ⟨z0, z1, z2, z3, z4⟩ := cells_five H3.out.hd
              go_wp2_with fail
              refine (Holds_is _ d _ _ _ _ HLC.out HJA.out HJD.out HTW.out).mono ?_
              rintro e w6 ⟨rfl, hb6⟩
              replace H3 := Hold.mk (H3.out.next hb6)
              replace HJN := Hold.mk (HJN.out.mono (cle_below hb6))
              replace HJA := Hold.mk (HJA.out.mono (cle_below hb6))
              replace HJO := Hold.mk (HJO.out.mono (cle_below hb6))
              replace HJD := Hold.mk (HJD.out.mono (cle_below hb6))
              replace HN := Hold.mk (kept HN.out hb6)
              replace HAN := Hold.mk (kept HAN.out hb6)
              replace HO := Hold.mk (kept HO.out hb6)
              replace HTW := Hold.mk (HTW.out.below hb6)
              clear hb6 y0 y1 y2 y3 y4 z0 z1 z2 z3 z4 HLC
              obtain ⟨y0, y1, y2, y3, y4⟩ := cells_five HO.out
              go_wp2_with fail
              obtain ⟨c, hce⟩ : ∃ c, checkF (oneJ nOr (bothJ f g)) = c := ⟨_, rfl⟩
              refine (Check_is _ _ _ c hce HJO.out HTW.out).mono ?_
              rintro e w5 ⟨rfl, hb5⟩
              replace H3 := Hold.mk (H3.out.next hb5)
              replace HJN := Hold.mk (HJN.out.mono (cle_below hb5))
              replace HJA := Hold.mk (HJA.out.mono (cle_below hb5))
              replace HJO := Hold.mk (HJO.out.mono (cle_below hb5))
              replace HJD := Hold.mk (HJD.out.mono (cle_below hb5))
              replace HN := Hold.mk (kept HN.out hb5)
              replace HAN := Hold.mk (kept HAN.out hb5)
              replace HO := Hold.mk (kept HO.out hb5)
              replace HTW := Hold.mk (HTW.out.below hb5)
              clear hb5 y0 y1 y2 y3 y4
              by_cases hc : c = 0
              · subst hc
                have HLC := Hold.mk (HL3.out hce)
                clear hce
                obtain ⟨y0, y1, y2, y3, y4⟩ := cells_five HO.out
                obtain ⟨z0, z1, z2, z3, z4⟩ := cells_five H3.out.hd
                go_wp2_with fail
                refine (Holds_is _ d _ _ _ _ HLC.out HJO.out HJD.out HTW.out).mono ?_
                rintro e w6 ⟨rfl, hb6⟩
                replace H3 := Hold.mk (H3.out.next hb6)
                replace HJN := Hold.mk (HJN.out.mono (cle_below hb6))
                replace HJA := Hold.mk (HJA.out.mono (cle_below hb6))
                replace HJO := Hold.mk (HJO.out.mono (cle_below hb6))
                replace HJD := Hold.mk (HJD.out.mono (cle_below hb6))
                replace HN := Hold.mk (kept HN.out hb6)
                replace HAN := Hold.mk (kept HAN.out hb6)
                replace HO := Hold.mk (kept HO.out hb6)
                replace HTW := Hold.mk (HTW.out.below hb6)
                clear hb6 y0 y1 y2 y3 y4 z0 z1 z2 z3 z4 HLC
                go_wp2_with fail
                go_ret
                exact ⟨rfl, H3.out.bel⟩
              · clear hce
                go_wp2_with fail
                go_ret
                exact ⟨rfl, H3.out.bel⟩
            · clear hce
              obtain ⟨y0, y1, y2, y3, y4⟩ := cells_five HO.out
              go_wp2_with fail
              obtain ⟨c, hce⟩ : ∃ c, checkF (oneJ nOr (bothJ f g)) = c := ⟨_, rfl⟩
              refine (Check_is _ _ _ c hce HJO.out HTW.out).mono ?_
              rintro e w5 ⟨rfl, hb5⟩
              replace H3 := Hold.mk (H3.out.next hb5)
              replace HJN := Hold.mk (HJN.out.mono (cle_below hb5))
              replace HJA := Hold.mk (HJA.out.mono (cle_below hb5))
              replace HJO := Hold.mk (HJO.out.mono (cle_below hb5))
              replace HJD := Hold.mk (HJD.out.mono (cle_below hb5))
              replace HN := Hold.mk (kept HN.out hb5)
              replace HAN := Hold.mk (kept HAN.out hb5)
              replace HO := Hold.mk (kept HO.out hb5)
              replace HTW := Hold.mk (HTW.out.below hb5)
              clear hb5 y0 y1 y2 y3 y4
              by_cases hc : c = 0
              · subst hc
                have HLC := Hold.mk (HL3.out hce)
                clear hce
                obtain ⟨y0, y1, y2, y3, y4⟩ := cells_five HO.out
                obtain ⟨z0, z1, z2, z3, z4⟩ := cells_five H3.out.hd
                go_wp2_with fail
                refine (Holds_is _ d _ _ _ _ HLC.out HJO.out HJD.out HTW.out).mono ?_
                rintro e w6 ⟨rfl, hb6⟩
                replace H3 := Hold.mk (H3.out.next hb6)
                replace HJN := Hold.mk (HJN.out.mono (cle_below hb6))
                replace HJA := Hold.mk (HJA.out.mono (cle_below hb6))
                replace HJO := Hold.mk (HJO.out.mono (cle_below hb6))
                replace HJD := Hold.mk (HJD.out.mono (cle_below hb6))
                replace HN := Hold.mk (kept HN.out hb6)
                replace HAN := Hold.mk (kept HAN.out hb6)
                replace HO := Hold.mk (kept HO.out hb6)
                replace HTW := Hold.mk (HTW.out.below hb6)
                clear hb6 y0 y1 y2 y3 y4 z0 z1 z2 z3 z4 HLC
                go_wp2_with fail
                go_ret
                exact ⟨rfl, H3.out.bel⟩
              · clear hce
                go_wp2_with fail
                go_ret
                exact ⟨rfl, H3.out.bel⟩
          · clear hce
            obtain ⟨y0, y1, y2, y3, y4⟩ := cells_five HAN.out
            go_wp2_with fail
            obtain ⟨c, hce⟩ : ∃ c, checkF (oneJ nAnd (bothJ f g)) = c := ⟨_, rfl⟩
            refine (Check_is _ _ _ c hce HJA.out HTW.out).mono ?_
            rintro e w5 ⟨rfl, hb5⟩
            replace H3 := Hold.mk (H3.out.next hb5)
            replace HJN := Hold.mk (HJN.out.mono (cle_below hb5))
            replace HJA := Hold.mk (HJA.out.mono (cle_below hb5))
            replace HJO := Hold.mk (HJO.out.mono (cle_below hb5))
            replace HJD := Hold.mk (HJD.out.mono (cle_below hb5))
            replace HN := Hold.mk (kept HN.out hb5)
            replace HAN := Hold.mk (kept HAN.out hb5)
            replace HO := Hold.mk (kept HO.out hb5)
            replace HTW := Hold.mk (HTW.out.below hb5)
            clear hb5 y0 y1 y2 y3 y4
            by_cases hc : c = 0
            · subst hc
              have HLC := Hold.mk (HL2.out hce)
              clear hce
              obtain ⟨y0, y1, y2, y3, y4⟩ := cells_five HAN.out
              obtain ⟨z0, z1, z2, z3, z4⟩ := cells_five H3.out.hd
              go_wp2_with fail
              refine (Holds_is _ d _ _ _ _ HLC.out HJA.out HJD.out HTW.out).mono ?_
              rintro e w6 ⟨rfl, hb6⟩
              replace H3 := Hold.mk (H3.out.next hb6)
              replace HJN := Hold.mk (HJN.out.mono (cle_below hb6))
              replace HJA := Hold.mk (HJA.out.mono (cle_below hb6))
              replace HJO := Hold.mk (HJO.out.mono (cle_below hb6))
              replace HJD := Hold.mk (HJD.out.mono (cle_below hb6))
              replace HN := Hold.mk (kept HN.out hb6)
              replace HAN := Hold.mk (kept HAN.out hb6)
              replace HO := Hold.mk (kept HO.out hb6)
              replace HTW := Hold.mk (HTW.out.below hb6)
              clear hb6 y0 y1 y2 y3 y4 z0 z1 z2 z3 z4 HLC
              obtain ⟨y0, y1, y2, y3, y4⟩ := cells_five HO.out
              go_wp2_with fail
              obtain ⟨c, hce⟩ : ∃ c, checkF (oneJ nOr (bothJ f g)) = c := ⟨_, rfl⟩
              refine (Check_is _ _ _ c hce HJO.out HTW.out).mono ?_
              rintro e w5 ⟨rfl, hb5⟩
              replace H3 := Hold.mk (H3.out.next hb5)
              replace HJN := Hold.mk (HJN.out.mono (cle_below hb5))
              replace HJA := Hold.mk (HJA.out.mono (cle_below hb5))
              replace HJO := Hold.mk (HJO.out.mono (cle_below hb5))
              replace HJD := Hold.mk (HJD.out.mono (cle_below hb5))
              replace HN := Hold.mk (kept HN.out hb5)
              replace HAN := Hold.mk (kept HAN.out hb5)
              replace HO := Hold.mk (kept HO.out hb5)
              replace HTW := Hold.mk (HTW.out.below hb5)
              clear hb5 y0 y1 y2 y3 y4
              by_cases hc : c = 0
              · subst hc
                have HLC := Hold.mk (HL3.out hce)
                clear hce
                obtain ⟨y0, y1, y2, y3, y4⟩ := cells_five HO.out
                obtain ⟨z0, z1, z2, z3, z4⟩ := cells_five H3.out.hd
                go_wp2_with fail
                refine (Holds_is _ d _ _ _ _ HLC.out HJO.out HJD.out HTW.out).mono ?_
                rintro e w6 ⟨rfl, hb6⟩
                replace H3 := Hold.mk (H3.out.next hb6)
                replace HJN := Hold.mk (HJN.out.mono (cle_below hb6))
                replace HJA := Hold.mk (HJA.out.mono (cle_below hb6))
                replace HJO := Hold.mk (HJO.out.mono (cle_below hb6))
                replace HJD := Hold.mk (HJD.out.mono (cle_below hb6))
                replace HN := Hold.mk (kept HN.out hb6)
                replace HAN := Hold.mk (kept HAN.out hb6)
                replace HO := Hold.mk (kept HO.out hb6)
                replace HTW := Hold.mk (HTW.out.below hb6)
                clear hb6 y0 y1 y2 y3 y4 z0 z1 z2 z3 z4 HLC
                go_wp2_with fail
                go_ret
                exact ⟨rfl, H3.out.bel⟩
              · clear hce
                go_wp2_with fail
                go_ret
                exact ⟨rfl, H3.out.bel⟩
            · clear hce
              obtain ⟨y0, y1, y2, y3, y4⟩ := cells_five HO.out
              go_wp2_with fail
              obtain ⟨c, hce⟩ : ∃ c, checkF (oneJ nOr (bothJ f g)) = c := ⟨_, rfl⟩
              refine (Check_is _ _ _ c hce HJO.out HTW.out).mono ?_
              rintro e w5 ⟨rfl, hb5⟩
              replace H3 := Hold.mk (H3.out.next hb5)
              replace HJN := Hold.mk (HJN.out.mono (cle_below hb5))
              replace HJA := Hold.mk (HJA.out.mono (cle_below hb5))
              replace HJO := Hold.mk (HJO.out.mono (cle_below hb5))
              replace HJD := Hold.mk (HJD.out.mono (cle_below hb5))
              replace HN := Hold.mk (kept HN.out hb5)
              replace HAN := Hold.mk (kept HAN.out hb5)
              replace HO := Hold.mk (kept HO.out hb5)
              replace HTW := Hold.mk (HTW.out.below hb5)
              clear hb5 y0 y1 y2 y3 y4
              by_cases hc : c = 0
              · subst hc
                have HLC := Hold.mk (HL3.out hce)
                clear hce
                obtain ⟨y0, y1, y2, y3, y4⟩ := cells_five HO.out
                obtain ⟨z0, z1, z2, z3, z4⟩ := cells_five H3.out.hd
                go_wp2_with fail
                refine (Holds_is _ d _ _ _ _ HLC.out HJO.out HJD.out HTW.out).mono ?_
                rintro e w6 ⟨rfl, hb6⟩
                replace H3 := Hold.mk (H3.out.next hb6)
                replace HJN := Hold.mk (HJN.out.mono (cle_below hb6))
                replace HJA := Hold.mk (HJA.out.mono (cle_below hb6))
                replace HJO := Hold.mk (HJO.out.mono (cle_below hb6))
                replace HJD := Hold.mk (HJD.out.mono (cle_below hb6))
                replace HN := Hold.mk (kept HN.out hb6)
                replace HAN := Hold.mk (kept HAN.out hb6)
                replace HO := Hold.mk (kept HO.out hb6)
                replace HTW := Hold.mk (HTW.out.below hb6)
                clear hb6 y0 y1 y2 y3 y4 z0 z1 z2 z3 z4 HLC
                go_wp2_with fail
                go_ret
                exact ⟨rfl, H3.out.bel⟩
              · clear hce
                go_wp2_with fail
                go_ret
                exact ⟨rfl, H3.out.bel⟩
    · go_wp2_with fail
      refine (awake15_any _ (HT.out.below H3.out.bel)).mono ?_
      rintro e w3 ⟨rfl, hb3⟩
      replace H3 := Hold.mk (H3.out.next hb3)
      clear hb3
      go_wp2_with fail
      go_ret
      exact ⟨rfl, H3.out.bel⟩

end Go.Proofs.YtfllnlmanopfaaaDoor
