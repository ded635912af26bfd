/- Paths: what lies at one, walked. -/
import Derived.Test.YtfllnlmanopfaaaDoorFB
import Derived.Test.YtfllnlmanopfaaaDoorJL
import Derived.StillTailTactics
namespace Go.Proofs.YtfllnlmanopfaaaDoor
open Go.RowKit

/-- the cells below B -/
def cfU (B : Nat) (w : World) : CF := fun b o => if b < B then w.cell? ⟨b, o, none⟩ else none
theorem cfU_keep {B : Nat} {w w' : World} (hb : Below B w w') : CLe (cfU B w) (cf w') := fun b o u h => by
  unfold cfU at h; split at h
  · rename_i hB; unfold cf; rw [hb.cell (p := ⟨b, o, none⟩) hB]; exact h
  · cases h
theorem cle_cfU (w : World) : CLe (cf w) (cfU w.heap.size w) := fun b o u h => by
  unfold cfU; rw [if_pos (lt_of_cell h)]; exact h

theorem cfU_cf (B : Nat) (w : World) : CLe (cfU B w) (cf w) := fun b o u h => by
  unfold cfU at h; split at h
  · exact h
  · cases h
/-- five stores into one box -/
abbrev set5 (w : World) (k : Nat) (c0 c1 c2 c3 c4 : Value) : World := ((((w.setCell ⟨k, 0, none⟩ c0).setCell ⟨k, 1, none⟩ c1).setCell ⟨k, 2, none⟩ c2).setCell ⟨k, 3, none⟩ c3).setCell ⟨k, 4, none⟩ c4
theorem set_self {w : World} {k o : Nat} {cs : Array Value} {t : TypeId} {fr : Nat × Nat} {c : Value} (h : w.heap[k]? = some (.cells cs t fr)) : (w.setCell ⟨k, o, none⟩ c).heap[k]? = some (.cells (cs.set! o c) t fr) := by
  simp [World.setCell, Array.getElem?_modify, h]
theorem set5_self {w : World} {k : Nat} {a0 a1 a2 a3 a4 c0 c1 c2 c3 c4 : Value} {t : TypeId} {fr : Nat × Nat} (h : w.heap[k]? = some (.cells #[a0, a1, a2, a3, a4] t fr)) : (set5 w k c0 c1 c2 c3 c4).heap[k]? = some (.cells #[c0, c1, c2, c3, c4] t fr) := by
  have := set_self (o := 4) (c := c4) (set_self (o := 3) (c := c3) (set_self (o := 2) (c := c2) (set_self (o := 1) (c := c1) (set_self (o := 0) (c := c0) h))))
  simpa using this
theorem set5_other {w : World} {k j : Nat} {c0 c1 c2 c3 c4 : Value} (h : j ≠ k) : (set5 w k c0 c1 c2 c3 c4).heap[j]? = w.heap[j]? := by
  rw [Below.heap_setCell _ _ _ _ h, Below.heap_setCell _ _ _ _ h, Below.heap_setCell _ _ _ _ h, Below.heap_setCell _ _ _ _ h, Below.heap_setCell _ _ _ _ h]
theorem set5_below {w a : World} {B k : Nat} {c0 c1 c2 c3 c4 : Value} (hb : Below B a w) (hB : B ≤ k) : Below B a (set5 w k c0 c1 c2 c3 c4) :=
  ((((hb.setCell (p := ⟨k, 0, none⟩) hB _).setCell (p := ⟨k, 1, none⟩) hB _).setCell (p := ⟨k, 2, none⟩) hB _).setCell (p := ⟨k, 3, none⟩) hB _).setCell (p := ⟨k, 4, none⟩) hB _
theorem free_box {w : World} {k : Nat} {cs : Array Value} {t : TypeId} (h : w.heap[k]? = some (.cells cs t (0, 0))) (o : Nat) : w.frozen? ⟨k, o, none⟩ = false := by simp [World.frozen?, h]
theorem set5_cells {w : World} {k : Nat} {c0 c1 c2 c3 c4 : Value} {b o : Nat} (h : b ≠ k) : (set5 w k c0 c1 c2 c3 c4).cell? ⟨b, o, none⟩ = w.cell? ⟨b, o, none⟩ := World.cell?_of_block (set5_other h)

/-- what Get hands back: what lies in the cells c -/
def GetPostC (c : CF) (v : JV) (p : ByteArray) (w : World) (e : Ending) (w' : World) : Prop := (match getF v p with
      | some u => ∃ x, e = .returned (.tuple #[x, .bool true]) ∧ JAt c u x
      | none => e = .returned (.tuple #[.agg #[.int .i64 0, .int .i64 0, .string ⟨#[]⟩, .slice none 0 0, .slice none 0 0], .bool false])) ∧ Below w.heap.size w w'
def GetPost (v : JV) (p : ByteArray) (w : World) : Ending → World → Prop := GetPostC (cfU w.heap.size w) v p w
theorem get_no {c : CF} {v : JV} {p : ByteArray} {w w' : World} (h : getF v p = none) (hb : Below w.heap.size w w') : GetPostC c v p w (.returned (.tuple #[.agg #[.int .i64 0, .int .i64 0, .string ⟨#[]⟩, .slice none 0 0, .slice none 0 0], .bool false])) w' := by
  unfold GetPostC; rw [h]; exact ⟨rfl, hb⟩
theorem get_yes {c : CF} {v u : JV} {p : ByteArray} {w w' : World} {x : Value} (h : getF v p = some u) (hx : JAt c u x) (hb : Below w.heap.size w w') : GetPostC c v p w (.returned (.tuple #[x, .bool true])) w' := by
  unfold GetPostC; rw [h]; exact ⟨⟨x, rfl, hx⟩, hb⟩

/-- in a formed value a place is one of an item -/
theorem place_item {d : Nat} {v : JV} {s : ByteArray} (hf : formedF d v = true) (h : ¬ placeF v s < 0) : ∃ q : Nat, placeF v s = q ∧ q < v.items.length := by
  cases d with
  | zero => simp [formedF] at hf
  | succ d =>
    obtain ⟨k, n, t, nm, it⟩ := v
    unfold placeF at h ⊢
    by_cases h5 : k = 5 ∧ numF s < it.length
    · rw [if_pos (show (JV.mk k n t nm it).kind = 5 ∧ numF s < (JV.mk k n t nm it).items.length from h5)] at h ⊢
      exact ⟨(numF s).toNat, by omega, by have := h5.2; show (numF s).toNat < it.length; omega⟩
    rw [if_neg (show ¬ ((JV.mk k n t nm it).kind = 5 ∧ numF s < (JV.mk k n t nm it).items.length) from h5)] at h ⊢
    by_cases h6 : k = 6
    · rw [if_pos (show (JV.mk k n t nm it).kind = 6 from h6)] at h ⊢
      obtain ⟨_, hl, _⟩ := formed_body hf (by omega)
      rw [if_pos h6] at hl
      rcases idxGo_ge s nm 0 with e | ⟨q, e, hq⟩
      · exact absurd (show idxGo s (JV.mk k n t nm it).names 0 < 0 by show idxGo s nm 0 < 0; rw [e]; decide) h
      · exact ⟨q, by show idxGo s nm 0 = _; rw [e, Nat.zero_add], by show q < it.length; omega⟩
    · rw [if_neg (show ¬ (JV.mk k n t nm it).kind = 6 from h6)] at h
      exact absurd (by decide) h

/-- where Get stands: at the value u, the j-th step next -/
structure GetAt (c : CF) (v : JV) (p : ByteArray) (l : List ByteArray) (sv : Value) (w wr : World) (j : Nat) (u : JV) (box : Array Value) : Prop where
  eq : getF v p = walkF (l.drop j) u
  formed : ∃ d, formedF d u = true
  at_ : JAt c u (.agg box)
  two : Two w wr box #[.int .i64 0, .int .i64 0, .string ⟨#[]⟩, .slice none 0 0, .slice none 0 0]
  strs : StrsAt (cfA (w.heap.size + 2) wr) sv l
theorem GetAt.next {c : CF} {v u : JV} {p : ByteArray} {l : List ByteArray} {sv : Value} {w wr w' : World} {j : Nat} {box : Array Value} (h : GetAt c v p l sv w wr j u box) (hb : Below wr.heap.size wr w') : GetAt c v p l sv w w' j u box :=
  ⟨h.eq, h.formed, h.at_, h.two.next hb, h.strs.mono fun b o x hx => by
    unfold cfA at hx ⊢; split at hx
    · rename_i hB; rw [if_pos hB]; exact cle_below hb b o x hx
    · cases hx⟩
theorem GetAt.put {c : CF} {v u u' : JV} {p : ByteArray} {l : List ByteArray} {sv : Value} {w wr : World} {j : Nat} {a0 a1 a2 a3 a4 c0 c1 c2 c3 c4 : Value} (h : GetAt c v p l sv w wr j u #[a0, a1, a2, a3, a4]) (he : walkF (l.drop j) u = walkF (l.drop (j + 1)) u') (hf : ∃ d, formedF d u' = true)
    (hj : JAt c u' (.agg #[c0, c1, c2, c3, c4])) : GetAt c v p l sv w (set5 wr w.heap.size c0 c1 c2 c3 c4) (j + 1) u' #[c0, c1, c2, c3, c4] :=
  ⟨h.eq.trans he, hf, hj, ⟨set5_below h.two.bel (Nat.le_refl _), set5_self h.two.one, by rw [set5_other (by omega)]; exact h.two.two⟩, h.strs.mono fun b o x hx => by
    unfold cfA at hx ⊢; split at hx
    · rename_i hB; rw [if_pos hB, set5_cells (by omega)]; exact hx
    · cases hx⟩
theorem walk_no {s : ByteArray} {l : List ByteArray} {j : Nat} {u : JV} (hs : l[j]? = some s) (h : placeF u s < 0) : walkF (l.drop j) u = none := by
  rw [drop_name hs, walkF, if_pos h]
theorem walk_on {s : ByteArray} {l : List ByteArray} {j q : Nat} {u u' : JV} (hs : l[j]? = some s) (h : placeF u s = q) (hu : u.items[q]? = some u') : walkF (l.drop j) u = walkF (l.drop (j + 1)) u' := by
  rw [drop_name hs, walkF, if_neg (by omega), h, Int.toNat_natCast, hu]; rfl
theorem formed_item {d : Nat} {k n : Int} {t : ByteArray} {nm : List ByteArray} {it : List JV} {x : JV} (hf : formedF d (.mk k n t nm it) = true) (hx : x ∈ it) : ∃ d, formedF d x = true := by
  cases d with
  | zero => simp [formedF] at hf
  | succ d =>
    by_cases hk : k < 5
    · rw [formedF, if_pos hk, Bool.and_eq_true] at hf
      have := (of_decide_eq_true hf.2).1
      rw [List.length_eq_zero_iff.1 this] at hx; cases hx
    · exact ⟨d, (formed_body hf hk).2.2.2.1 x hx⟩

theorem rFormed_law (v : JV) (x : Value) (w : World) (hx : JAt (cf w) v x) :
    Calls Tryd.prog 48 #[x] w fun e w' => e = .returned (.bool (formedF 6 v)) ∧ Below w.heap.size w w' := by
  rw [formed_law 6 v]; exact rFormed_any v x w hx
theorem stepsGo_small {s : ByteArray} (hs : s.size ≤ 1000000) : ∀ m fr i out r, (∀ x ∈ out, x.size ≤ 1000000) → stepsGo s m fr i out = some r → ∀ x ∈ r, x.size ≤ 1000000
  | 0, _, _, out, r, h, e => by rw [stepsGo] at e; cases e; exact h
  | m + 1, fr, i, out, r, h, e => by
    rw [stepsGo] at e
    split at e
    · exact stepsGo_small hs m _ _ _ r h e
    · split at e
      · cases e
      · refine stepsGo_small hs m _ _ _ r (fun x hx => ?_) e
        rcases List.mem_append.1 hx with h1 | h1
        · exact h x h1
        · obtain rfl : x = s.extract fr i := by simpa using h1
          rw [ByteArray.size_extract]; omega
theorem steps_small {s : ByteArray} (hs : s.size ≤ 1000000) {l : List ByteArray} (h : stepsF s = some l) : ∀ x ∈ l, x.size ≤ 1000000 := stepsGo_small hs _ _ _ _ l (by simp) h

set_option maxRecDepth 100000 in
set_option maxHeartbeats 8000000 in
theorem GetC_any (c : CF) (v : JV) (x : Value) (p : ByteArray) (w : World) (hc : CLe c (cfU w.heap.size w)) (hx : JAt c v x) (hs : p.size ≤ 1000000) (hT : Tabs w) :
    Calls Tryd.prog 43 #[x, .string p] w (GetPostC c v p w) := by
  obtain ⟨k, n, t, nm, it, na, ncap, ia, icap, hve, rfl, _⟩ := hx.open
  have HCL := Hold.mk hc
  have HJ := Hold.mk (hx.mono (hc.trans (cfU_cf _ w)))
  have HJC := Hold.mk hx
  have HT := Hold.mk hT
  have H2 := Hold.mk (Two.refl w #[.int .i64 k, .int .i64 n, .string t, .slice na nm.length ncap, .slice ia it.length icap] #[.int .i64 0, .int .i64 0, .string ⟨#[]⟩, .slice none 0 0, .slice none 0 0])
  have HS := Hold.mk (Steps_any p _ hs (hT.below H2.out.bel))
  clear hx hve hT hc
  go_enter Tryd.func43, Tryd.ntmps43
  go_wp2_with fail
  refine HS.out.mono ?_
  rintro e w1 ⟨hst, hb1⟩
  replace H2 := Hold.mk (H2.out.next hb1)
  clear HS hb1
  obtain ⟨y0, y1, y2, y3, y4⟩ := cells_five H2.out.one
  obtain ⟨z0, z1, z2, z3, z4⟩ := cells_five H2.out.two
  have f0 := free_box H2.out.two 0
  have f1 := free_box H2.out.two 1
  have f2 := free_box H2.out.two 2
  have f3 := free_box H2.out.two 3
  have f4 := free_box H2.out.two 4
  cases hl : stepsF p with
  | none =>
    rw [hl] at hst
    simp only at hst
    subst hst
    have HG : Hold (getF v p = none) := ⟨by unfold getF; rw [hl]; rfl⟩
    clear hl
    go_wp2_with fail
    obtain ⟨q0, q1, q2, q3, q4⟩ := cells_five (set5_self (c0 := .int .i64 0) (c1 := .int .i64 0) (c2 := .string ⟨#[]⟩) (c3 := .slice none 0 0) (c4 := .slice none 0 0) H2.out.two)
    refine bodyPost_ret (v := .tuple #[.agg #[.int .i64 0, .int .i64 0, .string ⟨#[]⟩, .slice none 0 0, .slice none 0 0], .bool false]) (by simp [results, Tryd.results43, go_sem, q0, q1, q2, q3, q4]) rfl (get_no HG.out (set5_below H2.out.bel (by omega)))
  | some l =>
    rw [hl] at hst
    simp only at hst
    obtain ⟨sv, rfl, hsv⟩ := hst
    obtain ⟨sa, scap, rfl, hslen, hsel⟩ := id hsv
    have HSV : Hold (StrsAt (cfA (w.heap.size + 2) w1) (.slice sa l.length scap) l) := ⟨by simpa using hsv⟩
    have HSZ := Hold.mk (steps_small hs hl)
    have HSL := Hold.mk hl
    clear hl hsv hsel
    have HF := Hold.mk (Formed_any v _ _ (HJ.out.mono (cle_below H2.out.bel)) (HT.out.below H2.out.bel))
    cases hf : formedF 6 v with
    | false =>
      rw [hf] at HF
      have HG : Hold (getF v p = none) := ⟨by unfold getF; rw [HSL.out]; simp [hf]⟩
      clear hf
      go_wp2_with fail
      refine HF.out.mono ?_
      rintro e w2 ⟨rfl, hb2⟩
      replace H2 := Hold.mk (H2.out.next hb2)
      clear hb2 HF y0 y1 y2 y3 y4 z0 z1 z2 z3 z4 f0 f1 f2 f3 f4 HSV
      obtain ⟨z0, z1, z2, z3, z4⟩ := cells_five H2.out.two
      have f0 := free_box H2.out.two 0
      have f1 := free_box H2.out.two 1
      have f2 := free_box H2.out.two 2
      have f3 := free_box H2.out.two 3
      have f4 := free_box H2.out.two 4
      go_wp2_with fail
      obtain ⟨q0, q1, q2, q3, q4⟩ := cells_five (set5_self (c0 := .int .i64 0) (c1 := .int .i64 0) (c2 := .string ⟨#[]⟩) (c3 := .slice none 0 0) (c4 := .slice none 0 0) H2.out.two)
      refine bodyPost_ret (v := .tuple #[.agg #[.int .i64 0, .int .i64 0, .string ⟨#[]⟩, .slice none 0 0, .slice none 0 0], .bool false]) (by simp [results, Tryd.results43, go_sem, q0, q1, q2, q3, q4]) rfl (get_no HG.out (set5_below H2.out.bel (by omega)))
    | true =>
      rw [hf] at HF
      have HA : Hold (GetAt c v p l (.slice sa l.length scap) w w1 0 v #[.int .i64 k, .int .i64 n, .string t, .slice na nm.length ncap, .slice ia it.length icap]) := ⟨⟨by unfold getF; rw [HSL.out]; simp [hf], ⟨6, hf⟩, HJC.out, H2.out, HSV.out⟩⟩
      clear hf HSV HSL
      go_wp2_with fail
      refine HF.out.mono ?_
      rintro e w2 ⟨rfl, hb2⟩
      replace HA := Hold.mk (HA.out.next hb2)
      clear hb2 HF H2 y0 y1 y2 y3 y4 z0 z1 z2 z3 z4 f0 f1 f2 f3 f4
      go_wp2_with fail
      go_loopw [8] (fun i wr => ∃ (j : Nat) (u : JV) (box : Array Value), i = .int .i64 j ∧ j ≤ l.length ∧ GetAt c v p l (.slice sa l.length scap) w wr j u box) (fun i _ => l.length - (intOf i).toNat)
      case atStart => exact ⟨0, v, _, rfl, Nat.zero_le _, HA.out⟩
      case round =>
        clear HJ HJC HA
        obtain ⟨j, u, box, rfl, hj, hat⟩ := hrel
        obtain ⟨k, n, t, nm, it, na, ncap, ia, icap, rfl, hbe, _, _, _, _, hit⟩ := hat.at_.open
        cases hbe
        have HA := Hold.mk hat
        obtain ⟨y0, y1, y2, y3, y4⟩ := cells_five hat.two.one
        obtain ⟨z0, z1, z2, z3, z4⟩ := cells_five hat.two.two
        have f0 := free_box hat.two.two 0
        have f1 := free_box hat.two.two 1
        have f2 := free_box hat.two.two 2
        have f3 := free_box hat.two.two 3
        have f4 := free_box hat.two.two 4
        have HIT := Hold.mk hit
        clear hat hit
        by_cases hlt : j < l.length
        · obtain ⟨s, hs⟩ : ∃ s, l[j]? = some s := ⟨l[j], List.getElem?_eq_getElem hlt⟩
          obtain ⟨sa', scap', e, _, hsel⟩ := id HA.out.strs
          cases e
          obtain ⟨_, sb, so, rfl, hsc⟩ := hsel j s hs
          have g5 := Grow.cell (cfA_le _ _ _ _ _ hsc)
          have g0 := Grow.cell y0
          have g1 := Grow.cell y1
          have g2 := Grow.cell y2
          have g3 := Grow.cell y3
          have g4 := Grow.cell y4
          have HSX := Hold.mk hs
          have HPL := Hold.mk (Calls.grow (fun e : Grow wr => place_any (.mk k n t nm it) _ s e.val ((HA.out.at_.mono (HCL.out.trans (cfU_keep HA.out.two.bel))).mono (cle_below e.property)) (HSZ.out s (List.mem_of_getElem? hs))))
          clear hsel hsc hs y0 y1 y2 y3 y4 z0 z1 z2 z3 z4 f0 f1 f2 f3 f4
          generalize hpl : placeF (.mk k n t nm it) s = pl at HPL
          go_wp2_with fail
          refine wp_region_grow (by kernel_rfl) (by kernel_rfl) ?_
          repeat (go_big_quiet_step (exact HPL.out _))
          refine wpQuiet_nil ?_
          rintro ⟨w3, hb3⟩
          replace HA := Hold.mk (HA.out.next hb3)
          simp only
          clear hb3 g0 g1 g2 g3 g4 g5 HPL
          obtain ⟨y0, y1, y2, y3, y4⟩ := cells_five HA.out.two.one
          by_cases hneg : pl < 0
          · have HG := Hold.mk (HA.out.eq.trans (walk_no HSX.out (by rw [hpl]; exact hneg)))
            clear hpl
            obtain ⟨z0, z1, z2, z3, z4⟩ := cells_five HA.out.two.two
            have f0 := free_box HA.out.two.two 0
            have f1 := free_box HA.out.two.two 1
            have f2 := free_box HA.out.two.two 2
            have f3 := free_box HA.out.two.two 3
            have f4 := free_box HA.out.two.two 4
            go_wp2_with fail
            obtain ⟨q0, q1, q2, q3, q4⟩ := cells_five (set5_self (c0 := .int .i64 0) (c1 := .int .i64 0) (c2 := .string ⟨#[]⟩) (c3 := .slice none 0 0) (c4 := .slice none 0 0) HA.out.two.two)
            refine bodyPost_ret (v := .tuple #[.agg #[.int .i64 0, .int .i64 0, .string ⟨#[]⟩, .slice none 0 0, .slice none 0 0], .bool false]) (by simp [results, Tryd.results43, go_sem, q0, q1, q2, q3, q4]) rfl (get_no HG.out (set5_below HA.out.two.bel (by omega)))
          · obtain ⟨df, hdf⟩ := HA.out.formed
            obtain ⟨q, hq, hql⟩ := place_item hdf (by rw [hpl]; exact hneg)
            obtain rfl : pl = q := hpl.symm.trans hq
            have hql2 : q < it.length := hql
            obtain ⟨x, hx⟩ : ∃ x, it[q]? = some x := ⟨it[q], List.getElem?_eq_getElem hql2⟩
            obtain ⟨ia', icap', e, hilen, hiel⟩ := HIT.out
            cases e
            obtain ⟨bb, off, k2, n2, t2, nm2, it2, na2, ncap2, ia2, icap2, rfl, _, x0, x1, x2, x3, x4, hxj⟩ := hiel q x hx
            have hcl := HCL.out.trans (cfU_keep HA.out.two.bel)
            have z0 := hcl _ _ _ x0
            have z1 := hcl _ _ _ x1
            have z2 := hcl _ _ _ x2
            have z3 := hcl _ _ _ x3
            have z4 := hcl _ _ _ x4
            unfold cf at z0 z1 z2 z3 z4
            have f0 := free_box HA.out.two.one 0
            have f1 := free_box HA.out.two.one 1
            have f2 := free_box HA.out.two.one 2
            have f3 := free_box HA.out.two.one 3
            have f4 := free_box HA.out.two.one 4
            have HN := Hold.mk (HA.out.put (walk_on HSX.out hpl hx) (formed_item hdf (List.mem_of_getElem? hx)) hxj)
            clear hpl hq hdf hx hcl x0 x1 x2 x3 x4 hxj hneg hiel hql HIT
            go_wp2_with fail
            exact ⟨⟨j + 1, x, _, by go_num, hlt, HN.out⟩, by simp [intOf]; omega⟩
        · have HG : Hold (getF v p = some (.mk k n t nm it)) := ⟨by rw [HA.out.eq, List.drop_eq_nil_of_le (by omega), walkF]⟩
          go_wp2_with fail
          obtain ⟨q0, q1, q2, q3, q4⟩ := cells_five (set5_self (c0 := .int .i64 k) (c1 := .int .i64 n) (c2 := .string t) (c3 := .slice na nm.length ncap) (c4 := .slice ia it.length icap) HA.out.two.two)
          refine bodyPost_ret (v := .tuple #[.agg #[.int .i64 k, .int .i64 n, .string t, .slice na nm.length ncap, .slice ia it.length icap], .bool true]) (by simp [results, Tryd.results43, go_sem, q0, q1, q2, q3, q4]) rfl (get_yes HG.out HA.out.at_ (set5_below HA.out.two.bel (by omega)))

set_option maxRecDepth 100000 in
set_option maxHeartbeats 8000000 in
theorem rGetC_any (c : CF) (v : JV) (x : Value) (p : ByteArray) (w : World) (hc : CLe c (cfU w.heap.size w)) (hx : JAt c v x) (hs : p.size ≤ 1000000) :
    Calls Tryd.prog 66 #[x, .string p] w (GetPostC c v p w) := by
  obtain ⟨k, n, t, nm, it, na, ncap, ia, icap, hve, rfl, _⟩ := hx.open
  have HCL := Hold.mk hc
  have HJ := Hold.mk (hx.mono (hc.trans (cfU_cf _ w)))
  have HJC := Hold.mk hx
  have H2 := Hold.mk (Two.refl w #[.int .i64 k, .int .i64 n, .string t, .slice na nm.length ncap, .slice ia it.length icap] #[.int .i64 0, .int .i64 0, .string ⟨#[]⟩, .slice none 0 0, .slice none 0 0])
  have HS := Hold.mk (fun ww => rSteps_any p ww hs)
  clear hx hve hc
  go_enter Tryd.func66, Tryd.ntmps66
  go_wp2_with fail
  refine (HS.out _).mono ?_
  rintro e w1 ⟨hst, hb1⟩
  replace H2 := Hold.mk (H2.out.next hb1)
  clear HS hb1
  obtain ⟨y0, y1, y2, y3, y4⟩ := cells_five H2.out.one
  obtain ⟨z0, z1, z2, z3, z4⟩ := cells_five H2.out.two
  have f0 := free_box H2.out.two 0
  have f1 := free_box H2.out.two 1
  have f2 := free_box H2.out.two 2
  have f3 := free_box H2.out.two 3
  have f4 := free_box H2.out.two 4
  cases hl : stepsF p with
  | none =>
    rw [hl] at hst
    simp only at hst
    subst hst
    have HG : Hold (getF v p = none) := ⟨by unfold getF; rw [hl]; rfl⟩
    clear hl
    go_wp2_with fail
    obtain ⟨q0, q1, q2, q3, q4⟩ := cells_five (set5_self (c0 := .int .i64 0) (c1 := .int .i64 0) (c2 := .string ⟨#[]⟩) (c3 := .slice none 0 0) (c4 := .slice none 0 0) H2.out.two)
    refine bodyPost_ret (v := .tuple #[.agg #[.int .i64 0, .int .i64 0, .string ⟨#[]⟩, .slice none 0 0, .slice none 0 0], .bool false]) (by simp [results, Tryd.results66, go_sem, q0, q1, q2, q3, q4]) rfl (get_no HG.out (set5_below H2.out.bel (by omega)))
  | some l =>
    rw [hl] at hst
    simp only at hst
    obtain ⟨sv, rfl, hsv⟩ := hst
    obtain ⟨sa, scap, rfl, hslen, hsel⟩ := id hsv
    have HSV : Hold (StrsAt (cfA (w.heap.size + 2) w1) (.slice sa l.length scap) l) := ⟨by simpa using hsv⟩
    have HSZ := Hold.mk (steps_small hs hl)
    have HSL := Hold.mk hl
    clear hl hsv hsel
    have HF := Hold.mk (rFormed_law v _ _ (HJ.out.mono (cle_below H2.out.bel)))
    cases hf : formedF 6 v with
    | false =>
      rw [hf] at HF
      have HG : Hold (getF v p = none) := ⟨by unfold getF; rw [HSL.out]; simp [hf]⟩
      clear hf
      go_wp2_with fail
      refine HF.out.mono ?_
      rintro e w2 ⟨rfl, hb2⟩
      replace H2 := Hold.mk (H2.out.next hb2)
      clear hb2 HF y0 y1 y2 y3 y4 z0 z1 z2 z3 z4 f0 f1 f2 f3 f4 HSV
      obtain ⟨z0, z1, z2, z3, z4⟩ := cells_five H2.out.two
      have f0 := free_box H2.out.two 0
      have f1 := free_box H2.out.two 1
      have f2 := free_box H2.out.two 2
      have f3 := free_box H2.out.two 3
      have f4 := free_box H2.out.two 4
      go_wp2_with fail
      obtain ⟨q0, q1, q2, q3, q4⟩ := cells_five (set5_self (c0 := .int .i64 0) (c1 := .int .i64 0) (c2 := .string ⟨#[]⟩) (c3 := .slice none 0 0) (c4 := .slice none 0 0) H2.out.two)
      refine bodyPost_ret (v := .tuple #[.agg #[.int .i64 0, .int .i64 0, .string ⟨#[]⟩, .slice none 0 0, .slice none 0 0], .bool false]) (by simp [results, Tryd.results66, go_sem, q0, q1, q2, q3, q4]) rfl (get_no HG.out (set5_below H2.out.bel (by omega)))
    | true =>
      rw [hf] at HF
      have HA : Hold (GetAt c v p l (.slice sa l.length scap) w w1 0 v #[.int .i64 k, .int .i64 n, .string t, .slice na nm.length ncap, .slice ia it.length icap]) := ⟨⟨by unfold getF; rw [HSL.out]; simp [hf], ⟨6, hf⟩, HJC.out, H2.out, HSV.out⟩⟩
      clear hf HSV HSL
      go_wp2_with fail
      refine HF.out.mono ?_
      rintro e w2 ⟨rfl, hb2⟩
      replace HA := Hold.mk (HA.out.next hb2)
      clear hb2 HF H2 y0 y1 y2 y3 y4 z0 z1 z2 z3 z4 f0 f1 f2 f3 f4
      go_wp2_with fail
      go_loopw [8] (fun i wr => ∃ (j : Nat) (u : JV) (box : Array Value), i = .int .i64 j ∧ j ≤ l.length ∧ GetAt c v p l (.slice sa l.length scap) w wr j u box) (fun i _ => l.length - (intOf i).toNat)
      case atStart => exact ⟨0, v, _, rfl, Nat.zero_le _, HA.out⟩
      case round =>
        clear HJ HJC HA
        obtain ⟨j, u, box, rfl, hj, hat⟩ := hrel
        obtain ⟨k, n, t, nm, it, na, ncap, ia, icap, rfl, hbe, _, _, _, _, hit⟩ := hat.at_.open
        cases hbe
        have HA := Hold.mk hat
        obtain ⟨y0, y1, y2, y3, y4⟩ := cells_five hat.two.one
        obtain ⟨z0, z1, z2, z3, z4⟩ := cells_five hat.two.two
        have f0 := free_box hat.two.two 0
        have f1 := free_box hat.two.two 1
        have f2 := free_box hat.two.two 2
        have f3 := free_box hat.two.two 3
        have f4 := free_box hat.two.two 4
        have HIT := Hold.mk hit
        clear hat hit
        by_cases hlt : j < l.length
        · obtain ⟨s, hs⟩ : ∃ s, l[j]? = some s := ⟨l[j], List.getElem?_eq_getElem hlt⟩
          obtain ⟨sa', scap', e, _, hsel⟩ := id HA.out.strs
          cases e
          obtain ⟨_, sb, so, rfl, hsc⟩ := hsel j s hs
          have g5 := Grow.cell (cfA_le _ _ _ _ _ hsc)
          have g0 := Grow.cell y0
          have g1 := Grow.cell y1
          have g2 := Grow.cell y2
          have g3 := Grow.cell y3
          have g4 := Grow.cell y4
          have HSX := Hold.mk hs
          have HPL := Hold.mk (Calls.grow (fun e : Grow wr => rplace_any (.mk k n t nm it) _ s e.val ((HA.out.at_.mono (HCL.out.trans (cfU_keep HA.out.two.bel))).mono (cle_below e.property)) (HSZ.out s (List.mem_of_getElem? hs))))
          clear hsel hsc hs y0 y1 y2 y3 y4 z0 z1 z2 z3 z4 f0 f1 f2 f3 f4
          generalize hpl : placeF (.mk k n t nm it) s = pl at HPL
          go_wp2_with fail
          refine wp_region_grow (by kernel_rfl) (by kernel_rfl) ?_
          repeat (go_big_quiet_step (exact HPL.out _))
          refine wpQuiet_nil ?_
          rintro ⟨w3, hb3⟩
          replace HA := Hold.mk (HA.out.next hb3)
          simp only
          clear hb3 g0 g1 g2 g3 g4 g5 HPL
          obtain ⟨y0, y1, y2, y3, y4⟩ := cells_five HA.out.two.one
          by_cases hneg : pl < 0
          · have HG := Hold.mk (HA.out.eq.trans (walk_no HSX.out (by rw [hpl]; exact hneg)))
            clear hpl
            obtain ⟨z0, z1, z2, z3, z4⟩ := cells_five HA.out.two.two
            have f0 := free_box HA.out.two.two 0
            have f1 := free_box HA.out.two.two 1
            have f2 := free_box HA.out.two.two 2
            have f3 := free_box HA.out.two.two 3
            have f4 := free_box HA.out.two.two 4
            go_wp2_with fail
            obtain ⟨q0, q1, q2, q3, q4⟩ := cells_five (set5_self (c0 := .int .i64 0) (c1 := .int .i64 0) (c2 := .string ⟨#[]⟩) (c3 := .slice none 0 0) (c4 := .slice none 0 0) HA.out.two.two)
            refine bodyPost_ret (v := .tuple #[.agg #[.int .i64 0, .int .i64 0, .string ⟨#[]⟩, .slice none 0 0, .slice none 0 0], .bool false]) (by simp [results, Tryd.results66, go_sem, q0, q1, q2, q3, q4]) rfl (get_no HG.out (set5_below HA.out.two.bel (by omega)))
          · obtain ⟨df, hdf⟩ := HA.out.formed
            obtain ⟨q, hq, hql⟩ := place_item hdf (by rw [hpl]; exact hneg)
            obtain rfl : pl = q := hpl.symm.trans hq
            have hql2 : q < it.length := hql
            obtain ⟨x, hx⟩ : ∃ x, it[q]? = some x := ⟨it[q], List.getElem?_eq_getElem hql2⟩
            obtain ⟨ia', icap', e, hilen, hiel⟩ := HIT.out
            cases e
            obtain ⟨bb, off, k2, n2, t2, nm2, it2, na2, ncap2, ia2, icap2, rfl, _, x0, x1, x2, x3, x4, hxj⟩ := hiel q x hx
            have hcl := HCL.out.trans (cfU_keep HA.out.two.bel)
            have z0 := hcl _ _ _ x0
            have z1 := hcl _ _ _ x1
            have z2 := hcl _ _ _ x2
            have z3 := hcl _ _ _ x3
            have z4 := hcl _ _ _ x4
            unfold cf at z0 z1 z2 z3 z4
            have f0 := free_box HA.out.two.one 0
            have f1 := free_box HA.out.two.one 1
            have f2 := free_box HA.out.two.one 2
            have f3 := free_box HA.out.two.one 3
            have f4 := free_box HA.out.two.one 4
            have HN := Hold.mk (HA.out.put (walk_on HSX.out hpl hx) (formed_item hdf (List.mem_of_getElem? hx)) hxj)
            clear hpl hq hdf hx hcl x0 x1 x2 x3 x4 hxj hneg hiel hql HIT
            go_wp2_with fail
            exact ⟨⟨j + 1, x, _, by go_num, hlt, HN.out⟩, by simp [intOf]; omega⟩
        · have HG : Hold (getF v p = some (.mk k n t nm it)) := ⟨by rw [HA.out.eq, List.drop_eq_nil_of_le (by omega), walkF]⟩
          go_wp2_with fail
          obtain ⟨q0, q1, q2, q3, q4⟩ := cells_five (set5_self (c0 := .int .i64 k) (c1 := .int .i64 n) (c2 := .string t) (c3 := .slice na nm.length ncap) (c4 := .slice ia it.length icap) HA.out.two.two)
          refine bodyPost_ret (v := .tuple #[.agg #[.int .i64 k, .int .i64 n, .string t, .slice na nm.length ncap, .slice ia it.length icap], .bool true]) (by simp [results, Tryd.results66, go_sem, q0, q1, q2, q3, q4]) rfl (get_yes HG.out HA.out.at_ (set5_below HA.out.two.bel (by omega)))

theorem Get_any (v : JV) (x : Value) (p : ByteArray) (w : World) (hx : JAt (cf w) v x) (hs : p.size ≤ 1000000) (hT : Tabs w) : Calls Tryd.prog 43 #[x, .string p] w (GetPost v p w) :=
  GetC_any _ v x p w (CLe.refl _) (hx.mono (cle_cfU w)) hs hT
theorem rGet_any (v : JV) (x : Value) (p : ByteArray) (w : World) (hx : JAt (cf w) v x) (hs : p.size ≤ 1000000) : Calls Tryd.prog 66 #[x, .string p] w (GetPost v p w) :=
  rGetC_any _ v x p w (CLe.refl _) (hx.mono (cle_cfU w)) hs

end Go.Proofs.YtfllnlmanopfaaaDoor
