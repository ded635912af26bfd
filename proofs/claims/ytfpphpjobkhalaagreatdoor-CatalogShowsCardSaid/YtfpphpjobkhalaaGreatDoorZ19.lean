/- Indexes: Formed and Few of the reference. -/
import Derived.Test.YtfpphpjobkhalaaGreatDoorZ14
import Derived.Test.YtfpphpjobkhalaaGreatDoorZ17
namespace Go.Proofs.YtfpphpjobkhalaaGreatDoor
open Go.RowKit

theorem steps_er {s : ByteArray} {w w' : World} {e : Ending} (h : StepsPost s w e w') : ∃ sv er, e = .returned (.tuple #[sv, .int .i64 er]) ∧ (er = 0 ↔ (stepsF s).isSome = true) := by
  obtain ⟨hsp, _⟩ := h
  cases hl : stepsF s with
  | none => rw [hl] at hsp; exact ⟨_, 2, hsp, by simp⟩
  | some l => rw [hl] at hsp; obtain ⟨sv, rfl, _⟩ := hsp; exact ⟨sv, 0, rfl, by simp⟩
set_option maxRecDepth 100000 in
set_option maxHeartbeats 8000000 in
theorem rFormedI_any (x : IX) (v : Value) (w : World) (hx : IAt (cf w) x v) (hsm : ∀ f ∈ x.fields, f.1.size ≤ 1000000) :
    Calls Tryz.prog 51 #[v] w fun e w' => e = .returned (.bool (formI x)) ∧ Below w.heap.size w w' := by
  obtain ⟨hnm, fv, rfl, a, cap, rfl, hlen, hcap, hel⟩ := hx
  have HB := Hold.mk (Boxed.refl w (.cells #[.string x.name, .slice a x.fields.length cap, .bool x.uniq] 73))
  have HE := Hold.mk hel
  have HS := Hold.mk hsm
  have HX := Hold.mk (fun w => rName_any x.name w hnm)
  have HF0 : Hold (formI x = (nameF x.name && decide (1 ≤ x.fields.length ∧ x.fields.length ≤ 3) && goodF x.fields 0 x.fields)) := ⟨rfl⟩
  obtain ⟨nm, l, u⟩ := x
  simp only at *
  clear hel hsm
  obtain ⟨y0, y1, y2⟩ := cells_three HB.out.blk
  by_cases h1 : 1 ≤ l.length
  · by_cases h3 : l.length ≤ 3
    · have HG : Hold (formI ⟨nm, l, u⟩ = (nameF nm && goodF l 0 (l.drop 0))) := ⟨by rw [HF0.out, decide_eq_true (show 1 ≤ l.length ∧ l.length ≤ 3 from ⟨h1, h3⟩), Bool.and_true]; rfl⟩
      clear y0 y1 y2 HF0
      go_enter Tryz.func51, Tryz.ntmps51
      go_wp2_with fail
      go_loopw [3] (fun i wr => ∃ j : Nat, i = .int .i64 j ∧ j ≤ l.length ∧ formI ⟨nm, l, u⟩ = (nameF nm && goodF l j (l.drop j)) ∧ Boxed w wr _) (fun i _ => l.length - (intOf i).toNat)
      case atStart => exact ⟨0, rfl, Nat.zero_le _, HG.out, HB.out⟩
      case round =>
        obtain ⟨j, rfl, hj, hst, hbx⟩ := hrel
        clear HB
        have HST := Hold.mk hst
        have HB := Hold.mk hbx
        clear hst hbx HG
        obtain ⟨y0, y1, y2⟩ := cells_three HB.out.blk
        by_cases hlt : j < l.length
        · obtain ⟨f, hf⟩ : ∃ f, l[j]? = some f := ⟨l[j], List.getElem?_eq_getElem hlt⟩
          obtain ⟨hfs, b, off, rfl, x0, x1⟩ := HE.out j f hf
          have HX0 := Hold.mk x0
          have z0 := cle_below HB.out.below _ _ _ x0
          unfold cf at z0
          have HSM := Hold.mk (HS.out f (List.mem_of_getElem? hf))
          replace HST := Hold.mk (HST.out.trans (congrArg (fun b => nameF nm && b) (good_step hf)))
          have HF := Hold.mk hf
          clear x0 x1 hf
          obtain ⟨s, dn⟩ := f
          simp only at *
          go_wp2_with fail
          refine (rSteps_any s _ HSM.out).mono ?_
          rintro e w2 hsp
          replace HB := Hold.mk (HB.out.next hsp.2)
          obtain ⟨sv, er, rfl, her⟩ := steps_er hsp
          clear hsp z0 y0 y1 y2
          obtain ⟨y0, y1, y2⟩ := cells_three HB.out.blk
          have z0 := cle_below HB.out.below _ _ _ HX0.out
          unfold cf at z0
          cases hl : stepsF s with
          | none =>
            have HR : Hold (formI ⟨nm, l, u⟩ = false) := ⟨by rw [HST.out, path_parts, hl]; simp⟩
            have hne : (er != 0) = true := by rw [hl] at her; simp at her; simpa using her
            clear hl her
            go_wp2_with fail
            go_ret
            exact ⟨by rw [HR.out]; rfl, HB.out.below⟩
          | some ls =>
            obtain rfl : er = 0 := her.2 (by rw [hl]; rfl)
            replace HST : Hold (formI ⟨nm, l, u⟩ = (nameF nm && (simpleF s && !(l.take j).any (sameS s) && goodF l (j + 1) (l.drop (j + 1))))) := ⟨by rw [HST.out]; unfold pathOk; rw [hl]; rfl⟩
            clear hl her
            go_wp2_with fail
            refine (rsimple_any s _ hfs).mono ?_
            rintro e w3 ⟨rfl, hw3⟩
            subst hw3
            cases hp : simpleF s with
            | false =>
              have HR : Hold (formI ⟨nm, l, u⟩ = false) := ⟨by rw [HST.out, hp]; simp⟩
              clear hp
              go_wp2_with fail
              go_ret
              exact ⟨by rw [HR.out]; rfl, HB.out.below⟩
            | true =>
              replace HST : Hold (formI ⟨nm, l, u⟩ = (nameF nm && (!(l.take j).any (sameS s) && goodF l (j + 1) (l.drop (j + 1))))) := ⟨by rw [HST.out, hp, Bool.true_and]⟩
              clear hp z0 y0 y1 y2
              go_wp2_with fail
              go_loopw [6] (fun i wr => ∃ q : Nat, i = .int .i64 q ∧ q ≤ j ∧ (∀ (r : Nat) p, r < q → l[r]? = some p → sameS s p = false) ∧ Boxed w wr _) (fun i _ => j - (intOf i).toNat)
              case atStart => exact ⟨0, rfl, Nat.zero_le _, fun r p h => by omega, HB.out⟩
              case round =>
                obtain ⟨q, rfl, hq, hno, hbx⟩ := hrel
                clear HB
                have HNO := Hold.mk hno
                have HB := Hold.mk hbx
                clear hno hbx
                by_cases hql : q < j
                · obtain ⟨p, hp⟩ : ∃ f, l[q]? = some f := ⟨l[q], List.getElem?_eq_getElem (by omega)⟩
                  obtain ⟨_, b2, off2, e2, v0, v1⟩ := HE.out q p hp
                  obtain ⟨rfl, rfl⟩ : b = b2 ∧ off = off2 := by cases e2; exact ⟨rfl, rfl⟩
                  obtain ⟨y0, y1, y2⟩ := cells_three HB.out.blk
                  have hcl := cle_below HB.out.below
                  have g0 := Grow.cell y1
                  have g1 := Grow.cell (hcl _ _ _ HX0.out)
                  have g2 := Grow.cell (hcl _ _ _ v0)
                  have HPQ := Hold.mk hp
                  have hql2 : q < l.length := by omega
                  obtain ⟨r, hr⟩ : ∃ r, sameS s p = r := ⟨_, rfl⟩
                  have hrb : (p.1.toList == s.toList) = r := hr
                  have HRR := Hold.mk hr
                  obtain ⟨t, pd⟩ := p
                  simp only at *
                  clear e2 v0 v1 hp hcl hr y0 y1 y2
                  cases r with
                  | true =>
                    have HR : Hold (formI ⟨nm, l, u⟩ = false) := ⟨by
                      have : (l.take j).any (sameS s) = true := any_true (i := q) (by rw [List.getElem?_take, if_pos hql]; exact HPQ.out) HRR.out
                      rw [HST.out, this]; simp⟩
                    go_wp2_with fail
                    refine wp_region_grow (by kernel_rfl) (by kernel_rfl) ?_
                    repeat (go_big_quiet_step (fail))
                    refine wpQuiet_nil ?_
                    rintro ⟨w3, hb3⟩
                    replace HB := Hold.mk (HB.out.next hb3)
                    simp only
                    clear hb3 g0 g1 g2
                    go_wp2_with fail
                    go_ret
                    exact ⟨by rw [HR.out]; rfl, HB.out.below⟩
                  | false =>
                    have HNX : Hold (∀ (r : Nat) p, r < q + 1 → l[r]? = some p → sameS s p = false) := ⟨fun r p hr hp => by
                      by_cases e : r = q
                      · subst e; rw [HPQ.out] at hp; cases hp; exact HRR.out
                      · exact HNO.out r p (by omega) hp⟩
                    go_wp2_with fail
                    refine wp_region_grow (by kernel_rfl) (by kernel_rfl) ?_
                    repeat (go_big_quiet_step (fail))
                    refine wpQuiet_nil ?_
                    rintro ⟨w3, hb3⟩
                    replace HB := Hold.mk (HB.out.next hb3)
                    simp only
                    clear hb3 g0 g1 g2
                    go_wp2_with fail
                    exact ⟨⟨q + 1, by go_num, hql, HNX.out, HB.out⟩, by simp [intOf]; omega⟩
                · have HR : Hold (formI ⟨nm, l, u⟩ = (nameF nm && goodF l (j + 1) (l.drop (j + 1)))) := ⟨by
                    have : (l.take j).any (sameS s) = false := any_false (fun r p hr hp => by
                      rw [List.getElem?_take] at hp
                      split at hp
                      · exact HNO.out r p (by omega) hp
                      · cases hp)
                    rw [HST.out, this]; simp⟩
                  go_wp2_with fail
                  exact ⟨⟨j + 1, by go_num, hlt, HR.out, HB.out⟩, by simp [intOf]; omega⟩
        · have HR : Hold (formI ⟨nm, l, u⟩ = nameF nm) := ⟨by rw [HST.out, List.drop_eq_nil_of_le (by omega)]; simp [goodF]⟩
          go_wp2_with fail
          refine (HX.out _).mono ?_
          rintro e w3 ⟨rfl, hw3⟩
          subst hw3
          go_wp2_with fail
          go_ret
          exact ⟨by rw [HR.out]; rfl, HB.out.below⟩
    · have HR : Hold (formI ⟨nm, l, u⟩ = false) := ⟨by rw [HF0.out, decide_eq_false (fun h : 1 ≤ l.length ∧ l.length ≤ 3 => h3 h.2)]; simp⟩
      clear y0 y1 y2
      go_enter Tryz.func51, Tryz.ntmps51
      go_wp2_with fail
      go_ret
      exact ⟨by rw [HR.out]; rfl, HB.out.below⟩
  · have HR : Hold (formI ⟨nm, l, u⟩ = false) := ⟨by rw [HF0.out, decide_eq_false (fun h : 1 ≤ l.length ∧ l.length ≤ 3 => h1 h.1)]; simp⟩
    clear y0 y1 y2
    go_enter Tryz.func51, Tryz.ntmps51
    go_wp2_with fail
    go_ret
    exact ⟨by rw [HR.out]; rfl, HB.out.below⟩
/-- few fields, short ones -/
def shortI (x : IX) : Bool := x.fields.all (fun f => decide (f.1.size ≤ 1000)) && decide (x.name.size ≤ 1000)
set_option maxRecDepth 100000 in
set_option maxHeartbeats 8000000 in
theorem rFewI_any (x : IX) (v : Value) (w : World) (hx : IAt (cf w) x v) (hn : x.fields.length ≤ 10) :
    Calls Tryz.prog 28 #[v] w fun e w' => e = .returned (.bool (shortI x)) ∧ Below w.heap.size w w' := by
  obtain ⟨hnm, fv, rfl, a, cap, rfl, hlen, hcap, hel⟩ := hx
  have HB := Hold.mk (Boxed.refl w (.cells #[.string x.name, .slice a x.fields.length cap, .bool x.uniq] 73))
  have HE := Hold.mk hel
  have HF0 : Hold (shortI x = ((x.fields.drop 0).all (fun f => decide (f.1.size ≤ 1000)) && decide (x.name.size ≤ 1000))) := ⟨rfl⟩
  obtain ⟨nm, l, u⟩ := x
  simp only at *
  clear hel
  go_enter Tryz.func28, Tryz.ntmps28
  go_wp2_with fail
  go_loopw [3] (fun i wr => ∃ j : Nat, i = .int .i64 j ∧ j ≤ l.length ∧ shortI ⟨nm, l, u⟩ = ((l.drop j).all (fun f => decide (f.1.size ≤ 1000)) && decide (nm.size ≤ 1000)) ∧ Boxed w wr _) (fun i _ => l.length - (intOf i).toNat)
  case atStart => exact ⟨0, rfl, Nat.zero_le _, HF0.out, HB.out⟩
  case round =>
    obtain ⟨j, rfl, hj, hst, hbx⟩ := hrel
    clear HB HF0
    have HST := Hold.mk hst
    have HB := Hold.mk hbx
    clear hst hbx
    obtain ⟨y0, y1, y2⟩ := cells_three HB.out.blk
    by_cases hlt : j < l.length
    · obtain ⟨f, hf⟩ : ∃ f, l[j]? = some f := ⟨l[j], List.getElem?_eq_getElem hlt⟩
      obtain ⟨hfs, b, off, rfl, x0, x1⟩ := HE.out j f hf
      have z0 := cle_below HB.out.below _ _ _ x0
      unfold cf at z0
      have HD : Hold (l.drop j = f :: l.drop (j + 1)) := ⟨by obtain ⟨h1, e1⟩ := List.getElem?_eq_some_iff.1 hf; rw [List.drop_eq_getElem_cons h1, e1]⟩
      have h10 : j < 10 := by omega
      clear x0 x1 hf
      obtain ⟨s, dn⟩ := f
      simp only at *
      by_cases hs : s.size ≤ 1000
      · have HR : Hold (shortI ⟨nm, l, u⟩ = ((l.drop (j + 1)).all (fun f => decide (f.1.size ≤ 1000)) && decide (nm.size ≤ 1000))) := ⟨by rw [HST.out, HD.out, List.all_cons, decide_eq_true hs, Bool.true_and]⟩
        go_wp2_with fail
        exact ⟨⟨j + 1, by go_num, hlt, HR.out, HB.out⟩, by simp [intOf]; omega⟩
      · have HR : Hold (shortI ⟨nm, l, u⟩ = false) := ⟨by rw [HST.out, HD.out, List.all_cons, decide_eq_false hs]; rfl⟩
        go_wp2_with fail
        go_ret
        exact ⟨by rw [HR.out]; rfl, HB.out.below⟩
    · have HR : Hold (shortI ⟨nm, l, u⟩ = decide (nm.size ≤ 1000)) := ⟨by rw [HST.out, List.drop_eq_nil_of_le (by omega)]; rfl⟩
      by_cases hs : nm.size ≤ 1000
      · replace HR := Hold.mk (HR.out.trans (decide_eq_true hs))
        go_wp2_with fail
        go_ret
        exact ⟨by rw [HR.out]; first | rfl | (simp; omega), HB.out.below⟩
      · replace HR := Hold.mk (HR.out.trans (decide_eq_false hs))
        go_wp2_with fail
        go_ret
        exact ⟨by rw [HR.out]; first | rfl | (simp; omega), HB.out.below⟩
end Go.Proofs.YtfpphpjobkhalaaGreatDoor
