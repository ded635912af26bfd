/- Over of the program. (printed by genXDG.py) Doc and Lay of the reference. (printed by genXDH.py) Over and Meet of the reference. (printed by genXDI.py) Writes: WritesOver walked. (printed by genXDJ.py) -/
import Derived.Test.YtkhhbckpddkhlaaGreatDoorDC
import Derived.Deep.Onto
import Derived.Test.YtkhhbckpddkhlaaGreatDoorWI
namespace Go.Proofs.YtkhhbckpddkhlaaGreatDoor
open Go.Shelf Go.RowKit

theorem GRow.takeG {α : Type} {n : Nat} {R : Rep α} {c : CF} {l : List α} {cs : List Value} (h : GRow n R c l cs) (k : Nat) : GRow n R c (l.take k) (cs.take (k * n)) := by
  refine ⟨by rw [List.length_take, List.length_take, h.1]; rcases Nat.le_total k l.length with h1 | h1
             · rw [Nat.min_eq_left h1, Nat.min_eq_left (Nat.mul_le_mul_right n h1)]
             · rw [Nat.min_eq_right h1, Nat.min_eq_right (Nat.mul_le_mul_right n h1)], fun i y hy => ?_⟩
  rw [List.getElem?_take] at hy
  split at hy
  · rename_i hik
    obtain ⟨d, h1, h2, h3⟩ := h.2 i y hy
    refine ⟨d, h1, fun j u hu => ?_, h3⟩
    have hj : j < n := by rw [← h1]; exact (List.getElem?_eq_some_iff.1 hu).1
    have : (i + 1) * n ≤ k * n := Nat.mul_le_mul_right n hik
    rw [Nat.add_mul] at this
    rw [List.getElem?_take, if_pos (by omega)]; exact h2 j u hu
  · cases hy
theorem GRow.dropG {α : Type} {n : Nat} {R : Rep α} {c : CF} {l : List α} {cs : List Value} (h : GRow n R c l cs) (k : Nat) : GRow n R c (l.drop k) (cs.drop (k * n)) := by
  refine ⟨by rw [List.length_drop, List.length_drop, h.1, Nat.sub_mul], fun i y hy => ?_⟩
  rw [List.getElem?_drop] at hy
  obtain ⟨d, h1, h2, h3⟩ := h.2 (k + i) y hy
  refine ⟨d, h1, fun j u hu => ?_, h3⟩
  have := h2 j u hu
  rw [Nat.add_mul] at this
  rw [List.getElem?_drop, show k * n + (i * n + j) = k * n + i * n + j by omega]; exact this
theorem GRow.oneG {α : Type} {n : Nat} {R : Rep α} {c : CF} {y : α} {d : List Value} (hd : d.length = n) (h : R c y d) : GRow n R c [y] d := by
  have := (GRow.nil n R c).snoc (d := d) (x := y) hd h
  simpa using this
theorem OwnS.ones {α : Type} {n : Nat} {R : Rep α} {T : TypeId} {B : Nat} {w : World} {sl : Value} {p : Nat} {l : List α} {cs : List Value} (h : OwnS n R T B w sl p l cs) (h1 : ∀ c x d, R c x d → ∀ u ∈ d, u.oneCell' = true) (hn : 0 < n) : ∀ u ∈ cs, u.oneCell' = true := by
  intro u hu
  obtain ⟨i, hi, rfl⟩ := List.getElem_of_mem hu
  have hcl := h.row.1
  have hlt : i / n < l.length := by rw [Nat.div_lt_iff_lt_mul hn]; omega
  obtain ⟨d, h2, h3, h4⟩ := h.row.2 _ _ (List.getElem?_eq_getElem hlt)
  have hm : i % n < d.length := by rw [h2]; exact Nat.mod_lt _ hn
  have := h3 (i % n) _ (List.getElem?_eq_getElem hm)
  rw [Nat.mul_comm, Nat.div_add_mod, List.getElem?_eq_getElem hi] at this
  rw [Option.some.inj this]
  exact h1 _ _ _ h4 _ (List.getElem_mem _)
theorem OwnS.insG {α : Type} {n : Nat} {R : Rep α} {T : TypeId} {B : Nat} {w w' : World} {sl sl' : Value} {p k : Nat} {l : List α} {cs d : List Value} {y : α} (h : OwnS n R T B w sl p l cs) (hk : k ≤ p) (hd : d.length = n) (hR : Mono R) (hy : R (cfN sl w) y d) (hg : Grew w w' sl sl')
    (ho : w'.ownsRow B T n sl' (p + 1) (cs.take (k * n) ++ d ++ cs.drop (k * n))) : OwnS n R T B w' sl' (p + 1) (l.take k ++ y :: l.drop k) (cs.take (k * n) ++ d ++ cs.drop (k * n)) := by
  have hrow := h.row.mono hR (cfN_grew hg)
  have hlen := h.len
  refine ⟨ho, by simp; omega, ?_, Nat.le_trans h.le hg.by_.size⟩
  have := ((hrow.takeG k).app (GRow.oneG hd (hR _ _ _ _ (cfN_grew hg) hy))).app (hrow.dropG k)
  simpa using this
theorem OwnS.delG {α : Type} {n : Nat} {R : Rep α} {T : TypeId} {B : Nat} {w w' : World} {g p k cap : Nat} {l : List α} {cs : List Value} (h : OwnS n R T B w (.slice (some ⟨g, 0, none⟩) p cap) p l cs) (hk : k < p) (hR : Mono R) (hg : w.grownBy w' (some g))
    (ho : w'.ownsRow B T n (.slice (some ⟨g, 0, none⟩) (p - 1) cap) (p - 1) (cs.take (k * n) ++ cs.drop ((k + 1) * n))) : OwnS n R T B w' (.slice (some ⟨g, 0, none⟩) (p - 1) cap) (p - 1) (l.take k ++ l.drop (k + 1)) (cs.take (k * n) ++ cs.drop ((k + 1) * n)) := by
  have hgr : Grew w w' (.slice (some ⟨g, 0, none⟩) p cap) (.slice (some ⟨g, 0, none⟩) (p - 1) cap) := ⟨hg, fun q hq => .inl hq⟩
  have hrow := h.row.mono hR (cfN_grew hgr)
  have hlen := h.len
  exact ⟨ho, by simp; omega, (hrow.takeG k).app (hrow.dropG (k + 1)), Nat.le_trans h.le hg.size⟩

theorem OwnS.lower {α : Type} {n : Nat} {R : Rep α} {T : TypeId} {B B' : Nat} {w : World} {sl : Value} {p : Nat} {l : List α} {cs : List Value} (h : OwnS n R T B w sl p l cs) (hb : B' ≤ B) : OwnS n R T B' w sl p l cs := ⟨h.own.mono hb, h.len, h.row, Nat.le_trans hb h.le⟩
/-- what Over answers -/
noncomputable def overE (D : List DR) (l : List WR) : Int := match formedW l with
  | false => 2
  | true => match docsF D with
    | false => 2
    | true => 0
open Classical in
noncomputable def overR (D : List DR) (l : List WR) (sp : Int) : List DR := if overE D l = 0 then laidD sp l D else []
def OverPost (D : List DR) (l : List WR) (sp : Int) (w : World) (e : Ending) (w' : World) : Prop := ∃ sv, e = .returned (.tuple #[sv, .int .i64 (overE D l)]) ∧ SAt 6 RD (cf w') sv (overR D l sp) ∧ Below w.heap.size w w'
theorem overE_bad1 {D : List DR} {l : List WR} (h : formedW l = false) : overE D l = 2 := by unfold overE; rw [h]
theorem overE_bad2 {D : List DR} {l : List WR} (h : formedW l = true) (k : docsF D = false) : overE D l = 2 := by unfold overE; rw [h, k]
theorem overE_ok {D : List DR} {l : List WR} (h : formedW l = true) (k : docsF D = true) : overE D l = 0 := by unfold overE; rw [h, k]
theorem over_bad {D : List DR} {l : List WR} {sp : Int} {w w' : World} (h : overE D l = 2) (hb : Below w.heap.size w w') : OverPost D l sp w (.returned (.tuple #[.slice none 0 0, .int .i64 2])) w' :=
  ⟨_, by rw [h], by unfold overR; rw [h, if_neg (by decide)]; exact SAt.none _ _ _, hb⟩
theorem over_ok {D : List DR} {l : List WR} {sp : Int} {w w' : World} {sv : Value} (h : overE D l = 0) (hs : SAt 6 RD (cf w') sv (laidD sp l D)) (hb : Below w.heap.size w w') : OverPost D l sp w (.returned (.tuple #[sv, .int .i64 0])) w' :=
  ⟨_, by rw [h], by unfold overR; rw [if_pos h]; exact hs, hb⟩
theorem lay_gone {x : WR} {E E1 : List DR} (hg : x.gone = true) (h : E1 = E.take (placeN (idsD E) x.id) ++ tailD x E) : layD x E = E1 := by
  unfold layD; rw [hg, h]
theorem lay_new {x : WR} {E E1 : List DR} {k : Nat} (hg : x.gone = false) (h : E1 = E.take (placeN (idsD E) x.id) ++ tailD x E) (hk : placeN (idsD E) x.id = k) : layD x E = E1.take k ++ newD x :: E1.drop k := by
  have hle : k ≤ E.length := by have := placeN_le (idsD E) x.id; rw [idsD_len] at this; omega
  unfold layD; rw [hg, h, hk]
  simp only
  have hl : (E.take k).length = k := by rw [List.length_take]; omega
  rw [List.take_left' hl, List.drop_left' hl]
theorem laid_step {sp : Int} {l : List WR} {q : Nat} {x : WR} {E : List DR} (h : l[q]? = some x) : laidD sp (l.drop q) E = laidD sp (l.drop (q + 1)) (if x.sp = sp then layD x E else E) := by
  obtain ⟨h1, e1⟩ := List.getElem?_eq_some_iff.1 h
  rw [List.drop_eq_getElem_cons h1, e1, laidD]

set_option maxRecDepth 100000 in
set_option maxHeartbeats 16000000 in
theorem Over_any (D : List DR) (l : List WR) (sp : Int) (dv lv : Value) (w : World) (hD : SAt 6 RD (cf w) dv D) (hl : SAt 4 RW (cf w) lv l) (hsd : ∀ y ∈ D, y.id.size ≤ 1000000) (hsm : ∀ y ∈ l, y.id.size ≤ 1000000 ∧ y.text.size ≤ 1000000) (hdl : D.length ≤ 10000) (hll : l.length ≤ 10000) (hT : Tabs w) (hP : Pow w.heap.size w) (hE : Errs w.heap.size w) :
    Calls Tryz.prog 39 #[dv, lv, .int .i64 sp] w (OverPost D l sp w) := by
  have HDV := Hold.mk hD
  have HLV := Hold.mk hl
  obtain ⟨da, dcap, rfl, hdle, hdcap, hdel⟩ := hD
  obtain ⟨la, lcap, rfl, hle, hcap, hel⟩ := hl
  have HE := Hold.mk hdel
  have HW := Hold.mk hel
  have HSD := Hold.mk hsd
  have HSM := Hold.mk hsm
  have HT := Hold.mk hT
  have HER := Hold.mk hE
  have HF := Hold.mk (wFormed_any l _ w HLV.out hsm hT hP hE)
  clear hdel hel hsd hsm hT hP hE
  go_enter Tryz.func39, Tryz.ntmps39
  go_wp2_with fail
  refine HF.out.mono ?_
  rintro e w2 ⟨rfl, hb2⟩
  have HB := Hold.mk hb2
  clear hb2 HF
  obtain ⟨fm, hfm⟩ : ∃ fm, formedW l = fm := ⟨_, rfl⟩
  rw [hfm]
  have HFM := Hold.mk hfm
  clear hfm
  cases fm with
  | false =>
    have HR := Hold.mk (overE_bad1 (D := D) HFM.out)
    have HBF := HB.out
    go_wp2_with fail
    go_ret2
    exact over_bad HR.out HBF
  | true =>
  go_wp2_with fail
  go_loopw [22] (fun i' wr => ∃ j : Nat, i' = .int .i64 j ∧ j ≤ D.length ∧ DocsTo D j ∧ Below w.heap.size w wr) (fun i' _ => D.length - (intOf i').toNat)
  case atStart => exact ⟨0, rfl, Nat.zero_le _, DocsTo.zero D, HB.out⟩
  case round =>
    obtain ⟨j, rfl, hj, hto, hbl⟩ := hrel
    clear HB
    have HB := Hold.mk hbl
    have HTO := Hold.mk hto
    clear hbl hto
    by_cases hlt : j < D.length
    · obtain ⟨x, hx⟩ : ∃ x, D[j]? = some x := ⟨D[j], List.getElem?_eq_getElem hlt⟩
      obtain ⟨b, off, d, rfl, hd, hc, hxi⟩ := HE.out j x hx
      obtain ⟨k, n, t, na, nl, ncap, ia, il, icap, rfl, _, hk, hja⟩ := hxi
      have HX := Hold.mk hx
      have HSX := Hold.mk (HSD.out x (List.mem_of_getElem? hx))
      obtain ⟨i, v⟩ := x
      simp only at HSX hk hja
      have HK6 := Hold.mk hk
      have hcl := cle_below HB.out
      have z0 := hcl _ _ _ (hc 0 _ rfl)
      have z1 := hcl _ _ _ (hc 1 _ rfl)
      have z2 := hcl _ _ _ (hc 2 _ rfl)
      have z3 := hcl _ _ _ (hc 3 _ rfl)
      have z4 := hcl _ _ _ (hc 4 _ rfl)
      have z5 := hcl _ _ _ (hc 5 _ rfl)
      unfold cf at z0 z1 z2 z3 z4 z5
      rw [Nat.add_zero] at z0
      simp only at z0
      obtain ⟨W2, hW2⟩ : ∃ W2, W2 = wr.alloc (.cells #[.string i, .int .i64 k, .int .i64 n, .string t, .slice na nl ncap, .slice ia il icap] 47) := ⟨_, rfl⟩
      have hb2 : Below wr.heap.size wr W2 := by rw [hW2]; exact (Below.refl _ wr).alloc (Nat.le_refl _) _
      have HY : Hold (W2.heap[wr.heap.size]? = some (.cells #[.string i, .int .i64 k, .int .i64 n, .string t, .slice na nl ncap, .slice ia il icap] 47 (0, 0))) := ⟨by rw [hW2]; exact heap_alloc_new wr _⟩
      have HB2 := Hold.mk (HB.out.trans (hb2.mono HB.out.size))
      have HJ2 := Hold.mk (hja.mono (cle_below HB2.out))
      have HC1 := Hold.mk (Calls.grow (fun e : Grow W2 => goodId_any i e.val HSX.out (HT.out.below (HB2.out.trans (e.property.mono HB2.out.size)))))
      have HC2 := Hold.mk (Calls.grow (fun e : Grow W2 => Formed_any v _ e.val (HJ2.out.mono (cle_below e.property)) (HT.out.below (HB2.out.trans (e.property.mono HB2.out.size)))))
      clear hx hd hc hcl hb2 hja hk
      go_upto_region 6 with (fail)
      rw [← hW2]
      clear hW2 z0 z1 z2 z3 z4 z5
      obtain ⟨y0, y1, y2, y3, y4, y5⟩ := cells6D HY.out
      replace y0 := Grow.cell y0
      replace y1 := Grow.cell y1
      replace y2 := Grow.cell y2
      replace y3 := Grow.cell y3
      replace y4 := Grow.cell y4
      replace y5 := Grow.cell y5
      cases hg1 : idF i with
      | false =>
        have HR := Hold.mk (overE_bad2 (l := l) HFM.out (docsF_bad1 HX.out (by unfold docF; simp only; rw [hg1]; rfl)))
        rw [hg1] at HC1
        refine wp_region_grow (by kernel_rfl) (by kernel_rfl) ?_
        repeat (go_big_quiet_step (exact HC1.out _))
        refine wpQuiet_nil ?_
        rintro ⟨w3, hb3⟩
        have HBF := Hold.mk (HB2.out.trans (hb3.mono HB2.out.size))
        simp only
        clear hb3
        go_wp2_with fail
        go_ret2
        exact over_bad HR.out HBF.out
      | true =>
        rw [hg1] at HC1
        by_cases h6 : k = 6
        · subst h6
          cases hf : formedF 6 v with
          | false =>
            have HR := Hold.mk (overE_bad2 (l := l) HFM.out (docsF_bad1 HX.out (by unfold docF; simp only; rw [hg1, hf]; simp)))
            rw [hf] at HC2
            refine wp_region_grow (by kernel_rfl) (by kernel_rfl) ?_
            repeat (go_big_quiet_step (first | exact HC1.out _ | exact HC2.out _))
            refine wpQuiet_nil ?_
            rintro ⟨w3, hb3⟩
            have HBF := Hold.mk (HB2.out.trans (hb3.mono HB2.out.size))
            simp only
            clear hb3
            go_wp2_with fail
            go_ret2
            exact over_bad HR.out HBF.out
          | true =>
            rw [hf] at HC2
            have HOK : Hold (docF ⟨i, v⟩ = true) := ⟨by unfold docF; simp only; rw [hg1, hf, HK6.out]; simp⟩
            clear hf hg1
            cases j with
            | zero =>
              have HN : Hold (DocsTo D 1) := ⟨HTO.out.next HX.out HOK.out (fun a q h => by omega)⟩
              refine wp_region_grow (by kernel_rfl) (by kernel_rfl) ?_
              repeat (go_big_quiet_step (first | exact HC1.out _ | exact HC2.out _))
              refine wpQuiet_nil ?_
              rintro ⟨w3, hb3⟩
              have HBF := Hold.mk (HB2.out.trans (hb3.mono HB2.out.size))
              simp only
              clear hb3
              go_wp2_with fail
              exact ⟨⟨0 + 1, by go_num, hlt, HN.out, HBF.out⟩, by simp [intOf]; omega⟩
            | succ q =>
              obtain ⟨p, hp⟩ : ∃ p, D[q]? = some p := ⟨D[q], List.getElem?_eq_getElem (by omega)⟩
              obtain ⟨b2, off2, d2, e2, hd2, hc2, hxi2⟩ := HE.out q p hp
              cases e2
              obtain ⟨k3, n3, t3, na3, nl3, ncap3, ia3, il3, icap3, rfl, _⟩ := hxi2
              have v0 := cle_below HB2.out _ _ _ (hc2 0 _ rfl)
              unfold cf at v0
              rw [Nat.add_zero] at v0
              replace v0 := Grow.cell v0
              have HPX := Hold.mk hp
              clear hp hd2 hc2
              obtain ⟨ip, vp⟩ := p
              simp only at v0
              cases hlw : strLt ip i with
              | true =>
                have hlb : Op.bytesLess ip.toList i.toList = true := hlw
                have HN : Hold (DocsTo D (q + 1 + 1)) := ⟨HTO.out.next HX.out HOK.out (fun a r h1 h2 => by
                  obtain rfl : r = q := by omega
                  rw [HPX.out] at h2; cases h2; exact hlw)⟩
                clear hlw
                refine wp_region_grow (by kernel_rfl) (by kernel_rfl) ?_
                repeat (go_big_quiet_step (first | exact HC1.out _ | exact HC2.out _))
                refine wpQuiet_nil ?_
                rintro ⟨w3, hb3⟩
                have HBF := Hold.mk (HB2.out.trans (hb3.mono HB2.out.size))
                simp only
                clear hb3
                go_wp2_with fail
                exact ⟨⟨q + 1 + 1, by go_num, hlt, HN.out, HBF.out⟩, by simp [intOf]; omega⟩
              | false =>
                have hlb : Op.bytesLess ip.toList i.toList = false := hlw
                have HR := Hold.mk (overE_bad2 (l := l) HFM.out (docsF_bad2 HPX.out HX.out hlw))
                clear hlw
                refine wp_region_grow (by kernel_rfl) (by kernel_rfl) ?_
                repeat (go_big_quiet_step (first | exact HC1.out _ | exact HC2.out _))
                refine wpQuiet_nil ?_
                rintro ⟨w3, hb3⟩
                have HBF := Hold.mk (HB2.out.trans (hb3.mono HB2.out.size))
                simp only
                clear hb3
                go_wp2_with fail
                go_ret2
                exact over_bad HR.out HBF.out
        · have h6b : (k != 6) = true := by simpa using h6
          have HR := Hold.mk (overE_bad2 (l := l) HFM.out (docsF_bad1 HX.out (by unfold docF; simp only; rw [hg1, HK6.out, decide_eq_false h6]; simp)))
          clear h6
          refine wp_region_grow (by kernel_rfl) (by kernel_rfl) ?_
          repeat (go_big_quiet_step (exact HC1.out _))
          refine wpQuiet_nil ?_
          rintro ⟨w3, hb3⟩
          have HBF := Hold.mk (HB2.out.trans (hb3.mono HB2.out.size))
          simp only
          clear hb3
          go_wp2_with fail
          go_ret2
          exact over_bad HR.out HBF.out
    · obtain rfl : j = D.length := by omega
      have HDF := Hold.mk (docsF_end HTO.out)
      have HR0 := Hold.mk (overE_ok HFM.out HDF.out)
      have HUPD := Hold.mk (up_docs HTO.out)
      have HCL := Hold.mk (dclone_any D _ wr (HDV.out.mono RD_mono (cle_below HB.out)) (by omega))
      go_wp2_with fail
      refine HCL.out.mono ?_
      rintro e w3 ⟨sv, cs, rfl, ho3, hb3⟩
      obtain ⟨sa, scap, rfl⟩ := ho3.shape
      have HO := Hold.mk (ho3.lower HB.out.size)
      replace HB := Hold.mk (HB.out.trans (hb3.mono HB.out.size))
      clear ho3 hb3 HCL
      go_wp2_with fail
      go_loopw [10, 63] (fun sl i' wr' => ∃ (q : Nat) (E : List DR) (cs : List Value), i' = .int .i64 q ∧ q ≤ l.length ∧ laidD sp (l.drop q) E = laidD sp l D ∧ upN (idsD E) ∧ E.length ≤ D.length + q ∧ OwnS 6 RD 47 w.heap.size wr' sl E.length E cs ∧ Below w.heap.size w wr') (fun _ i' _ => l.length - (intOf i').toNat)
      case atStart => exact ⟨0, D, cs, rfl, Nat.zero_le _, rfl, HUPD.out, Nat.le_refl _, HO.out, HB.out⟩
      case round =>
        clear HO HB HTO
        obtain ⟨q, E, cs, rfl, hq, hst, hup, hel, hown, hbl⟩ := hrel
        obtain ⟨sa, scap, rfl⟩ := hown.shape
        have HST0 := Hold.mk hst
        have HUP := Hold.mk hup
        have HOL := Hold.mk hel
        have HO := Hold.mk hown
        have HB := Hold.mk hbl
        clear hst hup hown hbl
        by_cases hlt : q < l.length
        · obtain ⟨x, hx⟩ : ∃ x, l[q]? = some x := ⟨l[q], List.getElem?_eq_getElem hlt⟩
          obtain ⟨b, off, d, rfl, hd, hc, hxi⟩ := HW.out q x hx
          obtain ⟨rfl, hxi2, _, _⟩ := hxi
          obtain ⟨hxid, hxt⟩ := HSM.out x (List.mem_of_getElem? hx)
          have HLS := Hold.mk (laid_step (sp := sp) (E := E) hx)
          obtain ⟨xs, xi, gn, xt⟩ := x
          simp only at hxi2 hxid hxt
          have hcl := cle_below HB.out
          have z0 := hcl _ _ _ (hc 0 _ rfl)
          have z1 := hcl _ _ _ (hc 1 _ rfl)
          have z2 := hcl _ _ _ (hc 2 _ rfl)
          have z3 := hcl _ _ _ (hc 3 _ rfl)
          unfold cf at z0 z1 z2 z3
          rw [Nat.add_zero] at z0
          simp only at z0 z1 z2 z3
          rename World => wq
          obtain ⟨W2, hW2⟩ : ∃ W2, W2 = wq.alloc (.cells #[.int .i64 xs, .string xi, .bool gn, .string xt] 58) := ⟨_, rfl⟩
          have hb2 : Below wq.heap.size wq W2 := by rw [hW2]; exact (Below.refl _ wq).alloc (Nat.le_refl _) _
          have HX : Hold (W2.heap[wq.heap.size]? = some (.cells #[.int .i64 xs, .string xi, .bool gn, .string xt] 58 (0, 0))) := ⟨by rw [hW2]; exact heap_alloc_new wq _⟩
          have HLOW : Hold (∀ g, Value.ownBlock (.slice sa E.length scap) = some g → g < wq.heap.size) := ⟨fun g hg => (HO.out.low g hg).2⟩
          replace HB := Hold.mk (HB.out.trans (hb2.mono HB.out.size))
          replace HO := Hold.mk (HO.out.quiet RD_mono hb2)
          clear hx hd hc hcl hb2
          go_upto_region 13 with (fail)
          rw [← hW2]
          clear hW2 z0 z1 z2 z3
          obtain ⟨y0, y1, y2, y3⟩ := cells4W HX.out
          by_cases hs : xs = sp
          · have hs' : sp = xs := hs.symm
            clear hs
            subst hs'
            have HSTEP : Hold (laidD sp (l.drop (q + 1)) (layD ⟨sp, xi, gn, xt⟩ E) = laidD sp l D) := ⟨by rw [← HST0.out, HLS.out, if_pos rfl]⟩
            have HSE := Hold.mk (dsearch_any E xi _ W2 (HO.out.at_ RD_mono) HUP.out (by omega))
            obtain ⟨k, hk⟩ : ∃ k, placeN (idsD E) xi = k := ⟨_, rfl⟩
            obtain ⟨fd, hfd⟩ : ∃ fd, foundD (idsD E) xi = fd := ⟨_, rfl⟩
            have hke : k ≤ E.length := by have := placeN_le (idsD E) xi; rw [idsD_len] at this; omega
            rw [hk, hfd] at HSE
            have HKE := Hold.mk hk
            have HFD := Hold.mk hfd
            clear hk hfd HLS HST0
            go_wp2_with fail
            clear y0 y1 y2 y3
            refine HSE.out.mono ?_
            rintro e w4 ⟨rfl, hb4⟩
            replace HB := Hold.mk (HB.out.trans (hb4.mono HB.out.size))
            replace HX := Hold.mk (keptR HX.out hb4)
            replace HO := Hold.mk (HO.out.quiet RD_mono hb4)
            clear hb4 HSE
            obtain ⟨y0, y1, y2, y3⟩ := cells4W HX.out
            cases fd with
            | true =>
              have hlt2 : k < E.length := by
                have h1 := foundD_at HFD.out
                rw [HKE.out] at h1
                have := (List.getElem?_eq_some_iff.1 h1).1
                rw [idsD_len] at this; exact this
              obtain ⟨b, rfl⟩ : ∃ b, sa = some ⟨b, 0, none⟩ := by
                rcases HO.out.own.2 with ⟨hv, hn⟩ | ⟨b, cap, cur, hv, _⟩
                · omega
                · simp at hv; exact ⟨b, hv.1⟩
              have hbw := HLOW.out b rfl
              have HDL := Hold.mk (delD_any w.heap.size w4 b E.length scap cs HO.out.own k hlt2 (by omega) (HO.out.ones RD_one (by decide)))
              go_wp2_with fail
              clear y0 y1 y2 y3
              refine HDL.out.mono ?_
              rintro e w5 ⟨rfl, ho5, hg5⟩
              have ho6 := HO.out.delG hlt2 RD_mono hg5 ho5
              replace HX := Hold.mk ((hg5.block _ (ltR HX.out) (fun e => by have := Option.some.inj e; omega)).trans HX.out)
              replace HB := Hold.mk (HB.out.grown hg5 HB.out.size (fun r hr => by obtain rfl := Option.some.inj hr; exact (HO.out.low b rfl).1))
              obtain ⟨en, hen⟩ : ∃ en, en = E.length - 1 := ⟨_, rfl⟩
              rw [← hen] at ho6 ⊢
              have hkl1 : k ≤ en := by omega
              have HEN : Hold ((E.take k ++ E.drop (k + 1)).length = en) := ⟨ho6.len⟩
              replace HO := Hold.mk ho6
              have HTL : Hold ((E.take k ++ E.drop (k + 1)) = E.take (placeN (idsD E) xi) ++ tailD ⟨sp, xi, gn, xt⟩ E) := ⟨by unfold tailD; simp only; rw [HFD.out, HKE.out]⟩
              clear ho5 hg5 ho6 HDL hbw HLOW
              obtain ⟨y0, y1, y2, y3⟩ := cells4W HX.out
              have hen2 : en ≤ 30000 := by omega
              have HEN0 := Hold.mk hen
              clear hen
              cases gn with
              | true =>
                have HST : Hold (laidD sp (l.drop (q + 1)) (E.take k ++ E.drop (k + 1)) = laidD sp l D) := ⟨by rw [← HSTEP.out, lay_gone rfl HTL.out]⟩
                have HLE : Hold ((E.take k ++ E.drop (k + 1)).length ≤ D.length + (q + 1)) := ⟨by have := HOL.out; have h1 := HEN.out; have h2 := HEN0.out; omega⟩
                have HUP2 : Hold (upN (idsD (E.take k ++ E.drop (k + 1)))) := ⟨by have := lay_up (x := ⟨sp, xi, true, xt⟩) HUP.out; rw [lay_gone rfl HTL.out] at this; exact this⟩
                go_wp2_with fail
                have HOQ : Hold (OwnS 6 RD 47 w.heap.size w5 (.slice (some ⟨b, 0, none⟩) en scap) (E.take k ++ E.drop (k + 1)).length (E.take k ++ E.drop (k + 1)) _) := ⟨by rw [HEN.out]; exact HO.out⟩
                exact ⟨⟨q + 1, E.take k ++ E.drop (k + 1), _, by go_num, hlt, HST.out, HUP2.out, HLE.out, HOQ.out, HB.out⟩, by simp [intOf]; omega⟩
              | false =>
                have HRD := Hold.mk (Read_any xt w5 hxt (HT.out.below HB.out) (errs_after HER.out HB.out))
                go_wp2_with fail
                clear y0 y1 y2 y3
                refine HRD.out.mono ?_
                rintro e w8 ⟨hb8, xv, rfl, hj⟩
                obtain ⟨xk, xn, xtt, nm, it, na, ncap, ia, icap, hv, rfl, _⟩ := hj.open
                have HJ := Hold.mk hj
                have HVK : Hold ((readF xt.data.toList).1.kind = xk) := ⟨by rw [hv]; rfl⟩
                clear hj hv
                obtain ⟨W9, hW9⟩ : ∃ W9, W9 = w8.alloc (.cells #[.int .i64 xk, .int .i64 xn, .string xtt, .slice na nm.length ncap, .slice ia it.length icap] 25) := ⟨_, rfl⟩
                have hb9 : Below w8.heap.size w8 W9 := by rw [hW9]; exact (Below.refl _ w8).alloc (Nat.le_refl _) _
                have HZ9 : Hold (W9.heap[w8.heap.size]? = some (.cells #[.int .i64 xk, .int .i64 xn, .string xtt, .slice na nm.length ncap, .slice ia it.length icap] 25 (0, 0))) := ⟨by rw [hW9]; exact heap_alloc_new w8 _⟩
                have hb89 := hb8.trans (hb9.mono hb8.size)
                have HJN : Hold (JAt (cfN (.slice (some ⟨b, 0, none⟩) en scap) W9) (readF xt.data.toList).1 (.agg #[.int .i64 xk, .int .i64 xn, .string xtt, .slice na nm.length ncap, .slice ia it.length icap])) := ⟨(HJ.out.mono (cfF_below hb9)).mono (cfA_cfN (fun g hg => (HO.out.low g hg).2))⟩
                replace HB := Hold.mk (HB.out.trans (hb89.mono HB.out.size))
                replace HX := Hold.mk (keptR HX.out hb89)
                replace HO := Hold.mk (HO.out.quiet RD_mono hb89)
                clear hb8 hb9 hb89 HRD HJ
                go_upto_region 19 with (fail)
                rw [← hW9]
                clear hW9
                obtain ⟨y0, y1, y2, y3⟩ := cells4W HX.out
                obtain ⟨v0, v1, v2, v3, v4⟩ := cells5R HZ9.out
                obtain ⟨dd, hdd⟩ : ∃ dd : List Value, dd = [.string xi, .int .i64 xk, .int .i64 xn, .string xtt, .slice na nm.length ncap, .slice ia it.length icap] := ⟨_, rfl⟩
                have HRN : Hold (RD (cfN (.slice (some ⟨b, 0, none⟩) en scap) W9) (newD ⟨sp, xi, false, xt⟩) dd) := ⟨⟨xk, xn, xtt, na, nm.length, ncap, ia, it.length, icap, hdd, hxi2, HVK.out, HJN.out⟩⟩
                obtain ⟨W10, hW10⟩ : ∃ W10, W10 = W9.alloc (.cells #[.string xi, .int .i64 xk, .int .i64 xn, .string xtt, .slice na nm.length ncap, .slice ia it.length icap] 47) := ⟨_, rfl⟩
                have hb10 : Below W9.heap.size W9 W10 := by rw [hW10]; exact (Below.refl _ W9).alloc (Nat.le_refl _) _
                have HH : Hold (W10.heap[W9.heap.size]? = some (.cells dd.toArray 47 (0, 0))) := ⟨by rw [hW10, hdd]; exact heap_alloc_new W9 _⟩
                have hne : Value.ownBlock (.slice (some ⟨b, 0, none⟩) en scap) ≠ some W9.heap.size := fun e => by have := (HO.out.low _ e).2; omega
                have HO10 := Hold.mk (HO.out.quiet RD_mono hb10)
                have HRN10 := Hold.mk (RD_mono _ _ _ _ (cfN_quiet hb10) HRN.out)
                have hd1 : ∀ u ∈ dd, u.oneCell' = true := RD_one _ _ _ HRN.out
                have HIN := Hold.mk (insDoc_any w.heap.size W10 _ _ _ HO10.out.own k hkl1 W9.heap.size dd HH.out (by rw [hdd]; rfl) hd1 (HO10.out.ones RD_one (by decide)) HO10.out.le (by omega) hne)
                have HBA := Hold.mk (HB.out.trans (hb10.mono HB.out.size))
                have HDD := Hold.mk hdd
                clear hb10 hne hd1 hdd
                go_wp2_with fail
                rw [← hW10]
                clear v0 v1 v2 v3 v4 y0 y1 y2 y3 hW10
                refine HIN.out.mono ?_
                rintro e w11 ⟨sl', rfl, ho11, hg11, hn11⟩
                have hgr : Grew W10 w11 (.slice (some ⟨b, 0, none⟩) en scap) sl' := ⟨hg11, hn11⟩
                have ho12 := HO10.out.insG (y := newD ⟨sp, xi, false, xt⟩) hkl1 (by rw [HDD.out]; rfl) RD_mono HRN10.out hgr ho11
                have hbl : Below w.heap.size w w11 := HBA.out.grown hg11 HBA.out.size (fun r hr => (HO10.out.low r hr).1)
                obtain ⟨da, dcap, rfl⟩ := ho12.shape
                have HST : Hold (laidD sp (l.drop (q + 1)) ((E.take k ++ E.drop (k + 1)).take k ++ newD ⟨sp, xi, false, xt⟩ :: (E.take k ++ E.drop (k + 1)).drop k) = laidD sp l D) := ⟨by rw [← HSTEP.out, lay_new rfl HTL.out HKE.out]⟩
                have HLE : Hold (((E.take k ++ E.drop (k + 1)).take k ++ newD ⟨sp, xi, false, xt⟩ :: (E.take k ++ E.drop (k + 1)).drop k).length ≤ D.length + (q + 1)) := ⟨by have := HOL.out; have h1 := HEN.out; have h2 := HEN0.out; rw [List.length_append, List.length_cons, List.length_take, List.length_drop, h1]; omega⟩
                have HUP2 : Hold (upN (idsD ((E.take k ++ E.drop (k + 1)).take k ++ newD ⟨sp, xi, false, xt⟩ :: (E.take k ++ E.drop (k + 1)).drop k))) := ⟨by have := lay_up (x := ⟨sp, xi, false, xt⟩) HUP.out; rw [lay_new rfl HTL.out HKE.out] at this; exact this⟩
                have HLN : Hold (((E.take k ++ E.drop (k + 1)).take k ++ newD ⟨sp, xi, false, xt⟩ :: (E.take k ++ E.drop (k + 1)).drop k).length = en + 1) := ⟨ho12.len⟩
                have HO12 : Hold (OwnS 6 RD 47 w.heap.size w11 (.slice da (en + 1) dcap) ((E.take k ++ E.drop (k + 1)).take k ++ newD ⟨sp, xi, false, xt⟩ :: (E.take k ++ E.drop (k + 1)).drop k).length ((E.take k ++ E.drop (k + 1)).take k ++ newD ⟨sp, xi, false, xt⟩ :: (E.take k ++ E.drop (k + 1)).drop k) _) := ⟨by rw [HLN.out]; exact ho12⟩
                have HBL := Hold.mk hbl
                clear ho11 hg11 hn11 hgr ho12 hbl HIN
                go_wp2_with fail
                exact ⟨⟨q + 1, _, _, by go_num, hlt, HST.out, HUP2.out, HLE.out, HO12.out, HBL.out⟩, by simp [intOf]; omega⟩
            | false =>
              obtain ⟨en, hen⟩ : ∃ en, en = E.length := ⟨_, rfl⟩
              rw [← hen] at HO ⊢
              have hkl1 : k ≤ en := by omega
              have HEN : Hold (E.length = en) := ⟨hen.symm⟩
              have HTL : Hold (E = E.take (placeN (idsD E) xi) ++ tailD ⟨sp, xi, gn, xt⟩ E) := ⟨by unfold tailD; simp only; rw [HFD.out, HKE.out, List.take_append_drop]⟩
              clear HLOW
              have hen2 : en ≤ 30000 := by omega
              have HEN0 := Hold.mk hen
              clear hen
              cases gn with
              | true =>
                have HST : Hold (laidD sp (l.drop (q + 1)) (E) = laidD sp l D) := ⟨by rw [← HSTEP.out, lay_gone rfl HTL.out]⟩
                have HLE : Hold ((E).length ≤ D.length + (q + 1)) := ⟨by have := HOL.out; have h1 := HEN.out; have h2 := HEN0.out; omega⟩
                have HUP2 : Hold (upN (idsD (E))) := ⟨by have := lay_up (x := ⟨sp, xi, true, xt⟩) HUP.out; rw [lay_gone rfl HTL.out] at this; exact this⟩
                go_wp2_with fail
                have HOQ : Hold (OwnS 6 RD 47 w.heap.size w4 (.slice sa en scap) (E).length (E) _) := ⟨by rw [HEN.out]; exact HO.out⟩
                exact ⟨⟨q + 1, E, _, by go_num, hlt, HST.out, HUP2.out, HLE.out, HOQ.out, HB.out⟩, by simp [intOf]; omega⟩
              | false =>
                have HRD := Hold.mk (Read_any xt w4 hxt (HT.out.below HB.out) (errs_after HER.out HB.out))
                go_wp2_with fail
                clear y0 y1 y2 y3
                refine HRD.out.mono ?_
                rintro e w8 ⟨hb8, xv, rfl, hj⟩
                obtain ⟨xk, xn, xtt, nm, it, na, ncap, ia, icap, hv, rfl, _⟩ := hj.open
                have HJ := Hold.mk hj
                have HVK : Hold ((readF xt.data.toList).1.kind = xk) := ⟨by rw [hv]; rfl⟩
                clear hj hv
                obtain ⟨W9, hW9⟩ : ∃ W9, W9 = w8.alloc (.cells #[.int .i64 xk, .int .i64 xn, .string xtt, .slice na nm.length ncap, .slice ia it.length icap] 25) := ⟨_, rfl⟩
                have hb9 : Below w8.heap.size w8 W9 := by rw [hW9]; exact (Below.refl _ w8).alloc (Nat.le_refl _) _
                have HZ9 : Hold (W9.heap[w8.heap.size]? = some (.cells #[.int .i64 xk, .int .i64 xn, .string xtt, .slice na nm.length ncap, .slice ia it.length icap] 25 (0, 0))) := ⟨by rw [hW9]; exact heap_alloc_new w8 _⟩
                have hb89 := hb8.trans (hb9.mono hb8.size)
                have HJN : Hold (JAt (cfN (.slice sa en scap) W9) (readF xt.data.toList).1 (.agg #[.int .i64 xk, .int .i64 xn, .string xtt, .slice na nm.length ncap, .slice ia it.length icap])) := ⟨(HJ.out.mono (cfF_below hb9)).mono (cfA_cfN (fun g hg => (HO.out.low g hg).2))⟩
                replace HB := Hold.mk (HB.out.trans (hb89.mono HB.out.size))
                replace HX := Hold.mk (keptR HX.out hb89)
                replace HO := Hold.mk (HO.out.quiet RD_mono hb89)
                clear hb8 hb9 hb89 HRD HJ
                go_upto_region 19 with (fail)
                rw [← hW9]
                clear hW9
                obtain ⟨y0, y1, y2, y3⟩ := cells4W HX.out
                obtain ⟨v0, v1, v2, v3, v4⟩ := cells5R HZ9.out
                obtain ⟨dd, hdd⟩ : ∃ dd : List Value, dd = [.string xi, .int .i64 xk, .int .i64 xn, .string xtt, .slice na nm.length ncap, .slice ia it.length icap] := ⟨_, rfl⟩
                have HRN : Hold (RD (cfN (.slice sa en scap) W9) (newD ⟨sp, xi, false, xt⟩) dd) := ⟨⟨xk, xn, xtt, na, nm.length, ncap, ia, it.length, icap, hdd, hxi2, HVK.out, HJN.out⟩⟩
                obtain ⟨W10, hW10⟩ : ∃ W10, W10 = W9.alloc (.cells #[.string xi, .int .i64 xk, .int .i64 xn, .string xtt, .slice na nm.length ncap, .slice ia it.length icap] 47) := ⟨_, rfl⟩
                have hb10 : Below W9.heap.size W9 W10 := by rw [hW10]; exact (Below.refl _ W9).alloc (Nat.le_refl _) _
                have HH : Hold (W10.heap[W9.heap.size]? = some (.cells dd.toArray 47 (0, 0))) := ⟨by rw [hW10, hdd]; exact heap_alloc_new W9 _⟩
                have hne : Value.ownBlock (.slice sa en scap) ≠ some W9.heap.size := fun e => by have := (HO.out.low _ e).2; omega
                have HO10 := Hold.mk (HO.out.quiet RD_mono hb10)
                have HRN10 := Hold.mk (RD_mono _ _ _ _ (cfN_quiet hb10) HRN.out)
                have hd1 : ∀ u ∈ dd, u.oneCell' = true := RD_one _ _ _ HRN.out
                have HIN := Hold.mk (insDoc_any w.heap.size W10 _ _ _ HO10.out.own k hkl1 W9.heap.size dd HH.out (by rw [hdd]; rfl) hd1 (HO10.out.ones RD_one (by decide)) HO10.out.le (by omega) hne)
                have HBA := Hold.mk (HB.out.trans (hb10.mono HB.out.size))
                have HDD := Hold.mk hdd
                clear hb10 hne hd1 hdd
                go_wp2_with fail
                rw [← hW10]
                clear v0 v1 v2 v3 v4 y0 y1 y2 y3 hW10
                refine HIN.out.mono ?_
                rintro e w11 ⟨sl', rfl, ho11, hg11, hn11⟩
                have hgr : Grew W10 w11 (.slice sa en scap) sl' := ⟨hg11, hn11⟩
                have ho12 := HO10.out.insG (y := newD ⟨sp, xi, false, xt⟩) hkl1 (by rw [HDD.out]; rfl) RD_mono HRN10.out hgr ho11
                have hbl : Below w.heap.size w w11 := HBA.out.grown hg11 HBA.out.size (fun r hr => (HO10.out.low r hr).1)
                obtain ⟨da, dcap, rfl⟩ := ho12.shape
                have HST : Hold (laidD sp (l.drop (q + 1)) ((E).take k ++ newD ⟨sp, xi, false, xt⟩ :: (E).drop k) = laidD sp l D) := ⟨by rw [← HSTEP.out, lay_new rfl HTL.out HKE.out]⟩
                have HLE : Hold (((E).take k ++ newD ⟨sp, xi, false, xt⟩ :: (E).drop k).length ≤ D.length + (q + 1)) := ⟨by have := HOL.out; have h1 := HEN.out; have h2 := HEN0.out; rw [List.length_append, List.length_cons, List.length_take, List.length_drop, h1]; omega⟩
                have HUP2 : Hold (upN (idsD ((E).take k ++ newD ⟨sp, xi, false, xt⟩ :: (E).drop k))) := ⟨by have := lay_up (x := ⟨sp, xi, false, xt⟩) HUP.out; rw [lay_new rfl HTL.out HKE.out] at this; exact this⟩
                have HLN : Hold (((E).take k ++ newD ⟨sp, xi, false, xt⟩ :: (E).drop k).length = en + 1) := ⟨ho12.len⟩
                have HO12 : Hold (OwnS 6 RD 47 w.heap.size w11 (.slice da (en + 1) dcap) ((E).take k ++ newD ⟨sp, xi, false, xt⟩ :: (E).drop k).length ((E).take k ++ newD ⟨sp, xi, false, xt⟩ :: (E).drop k) _) := ⟨by rw [HLN.out]; exact ho12⟩
                have HBL := Hold.mk hbl
                clear ho11 hg11 hn11 hgr ho12 hbl HIN
                go_wp2_with fail
                exact ⟨⟨q + 1, _, _, by go_num, hlt, HST.out, HUP2.out, HLE.out, HO12.out, HBL.out⟩, by simp [intOf]; omega⟩
          · have hsb : (xs != sp) = true := by simpa using hs
            have HST : Hold (laidD sp (l.drop (q + 1)) E = laidD sp l D) := ⟨by rw [← HST0.out, HLS.out, if_neg hs]⟩
            clear hs
            go_wp2_with fail
            exact ⟨⟨q + 1, E, cs, by go_num, hlt, HST.out, HUP.out, by omega, HO.out, HB.out⟩, by simp [intOf]; omega⟩
        · obtain rfl : q = l.length := by omega
          have HEQ : Hold (laidD sp l D = E) := ⟨by rw [← HST0.out, List.drop_eq_nil_of_le (Nat.le_refl _)]; rfl⟩
          have HPO := Hold.mk (over_ok (sp := sp) HR0.out (by rw [HEQ.out]; exact HO.out.at_ RD_mono) HB.out)
          go_wp2_with fail
          go_ret2
          exact HPO.out


end Go.Proofs.YtkhhbckpddkhlaaGreatDoor

namespace Go.Proofs.YtkhhbckpddkhlaaGreatDoor
open Go.Shelf Go.RowKit

def set6D (w : World) (k : Nat) (c0 c1 c2 c3 c4 c5 : Value) : World := (((((w.setCell ⟨k, 0, none⟩ c0).setCell ⟨k, 1, none⟩ c1).setCell ⟨k, 2, none⟩ c2).setCell ⟨k, 3, none⟩ c3).setCell ⟨k, 4, none⟩ c4).setCell ⟨k, 5, none⟩ c5
theorem set6D_self {w : World} {k : Nat} {a0 a1 a2 a3 a4 a5 c0 c1 c2 c3 c4 c5 : Value} {t : TypeId} (h : w.heap[k]? = some (.cells #[a0, a1, a2, a3, a4, a5] t (0, 0))) : (set6D w k c0 c1 c2 c3 c4 c5).heap[k]? = some (.cells #[c0, c1, c2, c3, c4, c5] t (0, 0)) := by
  unfold set6D
  have h1 := heap_setCell_same w k 0 _ _ c0 h
  have h2 := heap_setCell_same _ k 1 _ _ c1 h1
  have h3 := heap_setCell_same _ k 2 _ _ c2 h2
  have h4 := heap_setCell_same _ k 3 _ _ c3 h3
  have h5 := heap_setCell_same _ k 4 _ _ c4 h4
  have h6 := heap_setCell_same _ k 5 _ _ c5 h5
  simpa using h6
theorem set6D_but (w : World) (k : Nat) (c0 c1 c2 c3 c4 c5 : Value) : But k w (set6D w k c0 c1 c2 c3 c4 c5) :=
  (((((But.set w 0 c0).trans (But.set _ 1 c1)).trans (But.set _ 2 c2)).trans (But.set _ 3 c3)).trans (But.set _ 4 c4)).trans (But.set _ 5 c5)
def NewPost (x : WR) (w : World) (e : Ending) (w' : World) : Prop := ∃ k n t na nl nc ia il ic, e = .returned (.agg #[.string x.id, .int .i64 k, .int .i64 n, .string t, .slice na nl nc, .slice ia il ic]) ∧ (newD x).v.kind = k ∧ JAt (cfF w.heap.size w') (newD x).v (.agg #[.int .i64 k, .int .i64 n, .string t, .slice na nl nc, .slice ia il ic]) ∧ Below w.heap.size w w'
theorem new_end {x : WR} {w w2 : World} {N B : Nat} {k n : Int} {t : ByteArray} {na : Option Addr} {nl nc : Nat} {ia : Option Addr} {il ic : Nat} {T : TypeId} {a0 a1 a2 a3 a4 a5 : Value} (hv : w2.heap[N]? = some (.cells #[a0, a1, a2, a3, a4, a5] T (0, 0))) (hN : w.heap.size ≤ N) (hB : N < B) (hb : Below w.heap.size w w2) (hk : (newD x).v.kind = k)
    (hj : JAt (cfF B w2) (newD x).v (.agg #[.int .i64 k, .int .i64 n, .string t, .slice na nl nc, .slice ia il ic])) :
    ∃ W2, set6D w2 N (.string x.id) (.int .i64 k) (.int .i64 n) (.string t) (.slice na nl nc) (.slice ia il ic) = W2 ∧ W2.heap[N]? = some (.cells #[.string x.id, .int .i64 k, .int .i64 n, .string t, .slice na nl nc, .slice ia il ic] T (0, 0)) ∧ NewPost x w (.returned (.agg #[.string x.id, .int .i64 k, .int .i64 n, .string t, .slice na nl nc, .slice ia il ic])) W2 :=
  ⟨_, rfl, set6D_self hv, k, n, t, na, nl, nc, ia, il, ic, rfl, hk, (hj.mono (cfF_but (set6D_but _ _ _ _ _ _ _ _) hB)).mono (cfF_le _ (Nat.le_trans hN (Nat.le_of_lt hB))), hb.trans ((set6D_but _ _ _ _ _ _ _ _).below hN (ltR hv))⟩

set_option maxRecDepth 100000 in
set_option maxHeartbeats 8000000 in
theorem rDoc_any (x : WR) (w : World) (hxt : x.text.size ≤ 20000) : Calls Tryz.prog 136 #[.agg x.cells] w (NewPost x w) := by
  obtain ⟨s, i, g, t⟩ := x
  unfold WR.cells
  simp only at hxt ⊢
  have H2 := TwoB.refl w #[.int .i64 s, .string i, .bool g, .string t] zero6D.toArray 60 50
  obtain ⟨W, hW⟩ : ∃ W, W = ((w.alloc (.cells #[.int .i64 s, .string i, .bool g, .string t] 60)).alloc (.cells zero6D.toArray 50)) := ⟨_, rfl⟩
  rw [← hW] at H2
  have HX := Hold.mk H2.one
  have HV := Hold.mk H2.two
  have HB := Hold.mk H2.bel
  have hWs : w.heap.size + 1 < W.heap.size := ltR H2.two
  have HRD := Hold.mk (rRead_any t W hxt)
  clear H2
  go_enter Tryz.func136, Tryz.ntmps136
  go_upto_region 1 with (fail)
  rw [← hW]
  clear hW
  obtain ⟨y0, y1, y2, y3⟩ := cells4W HX.out
  go_wp2_with fail
  clear y0 y1 y2 y3
  refine HRD.out.mono ?_
  rintro e w3 ⟨hb3, xv, rfl, hj⟩
  obtain ⟨xk, xn, xt, nm, it, na, ncap, ia, icap, hv, rfl, _⟩ := hj.open
  have HVK : Hold ((newD ⟨s, i, g, t⟩).v.kind = xk) := ⟨by show (readF t.data.toList).1.kind = xk; rw [hv]; rfl⟩
  obtain ⟨W4, hW4⟩ : ∃ W4, W4 = w3.alloc (.cells #[.int .i64 xk, .int .i64 xn, .string xt, .slice na nm.length ncap, .slice ia it.length icap] 25) := ⟨_, rfl⟩
  have hb4 : Below w3.heap.size w3 W4 := by rw [hW4]; exact (Below.refl _ w3).alloc (Nat.le_refl _) _
  have HZ : Hold (W4.heap[w3.heap.size]? = some (.cells #[.int .i64 xk, .int .i64 xn, .string xt, .slice na nm.length ncap, .slice ia it.length icap] 25 (0, 0))) := ⟨by rw [hW4]; exact heap_alloc_new w3 _⟩
  have HJ := Hold.mk (hj.mono (cfF_below hb4))
  have hb34 := hb3.trans (hb4.mono hb3.size)
  replace HB := Hold.mk (HB.out.trans (hb34.mono HB.out.size))
  replace HX := Hold.mk (keptR HX.out hb34)
  replace HV := Hold.mk (keptR HV.out hb34)
  have HP := Hold.mk (new_end (x := ⟨s, i, g, t⟩) HV.out (Nat.le_succ _) hWs HB.out HVK.out HJ.out)
  clear hb3 hb4 hb34 hj hv HRD HJ HVK
  go_upto_region 2 with (fail)
  rw [← hW4]
  clear hW4
  obtain ⟨y0, y1, y2, y3⟩ := cells4W HX.out
  obtain ⟨z0, z1, z2, z3, z4⟩ := cells5R HZ.out
  obtain ⟨v0, v1, v2, v3, v4, v5⟩ := cells6D HV.out
  have f0 := freeR HV.out 0
  have f1 := freeR HV.out 1
  have f2 := freeR HV.out 2
  have f3 := freeR HV.out 3
  have f4 := freeR HV.out 4
  have f5 := freeR HV.out 5
  go_wp2_with fail
  clear v0 v1 v2 v3 v4 v5 f0 f1 f2 f3 f4 f5 y0 y1 y2 y3 z0 z1 z2 z3 z4
  obtain ⟨W5, hW5, hv3, hp⟩ := HP.out
  unfold set6D at hW5
  rw [hW5]
  clear hW5
  obtain ⟨v0, v1, v2, v3, v4, v5⟩ := cells6D hv3
  exact bodyPost_ret (v := .agg #[.string i, .int .i64 xk, .int .i64 xn, .string xt, .slice na nm.length ncap, .slice ia it.length icap]) (by simp [results, Tryz.results136, go_sem, v0, v1, v2, v3, v4, v5]) rfl hp

theorem toList_eq {a b : ByteArray} (h : (a.toList == b.toList) = true) : a = b := by
  by_cases e : a = b
  · exact e
  · rw [str_ne e] at h; cases h
theorem toList_ne {a b : ByteArray} (h : (a.toList == b.toList) = false) : a ≠ b := fun e => by rw [e] at h; simp at h
theorem rlay_old_eq {x : WR} {E : List DR} {j : Nat} {d : DR} {ld : Bool} (h : E[j]? = some d) (e : d.id = x.id) (hl : ld = true ∨ strLt d.id x.id = true) : rlayD x ld (E.drop j) = rlayD x ld (E.drop (j + 1)) := by
  obtain ⟨h1, e1⟩ := List.getElem?_eq_some_iff.1 h
  rw [List.drop_eq_getElem_cons h1, e1, rlayD, if_neg (by rcases hl with hl | hl <;> simp [hl]), if_pos e]
theorem rlay_old_ne {x : WR} {E : List DR} {j : Nat} {d : DR} {ld : Bool} (h : E[j]? = some d) (e : d.id ≠ x.id) (hl : ld = true ∨ strLt d.id x.id = true) : rlayD x ld (E.drop j) = d :: rlayD x ld (E.drop (j + 1)) := by
  obtain ⟨h1, e1⟩ := List.getElem?_eq_some_iff.1 h
  rw [List.drop_eq_getElem_cons h1, e1, rlayD, if_neg (by rcases hl with hl | hl <;> simp [hl]), if_neg e]
theorem rlay_new_eq {x : WR} {E : List DR} {j : Nat} {d : DR} (h : E[j]? = some d) (e : d.id = x.id) (hl : strLt d.id x.id = false) : rlayD x false (E.drop j) = newD x :: rlayD x true (E.drop (j + 1)) := by
  obtain ⟨h1, e1⟩ := List.getElem?_eq_some_iff.1 h
  rw [List.drop_eq_getElem_cons h1, e1, rlayD, if_pos ⟨rfl, hl⟩, if_pos e]
theorem rlay_new_ne {x : WR} {E : List DR} {j : Nat} {d : DR} (h : E[j]? = some d) (e : d.id ≠ x.id) (hl : strLt d.id x.id = false) : rlayD x false (E.drop j) = newD x :: d :: rlayD x true (E.drop (j + 1)) := by
  obtain ⟨h1, e1⟩ := List.getElem?_eq_some_iff.1 h
  rw [List.drop_eq_getElem_cons h1, e1, rlayD, if_pos ⟨rfl, hl⟩, if_neg e]

set_option maxRecDepth 100000 in
set_option maxHeartbeats 16000000 in
theorem rLay_any (D : List DR) (l : List WR) (sp : Int) (dv lv : Value) (w : World) (hD : SAt 6 RD (cf w) dv D) (hl : SAt 4 RW (cf w) lv l) (hu : upN (idsD D)) (hsm : ∀ y ∈ l, y.id.size ≤ 1000000 ∧ y.text.size ≤ 20000) (hdl : D.length ≤ 10000) (hll : l.length ≤ 10000) :
    Calls Tryz.prog 89 #[dv, lv, .int .i64 sp] w fun e w' => ∃ sv, e = .returned sv ∧ SAt 6 RD (cf w') sv (laidD sp l D) ∧ Below w.heap.size w w' := by
  have HDV := Hold.mk hD
  obtain ⟨da, dcap, rfl⟩ := hD.slice
  obtain ⟨la, lcap, rfl, hle, hcap, hel⟩ := hl
  have HW := Hold.mk hel
  have HSM := Hold.mk hsm
  have HU := Hold.mk hu
  clear hD hel hsm hu
  go_enter Tryz.func89, Tryz.ntmps89
  go_wp2_with fail
  go_loopw [7, 8] (fun sl i' wr => ∃ (q : Nat) (E : List DR), i' = .int .i64 q ∧ q ≤ l.length ∧ laidD sp (l.drop q) E = laidD sp l D ∧ upN (idsD E) ∧ E.length ≤ D.length + q ∧ SAt 6 RD (cf wr) sl E ∧ Below w.heap.size w wr) (fun _ i' _ => l.length - (intOf i').toNat)
  case atStart => exact ⟨0, D, rfl, Nat.zero_le _, rfl, HU.out, Nat.le_refl _, HDV.out, Below.refl _ _⟩
  case round =>
    obtain ⟨q, E, rfl, hq, hst, hup, hel, hsl, hbl⟩ := hrel
    have HST0 := Hold.mk hst
    have HUP := Hold.mk hup
    have HOL := Hold.mk hel
    have HB := Hold.mk hbl
    obtain ⟨ea, ecap, rfl, hele, hecap, hee⟩ := hsl
    have HEE := Hold.mk hee
    clear hst hup hbl hee
    rename World => wr
    by_cases hlt0 : q < l.length
    · obtain ⟨x, hx⟩ : ∃ x, l[q]? = some x := ⟨l[q], List.getElem?_eq_getElem hlt0⟩
      obtain ⟨b, off, d, rfl, hd, hc, hxi⟩ := HW.out q x hx
      obtain ⟨rfl, hxi2, _, _⟩ := hxi
      obtain ⟨hxid, hxt2⟩ := HSM.out x (List.mem_of_getElem? hx)
      have HLS := Hold.mk (laid_step (sp := sp) (E := E) hx)
      obtain ⟨xs, xi, gn, xt⟩ := x
      simp only at hxi2 hxid hxt2
      have hcl := cle_below HB.out
      have HX0 : Hold (cf wr b (off + q * 4) = some (.int .i64 xs)) := ⟨by have := hcl _ _ _ (hc 0 _ rfl); rw [Nat.add_zero] at this; exact this⟩
      have HX1 : Hold (cf wr b (off + q * 4 + 1) = some (.string xi)) := ⟨hcl _ _ _ (hc 1 _ rfl)⟩
      have HX2 : Hold (cf wr b (off + q * 4 + 2) = some (.bool gn)) := ⟨hcl _ _ _ (hc 2 _ rfl)⟩
      have HX3 : Hold (cf wr b (off + q * 4 + 3) = some (.string xt)) := ⟨hcl _ _ _ (hc 3 _ rfl)⟩
      clear hx hd hc hcl
      have z0 := HX0.out
      have z1 := HX1.out
      have z2 := HX2.out
      have z3 := HX3.out
      unfold cf at z0 z1 z2 z3
      by_cases hs : xs = sp
      · have hs' : sp = xs := hs.symm
        clear hs
        subst hs'
        have HSTEP : Hold (laidD sp (l.drop (q + 1)) (layD ⟨sp, xi, gn, xt⟩ E) = laidD sp l D) := ⟨by rw [← HST0.out, HLS.out, if_pos rfl]⟩
        have HRL := Hold.mk (rlay_eq ⟨sp, xi, gn, xt⟩ HUP.out)
        simp only at HRL
        have HO0 : Hold (OwnS 6 RD 50 wr.heap.size wr (.slice none 0 0) 0 ([] : List DR) []) := ⟨OwnS.start _ _ _ (Nat.le_refl _)⟩
        go_wp2_with fail
        clear z0 z1 z2 z3
        go_loopw [9, 10, 11] (fun sl9 s10 s11 wx => ∃ (j : Nat) (N : List DR) (cs : List Value) (ld : Bool), s11 = .int .i64 j ∧ s10 = .bool ld ∧ j ≤ E.length ∧ rlayD ⟨sp, xi, gn, xt⟩ gn E = N ++ rlayD ⟨sp, xi, gn, xt⟩ ld (E.drop j) ∧ N.length ≤ 2 * j ∧ OwnS 6 RD 50 wr.heap.size wx sl9 N.length N cs ∧ Below wr.heap.size wr wx) (fun _ _ s11 _ => E.length - (intOf s11).toNat)
        case atStart => exact ⟨0, [], [], gn, rfl, rfl, Nat.zero_le _, rfl, Nat.zero_le _, HO0.out, Below.refl _ _⟩
        case round =>
          clear HO0
          obtain ⟨j, N, cs, ld, rfl, rfl, hj, hre, hnl, hown, hbi⟩ := hrel
          obtain ⟨sa, scap, rfl⟩ := hown.shape
          have HRE := Hold.mk hre
          have HBI := Hold.mk hbi
          obtain ⟨en, hen⟩ : ∃ en, en = N.length := ⟨_, rfl⟩
          rw [← hen] at hown hnl ⊢
          have HO := Hold.mk hown
          have HEN := Hold.mk hen
          clear hre hbi hown hen
          rename World => wx
          have hen2 : en ≤ 50000 := by have := HOL.out; omega
          by_cases hlt : j < E.length
          · obtain ⟨dx, hdx⟩ : ∃ x, E[j]? = some x := ⟨E[j], List.getElem?_eq_getElem hlt⟩
            obtain ⟨b2, off2, d2, rfl, hd2, hc2, hdi⟩ := HEE.out j dx hdx
            have HDX := Hold.mk hdi
            obtain ⟨dk, dn, dt, dna, dnl, dnc, dia, dil, dic, rfl, _⟩ := hdi
            have HDE := Hold.mk hdx
            obtain ⟨di, dv2⟩ := dx
            simp only at HDX
            have HD0 : Hold (cf wr b2 (off2 + j * 6) = some (.string di)) := ⟨by have := hc2 0 _ rfl; rw [Nat.add_zero] at this; exact this⟩
            have HD1 : Hold (cf wr b2 (off2 + j * 6 + 1) = some (.int .i64 dk)) := ⟨hc2 1 _ rfl⟩
            have HD2 : Hold (cf wr b2 (off2 + j * 6 + 2) = some (.int .i64 dn)) := ⟨hc2 2 _ rfl⟩
            have HD3 : Hold (cf wr b2 (off2 + j * 6 + 3) = some (.string dt)) := ⟨hc2 3 _ rfl⟩
            have HD4 : Hold (cf wr b2 (off2 + j * 6 + 4) = some (.slice dna dnl dnc)) := ⟨hc2 4 _ rfl⟩
            have HD5 : Hold (cf wr b2 (off2 + j * 6 + 5) = some (.slice dia dil dic)) := ⟨hc2 5 _ rfl⟩
            clear hdx hd2 hc2
            have hcl := cle_below HBI.out
            have y0 := hcl _ _ _ HD0.out
            have y1 := hcl _ _ _ HD1.out
            have y2 := hcl _ _ _ HD2.out
            have y3 := hcl _ _ _ HD3.out
            have y4 := hcl _ _ _ HD4.out
            have y5 := hcl _ _ _ HD5.out
            unfold cf at y0 y1 y2 y3 y4 y5
            have z0 := hcl _ _ _ HX0.out
            have z1 := hcl _ _ _ HX1.out
            have z2 := hcl _ _ _ HX2.out
            have z3 := hcl _ _ _ HX3.out
            unfold cf at z0 z1 z2 z3
            replace y0 := Grow.cell y0
            replace y1 := Grow.cell y1
            replace y2 := Grow.cell y2
            replace y3 := Grow.cell y3
            replace y4 := Grow.cell y4
            replace y5 := Grow.cell y5
            replace z0 := Grow.cell z0
            replace z1 := Grow.cell z1
            replace z2 := Grow.cell z2
            replace z3 := Grow.cell z3
            clear hcl
            go_upto_region 11 with (fail)
            cases ld with
            | true =>
              refine wp_region_grow (by kernel_rfl) (by kernel_rfl) ?_
              repeat (go_big_quiet_step (fail))
              refine wpQuiet_nil ?_
              rintro ⟨w11, hbg⟩
              replace HO := Hold.mk (HO.out.quiet RD_mono hbg)
              replace HBI := Hold.mk (HBI.out.trans (hbg.mono HBI.out.size))
              simp only
              clear hbg
              clear y0 y1 y2 y3 y4 y5 z0 z1 z2 z3
              have hcl := cle_below HBI.out
              have y0 := hcl _ _ _ HD0.out
              have y1 := hcl _ _ _ HD1.out
              have y2 := hcl _ _ _ HD2.out
              have y3 := hcl _ _ _ HD3.out
              have y4 := hcl _ _ _ HD4.out
              have y5 := hcl _ _ _ HD5.out
              unfold cf at y0 y1 y2 y3 y4 y5
              have z0 := hcl _ _ _ HX0.out
              have z1 := hcl _ _ _ HX1.out
              have z2 := hcl _ _ _ HX2.out
              have z3 := hcl _ _ _ HX3.out
              unfold cf at z0 z1 z2 z3
              replace y0 := Grow.cell y0
              replace y1 := Grow.cell y1
              replace y2 := Grow.cell y2
              replace y3 := Grow.cell y3
              replace y4 := Grow.cell y4
              replace y5 := Grow.cell y5
              replace z0 := Grow.cell z0
              replace z1 := Grow.cell z1
              replace z2 := Grow.cell z2
              replace z3 := Grow.cell z3
              clear hcl
              go_upto_region 14 with (fail)
              cases heq : (di.toList == xi.toList) with
              | true =>
                have HR : Hold (rlayD ⟨sp, xi, gn, xt⟩ gn E = N ++ rlayD ⟨sp, xi, gn, xt⟩ true (E.drop (j + 1))) := ⟨by rw [HRE.out, rlay_old_eq HDE.out (toList_eq heq) (.inl rfl)]; first | done | simp⟩
                refine wp_region_grow (by kernel_rfl) (by kernel_rfl) ?_
                repeat (go_big_quiet_step (fail))
                refine wpQuiet_nil ?_
                rintro ⟨w14, hbg⟩
                replace HO := Hold.mk (HO.out.quiet RD_mono hbg)
                replace HBI := Hold.mk (HBI.out.trans (hbg.mono HBI.out.size))
                simp only
                clear hbg
                clear y0 y1 y2 y3 y4 y5 z0 z1 z2 z3
                have HLN : Hold ((N).length = en) := ⟨HO.out.len⟩
                have HOQ : Hold (OwnS 6 RD 50 wr.heap.size w14 (.slice sa (en) scap) (N).length (N) _) := ⟨by rw [HLN.out]; exact HO.out⟩
                have hlq : (N).length ≤ 2 * (j + 1) := by rw [HLN.out]; omega
                go_wp2_with fail
                exact ⟨⟨j + 1, N, _, true, by go_num, rfl, hlt, HR.out, hlq, HOQ.out, HBI.out⟩, by simp [intOf]; omega⟩
              | false =>
                have HR : Hold (rlayD ⟨sp, xi, gn, xt⟩ gn E = (N ++ [(⟨di, dv2⟩ : DR)]) ++ rlayD ⟨sp, xi, gn, xt⟩ true (E.drop (j + 1))) := ⟨by rw [HRE.out, rlay_old_ne HDE.out (toList_ne heq) (.inl rfl)]; first | done | simp⟩
                refine wp_region_grow (by kernel_rfl) (by kernel_rfl) ?_
                repeat (go_big_quiet_step (fail))
                refine wpQuiet_nil ?_
                rintro ⟨w14, hbg⟩
                replace HO := Hold.mk (HO.out.quiet RD_mono hbg)
                replace HBI := Hold.mk (HBI.out.trans (hbg.mono HBI.out.size))
                simp only
                clear hbg
                clear y0 y1 y2 y3 y4 y5 z0 z1 z2 z3
                have hcl := cle_below HBI.out
                have y0 := hcl _ _ _ HD0.out
                have y1 := hcl _ _ _ HD1.out
                have y2 := hcl _ _ _ HD2.out
                have y3 := hcl _ _ _ HD3.out
                have y4 := hcl _ _ _ HD4.out
                have y5 := hcl _ _ _ HD5.out
                unfold cf at y0 y1 y2 y3 y4 y5
                clear hcl
                have HRD6 : Hold (RD (cfN (.slice sa (en) scap) w14) ⟨di, dv2⟩ [.string di, .int .i64 dk, .int .i64 dn, .string dt, .slice dna dnl dnc, .slice dia dil dic]) := ⟨RD_mono _ _ _ _ (cle_cfN_old HBI.out (fun g hg => (HO.out.low g hg).1)) HDX.out⟩
                have hln : en ≤ 1000000000 := by omega
                go_wp2_with (at_builtin; refine push_new RD_mono rfl _ _ rfl infoDr Tryz.underlying35 rfl (by decide) _ _ _ (en) _ _ HO.out rfl _ [_, _, _, _, _, _] rfl rfl (by simp [Value.oneCell']) (⟨di, dv2⟩ : DR) HRD6.out _ rfl rfl hln (by decide) ?_)
                intro slz w15 hoz hgz
                obtain ⟨sa3, scap3, rfl⟩ := hoz.shape
                have HBZ := Hold.mk (HBI.out.trans ((HO.out.below hgz).mono (Nat.le_refl _)))
                have HLN : Hold ((N ++ [(⟨di, dv2⟩ : DR)]).length = en + 1) := ⟨hoz.len⟩
                have HOQ : Hold (OwnS 6 RD 50 wr.heap.size w15 (.slice sa3 (en + 1) scap3) (N ++ [(⟨di, dv2⟩ : DR)]).length (N ++ [(⟨di, dv2⟩ : DR)]) _) := ⟨by rw [HLN.out]; exact hoz⟩
                have hlq : (N ++ [(⟨di, dv2⟩ : DR)]).length ≤ 2 * (j + 1) := by rw [HLN.out]; omega
                clear hoz hgz
                clear y0 y1 y2 y3 y4 y5
                go_wp2_with fail
                exact ⟨⟨j + 1, N ++ [(⟨di, dv2⟩ : DR)], _, true, by go_num, rfl, hlt, HR.out, hlq, HOQ.out, HBZ.out⟩, by simp [intOf]; omega⟩
            | false =>
              cases hlw : strLt di xi with
              | true =>
                have hlb : Op.bytesLess di.toList xi.toList = true := hlw
                have HLT := Hold.mk hlw
                clear hlw
                refine wp_region_grow (by kernel_rfl) (by kernel_rfl) ?_
                repeat (go_big_quiet_step (fail))
                refine wpQuiet_nil ?_
                rintro ⟨w11, hbg⟩
                replace HO := Hold.mk (HO.out.quiet RD_mono hbg)
                replace HBI := Hold.mk (HBI.out.trans (hbg.mono HBI.out.size))
                simp only
                clear hbg
                clear y0 y1 y2 y3 y4 y5 z0 z1 z2 z3
                clear hlb
                have hcl := cle_below HBI.out
                have y0 := hcl _ _ _ HD0.out
                have y1 := hcl _ _ _ HD1.out
                have y2 := hcl _ _ _ HD2.out
                have y3 := hcl _ _ _ HD3.out
                have y4 := hcl _ _ _ HD4.out
                have y5 := hcl _ _ _ HD5.out
                unfold cf at y0 y1 y2 y3 y4 y5
                have z0 := hcl _ _ _ HX0.out
                have z1 := hcl _ _ _ HX1.out
                have z2 := hcl _ _ _ HX2.out
                have z3 := hcl _ _ _ HX3.out
                unfold cf at z0 z1 z2 z3
                replace y0 := Grow.cell y0
                replace y1 := Grow.cell y1
                replace y2 := Grow.cell y2
                replace y3 := Grow.cell y3
                replace y4 := Grow.cell y4
                replace y5 := Grow.cell y5
                replace z0 := Grow.cell z0
                replace z1 := Grow.cell z1
                replace z2 := Grow.cell z2
                replace z3 := Grow.cell z3
                clear hcl
                go_upto_region 14 with (fail)
                cases heq : (di.toList == xi.toList) with
                | true =>
                  have HR : Hold (rlayD ⟨sp, xi, gn, xt⟩ gn E = N ++ rlayD ⟨sp, xi, gn, xt⟩ false (E.drop (j + 1))) := ⟨by rw [HRE.out, rlay_old_eq HDE.out (toList_eq heq) (.inr HLT.out)]; first | done | simp⟩
                  refine wp_region_grow (by kernel_rfl) (by kernel_rfl) ?_
                  repeat (go_big_quiet_step (fail))
                  refine wpQuiet_nil ?_
                  rintro ⟨w14, hbg⟩
                  replace HO := Hold.mk (HO.out.quiet RD_mono hbg)
                  replace HBI := Hold.mk (HBI.out.trans (hbg.mono HBI.out.size))
                  simp only
                  clear hbg
                  clear y0 y1 y2 y3 y4 y5 z0 z1 z2 z3
                  have HLN : Hold ((N).length = en) := ⟨HO.out.len⟩
                  have HOQ : Hold (OwnS 6 RD 50 wr.heap.size w14 (.slice sa (en) scap) (N).length (N) _) := ⟨by rw [HLN.out]; exact HO.out⟩
                  have hlq : (N).length ≤ 2 * (j + 1) := by rw [HLN.out]; omega
                  go_wp2_with fail
                  exact ⟨⟨j + 1, N, _, false, by go_num, rfl, hlt, HR.out, hlq, HOQ.out, HBI.out⟩, by simp [intOf]; omega⟩
                | false =>
                  have HR : Hold (rlayD ⟨sp, xi, gn, xt⟩ gn E = (N ++ [(⟨di, dv2⟩ : DR)]) ++ rlayD ⟨sp, xi, gn, xt⟩ false (E.drop (j + 1))) := ⟨by rw [HRE.out, rlay_old_ne HDE.out (toList_ne heq) (.inr HLT.out)]; first | done | simp⟩
                  refine wp_region_grow (by kernel_rfl) (by kernel_rfl) ?_
                  repeat (go_big_quiet_step (fail))
                  refine wpQuiet_nil ?_
                  rintro ⟨w14, hbg⟩
                  replace HO := Hold.mk (HO.out.quiet RD_mono hbg)
                  replace HBI := Hold.mk (HBI.out.trans (hbg.mono HBI.out.size))
                  simp only
                  clear hbg
                  clear y0 y1 y2 y3 y4 y5 z0 z1 z2 z3
                  have hcl := cle_below HBI.out
                  have y0 := hcl _ _ _ HD0.out
                  have y1 := hcl _ _ _ HD1.out
                  have y2 := hcl _ _ _ HD2.out
                  have y3 := hcl _ _ _ HD3.out
                  have y4 := hcl _ _ _ HD4.out
                  have y5 := hcl _ _ _ HD5.out
                  unfold cf at y0 y1 y2 y3 y4 y5
                  clear hcl
                  have HRD6 : Hold (RD (cfN (.slice sa (en) scap) w14) ⟨di, dv2⟩ [.string di, .int .i64 dk, .int .i64 dn, .string dt, .slice dna dnl dnc, .slice dia dil dic]) := ⟨RD_mono _ _ _ _ (cle_cfN_old HBI.out (fun g hg => (HO.out.low g hg).1)) HDX.out⟩
                  have hln : en ≤ 1000000000 := by omega
                  go_wp2_with (at_builtin; refine push_new RD_mono rfl _ _ rfl infoDr Tryz.underlying35 rfl (by decide) _ _ _ (en) _ _ HO.out rfl _ [_, _, _, _, _, _] rfl rfl (by simp [Value.oneCell']) (⟨di, dv2⟩ : DR) HRD6.out _ rfl rfl hln (by decide) ?_)
                  intro slz w15 hoz hgz
                  obtain ⟨sa3, scap3, rfl⟩ := hoz.shape
                  have HBZ := Hold.mk (HBI.out.trans ((HO.out.below hgz).mono (Nat.le_refl _)))
                  have HLN : Hold ((N ++ [(⟨di, dv2⟩ : DR)]).length = en + 1) := ⟨hoz.len⟩
                  have HOQ : Hold (OwnS 6 RD 50 wr.heap.size w15 (.slice sa3 (en + 1) scap3) (N ++ [(⟨di, dv2⟩ : DR)]).length (N ++ [(⟨di, dv2⟩ : DR)]) _) := ⟨by rw [HLN.out]; exact hoz⟩
                  have hlq : (N ++ [(⟨di, dv2⟩ : DR)]).length ≤ 2 * (j + 1) := by rw [HLN.out]; omega
                  clear hoz hgz
                  clear y0 y1 y2 y3 y4 y5
                  go_wp2_with fail
                  exact ⟨⟨j + 1, N ++ [(⟨di, dv2⟩ : DR)], _, false, by go_num, rfl, hlt, HR.out, hlq, HOQ.out, HBZ.out⟩, by simp [intOf]; omega⟩
              | false =>
                have hlb : Op.bytesLess di.toList xi.toList = false := hlw
                have HLT := Hold.mk hlw
                clear hlw
                refine wp_region_grow (by kernel_rfl) (by kernel_rfl) ?_
                repeat (go_big_quiet_step (fail))
                refine wpQuiet_nil ?_
                rintro ⟨w11, hbg⟩
                replace HO := Hold.mk (HO.out.quiet RD_mono hbg)
                replace HBI := Hold.mk (HBI.out.trans (hbg.mono HBI.out.size))
                simp only
                clear hbg
                clear y0 y1 y2 y3 y4 y5 z0 z1 z2 z3
                clear hlb
                have hcl := cle_below HBI.out
                have z0 := hcl _ _ _ HX0.out
                have z1 := hcl _ _ _ HX1.out
                have z2 := hcl _ _ _ HX2.out
                have z3 := hcl _ _ _ HX3.out
                unfold cf at z0 z1 z2 z3
                clear hcl
                go_wp2_with fail
                refine (rDoc_any ⟨sp, xi, gn, xt⟩ w11 hxt2).mono ?_
                rintro e w12 ⟨xk, xn, xtt, xna, xnl, xnc, xia, xil, xic, rfl, hvk, hjn, hbn⟩
                have HRN : Hold (RD (cfN (.slice sa en scap) w12) (newD ⟨sp, xi, gn, xt⟩) [.string xi, .int .i64 xk, .int .i64 xn, .string xtt, .slice xna xnl xnc, .slice xia xil xic]) := ⟨⟨xk, xn, xtt, xna, xnl, xnc, xia, xil, xic, rfl, hxi2, hvk, hjn.mono (cfA_cfN (fun g hg => (HO.out.low g hg).2))⟩⟩
                replace HO := Hold.mk (HO.out.quiet RD_mono hbn)
                replace HBI := Hold.mk (HBI.out.trans (hbn.mono HBI.out.size))
                clear hvk hjn hbn
                go_wp2_with (at_builtin; refine push_new RD_mono rfl _ _ rfl infoDr Tryz.underlying35 rfl (by decide) _ _ _ en _ _ HO.out rfl _ [_, _, _, _, _, _] rfl rfl (by simp [Value.oneCell']) (newD ⟨sp, xi, gn, xt⟩) HRN.out _ rfl rfl (by omega) (by decide) ?_)
                intro slq w13 hoq hgq
                replace HBI := Hold.mk (HBI.out.trans ((HO.out.below hgq).mono (Nat.le_refl _)))
                obtain ⟨sa2, scap2, rfl⟩ := hoq.shape
                replace HO := Hold.mk hoq
                clear hoq hgq
                clear z0 z1 z2 z3
                have hcl := cle_below HBI.out
                have y0 := hcl _ _ _ HD0.out
                have y1 := hcl _ _ _ HD1.out
                have y2 := hcl _ _ _ HD2.out
                have y3 := hcl _ _ _ HD3.out
                have y4 := hcl _ _ _ HD4.out
                have y5 := hcl _ _ _ HD5.out
                unfold cf at y0 y1 y2 y3 y4 y5
                have z0 := hcl _ _ _ HX0.out
                have z1 := hcl _ _ _ HX1.out
                have z2 := hcl _ _ _ HX2.out
                have z3 := hcl _ _ _ HX3.out
                unfold cf at z0 z1 z2 z3
                replace y0 := Grow.cell y0
                replace y1 := Grow.cell y1
                replace y2 := Grow.cell y2
                replace y3 := Grow.cell y3
                replace y4 := Grow.cell y4
                replace y5 := Grow.cell y5
                replace z0 := Grow.cell z0
                replace z1 := Grow.cell z1
                replace z2 := Grow.cell z2
                replace z3 := Grow.cell z3
                clear hcl
                go_upto_region 14 with (fail)
                cases heq : (di.toList == xi.toList) with
                | true =>
                  have HR : Hold (rlayD ⟨sp, xi, gn, xt⟩ gn E = (N ++ [newD ⟨sp, xi, gn, xt⟩]) ++ rlayD ⟨sp, xi, gn, xt⟩ true (E.drop (j + 1))) := ⟨by rw [HRE.out, rlay_new_eq HDE.out (toList_eq heq) HLT.out]; first | done | simp⟩
                  refine wp_region_grow (by kernel_rfl) (by kernel_rfl) ?_
                  repeat (go_big_quiet_step (fail))
                  refine wpQuiet_nil ?_
                  rintro ⟨w14, hbg⟩
                  replace HO := Hold.mk (HO.out.quiet RD_mono hbg)
                  replace HBI := Hold.mk (HBI.out.trans (hbg.mono HBI.out.size))
                  simp only
                  clear hbg
                  clear y0 y1 y2 y3 y4 y5 z0 z1 z2 z3
                  have HLN : Hold (((N ++ [newD ⟨sp, xi, gn, xt⟩])).length = en + 1) := ⟨HO.out.len⟩
                  have HOQ : Hold (OwnS 6 RD 50 wr.heap.size w14 (.slice sa2 (en + 1) scap2) ((N ++ [newD ⟨sp, xi, gn, xt⟩])).length ((N ++ [newD ⟨sp, xi, gn, xt⟩])) _) := ⟨by rw [HLN.out]; exact HO.out⟩
                  have hlq : ((N ++ [newD ⟨sp, xi, gn, xt⟩])).length ≤ 2 * (j + 1) := by rw [HLN.out]; omega
                  go_wp2_with fail
                  exact ⟨⟨j + 1, (N ++ [newD ⟨sp, xi, gn, xt⟩]), _, true, by go_num, rfl, hlt, HR.out, hlq, HOQ.out, HBI.out⟩, by simp [intOf]; omega⟩
                | false =>
                  have HR : Hold (rlayD ⟨sp, xi, gn, xt⟩ gn E = (N ++ [newD ⟨sp, xi, gn, xt⟩, (⟨di, dv2⟩ : DR)]) ++ rlayD ⟨sp, xi, gn, xt⟩ true (E.drop (j + 1))) := ⟨by rw [HRE.out, rlay_new_ne HDE.out (toList_ne heq) HLT.out]; first | done | simp⟩
                  refine wp_region_grow (by kernel_rfl) (by kernel_rfl) ?_
                  repeat (go_big_quiet_step (fail))
                  refine wpQuiet_nil ?_
                  rintro ⟨w14, hbg⟩
                  replace HO := Hold.mk (HO.out.quiet RD_mono hbg)
                  replace HBI := Hold.mk (HBI.out.trans (hbg.mono HBI.out.size))
                  simp only
                  clear hbg
                  clear y0 y1 y2 y3 y4 y5 z0 z1 z2 z3
                  have hcl := cle_below HBI.out
                  have y0 := hcl _ _ _ HD0.out
                  have y1 := hcl _ _ _ HD1.out
                  have y2 := hcl _ _ _ HD2.out
                  have y3 := hcl _ _ _ HD3.out
                  have y4 := hcl _ _ _ HD4.out
                  have y5 := hcl _ _ _ HD5.out
                  unfold cf at y0 y1 y2 y3 y4 y5
                  clear hcl
                  have HRD6 : Hold (RD (cfN (.slice sa2 (en + 1) scap2) w14) ⟨di, dv2⟩ [.string di, .int .i64 dk, .int .i64 dn, .string dt, .slice dna dnl dnc, .slice dia dil dic]) := ⟨RD_mono _ _ _ _ (cle_cfN_old HBI.out (fun g hg => (HO.out.low g hg).1)) HDX.out⟩
                  have hln : en + 1 ≤ 1000000000 := by omega
                  go_wp2_with (at_builtin; refine push_new RD_mono rfl _ _ rfl infoDr Tryz.underlying35 rfl (by decide) _ _ _ (en + 1) _ _ HO.out rfl _ [_, _, _, _, _, _] rfl rfl (by simp [Value.oneCell']) (⟨di, dv2⟩ : DR) HRD6.out _ rfl rfl hln (by decide) ?_)
                  intro slz w15 hoz hgz
                  obtain ⟨sa3, scap3, rfl⟩ := hoz.shape
                  have HBZ := Hold.mk (HBI.out.trans ((HO.out.below hgz).mono (Nat.le_refl _)))
                  have HLN : Hold ((N ++ [newD ⟨sp, xi, gn, xt⟩, (⟨di, dv2⟩ : DR)]).length = en + 1 + 1) := ⟨hoz.len⟩
                  have HOQ : Hold (OwnS 6 RD 50 wr.heap.size w15 (.slice sa3 (en + 1 + 1) scap3) (N ++ [newD ⟨sp, xi, gn, xt⟩, (⟨di, dv2⟩ : DR)]).length (N ++ [newD ⟨sp, xi, gn, xt⟩, (⟨di, dv2⟩ : DR)]) _) := ⟨by rw [HLN.out]; exact hoz⟩
                  have hlq : (N ++ [newD ⟨sp, xi, gn, xt⟩, (⟨di, dv2⟩ : DR)]).length ≤ 2 * (j + 1) := by rw [HLN.out]; omega
                  clear hoz hgz
                  clear y0 y1 y2 y3 y4 y5
                  go_wp2_with fail
                  exact ⟨⟨j + 1, N ++ [newD ⟨sp, xi, gn, xt⟩, (⟨di, dv2⟩ : DR)], _, true, by go_num, rfl, hlt, HR.out, hlq, HOQ.out, HBZ.out⟩, by simp [intOf]; omega⟩
          · obtain rfl : j = E.length := by omega
            cases ld with
            | true =>
              have HNE : Hold (layD ⟨sp, xi, gn, xt⟩ E = N) := ⟨by rw [← HRL.out, HRE.out, List.drop_eq_nil_of_le (Nat.le_refl _)]; simp [rlayD]⟩
              have HST : Hold (laidD sp (l.drop (q + 1)) N = laidD sp l D) := ⟨by rw [← HSTEP.out, HNE.out]⟩
              have HUP2 : Hold (upN (idsD N)) := ⟨by rw [← HNE.out]; exact lay_up HUP.out⟩
              have HLE : Hold (N.length ≤ D.length + (q + 1)) := ⟨by have := lay_len ⟨sp, xi, gn, xt⟩ E; rw [HNE.out] at this; have := HOL.out; omega⟩
              have HSA : Hold (SAt 6 RD (cf wx) (.slice sa en scap) N) := ⟨by have := HO.out.at_ RD_mono; exact this⟩
              have HBF := Hold.mk (HB.out.trans (HBI.out.mono HB.out.size))
              go_wp2_with fail
              exact ⟨⟨q + 1, N, by go_num, hlt0, HST.out, HUP2.out, HLE.out, HSA.out, HBF.out⟩, by simp [intOf]; omega⟩
            | false =>
              have HNE : Hold (layD ⟨sp, xi, gn, xt⟩ E = N ++ [newD ⟨sp, xi, gn, xt⟩]) := ⟨by rw [← HRL.out, HRE.out, List.drop_eq_nil_of_le (Nat.le_refl _)]; simp [rlayD]⟩
              have HST : Hold (laidD sp (l.drop (q + 1)) (N ++ [newD ⟨sp, xi, gn, xt⟩]) = laidD sp l D) := ⟨by rw [← HSTEP.out, HNE.out]⟩
              have HUP2 : Hold (upN (idsD (N ++ [newD ⟨sp, xi, gn, xt⟩]))) := ⟨by rw [← HNE.out]; exact lay_up HUP.out⟩
              have HLE : Hold ((N ++ [newD ⟨sp, xi, gn, xt⟩]).length ≤ D.length + (q + 1)) := ⟨by have := lay_len ⟨sp, xi, gn, xt⟩ E; rw [HNE.out] at this; have := HOL.out; omega⟩
              have hcl := cle_below HBI.out
              have z0 := hcl _ _ _ HX0.out
              have z1 := hcl _ _ _ HX1.out
              have z2 := hcl _ _ _ HX2.out
              have z3 := hcl _ _ _ HX3.out
              unfold cf at z0 z1 z2 z3
              clear hcl
              go_wp2_with fail
              refine (rDoc_any ⟨sp, xi, gn, xt⟩ wx hxt2).mono ?_
              rintro e w12 ⟨xk, xn, xtt, xna, xnl, xnc, xia, xil, xic, rfl, hvk, hjn, hbn⟩
              have HRN : Hold (RD (cfN (.slice sa en scap) w12) (newD ⟨sp, xi, gn, xt⟩) [.string xi, .int .i64 xk, .int .i64 xn, .string xtt, .slice xna xnl xnc, .slice xia xil xic]) := ⟨⟨xk, xn, xtt, xna, xnl, xnc, xia, xil, xic, rfl, hxi2, hvk, hjn.mono (cfA_cfN (fun g hg => (HO.out.low g hg).2))⟩⟩
              replace HO := Hold.mk (HO.out.quiet RD_mono hbn)
              replace HBI := Hold.mk (HBI.out.trans (hbn.mono HBI.out.size))
              clear hvk hjn hbn
              go_wp2_with (at_builtin; refine push_new RD_mono rfl _ _ rfl infoDr Tryz.underlying35 rfl (by decide) _ _ _ en _ _ HO.out rfl _ [_, _, _, _, _, _] rfl rfl (by simp [Value.oneCell']) (newD ⟨sp, xi, gn, xt⟩) HRN.out _ rfl rfl (by omega) (by decide) ?_)
              intro slq w13 hoq hgq
              replace HBI := Hold.mk (HBI.out.trans ((HO.out.below hgq).mono (Nat.le_refl _)))
              obtain ⟨sa2, scap2, rfl⟩ := hoq.shape
              replace HO := Hold.mk hoq
              clear hoq hgq
              clear z0 z1 z2 z3
              have HSA : Hold (SAt 6 RD (cf w13) (.slice sa2 (en + 1) scap2) (N ++ [newD ⟨sp, xi, gn, xt⟩])) := ⟨HO.out.at_ RD_mono⟩
              have HBF := Hold.mk (HB.out.trans (HBI.out.mono HB.out.size))
              go_wp2_with fail
              exact ⟨⟨q + 1, N ++ [newD ⟨sp, xi, gn, xt⟩], by go_num, hlt0, HST.out, HUP2.out, HLE.out, HSA.out, HBF.out⟩, by simp [intOf]; omega⟩
      · have hsb : (xs != sp) = true := by simpa using hs
        have HST : Hold (laidD sp (l.drop (q + 1)) E = laidD sp l D) := ⟨by rw [← HST0.out, HLS.out, if_neg hs]⟩
        have HSE : Hold (SAt 6 RD (cf wr) (.slice ea E.length ecap) E) := ⟨⟨ea, ecap, rfl, hele, hecap, HEE.out⟩⟩
        clear hs
        go_wp2_with fail
        exact ⟨⟨q + 1, E, by go_num, hlt0, HST.out, HUP.out, by omega, HSE.out, HB.out⟩, by simp [intOf]; omega⟩
    · obtain rfl : q = l.length := by omega
      have HEQ : Hold (laidD sp l D = E) := ⟨by rw [← HST0.out, List.drop_eq_nil_of_le (Nat.le_refl _)]; rfl⟩
      have HSE : Hold (SAt 6 RD (cf wr) (.slice ea E.length ecap) (laidD sp l D)) := ⟨by rw [HEQ.out]; exact ⟨ea, ecap, rfl, hele, hecap, HEE.out⟩⟩
      have HBF := HB.out
      go_wp2_with fail
      go_ret
      exact ⟨_, rfl, HSE.out, HBF⟩

end Go.Proofs.YtkhhbckpddkhlaaGreatDoor

namespace Go.Proofs.YtkhhbckpddkhlaaGreatDoor
open Go.Shelf Go.RowKit

set_option maxRecDepth 100000 in
set_option maxHeartbeats 16000000 in
theorem rOver_any (D : List DR) (l : List WR) (sp : Int) (dv lv : Value) (w : World) (hD : SAt 6 RD (cf w) dv D) (hl : SAt 4 RW (cf w) lv l) (hsd : ∀ y ∈ D, y.id.size ≤ 1000000) (hsm : ∀ y ∈ l, y.id.size ≤ 1000000 ∧ y.text.size ≤ 20000) (hdl : D.length ≤ 10000) (hll : l.length ≤ 10000) :
    Calls Tryz.prog 41 #[dv, lv, .int .i64 sp] w (OverPost D l sp w) := by
  have HDV := Hold.mk hD
  have HLV := Hold.mk hl
  obtain ⟨da, dcap, rfl, hdle, hdcap, hdel⟩ := hD
  obtain ⟨la, lcap, rfl⟩ := hl.slice
  have HE := Hold.mk hdel
  have HSD := Hold.mk hsd
  have HSM := Hold.mk hsm
  have HF := Hold.mk (wrFormed_any l _ w HLV.out hsm)
  clear hdel hl hsd hsm
  go_enter Tryz.func41, Tryz.ntmps41
  go_wp2_with fail
  refine HF.out.mono ?_
  rintro e w2 ⟨rfl, hb2⟩
  have HB := Hold.mk hb2
  clear hb2 HF
  obtain ⟨fm, hfm⟩ : ∃ fm, formedW l = fm := ⟨_, rfl⟩
  rw [hfm]
  have HFM := Hold.mk hfm
  clear hfm
  cases fm with
  | false =>
    have HR := Hold.mk (overE_bad1 (D := D) HFM.out)
    have HBF := HB.out
    go_wp2_with fail
    go_ret2
    exact over_bad HR.out HBF
  | true =>
  go_wp2_with fail
  go_loopw [8] (fun i' wr => ∃ j : Nat, i' = .int .i64 j ∧ j ≤ D.length ∧ DocsTo D j ∧ Below w.heap.size w wr) (fun i' _ => D.length - (intOf i').toNat)
  case atStart => exact ⟨0, rfl, Nat.zero_le _, DocsTo.zero D, HB.out⟩
  case round =>
    obtain ⟨j, rfl, hj, hto, hbl⟩ := hrel
    clear HB
    have HB := Hold.mk hbl
    have HTO := Hold.mk hto
    clear hbl hto
    by_cases hlt : j < D.length
    · obtain ⟨x, hx⟩ : ∃ x, D[j]? = some x := ⟨D[j], List.getElem?_eq_getElem hlt⟩
      obtain ⟨b, off, d, rfl, hd, hc, hxi⟩ := HE.out j x hx
      have HXI := Hold.mk hxi
      obtain ⟨k, n, t, na, nl, ncap, ia, il, icap, rfl, _⟩ := hxi
      have HX := Hold.mk hx
      have HSX := Hold.mk (HSD.out x (List.mem_of_getElem? hx))
      obtain ⟨i, v⟩ := x
      simp only at HSX HXI
      have hcl := cle_below HB.out
      have z0 := hcl _ _ _ (hc 0 _ rfl)
      have z1 := hcl _ _ _ (hc 1 _ rfl)
      have z2 := hcl _ _ _ (hc 2 _ rfl)
      have z3 := hcl _ _ _ (hc 3 _ rfl)
      have z4 := hcl _ _ _ (hc 4 _ rfl)
      have z5 := hcl _ _ _ (hc 5 _ rfl)
      unfold cf at z0 z1 z2 z3 z4 z5
      rw [Nat.add_zero] at z0
      simp only at z0
      replace z0 := Grow.cell z0
      replace z1 := Grow.cell z1
      replace z2 := Grow.cell z2
      replace z3 := Grow.cell z3
      replace z4 := Grow.cell z4
      replace z5 := Grow.cell z5
      have HC1 := Hold.mk (Calls.grow (fun e : Grow wr => rDocument_any ⟨i, v⟩ [.string i, .int .i64 k, .int .i64 n, .string t, .slice na nl ncap, .slice ia il icap] e.val (RD_mono _ _ _ _ ((cle_below HB.out).trans (cle_below e.property)) HXI.out) HSX.out))
      clear hx hd hc hcl
      cases hok : docF ⟨i, v⟩ with
      | false =>
        rw [hok] at HC1
        have HR := Hold.mk (overE_bad2 (l := l) HFM.out (docsF_bad1 HX.out hok))
        clear hok
        go_upto_region 6 with (fail)
        refine wp_region_grow (by kernel_rfl) (by kernel_rfl) ?_
        repeat (go_big_quiet_step (first | exact HC1.out _ | fail))
        refine wpQuiet_nil ?_
        rintro ⟨w3, hb3⟩
        have HBF := Hold.mk (HB.out.trans (hb3.mono HB.out.size))
        simp only
        clear hb3
        go_wp2_with fail
        go_ret2
        exact over_bad HR.out HBF.out
      | true =>
        rw [hok] at HC1
        have HOK := Hold.mk hok
        clear hok
        cases j with
        | zero =>
          simp only [Nat.zero_mul, Nat.add_zero] at z0 z1 z2 z3 z4 z5
          have HN : Hold (DocsTo D 1) := ⟨HTO.out.next HX.out HOK.out (fun a q h => by omega)⟩
          go_upto_region 6 with (fail)
          refine wp_region_grow (by kernel_rfl) (by kernel_rfl) ?_
          repeat (go_big_quiet_step (first | exact HC1.out _ | fail))
          refine wpQuiet_nil ?_
          rintro ⟨w3, hb3⟩
          have HBF := Hold.mk (HB.out.trans (hb3.mono HB.out.size))
          simp only
          clear hb3
          go_wp2_with fail
          exact ⟨⟨0 + 1, by go_num, hlt, HN.out, HBF.out⟩, by simp [intOf]; omega⟩
        | succ q =>
          obtain ⟨p, hp⟩ : ∃ p, D[q]? = some p := ⟨D[q], List.getElem?_eq_getElem (by omega)⟩
          obtain ⟨b2, off2, d2, e2, hd2, hc2, hxi2⟩ := HE.out q p hp
          cases e2
          obtain ⟨k3, n3, t3, na3, nl3, ncap3, ia3, il3, icap3, rfl, _⟩ := hxi2
          have v0 := cle_below HB.out _ _ _ (hc2 0 _ rfl)
          unfold cf at v0
          rw [Nat.add_zero] at v0
          replace v0 := Grow.cell v0
          have HPX := Hold.mk hp
          clear hp hd2 hc2
          obtain ⟨ip, vp⟩ := p
          simp only at v0
          cases hlw : strLt ip i with
          | true =>
            have hlb : Op.bytesLess ip.toList i.toList = true := hlw
            have HN : Hold (DocsTo D (q + 1 + 1)) := ⟨HTO.out.next HX.out HOK.out (fun a r h1 h2 => by
              obtain rfl : r = q := by omega
              rw [HPX.out] at h2; cases h2; exact hlw)⟩
            clear hlw
            go_upto_region 6 with (fail)
            refine wp_region_grow (by kernel_rfl) (by kernel_rfl) ?_
            repeat (go_big_quiet_step (first | exact HC1.out _ | fail))
            refine wpQuiet_nil ?_
            rintro ⟨w3, hb3⟩
            have HBF := Hold.mk (HB.out.trans (hb3.mono HB.out.size))
            simp only
            clear hb3
            go_wp2_with fail
            exact ⟨⟨q + 1 + 1, by go_num, hlt, HN.out, HBF.out⟩, by simp [intOf]; omega⟩
          | false =>
            have hlb : Op.bytesLess ip.toList i.toList = false := hlw
            have HR := Hold.mk (overE_bad2 (l := l) HFM.out (docsF_bad2 HPX.out HX.out hlw))
            clear hlw
            go_upto_region 6 with (fail)
            refine wp_region_grow (by kernel_rfl) (by kernel_rfl) ?_
            repeat (go_big_quiet_step (first | exact HC1.out _ | fail))
            refine wpQuiet_nil ?_
            rintro ⟨w3, hb3⟩
            have HBF := Hold.mk (HB.out.trans (hb3.mono HB.out.size))
            simp only
            clear hb3
            go_wp2_with fail
            go_ret2
            exact over_bad HR.out HBF.out
    · obtain rfl : j = D.length := by omega
      have HDF := Hold.mk (docsF_end HTO.out)
      have HR0 := Hold.mk (overE_ok HFM.out HDF.out)
      have HUPD := Hold.mk (up_docs HTO.out)
      have HLY := Hold.mk (rLay_any D l sp _ _ wr (HDV.out.mono RD_mono (cle_below HB.out)) (HLV.out.mono RW_mono (cle_below HB.out)) HUPD.out HSM.out hdl hll)
      go_wp2_with fail
      refine HLY.out.mono ?_
      rintro e w3 ⟨sv, rfl, hsv, hb3⟩
      obtain ⟨sa, scap, rfl⟩ := hsv.slice
      have HPO := Hold.mk (over_ok (sp := sp) HR0.out hsv (HB.out.trans (hb3.mono HB.out.size)))
      obtain ⟨en, hen⟩ : ∃ en, en = (laidD sp l D).length := ⟨_, rfl⟩
      rw [← hen] at HPO ⊢
      clear hsv hb3 HLY hen
      go_wp2_with fail
      go_ret2
      exact HPO.out

set_option maxRecDepth 100000 in
set_option maxHeartbeats 8000000 in
theorem rMeet_any (l m : List WR) (lv mv : Value) (w : World) (hl : SAt 4 RW (cf w) lv l) (hm : SAt 4 RW (cf w) mv m) :
    Calls Tryz.prog 42 #[lv, mv] w fun e w' => e = .returned (.bool (l.any fun y => getB m y.sp y.id)) ∧ Below w.heap.size w w' := by
  obtain ⟨la, lcap, rfl, hle, hcap, hel⟩ := hl
  obtain ⟨ma, mcap, rfl, hle2, hcap2, hem⟩ := hm
  have HE := Hold.mk hel
  have HM := Hold.mk hem
  have hll : l.length ≤ 9223372036854775807 := by omega
  have hml : m.length ≤ 9223372036854775807 := by omega
  clear hel hem
  go_enter Tryz.func42, Tryz.ntmps42
  go_wp2_with fail
  go_loopw [5] (fun i' wr => ∃ j : Nat, i' = .int .i64 j ∧ j ≤ l.length ∧ (∀ (q : Nat) x, q < j → l[q]? = some x → getB m x.sp x.id = false) ∧ Below w.heap.size w wr) (fun i' _ => l.length - (intOf i').toNat)
  case atStart => exact ⟨0, rfl, Nat.zero_le _, fun q x h => by omega, Below.refl _ _⟩
  case round =>
    obtain ⟨j, rfl, hj, hall, hbl⟩ := hrel
    have HA := Hold.mk hall
    have HB := Hold.mk hbl
    clear hall hbl
    rename World => wr
    by_cases hlt : j < l.length
    · obtain ⟨x, hx⟩ : ∃ x, l[j]? = some x := ⟨l[j], List.getElem?_eq_getElem hlt⟩
      obtain ⟨b, off, d, rfl, hd, hc, hyi⟩ := HE.out j x hx
      obtain ⟨rfl, _, _, _⟩ := hyi
      have HXE := Hold.mk hx
      obtain ⟨s, i, g, t⟩ := x
      have HX0 : Hold (cf w b (off + j * 4) = some (.int .i64 s)) := ⟨by have := hc 0 _ rfl; rw [Nat.add_zero] at this; exact this⟩
      have HX1 : Hold (cf w b (off + j * 4 + 1) = some (.string i)) := ⟨hc 1 _ rfl⟩
      clear hx hd hc
      go_wp2_with fail
      go_loopw [6] (fun k' wx => ∃ k : Nat, k' = .int .i64 k ∧ k ≤ m.length ∧ (∀ (q : Nat) y, q < k → m[q]? = some y → hitW y s i = false) ∧ Below w.heap.size w wx) (fun k' _ => m.length - (intOf k').toNat)
      case atStart => exact ⟨0, rfl, Nat.zero_le _, fun q x h => by omega, HB.out⟩
      case round =>
        clear HB
        obtain ⟨k, rfl, hk, hall2, hbl2⟩ := hrel
        have HB2 := Hold.mk hall2
        have HB := Hold.mk hbl2
        clear hall2 hbl2
        by_cases hlt2 : k < m.length
        · obtain ⟨y, hy⟩ : ∃ y, m[k]? = some y := ⟨m[k], List.getElem?_eq_getElem hlt2⟩
          obtain ⟨b2, off2, d2, rfl, hd2, hc2, hyi2⟩ := HM.out k y hy
          obtain ⟨rfl, _, _, _⟩ := hyi2
          have HYE := Hold.mk hy
          obtain ⟨s2, i2, g2, t2⟩ := y
          have hcl := cle_below HB.out
          have z0 := hcl _ _ _ HX0.out
          have z1 := hcl _ _ _ HX1.out
          have v0 := hcl _ _ _ (by have := hc2 0 _ rfl; rw [Nat.add_zero] at this; exact this)
          have v1 := hcl _ _ _ (hc2 1 _ rfl)
          unfold cf at z0 z1 v0 v1
          simp only at v0
          replace z0 := Grow.cell z0
          replace z1 := Grow.cell z1
          replace v0 := Grow.cell v0
          replace v1 := Grow.cell v1
          clear hy hd2 hc2 hcl
          go_upto_region 7 with (fail)
          cases hh : hitW ⟨s2, i2, g2, t2⟩ s i with
          | false =>
            have HN : Hold (∀ (q : Nat) y, q < k + 1 → m[q]? = some y → hitW y s i = false) := ⟨fun q y hq hy => by
              by_cases e : q = k
              · subst e; rw [HYE.out] at hy; cases hy; exact hh
              · exact HB2.out q y (by omega) hy⟩
            by_cases h1 : s2 = s
            · have h2 : (i.toList == i2.toList) = false := by
                have := hit_no h1 hh
                rw [beq_eq_false_iff_ne] at this ⊢
                exact fun h => this h.symm
              subst h1
              clear hh
              refine wp_region_grow (by kernel_rfl) (by kernel_rfl) ?_
              repeat (go_big_quiet_step (fail))
              refine wpQuiet_nil ?_
              rintro ⟨w3, hb3⟩
              have HBF := Hold.mk (HB.out.trans (hb3.mono HB.out.size))
              simp only
              clear hb3
              go_wp2_with fail
              exact ⟨⟨k + 1, by go_num, hlt2, HN.out, HBF.out⟩, by simp [intOf]; omega⟩
            · have h1b : (s == s2) = false := by rw [beq_eq_false_iff_ne]; exact fun h => h1 h.symm
              clear hh h1
              refine wp_region_grow (by kernel_rfl) (by kernel_rfl) ?_
              repeat (go_big_quiet_step (fail))
              refine wpQuiet_nil ?_
              rintro ⟨w3, hb3⟩
              have HBF := Hold.mk (HB.out.trans (hb3.mono HB.out.size))
              simp only
              clear hb3
              go_wp2_with fail
              exact ⟨⟨k + 1, by go_num, hlt2, HN.out, HBF.out⟩, by simp [intOf]; omega⟩
          | true =>
            obtain ⟨h1, h2⟩ := hit_yes hh
            have h3 : (i.toList == i2.toList) = true := by
              rw [beq_iff_eq] at h2 ⊢; exact h2.symm
            have HG : Hold (getB m s i = true) := ⟨by unfold getB; rw [getF_at HB2.out HYE.out hh]; rfl⟩
            subst h1
            clear hh h2
            refine wp_region_grow (by kernel_rfl) (by kernel_rfl) ?_
            repeat (go_big_quiet_step (fail))
            refine wpQuiet_nil ?_
            rintro ⟨w3, hb3⟩
            have HBF := Hold.mk (HB.out.trans (hb3.mono HB.out.size))
            simp only
            clear hb3
            go_wp2_with fail
            go_ret
            exact ⟨by rw [anyW_true (p := fun y => getB m y.sp y.id) HXE.out HG.out] <;> rfl, HBF.out⟩
        · obtain rfl : k = m.length := by omega
          have HG : Hold (getB m s i = false) := ⟨by unfold getB; rw [getF_none HB2.out]; rfl⟩
          have HN : Hold (∀ (q : Nat) x, q < j + 1 → l[q]? = some x → getB m x.sp x.id = false) := ⟨fun q x hq hx => by
            by_cases e : q = j
            · subst e; rw [HXE.out] at hx; cases hx; exact HG.out
            · exact HA.out q x (by omega) hx⟩
          go_wp2_with fail
          exact ⟨⟨j + 1, by go_num, hlt, HN.out, HB.out⟩, by simp [intOf]; omega⟩
    · have HAll : Hold (l.any (fun y => getB m y.sp y.id) = false) := ⟨anyW_false (fun q x hq => HA.out q x (by omega))⟩
      have HBF := HB.out
      go_wp2_with fail
      go_ret
      exact ⟨by rw [HAll.out] <;> rfl, HBF⟩

end Go.Proofs.YtkhhbckpddkhlaaGreatDoor

namespace Go.Proofs.YtkhhbckpddkhlaaGreatDoor
open Go.Shelf Go.RowKit

theorem laid_len (sp : Int) : ∀ (l : List WR) (D : List DR), (laidD sp l D).length ≤ D.length + l.length
  | [], D => Nat.le_refl _
  | x :: l, D => by
    rw [laidD, List.length_cons]
    by_cases e : x.sp = sp
    · rw [if_pos e]
      have h := laid_len sp l (layD x D)
      have h2 := lay_len x D
      omega
    · rw [if_neg e]
      have h := laid_len sp l D
      omega
open Classical in
theorem overR_len (sp : Int) (l : List WR) (D : List DR) : (overR D l sp).length ≤ D.length + l.length := by
  unfold overR
  split
  · exact laid_len sp l D
  · simp
theorem SAt.takeG {α : Type} {n : Nat} {R : Rep α} {c : CF} {a : Option Addr} {cap h : Nat} {l : List α} (hs : SAt n R c (.slice a l.length cap) l) (hh : h ≤ l.length) : SAt n R c (.slice a h cap) (l.take h) := by
  obtain ⟨a', cap', e, h1, h2, h3⟩ := hs
  cases e
  have hl : (l.take h).length = h := by rw [List.length_take]; omega
  refine ⟨a, cap, by rw [hl], by rw [hl]; omega, h2, fun i x hx => ?_⟩
  rw [List.getElem?_take] at hx
  split at hx
  · exact h3 i x hx
  · cases hx

theorem slice_headW (a : Option Addr) (len cap k : Nat) (hk : k ≤ cap) (w : World) : (Instr.slice 54 (.slice a len cap) none (some (.int .i64 (k : Int))) none).run Tryz.prog w = .ok (.slice a k cap) w := by
  obtain ⟨i0, hi, hz0, hz1, hz2⟩ := info_parts infoWp
  have he : Tryz.prog.elem 54 = 58 := by kernel_rfl
  rw [run_slice_h (P := Tryz.prog) (w := w) 54 a len cap (by rw [he]; exact Tryz.underlying54) .i64 (k : Int) (by omega) (by omega), he]
  simp [sizeOf, typeInfo, hi, hz1, Result.andThen, sliced]
  intro _
  cases a with
  | none => rfl
  | some x => simp [Addr.add]

set_option maxRecDepth 100000 in
set_option maxHeartbeats 16000000 in
theorem writesOver_walk (D : List DR) (dv : Value) (l : List WR) (lv : Value) (sp : Int) (w : World) (hD : SAt 6 RD (cf w) dv D) (hl : SAt 4 RW (cf w) lv l) (hT : Tabs w) (hP : Pow w.heap.size w) (hE : Errs w.heap.size w) :
    Calls Tryz.prog 9 #[dv, lv, .int .i64 sp] w fun e w' => e = .returned (.bool true) ∧ Below w.heap.size w w' := by
  have HDV := Hold.mk hD
  have HLV := Hold.mk hl
  obtain ⟨da, dcap, rfl, hdle, hdcap, _⟩ := hD
  obtain ⟨la, lcap, rfl, hle, hcap, _⟩ := hl
  have HT := Hold.mk hT
  have HP := Hold.mk hP
  have HER := Hold.mk hE
  clear hT hP hE
  go_enter Tryz.func9, Tryz.ntmps9
  go_wp2_with fail
  refine (wawake_any w HT.out HP.out HER.out).mono ?_
  rintro e w2 ⟨rfl, hb2⟩
  have HB := Hold.mk hb2
  clear hb2
  go_wp2_with fail
  refine (wfew_any l _ w2 (HLV.out.mono RW_mono (cle_below HB.out))).mono ?_
  rintro e w3 ⟨b, rfl, hbb, hb3⟩
  replace HB := Hold.mk (HB.out.trans (hb3.mono HB.out.size))
  have HBB := Hold.mk hbb
  clear hb3 hbb
  cases b with
  | false =>
    go_wp2_with fail
    refine (wawake_any w3 (HT.out.below HB.out) (Pow.below HP.out HB.out) (errs_after HER.out HB.out)).mono ?_
    rintro e w9 ⟨rfl, hb9⟩
    have HBF := HB.out.trans (hb9.mono HB.out.size)
    clear hb9
    go_wp2_with fail
    go_ret
    exact ⟨rfl, HBF⟩
  | true =>
  obtain ⟨h30, hsm⟩ := HBB.out rfl
  have HS := Hold.mk hsm
  clear HBB hsm
  by_cases hd40 : 40 < D.length
  · have k40 : (40 : Int) < (D.length : Int) := by omega
    go_wp2_with fail
    refine (wawake_any w3 (HT.out.below HB.out) (Pow.below HP.out HB.out) (errs_after HER.out HB.out)).mono ?_
    rintro e w9 ⟨rfl, hb9⟩
    have HBF := HB.out.trans (hb9.mono HB.out.size)
    clear hb9
    go_wp2_with fail
    go_ret
    exact ⟨rfl, HBF⟩
  have k40 : ¬ (40 : Int) < (D.length : Int) := by omega
  go_wp2_with fail
  refine (dplain_any D _ w3 (HDV.out.mono RD_mono (cle_below HB.out)) (by omega)).mono ?_
  rintro e w4 ⟨sv, rfl, hsv, hb4⟩
  obtain ⟨sa, scap, rfl⟩ := hsv.form
  have HSV := Hold.mk hsv
  replace HB := Hold.mk (HB.out.trans (hb4.mono HB.out.size))
  clear hb4 hsv
  go_wp2_with fail
  refine (dFew_any D _ w4 HSV.out).mono ?_
  rintro e w5 ⟨b, rfl, hbb, hb5⟩
  replace HB := Hold.mk (HB.out.trans (hb5.mono HB.out.size))
  have HBB := Hold.mk hbb
  clear hb5 hbb HSV
  cases b with
  | false =>
    go_wp2_with fail
    refine (wawake_any w5 (HT.out.below HB.out) (Pow.below HP.out HB.out) (errs_after HER.out HB.out)).mono ?_
    rintro e w9 ⟨rfl, hb9⟩
    have HBF := HB.out.trans (hb9.mono HB.out.size)
    clear hb9
    go_wp2_with fail
    go_ret
    exact ⟨rfl, HBF⟩
  | true =>
  have HSD : Hold (∀ y ∈ D, y.id.size ≤ 1000000) := ⟨fun y hy => by have := HBB.out rfl y hy; omega⟩
  have HSP : Hold (∀ x ∈ l, x.id.size ≤ 1000000 ∧ x.text.size ≤ 1000000) := ⟨fun x hx => by have := HS.out x hx; omega⟩
  have HSR : Hold (∀ x ∈ l, x.id.size ≤ 1000000 ∧ x.text.size ≤ 20000) := ⟨fun x hx => by have := HS.out x hx; omega⟩
  obtain ⟨pr, hpr⟩ : ∃ pr, pr = overR D l sp := ⟨_, rfl⟩
  obtain ⟨pe, hpe⟩ : ∃ pe, pe = overE D l := ⟨_, rfl⟩
  have hpl : pr.length ≤ 1000000 := by have := overR_len sp l D; rw [← hpr] at this; omega
  have HOV := Hold.mk (Over_any D l sp _ _ w5 (HDV.out.mono RD_mono (cle_below HB.out)) (HLV.out.mono RW_mono (cle_below HB.out)) HSD.out HSP.out (by omega) (by omega) (HT.out.below HB.out) (Pow.below HP.out HB.out) (errs_after HER.out HB.out))
  unfold OverPost at HOV
  rw [← hpr, ← hpe] at HOV
  have HROV := Hold.mk (fun (a b : Value) (w6 : World) (h1 : SAt 6 RD (cf w6) a D) (h2 : SAt 4 RW (cf w6) b l) => rOver_any D l sp a b w6 h1 h2 HSD.out HSR.out (by omega) (by omega))
  unfold OverPost at HROV
  rw [← hpr, ← hpe] at HROV
  clear HBB hpr hpe
  go_wp2_with fail
  refine HOV.out.mono ?_
  rintro e w6 ⟨pv, rfl, hpv, hb6⟩
  obtain ⟨pa, pcap, rfl⟩ := hpv.form
  have HPV := Hold.mk hpv
  replace HB := Hold.mk (HB.out.trans (hb6.mono HB.out.size))
  clear hb6 hpv HOV
  go_wp2_with fail
  refine (dplain_any D _ w6 (HDV.out.mono RD_mono (cle_below HB.out)) (by omega)).mono ?_
  rintro e w7 ⟨sv, rfl, hsv, hb7⟩
  obtain ⟨sa, scap, rfl⟩ := hsv.form
  have HSV := Hold.mk hsv
  replace HB := Hold.mk (HB.out.trans (hb7.mono HB.out.size))
  replace HPV := Hold.mk (HPV.out.mono RD_mono (cle_below hb7))
  clear hb7 hsv
  go_wp2_with fail
  refine (wplain_any l _ w7 (HLV.out.mono RW_mono (cle_below HB.out)) (by omega)).mono ?_
  rintro e w8 ⟨tv, rfl, htv, hb8⟩
  obtain ⟨ta, tcap, rfl⟩ := htv.form
  have HTV := Hold.mk htv
  replace HB := Hold.mk (HB.out.trans (hb8.mono HB.out.size))
  replace HPV := Hold.mk (HPV.out.mono RD_mono (cle_below hb8))
  replace HSV := Hold.mk (HSV.out.mono RD_mono (cle_below hb8))
  clear hb8 htv
  go_wp2_with fail
  refine (HROV.out _ _ w8 HSV.out HTV.out).mono ?_
  rintro e w10 ⟨qv, rfl, hqv, hb10⟩
  obtain ⟨qa, qcap, rfl⟩ := hqv.form
  have HQV := Hold.mk hqv
  replace HB := Hold.mk (HB.out.trans (hb10.mono HB.out.size))
  replace HPV := Hold.mk (HPV.out.mono RD_mono (cle_below hb10))
  clear hb10 hqv HROV HSV HTV
  obtain ⟨h, hh⟩ : ∃ h, h = l.length / 2 := ⟨_, rfl⟩
  have hhl : h ≤ l.length := by omega
  have hq : (l.length : Int).tdiv 2 = (h : Int) := by rw [Int.tdiv_eq_ediv_of_nonneg (by omega)]; omega
  have hq2 : (l.length : Int) / 2 = (h : Int) := by omega
  obtain ⟨lt, hlt⟩ : ∃ lt, lt = l.take h := ⟨_, rfl⟩
  obtain ⟨ld, hld⟩ : ∃ ld, ld = l.drop h := ⟨_, rfl⟩
  have hltl : lt.length ≤ 1000000 := by rw [hlt, List.length_take]; omega
  have hldl : ld.length ≤ 1000000 := by rw [hld, List.length_drop]; omega
  have HL10 := Hold.mk (HLV.out.mono RW_mono (cle_below HB.out))
  have HTK : Hold (SAt 4 RW (cf w10) (.slice la h lcap) lt) := ⟨by rw [hlt]; exact HL10.out.takeG hhl⟩
  obtain ⟨a', hsl0, hsl1⟩ := slice_tail (n := 4) Tryz.underlying54 (by kernel_rfl) infoWp la l.length lcap h hhl hle hcap
  have hsl : ∀ w, (Instr.slice 54 (.slice la l.length lcap) (some (.int .i64 (h : Int))) none none).run Tryz.prog w = .ok (.slice a' (l.length - h) (lcap - h)) w := hsl0
  have HDR : Hold (SAt 4 RW (cf w10) (.slice a' (l.length - h) (lcap - h)) ld) := ⟨by rw [hld]; exact hsl1 rfl HL10.out⟩
  have hsh : ∀ w, (Instr.slice 54 (.slice la l.length lcap) none (some (.int .i64 (h : Int))) none).run Tryz.prog w = .ok (.slice la h lcap) w := fun w => slice_headW la l.length lcap h (by omega) w
  clear hsl0 hsl1 hlt hld hh
  go_upto_region 6 with (fail)
  refine wp_region_mix 29 rfl (by kernel_rfl) ?_
  rintro w12 hb12
  have HG := Hold.mk hb12
  clear hb12
  refine mixl_seg (by kernel_rfl) (fun _ _ d _ _ h => by cases d <;> exact h) [0, 1, 2, 3, 4, 6] [_, _, _, _, _, _] 23 29 rfl _ _ _ rfl (by kernel_rfl) (growC HG.out) ?_
  repeat (go_big_quiet_step (fail))
  refine wpQuiet_nil ?_
  refine mixl_act (i := 5) rfl (by kernel_rfl) (growC HG.out) rfl (fun K hK => ?_)
  go_wp2_with fail
  refine (dplain_any pr _ w12 (HPV.out.mono RD_mono (cle_below HG.out)) hpl).mono ?_
  rintro e w13 ⟨sv, rfl, hsv, hbq⟩
  obtain ⟨sa, scap, rfl⟩ := hsv.form
  have HSV := Hold.mk hsv
  replace HG := Hold.mk (HG.out.trans (hbq.mono HG.out.size))
  clear hbq hsv
  go_wp2_with fail
  refine mixl_act (i := 7) rfl (by kernel_rfl) (growC HG.out) rfl (fun K hK => ?_)
  go_wp2_with fail
  refine (dSame_eq pr _ _ w13 HSV.out (HQV.out.mono RD_mono (cle_below HG.out))).mono ?_
  rintro e w14 ⟨rfl, hbq⟩
  replace HG := Hold.mk (HG.out.trans (hbq.mono HG.out.size))
  clear hbq HSV
  go_wp2_with fail
  refine mixl_seg (by kernel_rfl) (fun _ _ d _ _ h => by cases d <;> exact h) [8, 9, 10, 11, 12, 13, 14, 15, 17, 18, 19, 21, 22, 23] [_, _, _, _, _, _, _, _, _, _, _, _, _, _] 7 21 rfl _ _ _ rfl (by kernel_rfl) (growC HG.out) ?_
  repeat (go_big_quiet_step (fail))
  refine wpQuiet_nil ?_
  refine mixl_act (i := 16) rfl (by kernel_rfl) (growC HG.out) rfl (fun K hK => ?_)
  go_wp2_with fail
  refine (wMeet_any lt ld _ _ w14 (HTK.out.mono RW_mono (cle_below HG.out)) (HDR.out.mono RW_mono (cle_below HG.out))).mono ?_
  rintro e w15 ⟨rfl, hbq⟩
  replace HG := Hold.mk (HG.out.trans (hbq.mono HG.out.size))
  clear hbq
  go_wp2_with fail
  refine mixl_act (i := 20) rfl (by kernel_rfl) (growC HG.out) rfl (fun K hK => ?_)
  go_wp2_with fail
  refine (wplain_any lt _ w15 (HTK.out.mono RW_mono (cle_below HG.out)) hltl).mono ?_
  rintro e w16 ⟨tv, rfl, htv, hbq⟩
  obtain ⟨ta, tcap, rfl⟩ := htv.form
  replace HG := Hold.mk (HG.out.trans (hbq.mono HG.out.size))
  have HTV := Hold.mk htv
  clear hbq htv
  go_wp2_with fail
  refine mixl_act (i := 24) rfl (by kernel_rfl) (growC HG.out) rfl (fun K hK => ?_)
  go_wp2_with fail
  refine (wplain_any ld _ w16 (HDR.out.mono RW_mono (cle_below HG.out)) hldl).mono ?_
  rintro e w17 ⟨uv, rfl, huv, hbq⟩
  obtain ⟨ua, ucap, rfl⟩ := huv.form
  replace HG := Hold.mk (HG.out.trans (hbq.mono HG.out.size))
  replace HTV := Hold.mk (HTV.out.mono RW_mono (cle_below hbq))
  have HUV := Hold.mk huv
  clear hbq huv
  go_wp2_with fail
  refine mixl_act (i := 25) rfl (by kernel_rfl) (growC HG.out) rfl (fun K hK => ?_)
  go_wp2_with fail
  refine (rMeet_any lt ld _ _ w17 HTV.out HUV.out).mono ?_
  rintro e w18 ⟨rfl, hbq⟩
  replace HG := Hold.mk (HG.out.trans (hbq.mono HG.out.size))
  clear hbq HTV HUV
  generalize (lt.any fun y => getB ld y.sp y.id) = mb
  go_wp2_with fail
  refine mixl_seg (by kernel_rfl) (fun _ _ d _ _ h => by cases d <;> exact h) [26, 27, 28] [_, _, _] 0 3 rfl _ _ _ rfl (by kernel_rfl) (growC HG.out) ?_
  repeat (go_big_quiet_step (fail))
  refine wpQuiet_nil ?_
  refine mix_done (by kernel_rfl) (growC HG.out) ?_
  have HBF := HB.out.trans (HG.out.mono HB.out.size)
  clear HG
  go_wp2_with fail
  go_ret
  exact ⟨by simp, HBF⟩

end Go.Proofs.YtkhhbckpddkhlaaGreatDoor
