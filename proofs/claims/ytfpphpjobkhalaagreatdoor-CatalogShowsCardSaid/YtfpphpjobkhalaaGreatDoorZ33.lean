/- Catalogs: own of the program. -/
import Derived.Test.YtfpphpjobkhalaaGreatDoorZ31
namespace Go.Proofs.YtfpphpjobkhalaaGreatDoor
open Go.Shelf Go.RowKit

def Sized (l : List CX) : Prop := l.length ≤ 1000000 ∧ ∀ x ∈ l, x.ixs.length ≤ 1000000 ∧ ∀ p ∈ x.ixs, p.ix.fields.length ≤ 1000000
theorem grow_setP {c : CF} {xs : List PX} {cs : List Value} {i : Nat} {y : PX} {v : Value} (h : GRow 4 RPX c xs cs) (hy : xs[i]? = some y) (hv : ∃ a cap, v = .slice a y.ix.fields.length cap ∧ FieldsAt c v y.ix.fields) : GRow 4 RPX c xs (cs.set (i * 4 + 1) v) := by
  have hcl := h.1
  have hlt := (List.getElem?_eq_some_iff.1 hy).1
  refine ⟨by rw [List.length_set]; exact hcl, fun j z hz => ?_⟩
  obtain ⟨d, h1, h2, h3⟩ := h.2 j z hz
  by_cases e : j = i
  · subst e
    rw [hy] at hz; cases hz
    obtain ⟨a, cap, rfl, hf⟩ := hv
    obtain ⟨a0, cap0, rfl, hn, _, hw⟩ := h3
    refine ⟨_, rfl, fun q u hu => ?_, a, cap, rfl, hn, hf, hw⟩
    match q, hu with
    | 0, hu => rw [List.getElem?_set_ne (by omega)]; exact h2 0 u hu
    | 1, hu => rw [List.getElem?_set_self (by omega)]; exact hu
    | 2, hu => rw [List.getElem?_set_ne (by omega)]; exact h2 2 u hu
    | 3, hu => rw [List.getElem?_set_ne (by omega)]; exact h2 3 u hu
    | q + 4, hu => simp at hu
  · refine ⟨d, h1, fun q u hu => ?_, h3⟩
    have hq : q < 4 := by rw [← h1]; exact (List.getElem?_eq_some_iff.1 hu).1
    rw [List.getElem?_set_ne (by omega)]; exact h2 q u hu
theorem infoCX : (Tryz.prog.info? 67).map (fun i => (i.zero, i.size, i.bytes)) = some (some (.agg #[.string ⟨#[]⟩, .int .i64 0, .slice none 0 0]), 3, 48) := by kernel_rfl
theorem grownZ_below {w w' : World} {b : Option Nat} (k : Below w.heap.size w w') : w.grownBy w' b := ⟨k.os, k.tape, k.output, k.size, fun q hq _ => k.block q hq⟩
theorem grownZ_trans {w w1 w2 : World} {b : Option Nat} (h : w.grownBy w1 b) (k : w1.grownBy w2 b) : w.grownBy w2 b :=
  ⟨k.os.trans h.os, k.tape.trans h.tape, k.output.trans h.output, Nat.le_trans h.size k.size, fun q hq hne => by rw [k.block q (Nat.lt_of_lt_of_le hq h.size) hne]; exact h.block q hq hne⟩
theorem grownZ_set (w : World) (g o : Nat) (v : Value) : w.grownBy (w.setCell ⟨g, o, none⟩ v) (some g) :=
  ⟨rfl, rfl, rfl, by simp, fun k _ hk => heap_setCell_other w ⟨g, o, none⟩ k v (fun e => hk (by simp [e]))⟩
theorem below_grownZ {B g : Nat} {w w' : World} (h : w.grownBy w' (some g)) (hg : B ≤ g) (hB : B ≤ w.heap.size) : Below B w w' :=
  ⟨h.os, h.tape, h.output, h.size, fun k hk => h.block k (by omega) (fun e => by injection e with e; omega)⟩
theorem own_shapeZ {B n p : Nat} {T : TypeId} {w : World} {sl : Value} {cs : List Value} (h : w.ownsRow B T n sl p cs) : ∃ a cap, sl = .slice a p cap := by
  rcases h.2 with ⟨hv, hn⟩ | ⟨g, cap, cur, hv, _⟩
  · exact ⟨none, 0, by rw [hv, hn]⟩
  · exact ⟨_, cap, hv⟩
theorem own_placeZ {B n p : Nat} {T : TypeId} {w : World} {a : Option Addr} {cap : Nat} {cs : List Value} (h : w.ownsRow B T n (.slice a p cap) p cs) (hp : 0 < p) : ∃ g, a = some ⟨g, 0, none⟩ := by
  rcases h.2 with ⟨hv, hn⟩ | ⟨g, cap, cur, hv, _⟩
  · omega
  · injection hv with h1; exact ⟨g, h1⟩
set_option maxRecDepth 100000 in
set_option maxHeartbeats 16000000 in
theorem own_any (B k : Nat) (l : List CX) (v : Value) (w : World) (hB : B ≤ w.heap.size) (h : CatAt (cfL B w) l v) (hsz : Sized l) :
    Calls Tryz.prog 62 #[v] w fun e w' => ∃ sl cs ik ics, e = .returned (.agg #[sl]) ∧ OwnCat B w.heap.size k w' sl l cs ik ics ∧ Below w.heap.size w w' := by
  obtain ⟨a, cap, rfl, hs⟩ := h
  obtain ⟨a', cap', e, hle, hcap, hel⟩ := hs
  cases e
  have HBW := Hold.mk hB
  have HE := Hold.mk hel
  have HSZ := Hold.mk hsz
  obtain ⟨W0, hW0⟩ : ∃ W0, W0 = ((w.alloc (.cells #[.slice a l.length cap] 24)).alloc (.cells #[.slice none 0 0] 24)).alloc (.cells #[.slice none 0 0] 24) := ⟨_, rfl⟩
  have hb0 : Below w.heap.size w W0 := by rw [hW0]; exact (((Below.refl _ w).alloc (Nat.le_refl _) _).alloc (by simp <;> omega) _).alloc (by simp <;> omega) _
  have hz0 : W0.heap.size = w.heap.size + 3 := by rw [hW0]; simp
  have k0 : W0.heap[w.heap.size]? = some (.cells #[.slice a l.length cap] 24 (0, 0)) := by
    rw [hW0, Below.heap_alloc _ _ _ (by simp <;> omega), Below.heap_alloc _ _ _ (by simp <;> omega)]; exact heap_alloc_new w _
  have HK1 : Hold (W0.heap[w.heap.size + 1]? = some (.cells #[.slice none 0 0] 24 (0, 0))) := ⟨by
    rw [hW0, Below.heap_alloc _ _ _ (by simp <;> omega)]
    have := heap_alloc_new (w.alloc (.cells #[.slice a l.length cap] 24)) (.cells #[.slice none 0 0] 24)
    simpa using this⟩
  have HK2 : Hold (W0.heap[w.heap.size + 2]? = some (.cells #[.slice none 0 0] 24 (0, 0))) := ⟨by
    rw [hW0]
    have := heap_alloc_new ((w.alloc (.cells #[.slice a l.length cap] 24)).alloc (.cells #[.slice none 0 0] 24)) (.cells #[.slice none 0 0] 24)
    simpa using this⟩
  have HB0 := Hold.mk hb0
  have HZ0 := Hold.mk hz0
  have y0 : W0.cell? ⟨w.heap.size, 0, none⟩ = some (.slice a l.length cap) := by simp [World.cell?, k0]
  clear hel hsz hb0 hz0 k0 hB
  go_enter Tryz.func62, Tryz.ntmps62
  go_upto_region 2 with (fail)
  rw [← hW0]
  clear hW0
  go_wp2_with fail
  clear y0
  have HS0 : Hold (OwnCat B w.heap.size k W0 nilS (l.take 0) [] nilS []) := ⟨by simpa using OwnCat.start (k := k) HBW.out HB0.out.size⟩
  go_loopw [10] (fun i wr => ∃ (j : Nat) (sl : Value) (cs : List Value) (ik : Value) (ics : List Value), i = .int .i64 j ∧ j ≤ l.length ∧ OwnCat B w.heap.size k wr sl (l.take j) cs ik ics ∧ Below w.heap.size w wr ∧ W0.heap.size ≤ wr.heap.size ∧ wr.heap[w.heap.size + 1]? = some (.cells #[.slice none 0 0] 24 (0, 0)) ∧ wr.heap[w.heap.size + 2]? = some (.cells #[sl] 24 (0, 0))) (fun i _ => l.length - (intOf i).toNat)
  case atStart => exact ⟨0, _, _, _, _, rfl, Nat.zero_le _, HS0.out, HB0.out, Nat.le_refl _, HK1.out, HK2.out⟩
  case round =>
    clear HK1 HK2 HS0 HB0
    obtain ⟨j, sl, cs, ik, ics, rfl, hj, hown, hbl, hsz, hk1, hk2⟩ := hrel
    have HO := Hold.mk hown
    have HB := Hold.mk hbl
    have HK1 := Hold.mk hk1
    have HK2 := Hold.mk hk2
    have HZ : Hold (w.heap.size + 3 ≤ wr.heap.size) := ⟨by have := HZ0.out; omega⟩
    clear hown hbl hk1 hk2 hsz
    by_cases hlt : j < l.length
    · obtain ⟨x, hx⟩ : ∃ x, l[j]? = some x := ⟨l[j], List.getElem?_eq_getElem hlt⟩
      obtain ⟨b, off, d, rfl, hd, hcc, xa, xcap, rfl, hxn, hxw, hxi⟩ := HE.out j x hx
      have hcl : CLe (cfL B w) (cf wr) := fun b o u h => cle_below HB.out b o u (cfL_cf _ _ b o u h)
      have z0 := hcl _ _ _ (hcc 0 _ rfl)
      have z1 := hcl _ _ _ (hcc 1 _ rfl)
      have z2 := hcl _ _ _ (hcc 2 _ rfl)
      unfold cf at z0 z1 z2
      rw [Nat.add_zero] at z0
      have HXE := Hold.mk hx
      have HXI := Hold.mk hxi
      have HXS := Hold.mk (HSZ.out.2 x (List.mem_of_getElem? hx))
      have HXN := Hold.mk (And.intro hxn hxw)
      have hxl : x.ixs.length ≤ xcap ∧ xcap ≤ 9223372036854775807 := by
        obtain ⟨_, _, e, h1, h2, _⟩ := hxi
        cases e; exact ⟨h1, h2⟩
      obtain ⟨hxl1, hxl2⟩ := hxl
      obtain ⟨nm, sp, xs⟩ := x
      simp only at *
      obtain ⟨W1, hW1⟩ : ∃ W1, W1 = wr.alloc (.cells #[.string nm, .int .i64 sp, .slice xa xs.length xcap] 67) := ⟨_, rfl⟩
      have hb1 : Below wr.heap.size wr W1 := by rw [hW1]; exact (Below.refl _ wr).alloc (Nat.le_refl _) _
      have hs1 : W1.heap.size = wr.heap.size + 1 := by rw [hW1]; simp
      have HKX : Hold (W1.heap[wr.heap.size]? = some (.cells #[.string nm, .int .i64 sp, .slice xa xs.length xcap] 67 (0, 0))) := ⟨by rw [hW1]; exact heap_alloc_new wr _⟩
      have HB1 := Hold.mk hb1
      have HS1 := Hold.mk hs1
      have HCX := Hold.mk (clonePX_any xs (.slice xa xs.length xcap) (cfL B w) W1 (fun b o u h => cle_below (HB.out.trans (hb1.mono HB.out.size)) b o u (cfL_cf _ _ b o u h)) HXI.out HXS.out.1)
      clear hcc hcl hd hx hxi hxn hxw hb1 hs1
      go_upto_region 5 with (fail)
      rw [← hW1]
      clear hW1 z0 z1 z2
      obtain ⟨y0, y1, y2⟩ := cells_three HKX.out
      go_wp2_with fail
      refine HCX.out.mono ?_
      rintro e w2 ⟨sv, jcs, rfl, hsv, hgr, hb2⟩
      have HX2 := Hold.mk (kept HKX.out hb2)
      have HB2 := Hold.mk (HB1.out.trans (hb2.mono HB1.out.size))
      have HSV := Hold.mk hsv
      have HGR := Hold.mk hgr
      have HS2 : Hold (w2.heap.size ≥ wr.heap.size + 1) := ⟨by have := hb2.size; have := HS1.out; omega⟩
      obtain ⟨va, vcap, rfl⟩ := own_shapeZ hsv
      have hvl : xs.length ≤ vcap ∧ vcap ≤ 9223372036854775807 := by
        rcases hsv.2 with ⟨hv, hn⟩ | ⟨g, cap, cur, hv, _, _, h2, h3, _⟩
        · injection hv with _ e2 e3; omega
        · injection hv with _ e2 e3; unfold maxLen at h3; omega
      obtain ⟨hvl1, hvl2⟩ := hvl
      clear hsv hgr hb2 HCX y0 y1 y2 hxl1 hxl2
      have f2 := free_box HX2.out 2
      obtain ⟨y0, y1, y2⟩ := cells_three HX2.out
      go_upto_region 6 with (fail)
      clear y0 y1 y2 f2
      obtain ⟨W3, hW3⟩ : ∃ W3, W3 = w2.setCell ⟨wr.heap.size, 2, none⟩ (.slice va xs.length vcap) := ⟨_, rfl⟩
      rw [← hW3]
      have hg3 := grownZ_set w2 wr.heap.size 2 (.slice va xs.length vcap)
      have hx3 := set_self (o := 2) (c := .slice va xs.length vcap) HX2.out
      rw [← hW3] at hg3 hx3
      have HX3 : Hold (W3.heap[wr.heap.size]? = some (.cells #[.string nm, .int .i64 sp, .slice va xs.length vcap] 67 (0, 0))) := ⟨by simpa using hx3⟩
      have HB3 : Hold (Below wr.heap.size wr W3) := ⟨HB2.out.grown hg3 HB2.out.size (by simp)⟩
      have HSV3 : Hold (W3.ownsRow wr.heap.size 69 4 (.slice va xs.length vcap) xs.length jcs) := ⟨by
        have hne := own_ne HSV.out HX2.out (by decide)
        have := HSV.out.kept hg3 (by
          cases e : (Value.slice va xs.length vcap).ownBlock with
          | none => exact .inl rfl
          | some g => exact .inr (fun e2 => hne g e (Option.some.inj e2).symm))
        rcases this with ⟨h1, h2 | ⟨g, cap, cur, h3, h4, h5⟩⟩
        · exact ⟨h1, .inl h2⟩
        · exact ⟨h1, .inr ⟨g, cap, cur, h3, by have := HS1.out; omega, h5⟩⟩⟩
      have HGR3 : Hold (GRow 4 RPX (cfS B okF nilS W3) xs jcs) := ⟨HGR.out.mono RPX_mono (cfL_cfS ((HB.out.trans (HB3.out.mono HB.out.size)).mono HBW.out) (by simp [Value.ownBlock]))⟩
      have HS3 : Hold (wr.heap.size + 1 ≤ W3.heap.size) := ⟨by have := hg3.size; have := HS2.out; omega⟩
      clear hW3 hg3 hx3 HSV HGR HX2 HB2 HS2 HKX HB1 HS1
      obtain ⟨y0, y1, y2⟩ := cells_three HX3.out
      go_wp2_with fail
      clear y0 y1 y2
      go_loopw [21] (fun i wq => ∃ (q : Nat) (jcs : List Value), i = .int .i64 q ∧ q ≤ xs.length ∧ Below wr.heap.size wr wq ∧ wr.heap.size + 1 ≤ wq.heap.size ∧ wq.heap[wr.heap.size]? = some (.cells #[.string nm, .int .i64 sp, .slice va xs.length vcap] 67 (0, 0)) ∧ wq.ownsRow wr.heap.size 69 4 (.slice va xs.length vcap) xs.length jcs ∧ GRow 4 RPX (cfS B okF nilS wq) xs jcs) (fun i _ => xs.length - (intOf i).toNat)
      case atStart => exact ⟨0, jcs, rfl, Nat.zero_le _, HB3.out, HS3.out, HX3.out, HSV3.out, HGR3.out⟩
      case round =>
        rename World => wq
        clear HX3 HB3 HSV3 HGR3 HS3
        obtain ⟨q, jcs, rfl, hq, hbq, hsq, hxq, hvq, hgq⟩ := hrel
        have HBQ := Hold.mk hbq
        have HSQ := Hold.mk hsq
        have HXQ := Hold.mk hxq
        have HVQ := Hold.mk hvq
        have HGQ := Hold.mk hgq
        clear hbq hsq hxq hvq hgq
        by_cases hlt2 : q < xs.length
        · obtain ⟨y, hy⟩ : ∃ y, xs[q]? = some y := ⟨xs[q], List.getElem?_eq_getElem hlt2⟩
          obtain ⟨g2, rfl⟩ := own_placeZ HVQ.out (by omega)
          obtain ⟨hg2a, hg2b⟩ := HVQ.out.lt g2 rfl
          have hne2 : wr.heap.size ≠ g2 := own_ne HVQ.out HXQ.out (by decide) g2 rfl
          obtain ⟨d, hd1, hd2, fa, fcap, rfl, hyn, hyf, hyw⟩ := HGQ.out.2 q y hy
          have HYF := Hold.mk hyf
          have hcell : wq.cell? ⟨g2, q * 4 + 1, none⟩ = some (.slice fa y.ix.fields.length fcap) := by
            have := HVQ.out.cells (g := g2) rfl (q * 4 + 1) _ (hd2 1 _ rfl)
            rw [addr_at] at this; exact this
          have HCELL := Hold.mk hcell
          have HYE := Hold.mk hy
          have HYS := Hold.mk (HXS.out.2 y (List.mem_of_getElem? hy))
          obtain ⟨y0, y1, y2⟩ := cells_three HXQ.out
          have g0 := ButT.cell (b := g2) y0 hne2
          have g1 := ButT.cell (b := g2) y1 hne2
          have g2' := ButT.cell (b := g2) y2 hne2
          have HDW := Hold.mk ((Below.refl wq.heap.size wq).drew)
          have HOD : Hold (wq.drew.ownsRow wr.heap.size 69 4 (.slice (some ⟨g2, 0, none⟩) xs.length vcap) xs.length jcs) := ⟨HVQ.out⟩
          have HCD : Hold (wq.drew.cell? ⟨g2, q * 4 + 1, none⟩ = some (.slice fa y.ix.fields.length fcap)) := ⟨HCELL.out⟩
          clear hy hd1 hd2 hyf hcell y0 y1 y2
          go_upto_region 9 with (fail)
          refine wp_region_mixC (ButTC g2 wq) 15 rfl (by kernel_rfl) ?_
          generalize wq.drew = w9 at HDW HOD HCD ⊢
          refine mixl_seg (by kernel_rfl) (fun _ _ d _ _ h => by cases d <;> exact h) [0, 1, 2, 3, 4, 5, 6, 7, 8] [_, _, _, _, _, _, _, _, _] 6 15 rfl _ _ _ rfl (by kernel_rfl) (butTC (grownZ_below HDW.out)) ?_
          repeat (go_big_quiet_step (fail))
          refine wpQuiet_nil ?_
          clear g0 g1 g2'
          refine mixl_act (i := 9) rfl (by kernel_rfl) (butTC (grownZ_below HDW.out)) rfl (fun K hK => ?_)
          have hcd := HCD.out
          go_wp2_with fail
          clear hcd
          refine mixl_act (i := 10) rfl (by kernel_rfl) (butTC (grownZ_below HDW.out)) rfl (fun K hK => ?_)
          go_wp2_with fail
          refine (cloneFd_any y.ix.fields _ (cf w9) w9 (fun _ _ _ h => h) (fieldsAt_sat ((HYF.out.mono (cfS_cf _ _ _ _)).mono (cle_below HDW.out))) HYS.out).mono ?_
          rintro e w10 ⟨fv, fcs, rfl, hfv, hfr, hb10⟩
          have HFA : Hold (FieldsAt (cfS B okF nilS w10) fv y.ix.fields) := ⟨sat_fieldsAt (sat_of_own hfv (show GRow 2 RFd (cfS B okF nilS w10) y.ix.fields fcs from hfr) (fun g j u hg hu => by
            unfold cfS
            rw [if_pos ⟨by simp [Value.ownBlock], .inr (by rw [(own_isT hfv okF g hg).2]; rfl)⟩]; exact hu))⟩
          obtain ⟨fva, fvcap, rfl⟩ := own_shapeZ hfv
          have HO10 := Hold.mk (HOD.out.kept (row := none) (grownZ_below hb10) (.inr (by simp [Value.ownBlock])))
          have HD10 := Hold.mk (HDW.out.trans (hb10.mono HDW.out.size))
          have HC10 : Hold (w10.cell? ⟨g2, q * 4 + 1, none⟩ = some (.slice fa y.ix.fields.length fcap)) := ⟨cle_below hb10 _ _ _ HCD.out⟩
          have HF10 : Hold (w10.frozen? ⟨g2, q * 4 + 1, none⟩ = false) := ⟨by
            rcases HO10.out.2 with ⟨hv, _⟩ | ⟨g, cap, cur, hv, _, hgg, _⟩
            · cases hv
            · injection hv with e1
              injection e1 with e1
              injection e1 with e1
              subst e1
              exact free_box hgg _⟩
          have HG10 : Hold (GRow 4 RPX (cfS B okF nilS w10) xs jcs) := ⟨HGQ.out.mono RPX_mono (cfS_keep (fun b hb _ _ => HD10.out.block b hb) (fun _ _ e => e))⟩
          clear hfv hfr hb10
          go_wp2_with fail
          refine mixl_seg (by kernel_rfl) (fun _ _ d _ _ h => by cases d <;> exact h) [11, 12, 13] [_, _, _] 1 4 rfl _ _ _ rfl (by kernel_rfl) (butTC (grownZ_below HD10.out)) ?_
          repeat (go_big_quiet_step (fail))
          refine wpQuiet_nil ?_
          have hc10 := HC10.out
          have hf10 := HF10.out
          refine mixl_act (i := 14) rfl (by kernel_rfl) (butTC (grownZ_below HD10.out)) rfl (fun K hK => ?_)
          go_wp2_with fail
          clear hc10 hf10
          obtain ⟨w11, hw11⟩ : ∃ w11, w11 = w10.setCell ⟨g2, q * 4 + 1, none⟩ (.slice fva y.ix.fields.length fvcap) := ⟨_, rfl⟩
          rw [← hw11]
          have hst := HO10.out.stored (q * 4 + 1) (.slice fva y.ix.fields.length fvcap)
          rw [← hw11] at hst
          obtain ⟨ho11, hg11⟩ := hst
          have HO11 := Hold.mk ho11
          have HW11 := Hold.mk (grownZ_trans (grownZ_below HD10.out) hg11)
          have hkk : CLe (cfS B okF nilS w10) (cfS B okF nilS w11) := cfS_keep (fun b hb _ hc => hg11.block b hb fun e => by
            have e := Option.some.inj e
            subst e
            have h1 := (own_isT HO10.out okF b rfl).2
            rcases hc with h3 | h3
            · have := HB.out.size; have := HBW.out; omega
            · rw [h1] at h3; cases h3) (fun _ _ e => e)
          have HG11 := Hold.mk (grow_setP (HG10.out.mono RPX_mono hkk) HYE.out ⟨_, _, rfl, HFA.out.mono hkk⟩)
          have HX11 : Hold (w11.heap[wr.heap.size]? = some (.cells #[.string nm, .int .i64 sp, .slice (some ⟨g2, 0, none⟩) xs.length vcap] 67 (0, 0))) := ⟨by
            rw [HW11.out.block _ (by have := HSQ.out; omega) (fun e => hne2 (Option.some.inj e))]; exact HXQ.out⟩
          have HB11 : Hold (Below wr.heap.size wr w11) := ⟨HBQ.out.trans (below_grownZ HW11.out hg2a HBQ.out.size)⟩
          have HS11 : Hold (wr.heap.size + 1 ≤ w11.heap.size) := ⟨Nat.le_trans HSQ.out HW11.out.size⟩
          clear hw11 ho11 hg11 hkk HFA HO10 HD10 HC10 HF10 HG10 HCD HOD HDW
          refine mix_done (by kernel_rfl) (butTC HW11.out) ?_
          go_wp2_with fail
          exact ⟨⟨q + 1, _, by go_num, hlt2, HB11.out, HS11.out, HX11.out, HO11.out, HG11.out⟩, by simp [intOf]; omega⟩
        · obtain rfl : q = xs.length := by omega
          have HWK : Hold (Below wr.heap.size wr wq) := HBQ
          have HTK : Hold (l.take (j + 1) = l.take j ++ [⟨nm, sp, xs⟩]) := ⟨take_succ HXE.out⟩
          have HLT : Hold ((l.take j).length = j) := ⟨by rw [List.length_take]; omega⟩
          obtain ⟨y0, y1, y2⟩ := cells_three HXQ.out
          have HK1q := Hold.mk (kept HK1.out HBQ.out)
          have HK2q := Hold.mk (kept HK2.out HBQ.out)
          have HOQ := Hold.mk (HO.out.quiet HBQ.out)
          have x0 : wq.cell? ⟨w.heap.size + 1 + 1, 0, none⟩ = some sl := by
            have := HK2q.out
            simp [World.cell?, this]
          have HOS : Hold (OwnS 3 (fun _ (_ : Unit) _ => True) 67 w.heap.size wq sl j (List.replicate j ()) cs) := ⟨⟨by have := HOQ.out.own; rw [HLT.out] at this; exact this, by simp, ⟨by have := HOQ.out.own.1; rw [HLT.out] at this; simpa using this, fun i _ hi => by
            have hij : i < j := by have := (List.getElem?_eq_some_iff.1 hi).1; simpa using this
            have hcl := HOQ.out.own.1
            rw [HLT.out] at hcl
            refine ⟨(cs.drop (i * 3)).take 3, by rw [List.length_take, List.length_drop]; omega, fun q u hu => ?_, trivial⟩
            rw [List.getElem?_take] at hu
            split at hu
            · rw [List.getElem?_drop] at hu; exact hu
            · cases hu⟩, HOQ.out.le⟩⟩
          go_wp2_with (at_builtin; refine push_new (R := fun _ (_ : Unit) _ => True) (fun _ _ _ _ _ h => h) rfl _ _ rfl infoCX Tryz.underlying22 rfl (by decide) _ _ _ j _ _ HOS.out rfl _ [_, _, _] rfl rfl (by simp [Value.oneCell']) () trivial _ rfl rfl (by have := HSZ.out.1; omega) (by decide) ?_)
          intro sl2 w12 ho2 hg2
          obtain ⟨s2a, s2c, rfl⟩ := ho2.shape
          have HOC : Hold (∃ ik2 ics2, OwnCat B w.heap.size k w12 (.slice s2a (j + 1) s2c) (l.take (j + 1)) (cs ++ [.string nm, .int .i64 sp, .slice va xs.length vcap]) ik2 ics2) := ⟨by
            rw [HTK.out]
            exact HO.out.snoc (x := ⟨nm, sp, xs⟩) HBQ.out hg2.by_ HXN.out.1 HXN.out.2 HVQ.out HGQ.out (by rw [HLT.out]; exact ho2.own)⟩
          have hne1 := own_ne HOQ.out.own HK1q.out (by decide)
          have hne2 := own_ne HOQ.out.own HK2q.out (by decide)
          have HK12 := Hold.mk (hg2.kept HK1q.out hne1)
          have HK22 := Hold.mk (hg2.kept HK2q.out hne2)
          have HB12 : Hold (Below w.heap.size w w12) := ⟨(HB.out.trans (HBQ.out.mono HB.out.size)).trans (hg2.below HOQ.out.le fun g hg => (HOQ.out.own.lt g hg).1)⟩
          have hf2 : w12.frozen? ⟨w.heap.size + 1 + 1, 0, none⟩ = false := free_box HK22.out 0
          have hx2 : w12.cell? ⟨w.heap.size + 1 + 1, 0, none⟩ = some sl := by
            have := HK22.out
            simp [World.cell?, this]
          have HS12 : Hold (W0.heap.size ≤ w12.heap.size) := ⟨by have := HZ0.out; have := HZ.out; have := HBQ.out.size; have := hg2.by_.size; omega⟩
          clear ho2 hg2 hne1 hne2 y0 y1 y2 x0 HOS HOQ HK1q HK2q HO HVQ HGQ HXQ HBQ HWK
          go_wp2_with fail
          clear hf2 hx2
          obtain ⟨w13, hw13⟩ : ∃ w13, w13 = w12.setCell ⟨w.heap.size + 1 + 1, 0, none⟩ (.slice s2a (j + 1) s2c) := ⟨_, rfl⟩
          rw [← hw13]
          have hg13 : w12.grownBy w13 (some (w.heap.size + 2)) := by rw [hw13]; exact grownZ_set _ _ _ _
          have hk13 : w13.heap[w.heap.size + 2]? = some (.cells #[.slice s2a (j + 1) s2c] 24 (0, 0)) := by
            rw [hw13]
            have := set_self (o := 0) (c := (.slice s2a (j + 1) s2c)) HK22.out
            simpa using this
          obtain ⟨ik2, ics2, hoc⟩ := HOC.out
          have hoc13 := hoc.but HK22.out (by have := HBW.out; omega) hg13
          have hk113 := hg13.block (w.heap.size + 1) (heap_lt HK12.out) (fun e => by injection e with e; omega)
          rw [HK12.out] at hk113
          exact ⟨⟨j + 1, _, _, ik2, ics2, by go_num, hlt, hoc13, below_grownZ hg13 (by omega) HB12.out.size |> HB12.out.trans, Nat.le_trans HS12.out hg13.size, hk113, hk13⟩, by simp [intOf]; omega⟩
    · obtain rfl : j = l.length := by omega
      have HTK : Hold (l.take l.length = l) := ⟨List.take_of_length_le (Nat.le_refl _)⟩
      rw [HTK.out] at HO
      obtain ⟨sa, scap, rfl⟩ := own_shapeZ HO.out.own
      have hf1 : wr.frozen? ⟨w.heap.size + 1, 0, none⟩ = false := free_box HK1.out 0
      have hx1 : wr.cell? ⟨w.heap.size + 1, 0, none⟩ = some (.slice none 0 0) := by
        have := HK1.out
        simp [World.cell?, this]
      have hx2 : wr.cell? ⟨w.heap.size + 1 + 1, 0, none⟩ = some (.slice sa l.length scap) := by
        have := HK2.out
        simp [World.cell?, this]
      go_wp2_with fail
      clear hf1 hx1 hx2
      obtain ⟨w13, hw13⟩ : ∃ w13, w13 = wr.setCell ⟨w.heap.size + 1, 0, none⟩ (.slice sa l.length scap) := ⟨_, rfl⟩
      rw [← hw13]
      have hg13 : wr.grownBy w13 (some (w.heap.size + 1)) := by rw [hw13]; exact grownZ_set _ _ _ _
      have hk13 : w13.heap[w.heap.size + 1]? = some (.cells #[.slice sa l.length scap] 24 (0, 0)) := by
        rw [hw13]
        have := set_self (o := 0) (c := .slice sa l.length scap) HK1.out
        simpa using this
      have hx1 : w13.cell? ⟨w.heap.size + 1, 0, none⟩ = some (.slice sa l.length scap) := by simp [World.cell?, hk13]
      have hoc := HO.out.but HK1.out (by have := HBW.out; omega) hg13
      refine bodyPost_ret (v := .agg #[.slice sa l.length scap]) (by simp [results, Tryz.results62, go_sem, hx1]) rfl ?_
      exact ⟨_, cs, ik, ics, rfl, hoc, HB.out.trans (below_grownZ hg13 (by omega) HB.out.size)⟩
end Go.Proofs.YtfpphpjobkhalaaGreatDoor
