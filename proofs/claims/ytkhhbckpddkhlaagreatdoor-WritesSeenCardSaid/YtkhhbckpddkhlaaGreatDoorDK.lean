/- Writes over documents: what is seen of one id. -/
import Derived.Test.YtkhhbckpddkhlaaGreatDoorDG
namespace Go.Proofs.YtkhhbckpddkhlaaGreatDoor
open Go.Shelf Go.RowKit

/-- the documents of one id -/
def ofD (id : ByteArray) (D : List DR) : List DR := D.filter (fun d => decide (d.id = id))
theorem ofD_none {id : ByteArray} {D : List DR} (h : ∀ y ∈ D, y.id ≠ id) : ofD id D = [] := by
  unfold ofD
  rw [List.filter_eq_nil_iff]
  intro y hy
  simpa using h y hy
theorem ofD_app (id : ByteArray) (a b : List DR) : ofD id (a ++ b) = ofD id a ++ ofD id b := List.filter_append ..
theorem lay_head {x : WR} {D : List DR} {y : DR} (h : y ∈ D.take (placeN (idsD D) x.id)) : strLt y.id x.id = true := by
  obtain ⟨i, hi, rfl⟩ := List.getElem_of_mem h
  rw [List.length_take] at hi
  refine placeN_lt (nm := idsD D) (s := x.id) (t := i) (by omega) ?_
  rw [List.getElem_take]
  exact idsD_at (List.getElem?_eq_getElem (by omega))
theorem lay_self {x : WR} {D : List DR} (hu : upN (idsD D)) : ofD x.id (layD x D) = if x.gone = true then [] else [newD x] := by
  have h1 : ofD x.id (D.take (placeN (idsD D) x.id)) = [] := ofD_none fun y hy e => by
    have := lay_head hy; rw [e, strLt_irrefl] at this; cases this
  have h2 : ofD x.id (tailD x D) = [] := ofD_none fun y hy e => by
    have := tail_gt hu hy; rw [e, strLt_irrefl] at this; cases this
  unfold layD
  cases x.gone with
  | true => rw [ofD_app, h1, h2]; rfl
  | false =>
    rw [ofD_app, h1, show newD x :: tailD x D = [newD x] ++ tailD x D from rfl, ofD_app, h2]
    simp [ofD, newD]
theorem lay_other {x : WR} {D : List DR} {id : ByteArray} (h : x.id ≠ id) : ofD id (layD x D) = ofD id D := by
  have ht : ofD id (tailD x D) = ofD id (D.drop (placeN (idsD D) x.id)) := by
    unfold tailD
    cases hf : foundD (idsD D) x.id with
    | false => rfl
    | true =>
      have hx := foundD_at hf
      have hl : placeN (idsD D) x.id < D.length := by have := (List.getElem?_eq_some_iff.1 hx).1; rwa [idsD_len] at this
      have he : D[placeN (idsD D) x.id].id = x.id := by
        have h0 := idsD_at (List.getElem?_eq_getElem hl)
        rw [h0] at hx; exact Option.some.inj hx
      rw [List.drop_eq_getElem_cons hl]
      unfold ofD
      rw [List.filter_cons_of_neg (by rw [he]; simpa using h)]
  have hd : ofD id D = ofD id (D.take (placeN (idsD D) x.id)) ++ ofD id (D.drop (placeN (idsD D) x.id)) := by
    rw [← ofD_app, List.take_append_drop]
  unfold layD
  cases x.gone with
  | true => rw [ofD_app, ht, hd]
  | false =>
    rw [ofD_app, show newD x :: tailD x D = [newD x] ++ tailD x D from rfl, ofD_app, ht, hd, ofD_none (D := [newD x]) (fun y hy => by simp at hy; subst hy; exact h)]
    rfl
/-- what is seen of one id -/
def seenD (sp : Int) (id : ByteArray) (l : List WR) (D : List DR) : List DR := match getF l sp id with
  | none => ofD id D
  | some x => if x.gone = true then [] else [newD x]
theorem getF_hit : ∀ {l : List WR} {sp : Int} {id : ByteArray} {x : WR}, getF l sp id = some x → hitW x sp id = true
  | [], _, _, _, h => by simp [getF] at h
  | y :: l, sp, id, x, h => by
    rw [getF] at h
    split at h
    · rename_i hy; cases h; exact hy
    · exact getF_hit h
theorem hitW_iff {x : WR} {sp : Int} {id : ByteArray} : hitW x sp id = true ↔ x.sp = sp ∧ x.id = id := by
  unfold hitW; simp
theorem laid_up {sp : Int} : ∀ {l : List WR} {D : List DR}, upN (idsD D) → upN (idsD (laidD sp l D))
  | [], _, h => h
  | x :: l, D, h => by
    rw [laidD]
    apply laid_up
    split
    · exact lay_up h
    · exact h
theorem seen_law {sp : Int} {id : ByteArray} : ∀ {l : List WR} {D : List DR}, l.Pairwise (fun a b => ltW a b = true) → upN (idsD D) → ofD id (laidD sp l D) = seenD sp id l D
  | [], _, _, _ => rfl
  | x :: l, D, hl, hu => by
    obtain ⟨hx, hl2⟩ := List.pairwise_cons.1 hl
    rw [laidD]
    by_cases hs : x.sp = sp
    · rw [if_pos hs, seen_law hl2 (lay_up hu)]
      by_cases hi : x.id = id
      · have hg : getF l sp id = none := getF_none fun q a hq ha => by
          cases hh : hitW a sp id with
          | false => rfl
          | true =>
            obtain ⟨h1, h2⟩ := hitW_iff.1 hh
            have := hx a (List.mem_of_getElem? ha)
            unfold ltW at this
            rw [hs, h1, hi, h2, strLt_irrefl] at this
            simp at this
        have hg2 : getF (x :: l) sp id = some x := by rw [getF, if_pos (hitW_iff.2 ⟨hs, hi⟩)]
        unfold seenD
        rw [hg, hg2]
        simp only
        rw [← hi]; exact lay_self hu
      · have hg2 : getF (x :: l) sp id = getF l sp id := by rw [getF, if_neg (fun h => hi (hitW_iff.1 h).2)]
        unfold seenD
        rw [hg2, lay_other hi]
    · have hg2 : getF (x :: l) sp id = getF l sp id := by rw [getF, if_neg (fun h => hs (hitW_iff.1 h).1)]
      rw [if_neg hs, seen_law hl2 hu]
      unfold seenD
      rw [hg2]
theorem overE_parts {D : List DR} {l : List WR} (h : overE D l = 0) : formedW l = true ∧ docsF D = true := by
  unfold overE at h
  cases h1 : formedW l with
  | false => rw [h1] at h; simp at h
  | true =>
    cases h2 : docsF D with
    | false => rw [h1, h2] at h; simp at h
    | true => exact ⟨rfl, rfl⟩
theorem overE_cases (D : List DR) (l : List WR) : overE D l = 0 ∨ overE D l = 2 := by
  cases h1 : formedW l with
  | false => exact .inr (overE_bad1 h1)
  | true =>
    cases h2 : docsF D with
    | false => exact .inr (overE_bad2 h1 h2)
    | true => exact .inl (overE_ok h1 h2)
open Classical in
theorem docsF_true {D : List DR} (h : docsF D = true) : DocsTo D D.length := by unfold docsF at h; exact of_decide_eq_true h
theorem strK_eq {a b : ByteArray} (h : a = b) : (a.toList == b.toList) = true := by rw [h]; simp
/-- what is asked for, as the statement lays it -/
def wantD (id : ByteArray) (l : List WR) (D : List DR) : List DR :=
  (if getB l 1 id = true then [] else ofD id D) ++ (if getB l 1 id = true ∧ (getV l 1 id).gone = false then [⟨id, (readF (getV l 1 id).text.data.toList).1⟩] else [])
theorem want_law {id : ByteArray} {l : List WR} {D : List DR} (h : overE D l = 0) : ofD id (overR D l 1) = wantD id l D ∧ upN (idsD (overR D l 1)) := by
  obtain ⟨h1, h2⟩ := overE_parts h
  have hu : upN (idsD D) := up_docs (docsF_true h2)
  unfold overR
  rw [if_pos h]
  refine ⟨?_, laid_up hu⟩
  rw [seen_law ((up_iff l).1 ((formedW_iff l).1 h1).2.1) hu]
  unfold seenD wantD getB getV
  cases hg : getF l 1 id with
  | none => simp
  | some x =>
    have hi := (hitW_iff.1 (getF_hit hg)).2
    cases hx : x.gone with
    | true => simp [hx]
    | false => simp [hx, newD, hi]
/-- ids rise from one to the next -/
theorem up_next {D : List DR} (hu : upN (idsD D)) {j : Nat} {a b : DR} (ha : D[j]? = some a) (hb : D[j + 1]? = some b) : strLt a.id b.id = true :=
  upN_lt hu (Nat.lt_succ_self j) (idsD_at ha) (idsD_at hb)


/-- the wanted documents ahead of j -/
def wantTo (b : Bool) (id : ByteArray) (D : List DR) : List DR := match b with
  | true => []
  | false => ofD id D
theorem ofD_next {id : ByteArray} {D : List DR} {j : Nat} {x : DR} (hx : D[j]? = some x) : ofD id (D.take (j + 1)) = if x.id = id then ofD id (D.take j) ++ [x] else ofD id (D.take j) := by
  rw [take_nextW hx, ofD_app]
  by_cases h : x.id = id <;> simp [ofD, h]
theorem ofD_len (id : ByteArray) (D : List DR) : (ofD id D).length ≤ D.length := List.length_filter_le _ _
theorem wantTo_len (b : Bool) (id : ByteArray) (D : List DR) : (wantTo b id D).length ≤ D.length := by
  cases b <;> simp [wantTo, ofD_len]
def BRel (T : TypeId) (W : World) (E : List DR) (sl : Value) (wx : World) : Prop := ∃ p cs, OwnS 6 RD T W.heap.size wx sl p E cs ∧ Below W.heap.size W wx
theorem seen_up {D : List DR} (hu : upN (idsD D)) {j : Nat} {b : DR} (hb : D[j]? = some b) : 0 < j → ∃ a, D[j - 1]? = some a ∧ strLt a.id b.id = true := fun h0 => by
  have hl := (List.getElem?_eq_some_iff.1 hb).1
  refine ⟨D[j - 1], List.getElem?_eq_getElem (by omega), up_next hu (j := j - 1) (List.getElem?_eq_getElem (by omega)) ?_⟩
  rw [show j - 1 + 1 = j by omega]; exact hb

theorem getF_mem : ∀ {l : List WR} {sp : Int} {id : ByteArray} {x : WR}, getF l sp id = some x → x ∈ l
  | [], _, _, _, h => by simp [getF] at h
  | y :: l, sp, id, x, h => by
    rw [getF] at h
    split at h
    · cases h; simp
    · exact List.mem_cons_of_mem _ (getF_mem h)
/-- what is wanted, by what Get answers -/
def wantE (b : Bool) (v : WR) (id : ByteArray) (D : List DR) : List DR := match b && !v.gone with
  | true => wantTo b id D ++ [⟨id, (readF v.text.data.toList).1⟩]
  | false => wantTo b id D
theorem wantE_eq (id : ByteArray) (l : List WR) (D : List DR) : wantD id l D = wantE (getB l 1 id) (getV l 1 id) id D := by
  unfold wantD wantE wantTo
  cases getB l 1 id <;> cases (getV l 1 id).gone <;> simp
theorem get_small {l : List WR} {id : ByteArray} (h : ∀ x ∈ l, x.id.size ≤ 1000000 ∧ x.text.size ≤ 20000) : (getV l 1 id).text.size ≤ 20000 := by
  unfold getV
  cases hg : getF l 1 id with
  | none => show (0 : Nat) ≤ 20000; omega
  | some x => exact (h x (getF_mem hg)).2
theorem seen_ge {D : List DR} (hu : upN (idsD D)) {j : Nat} {a b : DR} (ha : D[j - 1]? = some a) (hb : D[j]? = some b) (h0 : 0 < j) : (!(Op.bytesLess a.id.toList b.id.toList)) = false := by
  have h := up_next hu (j := j - 1) ha (by rw [show j - 1 + 1 = j by omega]; exact hb)
  unfold strLt at h
  rw [h]; rfl

theorem cle_cfF_N {B : Nat} {s : Value} {w : World} (h : ∀ g, s.ownBlock = some g → g < B) : CLe (cfF B w) (cfN s w) := fun b o u hu => by
  unfold cfF at hu
  split at hu
  · rename_i hb
    unfold cfN
    rw [if_neg (fun e => by have := h b e; omega)]
    exact hu
  · cases hu
theorem wantE_false {b : Bool} {v : WR} {id : ByteArray} {D : List DR} (h : (b && !v.gone) = false) : wantE b v id D = wantTo b id D := by unfold wantE; rw [h]
theorem wantE_true {b : Bool} {v : WR} {id : ByteArray} {D : List DR} (h : (b && !v.gone) = true) : wantE b v id D = wantTo b id D ++ [⟨id, (readF v.text.data.toList).1⟩] := by unfold wantE; rw [h]
theorem wantE_len (b : Bool) (v : WR) (id : ByteArray) (D : List DR) : (wantE b v id D).length ≤ D.length + 1 := by
  have := wantTo_len b id D
  unfold wantE
  split
  · rw [List.length_append]; simp; omega
  · omega

set_option maxRecDepth 100000 in
set_option maxHeartbeats 16000000 in
theorem writesSeen_walk (D : List DR) (dv : Value) (l : List WR) (lv : Value) (id : ByteArray) (w : World) (hD : SAt 6 RD (cf w) dv D) (hl : SAt 4 RW (cf w) lv l) (hid : id.size ≤ maxLen) (hT : Tabs w) (hP : Pow w.heap.size w) (hE : Errs w.heap.size w) :
    Calls Tryz.prog 8 #[dv, lv, .string id] w fun e w' => e = .returned (.bool true) ∧ Below w.heap.size w w' := by
  unfold maxLen at hid
  have HDV := Hold.mk hD
  have HLV := Hold.mk hl
  obtain ⟨da, dcap, rfl, hdle, hdcap, hdel⟩ := hD
  obtain ⟨la, lcap, rfl, hle, hcap, _⟩ := hl
  have HDE := Hold.mk hdel
  have HT := Hold.mk hT
  have HP := Hold.mk hP
  have HER := Hold.mk hE
  clear hT hP hE hdel
  go_enter Tryz.func8, Tryz.ntmps8
  go_wp2_with fail
  refine (wawake_any w HT.out HP.out HER.out).mono ?_
  rintro e w2 ⟨rfl, hb2⟩
  have HB := Hold.mk hb2
  clear hb2
  go_wp2_with fail
  refine (wfew_any l _ w2 (HLV.out.mono RW_mono (cle_below HB.out))).mono ?_
  rintro e w3 ⟨b, rfl, hbb, hb3⟩
  replace HB := Hold.mk (HB.out.trans (hb3.mono HB.out.size))
  have HBB := Hold.mk hbb
  clear hb3 hbb
  cases b with
  | false =>
    go_wp2_with fail
    refine (wawake_any w3 (HT.out.below HB.out) (Pow.below HP.out HB.out) (errs_after HER.out HB.out)).mono ?_
    rintro e w9 ⟨rfl, hb9⟩
    have HBF := HB.out.trans (hb9.mono HB.out.size)
    clear hb9
    go_wp2_with fail
    go_ret
    exact ⟨rfl, HBF⟩
  | true =>
  obtain ⟨h30, hsm⟩ := HBB.out rfl
  have HS := Hold.mk hsm
  clear HBB hsm
  by_cases hd40 : 40 < D.length
  · have k40 : (40 : Int) < (D.length : Int) := by omega
    go_wp2_with fail
    refine (wawake_any w3 (HT.out.below HB.out) (Pow.below HP.out HB.out) (errs_after HER.out HB.out)).mono ?_
    rintro e w9 ⟨rfl, hb9⟩
    have HBF := HB.out.trans (hb9.mono HB.out.size)
    clear hb9
    go_wp2_with fail
    go_ret
    exact ⟨rfl, HBF⟩
  have k40 : ¬ (40 : Int) < (D.length : Int) := by omega
  go_wp2_with fail
  refine (dplain_any D _ w3 (HDV.out.mono RD_mono (cle_below HB.out)) (by omega)).mono ?_
  rintro e w4 ⟨sv, rfl, hsv, hb4⟩
  obtain ⟨sa, scap, rfl⟩ := hsv.form
  have HSV := Hold.mk hsv
  replace HB := Hold.mk (HB.out.trans (hb4.mono HB.out.size))
  clear hb4 hsv
  go_wp2_with fail
  refine (dFew_any D _ w4 HSV.out).mono ?_
  rintro e w5 ⟨b, rfl, hbb, hb5⟩
  replace HB := Hold.mk (HB.out.trans (hb5.mono HB.out.size))
  have HBB := Hold.mk hbb
  clear hb5 hbb HSV
  cases b with
  | false =>
    go_wp2_with fail
    refine (wawake_any w5 (HT.out.below HB.out) (Pow.below HP.out HB.out) (errs_after HER.out HB.out)).mono ?_
    rintro e w9 ⟨rfl, hb9⟩
    have HBF := HB.out.trans (hb9.mono HB.out.size)
    clear hb9
    go_wp2_with fail
    go_ret
    exact ⟨rfl, HBF⟩
  | true =>
  by_cases hi1 : 1000 < id.size
  · have k1 : (1000 : Int) < (id.size : Int) := by omega
    clear HBB
    go_wp2_with fail
    refine (wawake_any w5 (HT.out.below HB.out) (Pow.below HP.out HB.out) (errs_after HER.out HB.out)).mono ?_
    rintro e w9 ⟨rfl, hb9⟩
    have HBF := HB.out.trans (hb9.mono HB.out.size)
    clear hb9
    go_wp2_with fail
    go_ret
    exact ⟨rfl, HBF⟩
  have k1 : ¬ (1000 : Int) < (id.size : Int) := by omega
  have HSD : Hold (∀ y ∈ D, y.id.size ≤ 1000000) := ⟨fun y hy => by have := HBB.out rfl y hy; omega⟩
  have HSP : Hold (∀ x ∈ l, x.id.size ≤ 1000000 ∧ x.text.size ≤ 1000000) := ⟨fun x hx => by have := HS.out x hx; omega⟩
  have HSR : Hold (∀ x ∈ l, x.id.size ≤ 1000000 ∧ x.text.size ≤ 20000) := ⟨fun x hx => by have := HS.out x hx; omega⟩
  clear HBB HS
  obtain ⟨pr, hpr⟩ : ∃ pr, overR D l 1 = pr := ⟨_, rfl⟩
  obtain ⟨pe, hpe⟩ : ∃ pe, overE D l = pe := ⟨_, rfl⟩
  have hpl : pr.length ≤ 1000 := by have := overR_len 1 l D; rw [hpr] at this; omega
  have HOV := Hold.mk (Over_any D l 1 _ _ w5 (HDV.out.mono RD_mono (cle_below HB.out)) (HLV.out.mono RW_mono (cle_below HB.out)) HSD.out HSP.out (by omega) (by omega) (HT.out.below HB.out) (Pow.below HP.out HB.out) (errs_after HER.out HB.out))
  unfold OverPost at HOV
  rw [hpr, hpe] at HOV
  have HPR := Hold.mk hpr
  have HPE := Hold.mk hpe
  clear hpr hpe
  go_wp2_with fail
  refine HOV.out.mono ?_
  rintro e w6 ⟨pv, rfl, hpv, hb6⟩
  obtain ⟨pa, pcap, rfl⟩ := hpv.form
  have HPV := Hold.mk hpv
  replace HB := Hold.mk (HB.out.trans (hb6.mono HB.out.size))
  clear hb6 hpv HOV
  have hcase := overE_cases D l
  rw [HPE.out] at hcase
  rcases hcase with rfl | rfl
  case inr =>
    have HBF := HB.out
    go_wp2_with fail
    go_ret
    exact ⟨rfl, HBF⟩
  have HWL := Hold.mk (want_law (id := id) HPE.out)
  rw [HPR.out, wantE_eq] at HWL
  clear HPE HPR
  have hgs := get_small (id := id) HSR.out
  obtain ⟨gv, hgv⟩ : ∃ gv, getV l 1 id = gv := ⟨_, rfl⟩
  obtain ⟨gb, hgb⟩ : ∃ gb, getB l 1 id = gb := ⟨_, rfl⟩
  rw [hgv] at hgs HWL
  rw [hgb] at HWL
  have HGV := Hold.mk hgv
  have HGB := Hold.mk hgb
  clear hgv hgb
  obtain ⟨gs, gi, gg, gt⟩ := gv
  simp only at hgs
  go_wp2_with fail
  refine (wGet_any l _ 1 id w6 (HLV.out.mono RW_mono (cle_below HB.out))).mono ?_
  rintro e w7 hgp
  obtain ⟨he, hbr⟩ := get_post hgp
  rw [HGV.out, HGB.out] at he
  unfold WR.cells at he
  simp only at he
  subst he
  obtain ⟨W, hW⟩ : ∃ W, W = w7.alloc (.cells #[.int .i64 gs, .string gi, .bool gg, .string gt] 58) := ⟨_, rfl⟩
  have hbW : Below w7.heap.size w7 W := by rw [hW]; exact (Below.refl _ w7).alloc (Nat.le_refl _) _
  have HX : Hold (W.heap[w7.heap.size]? = some (.cells #[.int .i64 gs, .string gi, .bool gg, .string gt] 58 (0, 0))) := ⟨by rw [hW]; exact heap_alloc_new w7 _⟩
  have hbr2 := hbr.trans (hbW.mono hbr.size)
  replace HB := Hold.mk (HB.out.trans (hbr2.mono HB.out.size))
  replace HPV := Hold.mk (HPV.out.mono RD_mono (cle_below hbr2))
  clear hbr hbr2 hbW hgp HLV HSD HSP HSR HGV HGB
  go_upto_region 7 with (fail)
  rw [← hW]
  clear hW
  generalize w7.heap.size = zb at HX ⊢
  have HO : Hold (OwnS 6 RD 47 W.heap.size W (.slice none 0 0) 0 (wantTo gb id (D.take 0)) []) := ⟨by
    have : wantTo gb id (D.take 0) = [] := by cases gb <;> rfl
    rw [this]; exact OwnS.start _ _ _ (Nat.le_refl _)⟩
  go_wp2_with fail
  go_loopw [11, 12] (fun sl i wr => ∃ (j p : Nat) (cs : List Value), i = .int .i64 j ∧ j ≤ D.length ∧ OwnS 6 RD 47 W.heap.size wr sl p (wantTo gb id (D.take j)) cs ∧ Below W.heap.size W wr) (fun _ i _ => D.length - (intOf i).toNat)
  case atStart => exact ⟨0, 0, [], rfl, Nat.zero_le _, HO.out, Below.refl _ _⟩
  case round =>
    obtain ⟨j, p, cs, rfl, hj, hown, hbx⟩ := hrel
    clear HO
    obtain ⟨sa, scap, rfl⟩ := hown.shape
    have hpl2 : p ≤ 1000000 := by have := hown.len; have := wantTo_len gb id (D.take j); rw [List.length_take] at this; omega
    obtain ⟨ks, hks⟩ : ∃ ks, ks = wantTo gb id (D.take j) := ⟨_, rfl⟩
    rw [← hks] at hown
    have HO := Hold.mk hown
    have HB2 := Hold.mk hbx
    have HKS := Hold.mk hks
    clear hown hbx hks
    by_cases hlt : j < D.length
    · obtain ⟨x, hx⟩ : ∃ x, D[j]? = some x := ⟨D[j], List.getElem?_eq_getElem hlt⟩
      obtain ⟨b, off, d, rfl, hd, hc, hxi⟩ := HDE.out j x hx
      have hxi2 := hxi
      obtain ⟨k, n, t, na, nl, ncap, ia, il, icap, rfl, _⟩ := hxi2
      have hbw := HB.out.trans (HB2.out.mono HB.out.size)
      have HRI : Hold (RD (cfN (.slice sa p scap) wr) x [.string x.id, .int .i64 k, .int .i64 n, .string t, .slice na nl ncap, .slice ia il icap]) := ⟨RD_mono _ _ _ _ (cle_cfN_old hbw (fun g hg => Nat.le_trans HB.out.size (HO.out.low g hg).1)) hxi⟩
      have HNX : Hold (ofD id (D.take (j + 1)) = if x.id = id then ofD id (D.take j) ++ [x] else ofD id (D.take j)) := ⟨ofD_next hx⟩
      have hcl := cle_below hbw
      have z0 := hcl _ _ _ (hc 0 _ rfl)
      have z1 := hcl _ _ _ (hc 1 _ rfl)
      have z2 := hcl _ _ _ (hc 2 _ rfl)
      have z3 := hcl _ _ _ (hc 3 _ rfl)
      have z4 := hcl _ _ _ (hc 4 _ rfl)
      have z5 := hcl _ _ _ (hc 5 _ rfl)
      unfold cf at z0 z1 z2 z3 z4 z5
      rw [Nat.add_zero] at z0
      clear hx hd hc hcl hxi hbw
      by_cases hxe : x.id = id
      · have e0 := strK_eq hxe
        cases gb with
        | true =>
          have HTK : Hold (ks = wantTo true id (D.take (j + 1))) := ⟨by rw [HKS.out]; rfl⟩
          rw [HTK.out] at HO
          clear hxe
          go_wp2_with fail
          exact ⟨⟨j + 1, p, cs, by go_num, hlt, HO.out, HB2.out⟩, by simp [intOf]; omega⟩
        | false =>
          have HTK : Hold (wantTo false id (D.take (j + 1)) = ks ++ [x]) := ⟨by rw [HKS.out]; show ofD id (D.take (j + 1)) = _; rw [HNX.out, if_pos hxe]; rfl⟩
          clear hxe
          go_wp2_with (at_builtin; refine push_new RD_mono rfl _ _ rfl infoDp Tryz.underlying29 rfl (by decide) _ _ _ p _ _ HO.out rfl _ [_, _, _, _, _, _] rfl rfl (by simp [Value.oneCell']) x HRI.out _ rfl rfl (by omega) (by decide) ?_)
          intro sl2 w8 ho8 hg8
          have HN : Hold (OwnS 6 RD 47 W.heap.size w8 sl2 (p + 1) (wantTo false id (D.take (j + 1))) _) := ⟨by rw [HTK.out]; exact ho8⟩
          have HW : Hold (Below W.heap.size W w8) := ⟨HB2.out.trans (HO.out.below hg8)⟩
          clear ho8 hg8 z0 z1 z2 z3 z4 z5
          go_wp2_with fail
          exact ⟨⟨j + 1, p + 1, _, by go_num, hlt, HN.out, HW.out⟩, by simp [intOf]; omega⟩
      · have e0 := str_ne hxe
        have HTK : Hold (ks = wantTo gb id (D.take (j + 1))) := ⟨by rw [HKS.out]; unfold wantTo; rw [HNX.out, if_neg hxe]⟩
        rw [HTK.out] at HO
        clear hxe
        go_wp2_with fail
        exact ⟨⟨j + 1, p, cs, by go_num, hlt, HO.out, HB2.out⟩, by simp [intOf]; omega⟩
    · obtain rfl : j = D.length := by omega
      rw [List.take_of_length_le (Nat.le_refl _)] at HKS
      replace HX := Hold.mk (keptR HX.out HB2.out)
      obtain ⟨y0, y1, y2, y3⟩ := cells4W HX.out
      go_upto_region 13 with (fail)
      go_cut [87] (fun s wx => s = .bool (gb && !gg) ∧ wx = wr)
      case first =>
        cases gb with
        | false =>
          go_wp2_with fail
          go_meet
          case rel => exact ⟨rfl, rfl⟩
        | true =>
          go_wp2_with fail
          go_meet
          case rel => exact ⟨by simp, rfl⟩
      case rest =>
      obtain ⟨rfl, hwc⟩ := hcut
      generalize wc = wd at *
      subst hwc
      rename World => wr
      go_upto_if 87 with (fail)
      clear y0 y1 y2 y3
      go_cut [11] (fun sl wx => BRel 47 W (wantE gb ⟨gs, gi, gg, gt⟩ id D) sl wx)
      case first =>
        obtain ⟨bt, hbt⟩ : ∃ bt, (gb && !gg) = bt := ⟨_, rfl⟩
        rw [hbt]
        have HBT := Hold.mk hbt
        clear hbt
        cases bt with
        | false =>
          have HR : Hold (BRel 47 W (wantE gb ⟨gs, gi, gg, gt⟩ id D) (.slice sa p scap) wr) := ⟨p, cs, by rw [wantE_false HBT.out, ← HKS.out]; exact HO.out, HB2.out⟩
          go_wp2_with fail
          go_meet
          case rel => exact HR.out
        | true =>
          obtain ⟨y0, y1, y2, y3⟩ := cells4W HX.out
          go_wp2_with fail
          refine (rRead_any gt wr hgs).mono ?_
          rintro e w8 ⟨hb8, xv, rfl, hj8⟩
          obtain ⟨xk, xn, xt, nm, it, na, ncap, ia, icap, hv, rfl, _⟩ := hj8.open
          have HVK : Hold ((readF gt.data.toList).1.kind = xk) := ⟨by rw [hv]; rfl⟩
          obtain ⟨W4, hW4⟩ : ∃ W4, W4 = w8.alloc (.cells #[.int .i64 xk, .int .i64 xn, .string xt, .slice na nm.length ncap, .slice ia it.length icap] 25) := ⟨_, rfl⟩
          have hb4 : Below w8.heap.size w8 W4 := by rw [hW4]; exact (Below.refl _ w8).alloc (Nat.le_refl _) _
          have HZ : Hold (W4.heap[w8.heap.size]? = some (.cells #[.int .i64 xk, .int .i64 xn, .string xt, .slice na nm.length ncap, .slice ia it.length icap] 25 (0, 0))) := ⟨by rw [hW4]; exact heap_alloc_new w8 _⟩
          have hb34 := hb8.trans (hb4.mono hb8.size)
          have HJ := Hold.mk ((hj8.mono (cfF_below hb4)).mono (cle_cfF_N (s := .slice sa p scap) (fun g hg => (HO.out.low g hg).2)))
          replace HO := Hold.mk (HO.out.quiet RD_mono hb34)
          replace HB2 := Hold.mk (HB2.out.trans (hb34.mono HB2.out.size))
          have HRI : Hold (RD (cfN (.slice sa p scap) W4) ⟨id, (readF gt.data.toList).1⟩ [.string id, .int .i64 xk, .int .i64 xn, .string xt, .slice na nm.length ncap, .slice ia it.length icap]) := ⟨_, _, _, _, _, _, _, _, _, rfl, by show id.size ≤ _; omega, HVK.out, HJ.out⟩
          have HTK : Hold (wantE gb ⟨gs, gi, gg, gt⟩ id D = ks ++ [⟨id, (readF gt.data.toList).1⟩]) := ⟨by rw [wantE_true HBT.out, HKS.out]⟩
          clear hb8 hb4 hb34 hj8 hv HVK HJ y0 y1 y2 y3
          go_upto_region 15 with (fail)
          rw [← hW4]
          clear hW4
          obtain ⟨z0, z1, z2, z3, z4⟩ := cells5R HZ.out
          go_wp2_with (at_builtin; refine push_new RD_mono rfl _ _ rfl infoDp Tryz.underlying29 rfl (by decide) _ _ _ p _ _ HO.out rfl _ [_, _, _, _, _, _] rfl rfl (by simp [Value.oneCell']) ⟨id, (readF gt.data.toList).1⟩ HRI.out _ rfl rfl (by omega) (by decide) ?_)
          intro sl2 w9 ho9 hg9
          have HR : Hold (BRel 47 W (wantE gb ⟨gs, gi, gg, gt⟩ id D) sl2 w9) := ⟨p + 1, _, by rw [HTK.out]; exact ho9, HB2.out.trans (HO.out.below hg9)⟩
          clear ho9 hg9 z0 z1 z2 z3 z4
          go_wp2_with fail
          go_meet
          case rel => exact HR.out
      case rest =>
      obtain ⟨p2, cs2, ho2, hb2⟩ := hcut
      obtain ⟨s2a, s2cap, rfl⟩ := ho2.shape
      have hlen2 := ho2.len
      have hwl2 : p2 ≤ 1000 := by have := wantE_len gb ⟨gs, gi, gg, gt⟩ id D; omega
      clear hlen2
      have HWV : Hold (SAt 6 RD (cf wc) (.slice s2a p2 s2cap) (wantE gb ⟨gs, gi, gg, gt⟩ id D)) := ⟨ho2.at_ RD_mono⟩
      replace HB := Hold.mk (HB.out.trans (hb2.mono HB.out.size))
      replace HPV := Hold.mk (HPV.out.mono RD_mono (cle_below hb2))
      have hwl3 : (wantE gb ⟨gs, gi, gg, gt⟩ id D).length ≤ 1000 := by have := wantE_len gb ⟨gs, gi, gg, gt⟩ id D; omega
      obtain ⟨we, hwe⟩ : ∃ we, wantE gb ⟨gs, gi, gg, gt⟩ id D = we := ⟨_, rfl⟩
      rw [hwe] at HWV HWL hwl3
      have HUP := Hold.mk HWL.out.2
      have HOF := Hold.mk HWL.out.1
      clear ho2 hb2 HO HB2 HKS HX HWL hwe
      generalize wc = W2 at *
      obtain ⟨a2, c2, e2, hple, hpcap, hpel⟩ := HPV.out
      cases e2
      have HPE := Hold.mk hpel
      clear hpel HPV
      have HO : Hold (OwnS 6 RD 47 W2.heap.size W2 (.slice none 0 0) 0 (ofD id (pr.take 0)) []) := ⟨OwnS.start _ _ _ (Nat.le_refl _)⟩
      go_wp2_with fail
      go_loopw [15, 16] (fun sl i wr => ∃ (j p : Nat) (cs : List Value), i = .int .i64 j ∧ j ≤ pr.length ∧ OwnS 6 RD 47 W2.heap.size wr sl p (ofD id (pr.take j)) cs ∧ Below W2.heap.size W2 wr) (fun _ i _ => pr.length - (intOf i).toNat)
      case atStart => exact ⟨0, 0, [], rfl, Nat.zero_le _, HO.out, Below.refl _ _⟩
      case round =>
        obtain ⟨j, p, cs, rfl, hj, hown, hbx⟩ := hrel
        clear HO
        obtain ⟨sa, scap, rfl⟩ := hown.shape
        have hpl2 : p ≤ 1000000 := by have := hown.len; have := ofD_len id (pr.take j); rw [List.length_take] at this; omega
        obtain ⟨ks, hks⟩ : ∃ ks, ks = ofD id (pr.take j) := ⟨_, rfl⟩
        rw [← hks] at hown
        have HO := Hold.mk hown
        have HB2 := Hold.mk hbx
        have HKS := Hold.mk hks
        clear hown hbx hks
        rename World => wq
        by_cases hlt : j < pr.length
        · obtain ⟨x, hx⟩ : ∃ x, pr[j]? = some x := ⟨pr[j], List.getElem?_eq_getElem hlt⟩
          obtain ⟨b, off, d, rfl, hd, hc, hxi⟩ := HPE.out j x hx
          have hxi2 := hxi
          obtain ⟨k, n, t, na, nl, ncap, ia, il, icap, rfl, _⟩ := hxi2
          have HRI : Hold (RD (cfN (.slice sa p scap) wq) x [.string x.id, .int .i64 k, .int .i64 n, .string t, .slice na nl ncap, .slice ia il icap]) := ⟨RD_mono _ _ _ _ (cle_cfN_old HB2.out (fun g hg => (HO.out.low g hg).1)) hxi⟩
          have HNX : Hold (ofD id (pr.take (j + 1)) = if x.id = id then ofD id (pr.take j) ++ [x] else ofD id (pr.take j)) := ⟨ofD_next hx⟩
          have HXE := Hold.mk hx
          have HC0 := Hold.mk (hc 0 _ rfl)
          have hcl := cle_below HB2.out
          have z0 := hcl _ _ _ (hc 0 _ rfl)
          have z1 := hcl _ _ _ (hc 1 _ rfl)
          have z2 := hcl _ _ _ (hc 2 _ rfl)
          have z3 := hcl _ _ _ (hc 3 _ rfl)
          have z4 := hcl _ _ _ (hc 4 _ rfl)
          have z5 := hcl _ _ _ (hc 5 _ rfl)
          unfold cf at z0 z1 z2 z3 z4 z5
          rw [Nat.add_zero] at z0
          clear hx hd hc hcl hxi
          go_upto_if 112 with (fail)
          go_cut [15] (fun sl wx => ∃ p' cs', OwnS 6 RD 47 W2.heap.size wx sl p' (ofD id (pr.take (j + 1))) cs' ∧ Below W2.heap.size W2 wx)
          case first =>
            obtain ⟨bq, hbq⟩ : ∃ bq, (x.id.toList == id.toList) = bq := ⟨_, rfl⟩
            rw [hbq]
            have HBQ := Hold.mk hbq
            clear hbq
            cases bq with
            | true =>
              have HTK : Hold (ofD id (pr.take (j + 1)) = ks ++ [x]) := ⟨by rw [HKS.out, HNX.out, if_pos (toList_eq HBQ.out)]⟩
              go_wp2_with (at_builtin; refine push_new RD_mono rfl _ _ rfl infoDp Tryz.underlying29 rfl (by decide) _ _ _ p _ _ HO.out rfl _ [_, _, _, _, _, _] rfl rfl (by simp [Value.oneCell']) x HRI.out _ rfl rfl (by omega) (by decide) ?_)
              intro sl2 w8 ho8 hg8
              have HN : Hold (∃ p' cs', OwnS 6 RD 47 W2.heap.size w8 sl2 p' (ofD id (pr.take (j + 1))) cs' ∧ Below W2.heap.size W2 w8) := ⟨p + 1, _, by rw [HTK.out]; exact ho8, HB2.out.trans (HO.out.below hg8)⟩
              clear ho8 hg8 z0 z1 z2 z3 z4 z5
              go_wp2_with fail
              go_meet
              case rel => exact HN.out
            | false =>
              have HTK : Hold (ofD id (pr.take (j + 1)) = ks) := ⟨by rw [HKS.out, HNX.out, if_neg (toList_ne HBQ.out)]⟩
              have HN : Hold (∃ p' cs', OwnS 6 RD 47 W2.heap.size wq (.slice sa p scap) p' (ofD id (pr.take (j + 1))) cs' ∧ Below W2.heap.size W2 wq) := ⟨p, cs, by rw [HTK.out]; exact HO.out, HB2.out⟩
              go_wp2_with fail
              go_meet
              case rel => exact HN.out
          case rest =>
            obtain ⟨p3, cs3, ho3, hb3⟩ := hcut
            obtain ⟨s3a, s3cap, rfl⟩ := ho3.shape
            have HO3 := Hold.mk ho3
            have HB3 := Hold.mk hb3
            clear ho3 hb3 HO HB2 HRI HKS z0 z1 z2 z3 z4 z5
            go_upto_region 22 with (fail)
            have z0 := cle_below HB3.out _ _ _ HC0.out
            unfold cf at z0
            rw [Nat.add_zero] at z0
            replace z0 := Grow.cell z0
            cases j with
            | zero =>
              refine wp_region_grow (by kernel_rfl) (by kernel_rfl) ?_
              repeat (go_big_quiet_step (fail))
              refine wpQuiet_nil ?_
              rintro ⟨w9, hb9⟩
              have HN := Hold.mk (HO3.out.quiet RD_mono hb9)
              have HW := Hold.mk (HB3.out.trans (hb9.mono HB3.out.size))
              simp only
              clear hb9 z0
              go_wp2_with fail
              exact ⟨⟨0 + 1, p3, cs3, by go_num, hlt, HN.out, HW.out⟩, by simp [intOf]; omega⟩
            | succ q =>
              obtain ⟨y, hy⟩ : ∃ y, pr[q]? = some y := ⟨pr[q], List.getElem?_eq_getElem (by omega)⟩
              obtain ⟨b2, off2, d2, e2, hd2, hc2, hxi2⟩ := HPE.out q y hy
              cases e2
              obtain ⟨k3, n3, t3, na3, nl3, ncap3, ia3, il3, icap3, rfl, _⟩ := hxi2
              have v0 := cle_below HB3.out _ _ _ (hc2 0 _ rfl)
              unfold cf at v0
              rw [Nat.add_zero] at v0
              replace v0 := Grow.cell v0
              have hlb : Op.bytesLess y.id.toList x.id.toList = true := up_next HUP.out hy HXE.out
              clear hy hd2 hc2
              refine wp_region_grow (by kernel_rfl) (by kernel_rfl) ?_
              repeat (go_big_quiet_step (fail))
              refine wpQuiet_nil ?_
              rintro ⟨w9, hb9⟩
              have HN := Hold.mk (HO3.out.quiet RD_mono hb9)
              have HW := Hold.mk (HB3.out.trans (hb9.mono HB3.out.size))
              simp only
              clear hb9 z0 v0
              go_wp2_with fail
              exact ⟨⟨q + 1 + 1, p3, cs3, by go_num, hlt, HN.out, HW.out⟩, by simp [intOf]; omega⟩
        · obtain rfl : j = pr.length := by omega
          rw [List.take_of_length_le (Nat.le_refl _), HOF.out] at HKS
          rw [HKS.out] at HO
          have HGV := Hold.mk (HO.out.at_ RD_mono)
          have HBW := Hold.mk (HB.out.trans (HB2.out.mono HB.out.size))
          replace HWV := Hold.mk (HWV.out.mono RD_mono (cle_below HB2.out))
          clear HO HB HB2 HKS HOF
          go_wp2_with fail
          refine (dplain_any we _ wq HGV.out (by omega)).mono ?_
          rintro e w9 ⟨tv, rfl, htv, hb9⟩
          obtain ⟨ta, tcap, rfl⟩ := htv.form
          have HTV := Hold.mk htv
          replace HBW := Hold.mk (HBW.out.trans (hb9.mono HBW.out.size))
          replace HWV := Hold.mk (HWV.out.mono RD_mono (cle_below hb9))
          clear htv hb9
          go_wp2_with fail
          refine (dplain_any we _ w9 HWV.out (by omega)).mono ?_
          rintro e w10 ⟨uv, rfl, huv, hb10⟩
          obtain ⟨ua, ucap, rfl⟩ := huv.form
          have HUV := Hold.mk huv
          replace HBW := Hold.mk (HBW.out.trans (hb10.mono HBW.out.size))
          replace HTV := Hold.mk (HTV.out.mono RD_mono (cle_below hb10))
          clear huv hb10
          go_wp2_with fail
          refine (dSame_eq we _ _ w10 HTV.out HUV.out).mono ?_
          rintro e w11 ⟨rfl, hb11⟩
          have HBF := HBW.out.trans (hb11.mono HBW.out.size)
          clear hb11
          go_wp2_with fail
          go_ret
          exact ⟨rfl, HBF⟩

end Go.Proofs.YtkhhbckpddkhlaaGreatDoor
