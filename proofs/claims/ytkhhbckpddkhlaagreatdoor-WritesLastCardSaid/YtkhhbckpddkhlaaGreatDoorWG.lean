/- Writes: Put of the program. -/
import Derived.Test.YtkhhbckpddkhlaaGreatDoorWE
import Derived.Test.YtkhhbckpddkhlaaGreatDoorWF
namespace Go.Proofs.YtkhhbckpddkhlaaGreatDoor
open Go.Shelf Go.RowKit

/-- what Put answers -/
noncomputable def putWE (l : List WR) (x : WR) : Int := match formedW l && oneF x with
  | false => 2
  | true => match foundW x l with
    | true => 0
    | false => if l.length = 12 then 3 else 0
open Classical in
noncomputable def putWR (l : List WR) (x : WR) : List WR := if putWE l x = 0 then putWL x l else []
def PutPost (l : List WR) (x : WR) (w : World) (e : Ending) (w' : World) : Prop := ∃ sv, e = .returned (.tuple #[sv, .int .i64 (putWE l x)]) ∧ SAt 4 RW (cf w') sv (putWR l x) ∧ Below w.heap.size w w'
theorem put_bad {l : List WR} {x : WR} {w w' : World} {n : Int} (h : putWE l x = n) (hn : n ≠ 0) (hb : Below w.heap.size w w') : PutPost l x w (.returned (.tuple #[.slice none 0 0, .int .i64 n])) w' :=
  ⟨_, by rw [h], by unfold putWR; rw [h, if_neg hn]; exact SAt.none _ _ _, hb⟩
theorem put_fine {l : List WR} {x : WR} {w w' : World} {sv : Value} (h : putWE l x = 0) (hs : SAt 4 RW (cf w') sv (putWL x l)) (hb : Below w.heap.size w w') : PutPost l x w (.returned (.tuple #[sv, .int .i64 0])) w' :=
  ⟨_, by rw [h], by unfold putWR; rw [if_pos h]; exact hs, hb⟩
theorem foundW_lt {x : WR} {l : List WR} (h : foundW x l = true) : placeW x l < l.length := by
  rcases Nat.lt_or_ge (placeW x l) l.length with h1 | h1
  · exact h1
  · unfold foundW at h; rw [List.getElem?_eq_none h1] at h; cases h
theorem putWL_set {x : WR} {l : List WR} (h : foundW x l = true) : putWL x l = l.set (placeW x l) x := by
  have hl := foundW_lt h
  unfold putWL; rw [h]
  rw [List.set_eq_take_append_cons_drop, if_pos hl]
theorem putWL_ins {x : WR} {l : List WR} (h : foundW x l = false) : putWL x l = l.take (placeW x l) ++ x :: l.drop (placeW x l) := by
  unfold putWL; rw [h]
theorem putWL_len {x : WR} {l : List WR} : (putWL x l).length = if foundW x l = true then l.length else l.length + 1 := by
  have hp := placeW_le x l
  cases h : foundW x l with
  | true =>
    rw [putWL_set h]; simp
  | false =>
    rw [putWL_ins h]; simp; omega

/-- four cells of a row of one's own are stored -/
def set4W (w : World) (g o : Nat) (x : WR) : World := (((w.setCell ⟨g, o, none⟩ (.int .i64 x.sp)).setCell ⟨g, o + 1, none⟩ (.string x.id)).setCell ⟨g, o + 2, none⟩ (.bool x.gone)).setCell ⟨g, o + 3, none⟩ (.string x.text)
theorem GRow.setW {c : CF} {l : List WR} {cs : List Value} {x : WR} {k : Nat} (h : GRow 4 RW c l cs) (hk : k < l.length) (hx : RW c x x.cells.toList) :
    GRow 4 RW c (l.set k x) ((((cs.set (k * 4) (.int .i64 x.sp)).set (k * 4 + 1) (.string x.id)).set (k * 4 + 2) (.bool x.gone)).set (k * 4 + 3) (.string x.text)) := by
  have hcl := h.1
  refine ⟨by simp [hcl], fun i y hy => ?_⟩
  by_cases e : i = k
  · subst e
    rw [List.getElem?_set_self hk] at hy
    obtain rfl := Option.some.inj hy
    refine ⟨x.cells.toList, rfl, fun j u hu => ?_, hx⟩
    have hj : j < 4 := (List.getElem?_eq_some_iff.1 hu).1
    match j, hj, hu with
    | 0, _, hu => simp [WR.cells] at hu; subst hu; simp [List.getElem?_set]; omega
    | 1, _, hu => simp [WR.cells] at hu; subst hu; simp [List.getElem?_set]; omega
    | 2, _, hu => simp [WR.cells] at hu; subst hu; simp [List.getElem?_set]; omega
    | 3, _, hu => simp [WR.cells] at hu; subst hu; simp [List.getElem?_set]; omega
  · rw [List.getElem?_set_ne (fun h => e h.symm)] at hy
    obtain ⟨d, h1, h2, h3⟩ := h.2 i y hy
    refine ⟨d, h1, fun j u hu => ?_, h3⟩
    have hj : j < 4 := by rw [← h1]; exact (List.getElem?_eq_some_iff.1 hu).1
    rw [List.getElem?_set_ne (by omega), List.getElem?_set_ne (by omega), List.getElem?_set_ne (by omega), List.getElem?_set_ne (by omega)]
    exact h2 j u hu
theorem RW.any {c c' : CF} {x : WR} {d : List Value} (h : RW c x d) : RW c' x d := h
theorem GRow.anyW {c c' : CF} {l : List WR} {cs : List Value} (h : GRow 4 RW c l cs) : GRow 4 RW c' l cs := ⟨h.1, fun i x hx => by
  obtain ⟨d, h1, h2, h3⟩ := h.2 i x hx
  exact ⟨d, h1, h2, h3.any⟩⟩
theorem OwnS.setW {T : TypeId} {B : Nat} {w : World} {g p cap : Nat} {l : List WR} {cs : List Value} {x : WR} {k : Nat} (h : OwnS 4 RW T B w (.slice (some ⟨g, 0, none⟩) p cap) p l cs) (hk : k < p) (hx : ∀ c, RW c x x.cells.toList) :
    (∃ cs', OwnS 4 RW T B (set4W w g (k * 4) x) (.slice (some ⟨g, 0, none⟩) p cap) p (l.set k x) cs') ∧ w.grownBy (set4W w g (k * 4) x) (some g) := by
  have h1 := h.own.stored (k * 4) (.int .i64 x.sp)
  have h2 := h1.1.stored (k * 4 + 1) (.string x.id)
  have h3 := h2.1.stored (k * 4 + 2) (.bool x.gone)
  have h4 := h3.1.stored (k * 4 + 3) (.string x.text)
  have hg : w.grownBy (set4W w g (k * 4) x) (some g) := by
    refine ⟨?_, ?_, ?_, ?_, ?_⟩
    · exact h4.2.os.trans (h3.2.os.trans (h2.2.os.trans h1.2.os))
    · exact h4.2.tape.trans (h3.2.tape.trans (h2.2.tape.trans h1.2.tape))
    · exact h4.2.output.trans (h3.2.output.trans (h2.2.output.trans h1.2.output))
    · exact Nat.le_trans h1.2.size (Nat.le_trans h2.2.size (Nat.le_trans h3.2.size h4.2.size))
    · intro q hq hne
      have s1 := h1.2.size
      have s2 := h2.2.size
      have s3 := h3.2.size
      rw [set4W, h4.2.block q (by omega) hne, h3.2.block q (by omega) hne, h2.2.block q (by omega) hne, h1.2.block q hq hne]
  have hrow : GRow 4 RW (cfN (.slice (some ⟨g, 0, none⟩) p cap) (set4W w g (k * 4) x)) l cs := h.row.anyW
  have hlen : k < l.length := by rw [h.len]; exact hk
  have hle := Nat.le_trans h.le hg.size
  have h41 := h4.1
  have hs : set4W w g (k * 4) x = (((w.setCell ⟨g, k * 4, none⟩ (.int .i64 x.sp)).setCell ⟨g, k * 4 + 1, none⟩ (.string x.id)).setCell ⟨g, k * 4 + 2, none⟩ (.bool x.gone)).setCell ⟨g, k * 4 + 3, none⟩ (.string x.text) := rfl
  rw [← hs] at h41
  have hr := GRow.setW hrow hlen (hx _)
  have hl2 : (l.set k x).length = p := by rw [List.length_set]; exact h.len
  clear hs h1 h2 h3 h4 hrow
  generalize set4W w g (k * 4) x = W at *
  exact ⟨⟨_, ⟨h41, hl2, hr, hle⟩⟩, hg⟩

theorem OwnS.insW {T : TypeId} {B : Nat} {w w' : World} {sl sl' : Value} {p k : Nat} {l : List WR} {cs : List Value} {x : WR} (h : OwnS 4 RW T B w sl p l cs) (hk : k ≤ p) (hx : ∀ c, RW c x x.cells.toList)
    (ho : w'.ownsRow B T 4 sl' (p + 1) (cs.take (k * 4) ++ x.cells.toList ++ cs.drop (k * 4))) (hb : w.heap.size ≤ w'.heap.size) : OwnS 4 RW T B w' sl' (p + 1) (l.take k ++ x :: l.drop k) (cs.take (k * 4) ++ x.cells.toList ++ cs.drop (k * 4)) := by
  have hcl := h.row.1
  have hlen := h.len
  have t1 : GRow 4 RW (cfN sl' w') (l.take k) (cs.take (k * 4)) := by
    refine ⟨by rw [List.length_take, List.length_take, hcl]; omega, fun i y hy => ?_⟩
    rw [List.getElem?_take] at hy
    split at hy
    · rename_i hik
      obtain ⟨d, h1, h2, h3⟩ := h.row.2 i y hy
      refine ⟨d, h1, fun j u hu => ?_, h3.any⟩
      have hj : j < 4 := by rw [← h1]; exact (List.getElem?_eq_some_iff.1 hu).1
      rw [List.getElem?_take, if_pos (by omega)]; exact h2 j u hu
    · cases hy
  have t2 : GRow 4 RW (cfN sl' w') [x] x.cells.toList := by
    have := (GRow.nil 4 RW (cfN sl' w')).snoc (d := x.cells.toList) (x := x) rfl (hx _)
    simpa using this
  have t3 : GRow 4 RW (cfN sl' w') (l.drop k) (cs.drop (k * 4)) := by
    refine ⟨by rw [List.length_drop, List.length_drop, hcl]; omega, fun i y hy => ?_⟩
    rw [List.getElem?_drop] at hy
    obtain ⟨d, h1, h2, h3⟩ := h.row.2 (k + i) y hy
    refine ⟨d, h1, fun j u hu => ?_, h3.any⟩
    rw [List.getElem?_drop, show k * 4 + (i * 4 + j) = (k + i) * 4 + j by omega]; exact h2 j u hu
  refine ⟨ho, by simp; omega, ?_, Nat.le_trans h.le hb⟩
  have := (t1.app t2).app t3
  simpa using this
theorem OwnS.onesW {T : TypeId} {B : Nat} {w : World} {sl : Value} {p : Nat} {l : List WR} {cs : List Value} (h : OwnS 4 RW T B w sl p l cs) : ∀ u ∈ cs, u.oneCell' = true := by
  intro u hu
  obtain ⟨i, hi, rfl⟩ := List.getElem_of_mem hu
  have hcl := h.row.1
  obtain ⟨y, hy⟩ : ∃ y, l[i / 4]? = some y := ⟨_, List.getElem?_eq_getElem (by omega)⟩
  obtain ⟨d, h1, h2, h3⟩ := h.row.2 _ y hy
  have := h2 (i % 4) (d[i % 4]'(by omega)) (List.getElem?_eq_getElem _)
  rw [show i / 4 * 4 + i % 4 = i by omega, List.getElem?_eq_getElem hi] at this
  rw [Option.some.inj this]
  exact RW_one _ _ _ h3 _ (List.getElem_mem _)

theorem put_er {l : List WR} {x : WR} (h : (formedW l && oneF x) = false) : putWE l x = 2 := by unfold putWE; rw [h]
theorem put_found {l : List WR} {x : WR} (h1 : formedW l = true) (h2 : oneF x = true) (h : foundW x l = true) : putWE l x = 0 := by unfold putWE; rw [h1, h2, h]; rfl
theorem put_full {l : List WR} {x : WR} (h1 : formedW l = true) (h2 : oneF x = true) (h : foundW x l = false) (hl : l.length = 12) : putWE l x = 3 := by unfold putWE; rw [h1, h2, h]; simp [hl]
theorem put_room {l : List WR} {x : WR} (h1 : formedW l = true) (h2 : oneF x = true) (h : foundW x l = false) (hl : l.length ≠ 12) : putWE l x = 0 := by unfold putWE; rw [h1, h2, h]; simp [hl]
open Classical in
theorem formedW_up {l : List WR} (h : formedW l = true) : upW l ∧ l.length ≤ 12 := by
  unfold formedW at h
  have := of_decide_eq_true h
  exact ⟨up_of_formed this.1, this.2⟩

set_option maxRecDepth 100000 in
set_option maxHeartbeats 16000000 in
theorem wPut_any (l : List WR) (lv : Value) (x : WR) (w : World) (hl : SAt 4 RW (cf w) lv l) (hsm : ∀ y ∈ l, y.id.size ≤ 1000000 ∧ y.text.size ≤ 1000000) (hxi : x.id.size ≤ 1000000) (hxt : x.text.size ≤ 1000000) (hxs : (Lit.int .i64 x.sp).wf = true) (hT : Tabs w) (hP : Pow w.heap.size w) (hE : Errs w.heap.size w) :
    Calls Tryz.prog 31 #[lv, .agg x.cells] w (PutPost l x w) := by
  have HRX : Hold (∀ c, RW c x x.cells.toList) := ⟨fun c => ⟨rfl, by omega, by omega, hxs⟩⟩
  have HLV := Hold.mk hl
  obtain ⟨la, lcap, rfl, hle, hcap, _⟩ := hl
  obtain ⟨s, i, g, t⟩ := x
  unfold WR.cells at HRX ⊢
  simp only at hxi hxt hxs HRX ⊢
  obtain ⟨W, hW⟩ : ∃ W, W = w.alloc (.cells #[.int .i64 s, .string i, .bool g, .string t] 58) := ⟨_, rfl⟩
  have hb : Below w.heap.size w W := by rw [hW]; exact (Below.refl _ w).alloc (Nat.le_refl _) _
  have HX : Hold (W.heap[w.heap.size]? = some (.cells #[.int .i64 s, .string i, .bool g, .string t] 58 (0, 0))) := ⟨by rw [hW]; exact heap_alloc_new w _⟩
  have HB := Hold.mk hb
  have HF := Hold.mk (wFormed_any l _ W (HLV.out.mono RW_mono (cle_below hb)) hsm (hT.below hb) (Pow.below hP hb) (errs_after hE hb))
  have HT := Hold.mk hT
  have HP := Hold.mk hP
  have HE := Hold.mk hE
  clear hb hT hP hE hsm
  go_enter Tryz.func31, Tryz.ntmps31
  go_upto_region 1 with (fail)
  rw [← hW]
  clear hW
  go_wp2_with fail
  refine HF.out.mono ?_
  rintro e w2 ⟨rfl, hb2⟩
  replace HB := Hold.mk (HB.out.trans (hb2.mono HB.out.size))
  replace HX := Hold.mk (keptR HX.out hb2)
  clear hb2 HF
  obtain ⟨fm, hfm⟩ : ∃ fm, formedW l = fm := ⟨_, rfl⟩
  rw [hfm]
  have HFM := Hold.mk hfm
  clear hfm
  cases fm with
  | false =>
    have HR := Hold.mk (put_er (l := l) (x := ⟨s, i, g, t⟩) (by rw [HFM.out]; rfl))
    have HBF := HB.out
    go_wp2_with fail
    go_ret2
    exact put_bad HR.out (by decide) HBF
  | true =>
  obtain ⟨y0, y1, y2, y3⟩ := cells4W HX.out
  go_wp2_with fail
  clear y0 y1 y2 y3
  refine (One_any ⟨s, i, g, t⟩ w2 hxi hxt (HT.out.below HB.out) (Pow.below HP.out HB.out) (errs_after HE.out HB.out)).mono ?_
  rintro e w3 ⟨rfl, hb3⟩
  replace HB := Hold.mk (HB.out.trans (hb3.mono HB.out.size))
  replace HX := Hold.mk (keptR HX.out hb3)
  clear hb3
  obtain ⟨on, hon⟩ : ∃ on, oneF ⟨s, i, g, t⟩ = on := ⟨_, rfl⟩
  rw [hon]
  have HON := Hold.mk hon
  clear hon
  cases on with
  | false =>
    have HR := Hold.mk (put_er (l := l) (x := ⟨s, i, g, t⟩) (by rw [HFM.out, HON.out]; rfl))
    have HBF := HB.out
    go_wp2_with fail
    go_ret2
    exact put_bad HR.out (by decide) HBF
  | true =>
  obtain ⟨hup, hl12⟩ := formedW_up HFM.out
  have HUP := Hold.mk hup
  clear hup
  have HCL := Hold.mk (wclone_any l _ w3 (HLV.out.mono RW_mono (cle_below HB.out)) (by omega))
  go_wp2_with fail
  refine HCL.out.mono ?_
  rintro e w4 ⟨sv, cs, rfl, ho4, hb4⟩
  obtain ⟨sa, scap, rfl⟩ := ho4.shape
  have HO := Hold.mk ho4
  have HBO := Hold.mk hb4
  replace HB := Hold.mk (HB.out.trans (hb4.mono HB.out.size))
  have hsz : w.heap.size < w3.heap.size := ltR HX.out
  replace HX := Hold.mk (keptR HX.out hb4)
  clear hb4 ho4 HCL
  have HS := Hold.mk (wsearch_any l ⟨s, i, g, t⟩ _ w4 (HO.out.at_ RW_mono) HUP.out (by omega))
  obtain ⟨k, hk⟩ : ∃ k, placeW ⟨s, i, g, t⟩ l = k := ⟨_, rfl⟩
  obtain ⟨fd, hfd⟩ : ∃ fd, foundW ⟨s, i, g, t⟩ l = fd := ⟨_, rfl⟩
  rw [hk, hfd] at HS
  have hkl : k ≤ l.length := by rw [← hk]; exact placeW_le _ _
  have HK := Hold.mk hk
  have HFD := Hold.mk hfd
  clear hk hfd
  obtain ⟨y0, y1, y2, y3⟩ := cells4W HX.out
  go_wp2_with fail
  clear y0 y1 y2 y3
  refine HS.out.mono ?_
  rintro e w5 ⟨rfl, hb5⟩
  replace HB := Hold.mk (HB.out.trans (hb5.mono HB.out.size))
  replace HX := Hold.mk (keptR HX.out hb5)
  replace HO := Hold.mk (HO.out.quiet RW_mono hb5)
  clear hb5 HS HBO
  obtain ⟨y0, y1, y2, y3⟩ := cells4W HX.out
  cases fd with
  | true =>
    have hlt : k < l.length := by rw [← HK.out]; exact foundW_lt HFD.out
    obtain ⟨b, rfl⟩ : ∃ b, sa = some ⟨b, 0, none⟩ := by
      rcases HO.out.own.2 with ⟨hv, hn⟩ | ⟨b, cap, cur, hv, _⟩
      · omega
      · simp at hv; exact ⟨b, hv.1⟩
    have hbw := HO.out.low b rfl
    obtain ⟨⟨cs2, ho6⟩, hg6⟩ := HO.out.setW (x := ⟨s, i, g, t⟩) hlt HRX.out
    have HR := Hold.mk (put_found (x := ⟨s, i, g, t⟩) HFM.out HON.out HFD.out)
    have hbl : Below w.heap.size w (set4W w5 b (k * 4) ⟨s, i, g, t⟩) := HB.out.grown hg6 HB.out.size (fun q hq => by
      obtain rfl := Option.some.inj hq; omega)
    have HPF : Hold (PutPost l ⟨s, i, g, t⟩ w (.returned (.tuple #[.slice (some ⟨b, 0, none⟩) l.length scap, .int .i64 0])) (set4W w5 b (k * 4) ⟨s, i, g, t⟩)) := ⟨put_fine HR.out (by
      rw [putWL_set HFD.out, HK.out]; exact ho6.at_ RW_mono) hbl⟩
    have c0 := HO.out.own.cellAt (k * 4) (by omega)
    have c1 := HO.out.own.cellAt (k * 4 + 1) (by omega)
    have c2 := HO.out.own.cellAt (k * 4 + 2) (by omega)
    have c3 := HO.out.own.cellAt (k * 4 + 3) (by omega)
    have hcl := HO.out.own.1
    rw [List.getElem?_eq_getElem (by omega)] at c0 c1 c2 c3
    have f0 := HO.out.own.frozenAt (k * 4)
    have f1 := HO.out.own.frozenAt (k * 4 + 1)
    have f2 := HO.out.own.frozenAt (k * 4 + 2)
    have f3 := HO.out.own.frozenAt (k * 4 + 3)
    generalize cs[k * 4] = v0 at c0
    generalize cs[k * 4 + 1] = v1 at c1
    generalize cs[k * 4 + 2] = v2 at c2
    generalize cs[k * 4 + 3] = v3 at c3
    clear ho6 hg6 hbl hcl hbw
    unfold set4W at HPF
    simp only at HPF
    go_wp2_with fail
    go_ret2
    exact HPF.out
  | false =>
    by_cases h12 : l.length = 12
    · have HR := Hold.mk (put_full (x := ⟨s, i, g, t⟩) HFM.out HON.out HFD.out h12)
      have k12 : (l.length : Int) = 12 := by omega
      have HBF := HB.out
      go_wp2_with fail
      go_ret2
      exact put_bad HR.out (by decide) HBF
    · have HR := Hold.mk (put_room (x := ⟨s, i, g, t⟩) HFM.out HON.out HFD.out h12)
      have k12 : ¬ (l.length : Int) = 12 := by omega
      have HON6 := HO.out.alloc RW_mono (.cells #[.int .i64 s, .string i, .bool g, .string t] 58)
      have hne : Value.ownBlock (.slice sa l.length scap) ≠ some w5.heap.size := fun e => by have := (HO.out.low _ e).2; omega
      have HIN := Hold.mk (insWr_any _ _ _ _ _ HON6.own k hkl w5.heap.size [.int .i64 s, .string i, .bool g, .string t] (heap_alloc_new w5 _) rfl (by simp [Value.oneCell']) HON6.onesW HON6.le (by omega) hne)
      replace HON6 := Hold.mk HON6
      have HBA := Hold.mk (HB.out.alloc HB.out.size (.cells #[.int .i64 s, .string i, .bool g, .string t] 58))
      clear hne h12
      go_wp2_with fail
      refine HIN.out.mono ?_
      rintro e w7 ⟨sl', rfl, ho7, hg7, hn7⟩
      have ho8 := HON6.out.insW (x := ⟨s, i, g, t⟩) hkl HRX.out ho7 hg7.size
      obtain ⟨da, dcap, rfl⟩ := ho8.shape
      have hbl : Below w.heap.size w w7 := HBA.out.grown hg7 HBA.out.size (fun q hq => by have := (HO.out.low q hq).1; omega)
      have HPF : Hold (PutPost l ⟨s, i, g, t⟩ w (.returned (.tuple #[.slice da (l.length + 1) dcap, .int .i64 0])) w7) := ⟨put_fine HR.out (by
        rw [putWL_ins HFD.out, HK.out]; exact ho8.at_ RW_mono) hbl⟩
      clear ho7 hg7 hn7 ho8 hbl HIN y0 y1 y2 y3
      go_wp2_with fail
      go_ret2
      exact HPF.out

end Go.Proofs.YtkhhbckpddkhlaaGreatDoor
