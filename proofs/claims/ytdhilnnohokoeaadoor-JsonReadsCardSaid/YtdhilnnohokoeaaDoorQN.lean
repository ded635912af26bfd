/- The reader of the reference: object. (printed by genXQN.py) -/
import Derived.Test.YtdhilnnohokoeaaDoorQM
import Derived.Test.YtdhilnnohokoeaaDoorRY
namespace Go.Proofs.YtdhilnnohokoeaaDoor
open Go.Shelf Go.RowKit

theorem strs_raw {c : CF} {v : Value} {nm : List ByteArray} (h : SAt 1 RS c v nm) : StrsAt c v nm := by
  obtain ⟨a, cap, rfl, hle, hcap, hel⟩ := h
  refine ⟨a, cap, rfl, by omega, fun i s hi => ?_⟩
  obtain ⟨b, off, d, rfl, _, hc, rfl, hs⟩ := hel i s hi
  exact ⟨hs, b, off, rfl, by simpa using hc 0 _ rfl⟩
/-- the object under way -/
structure OV (B : Nat) (nv iv : Value) (nm : List ByteArray) (ls : List (List Value)) (w : World) : Prop where
  box : w.heap[B + 1]? = some (.cells #[.int .i64 6, .int .i64 0, .string ⟨#[]⟩, nv, iv] 26 (0, 0))
  res : w.heap[B]? = some (.cells zero5R 26 (0, 0))
  nam : SAt 1 RS (cfF (B + 2) w) nv nm
  itm : SAt 5 Raw5 (cfF (B + 2) w) iv ls
  len : ls.length = nm.length
theorem OV.but {B : Nat} {nv iv : Value} {nm : List ByteArray} {ls : List (List Value)} {w w' : World} (h : OV B nv iv nm ls w) {b : Nat} (hb : But b w w') (hbB : b < B) : OV B nv iv nm ls w' :=
  ⟨But.keep hb h.box (by omega), But.keep hb h.res (by omega), h.nam.mono RS_mono (cfF_but hb (by omega)), h.itm.mono Raw5_mono (cfF_but hb (by omega)), h.len⟩
theorem OV.start {w : World} (W : World) (hW : W = (w.alloc (.cells zero5R 26)).alloc (.cells (kind5 6) 26)) : OV w.heap.size (.slice none 0 0) (.slice none 0 0) [] [] W := by
  subst hW
  refine ⟨?_, kept (heap_alloc_new w _) ((Below.refl _ _).alloc (Nat.le_refl _) _), SAt.none _ _ _, SAt.none _ _ _, rfl⟩
  have := heap_alloc_new (w.alloc (.cells zero5R 26)) (.cells (kind5 6) 26)
  simpa using this
theorem OV.set {B : Nat} {nv iv nv' iv' : Value} {nm nm' : List ByteArray} {ls ls' : List (List Value)} {w w' : World} {b : Nat} (h : OV B nv iv nm ls w) (hb : But b w w') (hbB : b < B) (hn : SAt 1 RS (cfF (B + 2) w') nv' nm') (hi : SAt 5 Raw5 (cfF (B + 2) w') iv' ls') (hl : ls'.length = nm'.length) :
    OV B nv' iv' nm' ls' (set5R w' (B + 1) (.int .i64 6) (.int .i64 0) (.string ⟨#[]⟩) nv' iv') :=
  ⟨set5R_self (h.but hb hbB).box, But.keep (set5R_but _ _ _ _ _ _ _) (h.but hb hbB).res (by omega), hn.mono RS_mono (cfF_but (set5R_but _ _ _ _ _ _ _) (by omega)), hi.mono Raw5_mono (cfF_but (set5R_but _ _ _ _ _ _ _) (by omega)), hl⟩
theorem OV.done {B : Nat} {nv iv : Value} {nm : List ByteArray} {ls : List (List Value)} {xs : List JV} {w : World} (h : OV B nv iv nm ls w) (hv : Vals (cfF (B + 2) w) xs ls) : JAt (cfF (B + 2) w) (.mk 6 0 ⟨#[]⟩ nm xs) (.agg #[.int .i64 6, .int .i64 0, .string ⟨#[]⟩, nv, iv]) :=
  JAt.shut (by kernel_rfl) (by kernel_rfl) (by decide) (strs_raw h.nam) (items_raw h.itm hv (CLe.refl _))
theorem OV.shape {B : Nat} {nv iv : Value} {nm : List ByteArray} {ls : List (List Value)} {w : World} (h : OV B nv iv nm ls w) : ∃ na nc ia ic, nv = .slice na nm.length nc ∧ iv = .slice ia ls.length ic := by
  obtain ⟨na, nc, e, _⟩ := h.nam
  obtain ⟨ia, ic, e2, _⟩ := h.itm
  exact ⟨na, nc, ia, ic, e, e2⟩
theorem Vals.ins {c : CF} {xs : List JV} {ls : List (List Value)} {x : JV} {l : List Value} (h : Vals c xs ls) (hx : JAt c x (.agg l.toArray)) (k : Nat) (hk : k ≤ xs.length) : Vals c (insA k x xs) (insA k l ls) := by
  have hl := h.1
  refine ⟨by rw [insA_len _ _ _ hk, insA_len _ _ _ (by omega), hl], fun i y m hy hm => ?_⟩
  unfold insA at hy hm
  have hk1 : (xs.take k).length = k := by rw [List.length_take]; omega
  have hk2 : (ls.take k).length = k := by rw [List.length_take]; omega
  by_cases hi : i < k
  · rw [List.getElem?_append_left (by omega), List.getElem?_take_of_lt hi] at hy hm
    exact h.2 i y m hy hm
  · rw [List.getElem?_append_right (by omega), hk1] at hy
    rw [List.getElem?_append_right (by omega), hk2] at hm
    cases he : i - k with
    | zero =>
      rw [he] at hy hm
      obtain rfl : x = y := by simpa using hy
      obtain rfl : l = m := by simpa using hm
      exact hx
    | succ q =>
      rw [he, List.getElem?_cons_succ, List.getElem?_drop] at hy hm
      exact h.2 (k + q) y m hy hm

/-- the loop: what is still to be read tells the whole -/
def OInv (b : Nat) (s : ByteArray) (n : Nat) (R : Option (JV × List UInt8)) (w : World) (g : Nat) (wr : World) : Prop :=
  But b w wr ∧ ∃ (bd : Bool) (j : Nat) (nv iv : Value) (nm : List ByteArray) (xs : List JV) (ls : List (List Value)), RC b s j bd wr ∧ OV w.heap.size nv iv nm ls wr ∧ nm.length ≤ s.size + 1 ∧
    (bd = false → s.size - j + 1 ≤ g ∧ nm.length ≤ j ∧ nm.length ≤ s.size ∧ upN nm ∧ Vals (cfF (w.heap.size + 2) wr) xs ls ∧ ∃ m, m ≤ n ∧ 2 * (s.size - j) + 2 ≤ m ∧ objL m (dl s j) nm xs = R) ∧ (bd = true → R = none)
/-- a member was read, and laid -/
def ONxt (b : Nat) (s : ByteArray) (R : Option (JV × List UInt8)) (w : World) (m j : Nat) (wx : World) : Prop :=
  But b w wx ∧ ∃ (bd : Bool) (j3 : Nat) (nv iv : Value) (nm : List ByteArray) (xs : List JV) (ls : List (List Value)), RC b s j3 bd wx ∧ OV w.heap.size nv iv nm ls wx ∧ nm.length ≤ s.size + 1 ∧
    (bd = false → j < j3 ∧ nm.length ≤ j3 ∧ nm.length ≤ s.size ∧ upN nm ∧ Vals (cfF (w.heap.size + 2) wx) xs ls ∧ ∃ r, dl s j3 = skipL r ∧ tailL m 6 r nm xs = R) ∧ (bd = true → R = none)
theorem obj_skip (m : Nat) (l l' : List UInt8) (nm : List ByteArray) (xs : List JV) (h : skipL l = skipL l') : objL (m + 1) l nm xs = objL (m + 1) l' nm xs := by rw [objL, objL, h]
/-- the end of an object -/
theorem obj_fin {b : Nat} {s : ByteArray} {R : Option (JV × List UInt8)} {w w1 w2 : World} {nv iv : Value} {nm : List ByteArray} {xs : List JV} {ls : List (List Value)} {bd no' : Bool} {j k : Nat} (h : OV w.heap.size nv iv nm ls w1) (hb : But b w w1) (hbw : b < w.heap.size) (hb2 : But b w1 w2) (hr : RC b s k no' w2)
    (h1 : bd = false → Vals (cfF (w.heap.size + 2) w1) xs ls ∧ ∃ r, dl s j = skipL r ∧ endL 6 r nm xs = R) (h2 : bd = true → R = none)
    (hf : no' = false → bd = false ∧ wordL (⟨#[125]⟩ : ByteArray).data.toList (dl s j) = some (dl s k)) (ht : no' = true → bd = true ∨ wordL (⟨#[125]⟩ : ByteArray).data.toList (dl s j) = none) :
    ∃ W2, W2 = set5R w2 w.heap.size (.int .i64 6) (.int .i64 0) (.string ⟨#[]⟩) nv iv ∧ W2.heap[w.heap.size]? = some (.cells #[.int .i64 6, .int .i64 0, .string ⟨#[]⟩, nv, iv] 26 (0, 0)) ∧ RResPost b s R w (.returned (.agg #[.int .i64 6, .int .i64 0, .string ⟨#[]⟩, nv, iv])) W2 := by
  have h' := h.but hb2 hbw
  refine ⟨_, rfl, set5R_self h'.res, But.own (hb.trans hb2) (Nat.le_refl _) (set5R_but _ _ _ _ _ _ _), no', _, k, rfl, ?_, ⟨?_, hr.le⟩, fun e => ?_, fun e => ?_⟩
  · obtain ⟨_, _, _, _, e1, e2⟩ := h.shape
    exact ⟨_, _, _, _, _, _, _, _, _, by rw [e1, e2]⟩
  · exact But.keep (set5R_but _ _ _ _ _ _ _) hr.box (by omega)
  · obtain ⟨e1, e2⟩ := hf e
    obtain ⟨hv, r, hr1, hr2⟩ := h1 e1
    have e3 := wordL_some e2
    refine ⟨.mk 6 0 ⟨#[]⟩ nm xs, by rw [← hr2, end_some (r := dl s k) (by rw [← hr1, e3]; rfl)], ?_⟩
    have hj := h'.done (hv.mono (cfF_but hb2 (by omega)))
    exact (hj.mono (cfF_but (set5R_but _ _ _ _ _ _ _) (by omega))).mono (cfF_le _ (by omega))
  · cases hbd : bd with
    | true => exact h2 hbd
    | false =>
      obtain ⟨_, r, hr1, hr2⟩ := h1 hbd
      have e2 := (ht e).elim (fun h => by rw [hbd] at h; cases h) id
      rw [← hr2]
      refine end_none (fun r' hq => ?_)
      rw [hr1, hq] at e2
      have e3 : wordL (⟨#[125]⟩ : ByteArray).data.toList (endK 6 :: r') = some r' := rfl
      rw [e3] at e2; cases e2
/-- an object that is none -/
theorem obj_bad {b : Nat} {s : ByteArray} {R : Option (JV × List UInt8)} {w w1 : World} {nv iv : Value} {nm : List ByteArray} {ls : List (List Value)} {k : Nat} (h : OV w.heap.size nv iv nm ls w1) (hb : But b w w1) (hbw : b < w.heap.size) (hr : RC b s k true w1) (h2 : R = none) :
    ∃ W2, W2 = set5R w1 w.heap.size (.int .i64 6) (.int .i64 0) (.string ⟨#[]⟩) nv iv ∧ W2.heap[w.heap.size]? = some (.cells #[.int .i64 6, .int .i64 0, .string ⟨#[]⟩, nv, iv] 26 (0, 0)) ∧ RResPost b s R w (.returned (.agg #[.int .i64 6, .int .i64 0, .string ⟨#[]⟩, nv, iv])) W2 := by
  refine ⟨_, rfl, set5R_self h.res, But.own hb (Nat.le_refl _) (set5R_but _ _ _ _ _ _ _), true, _, k, rfl, ?_, ⟨But.keep (set5R_but _ _ _ _ _ _ _) hr.box (by omega), hr.le⟩, (fun e => by cases e), fun _ => h2⟩
  obtain ⟨_, _, _, _, e1, e2⟩ := h.shape
  exact ⟨_, _, _, _, _, _, _, _, _, by rw [e1, e2]⟩
theorem hasN_place {nm : List ByteArray} (hu : upN nm) (t : ByteArray) : hasN nm t = decide (nm[placeN nm t]? = some t) := by
  cases h : hasN nm t with
  | true => exact (decide_eq_true ((placeN_mem hu t).1 ((hasN_iff nm t).1 h))).symm
  | false => exact (decide_eq_false (fun e => by rw [(hasN_iff nm t).2 ((placeN_mem hu t).2 e)] at h; cases h)).symm
/-- behind the name and the colon -/
def Colon (s : ByteArray) (j : Nat) (t : ByteArray) (j4 : Nat) : Prop := ∃ r, strL (skipL (dl s j)) = some (t, r) ∧ skipL r = 58 :: dl s j4
theorem Colon.lt {s : ByteArray} {j j4 : Nat} {t : ByteArray} (h : Colon s j t j4) : 2 * (s.size - j4) + 2 ≤ 2 * (s.size - j) ∧ j < j4 := by
  obtain ⟨r, h1, h2⟩ := h
  have a := strL_len h1
  have b1 := skipL_len (dl s j)
  have c := skipL_len r
  rw [h2, List.length_cons, dl_len] at c
  rw [dl_len] at b1
  omega
theorem onxt {b : Nat} {s : ByteArray} {R : Option (JV × List UInt8)} {w wd w3 w4 : World} {nv iv nv' iv' : Value} {nm : List ByteArray} {xs : List JV} {ls : List (List Value)} {m j j4 j5 : Nat} {bd : Bool} {l : List Value} {t : ByteArray}
    (hO : OV w.heap.size nv iv nm ls w3) (hB : But b w w3) (hbw : b < w.heap.size) (hj : nm.length ≤ j) (hj2 : nm.length ≤ s.size) (hu : upN nm) (hcol : Colon s j t j4) (hwd : w.heap.size + 2 ≤ wd.heap.size)
    (hf : bd = false → ∃ v, (valL m (dl s j4)).map skp = some (v, dl s j5) ∧ JAt (cfF wd.heap.size w3) v (.agg l.toArray)) (ht : bd = true → (valL m (dl s j4)).map skp = none)
    (hv : Vals (cfF (w.heap.size + 2) w3) xs ls)
    (hq : objL (m + 1) (dl s j) nm xs = R) (hb4 : But b w3 w4) (hr : RC b s j5 (bd || decide (nm[placeN nm t]? = some t)) w4) (hn : SAt 1 RS (cfF (w.heap.size + 2) w4) nv' (insA (placeN nm t) t nm)) (hi : SAt 5 Raw5 (cfF (w.heap.size + 2) w4) iv' (insA (placeN nm t) l ls)) :
    ONxt b s R w m j (set5R w4 (w.heap.size + 1) (.int .i64 6) (.int .i64 0) (.string ⟨#[]⟩) nv' iv') := by
  have hkp := placeN_le nm t
  have hll : ls.length = nm.length := hO.len
  have hxl : xs.length = nm.length := by rw [← hv.1]; exact hll
  have hlen : (insA (placeN nm t) l ls).length = (insA (placeN nm t) t nm).length := by rw [insA_len _ _ _ hkp, insA_len _ _ _ (by omega), hll]
  have hO4 := hO.set hb4 hbw hn hi hlen
  have hrc : RC b s j5 (bd || decide (nm[placeN nm t]? = some t)) (set5R w4 (w.heap.size + 1) (.int .i64 6) (.int .i64 0) (.string ⟨#[]⟩) nv' iv') := ⟨But.keep (set5R_but _ _ _ _ _ _ _) hr.box (by omega), hr.le⟩
  obtain ⟨r, hc1, hc2⟩ := id hcol
  have hcl := hcol.lt
  rw [← hasN_place hu] at hrc
  refine ⟨But.own (hB.trans hb4) (Nat.le_succ _) (set5R_but _ _ _ _ _ _ _), bd || hasN nm t, j5, nv', iv', insA (placeN nm t) t nm, ?_⟩
  cases hh : hasN nm t with
  | true =>
    rw [hh, Bool.or_true] at hrc
    rw [Bool.or_true]
    exact ⟨[], _, hrc, hO4, by rw [insA_len _ _ _ hkp]; omega, (fun e => by cases e), fun _ => by rw [← hq]; exact obj_no hc1 (.inr hh)⟩
  | false =>
    rw [hh, Bool.or_false] at hrc
    rw [Bool.or_false]
    cases bd with
    | true => exact ⟨[], _, hrc, hO4, by rw [insA_len _ _ _ hkp]; omega, (fun e => by cases e), fun _ => by rw [← hq]; exact obj_val hc1 hc2 hh (skp_none (ht rfl))⟩
    | false =>
      obtain ⟨v, h1, h2⟩ := hf rfl
      obtain ⟨r3, h3, h4⟩ := skp_some h1
      have h5 := valL_len _ _ _ _ h3
      have h6 := skipL_len r3
      obtain ⟨h7, h8⟩ := dl_lt (s := s) (j := j4) (k := j5) (by rw [h4]; omega)
      refine ⟨insA (placeN nm t) v xs, _, hrc, hO4, by rw [insA_len _ _ _ hkp]; omega, fun _ => ⟨by omega, by rw [insA_len _ _ _ hkp]; omega, by rw [insA_len _ _ _ hkp]; omega, upN_ins hu (fun hm => ?_), ?_, r3, h4, ?_⟩, (fun e => by cases e)⟩
      · rw [(hasN_iff nm t).2 hm] at hh; cases hh
      · have h9 := (hv.ins (h2.mono (cfF_le _ (by omega))) (placeN nm t) (by omega)).mono (cfF_but hb4 (by omega))
        exact h9.mono (cfF_but (set5R_but _ _ _ _ _ _ _) (by omega))
      · rw [← hq, obj_some hc1 hc2 hh h3]


set_option maxHeartbeats 16000000 in
set_option maxRecDepth 100000 in
theorem rObject_step (b : Nat) (s : ByteArray) (n : Nat) (hs : s.size ≤ 1000000)
    (hval : ∀ (m i : Nat) (w : World), m < n → 2 * (s.size - i) + 1 ≤ m → RC b s i false w → Calls Tryd.prog 16 #[.pointer (some ⟨b, 0, none⟩)] w (RResPost b s ((valL m (dl s i)).map skp) w))
    (i : Nat) (w : World) (hn : 2 * (s.size - i) ≤ n) (h : RC b s i false w) (hr : ∃ r, dl s i = 123 :: r) :
    Calls Tryd.prog 36 #[.pointer (some ⟨b, 0, none⟩)] w (RResPost b s (listL n 6 (dl s (i + 1))) w) := by
  obtain ⟨r, hr⟩ := hr
  obtain ⟨hi, hi2, hi3⟩ := dl_split hr
  obtain ⟨W, hW⟩ : ∃ W, W = (w.alloc (.cells zero5R 26)).alloc (.cells (kind5 6) 26) := ⟨_, rfl⟩
  have HOV := Hold.mk (OV.start W hW)
  have hbel : Below w.heap.size w W := by rw [hW]; exact ((Below.refl _ w).alloc (Nat.le_refl _) _).alloc (by simp) _
  have HBW := Hold.mk hbel
  have HR := Hold.mk (h.below hbel)
  have hbw := h.lt
  have HVAL := Hold.mk hval
  obtain ⟨R, hR⟩ : ∃ R, R = listL n 6 (dl s (i + 1)) := ⟨_, rfl⟩
  rw [← hR]
  have HRD := Hold.mk hR
  clear h hval hbel hR hi2 hi3 hr
  go_enter Tryd.func36, Tryd.ntmps36
  go_upto_region 2 with (fail)
  rw [← hW]
  clear hW
  have x1 := HR.out.c1
  have f1 := HR.out.fz 1
  go_upto_region 3 with (fail)
  clear x1 f1
  obtain ⟨W2, hW2⟩ : ∃ W2, W2 = W.setCell ⟨b, 1, none⟩ (.int .i64 ((i : Int) + 1)) := ⟨_, rfl⟩
  have HR2 : Hold (RC b s (i + 1) false W2) := ⟨by rw [hW2]; exact HR.out.to1 hi⟩
  have HB2 : Hold (But b w W2) := ⟨by rw [hW2]; exact (But.of_below HBW.out).trans (But.set _ _ _)⟩
  have HA2 : Hold (OV w.heap.size (.slice none 0 0) (.slice none 0 0) [] [] W2) := ⟨by rw [hW2]; exact HOV.out.but (But.set _ _ _) hbw⟩
  rw [← hW2]
  clear hW2 HR HOV HBW
  go_wp2_with fail
  refine (rBlanks_any b s (i + 1) false W2 HR2.out hs).mono ?_
  rintro e w3 ⟨rfl, j, hj, hij, hr3, hb3⟩
  have HJ := Hold.mk hj
  have HR3 := Hold.mk hr3
  have HB3 := Hold.mk (HB2.out.trans hb3)
  have HA3 := Hold.mk (HA2.out.but hb3 hbw)
  clear hj hr3 hb3 HR2 HB2 HA2
  go_wp2_with fail
  refine (rHere_any b s j false w3 HR3.out).mono ?_
  rintro e w4 ⟨rfl, hb4⟩
  have HR4 := Hold.mk (HR3.out.below hb4)
  have HB4 := Hold.mk (HB3.out.trans (But.of_below hb4))
  have HA4 := Hold.mk (HA3.out.but (But.of_below (b := b) hb4) hbw)
  clear hb4 HR3 HB3 HA3
  by_cases h125 : hereB (dl s j) = 125
  · obtain ⟨hjl, hdj⟩ := esc_char h125 (by decide)
    rw [h125]
    have x1 := HR4.out.c1
    have f1 := HR4.out.fz 1
    go_upto_region 6 with (fail)
    clear x1 f1
    obtain ⟨W5, hW5⟩ : ∃ W5, W5 = w4.setCell ⟨b, 1, none⟩ (.int .i64 ((j : Int) + 1)) := ⟨_, rfl⟩
    have HR5 : Hold (RC b s (j + 1) false W5) := ⟨by rw [hW5]; exact HR4.out.to1 hjl⟩
    have HB5 : Hold (But b w W5) := ⟨by rw [hW5]; exact HB4.out.trans (But.set _ _ _)⟩
    have HA5 : Hold (OV w.heap.size (.slice none 0 0) (.slice none 0 0) [] [] W5) := ⟨by rw [hW5]; exact HA4.out.but (But.set _ _ _) hbw⟩
    have HP : Hold (∃ W2, W2 = set5R W5 w.heap.size (.int .i64 6) (.int .i64 0) (.string ⟨#[]⟩) (.slice none 0 0) (.slice none 0 0) ∧ W2.heap[w.heap.size]? = some (.cells (kind5 6) 26 (0, 0)) ∧ RResPost b s R w (.returned (.agg (kind5 6))) W2) := ⟨
      ⟨_, rfl, set5R_self HA5.out.res, But.own HB5.out (Nat.le_refl _) (set5R_but _ _ _ _ _ _ _), false, _, j + 1, rfl, ⟨_, _, _, _, _, _, _, _, _, rfl⟩, ⟨But.keep (set5R_but _ _ _ _ _ _ _) HR5.out.box (by omega), HR5.out.le⟩, fun _ => ⟨.mk 6 0 ⟨#[]⟩ [] [], by
        rw [HRD.out]; unfold listL
        rw [← HJ.out, hdj]; rfl, jat_leaf _ 6 0 ⟨#[]⟩ (by kernel_rfl) (by kernel_rfl) (by decide)⟩, fun e => by cases e⟩⟩
    have hv8 := HA5.out.box
    have hv9 := HA5.out.res
    rw [← hW5]
    clear hW5 h125 hdj
    obtain ⟨y0, y1, y2, y3, y4⟩ := cells5R hv8
    obtain ⟨v0, v1, v2, v3, v4⟩ := cells5R hv9
    have g0 := freeR hv9 0
    have g1 := freeR hv9 1
    have g2 := freeR hv9 2
    have g3 := freeR hv9 3
    have g4 := freeR hv9 4
    clear hv8 hv9
    go_wp2_with fail
    clear y0 y1 y2 y3 y4 v0 v1 v2 v3 v4 g0 g1 g2 g3 g4
    obtain ⟨W2, hW2, hv3, hp⟩ := HP.out
    unfold set5R at hW2
    rw [← hW2]
    clear hW2
    obtain ⟨v0, v1, v2, v3, v4⟩ := cells5R hv3
    exact bodyPost_ret (v := .agg (kind5 6)) (by simp [results, Tryd.results36, go_sem, v0, v1, v2, v3, v4]) rfl hp
  · have b125 : (((hereB (dl s j)).toNat : Int) == 125) = false := byte_ne (k := 125) h125
    have HI : Hold (OInv b s n R w (s.size + 1) w4) := ⟨HB4.out, false, j, _, _, [], [], [], HR4.out, HA4.out, by simp, fun _ => ⟨by omega, by simp, by simp, List.Pairwise.nil, Vals.nil _, n, Nat.le_refl _, by omega, ?_⟩, fun e => by cases e⟩
    rotate_left
    · obtain ⟨n', rfl⟩ : ∃ n', n = n' + 1 := ⟨n - 1, by omega⟩
      rw [HRD.out]; unfold listL
      have hne : ¬ (dl s j).head? = some (endK 6) := fun e => h125 ((here_head (by decide)).2 e)
      rw [← HJ.out, if_neg hne, if_neg (by decide)]
      exact obj_skip _ _ _ _ _ (by rw [HJ.out, skipL_skip])
    clear HRD HJ HR4 HB4 HA4 h125
    go_wp2_with fail
    clear b125
    go_loopg [4] (s.size + 1) (fun g _s4 wr => OInv b s n R w g wr)
    case atStart => exact HI.out
    case round =>
      obtain ⟨hbt, bd, j, nv, iv, nm, xs, ls, hr, ho, hls1, hf, ht⟩ := hrel
      clear HI
      have HRX := Hold.mk hr
      have HBX := Hold.mk hbt
      have HOX := Hold.mk ho
      have x2 := hr.c2
      cases bd with
      | true =>
        have HXN : Hold (R = none) := ⟨ht rfl⟩
        clear hf ht hr ho hbt
        go_wp2_with fail
        clear x2
        refine (rWant_any b s ⟨#[125]⟩ j true wr HRX.out hs (by decide)).mono ?_
        rintro e w9 ⟨rfl, hb9, k9, no9, hr9, hf9, ht9⟩
        have HP := Hold.mk (obj_fin (R := R) (xs := xs) HOX.out HBX.out hbw hb9 hr9 (fun e => by cases e) (fun _ => HXN.out) hf9 ht9)
        have ho90 := HOX.out.but hb9 hbw
        clear hb9 hr9 hf9 ht9
        have hv8 := ho90.box
        have hv9 := ho90.res
        obtain ⟨na9, nc9, ia9, ic9, hra, hrb⟩ := ho90.shape
        subst hra hrb
        obtain ⟨y0, y1, y2, y3, y4⟩ := cells5R hv8
        obtain ⟨v0, v1, v2, v3, v4⟩ := cells5R hv9
        have g0 := freeR hv9 0
        have g1 := freeR hv9 1
        have g2 := freeR hv9 2
        have g3 := freeR hv9 3
        have g4 := freeR hv9 4
        clear hv8 hv9 ho90
        go_wp2_with fail
        clear y0 y1 y2 y3 y4 v0 v1 v2 v3 v4 g0 g1 g2 g3 g4
        obtain ⟨W2, hW2, hv3, hp⟩ := HP.out
        unfold set5R at hW2
        rw [← hW2]
        clear hW2
        obtain ⟨v0, v1, v2, v3, v4⟩ := cells5R hv3
        exact bodyPost_ret (v := .agg #[.int .i64 6, .int .i64 0, .string ⟨#[]⟩, .slice na9 nm.length nc9, .slice ia9 ls.length ic9]) (by simp [results, Tryd.results36, go_sem, v0, v1, v2, v3, v4]) rfl hp
      | false =>
        obtain ⟨hg, hlj, hls, hup0, hvs, m, hmn, hm, hq⟩ := hf rfl
        obtain ⟨m, rfl⟩ : ∃ m', m = m' + 1 := ⟨m - 1, by omega⟩
        have hup := Hold.mk hup0
        have HVS0 := Hold.mk hvs
        have HQ := Hold.mk hq
        clear hf ht hr ho hbt hvs hq hup0
        go_wp2_with fail
        clear x2
        refine (rBlanks_any b s j false wr HRX.out hs).mono ?_
        rintro e w1 ⟨rfl, j1, hj1, hij1, hr1, hb1⟩
        have HJ1 := Hold.mk hj1
        have HR1 := Hold.mk hr1
        have HB1 := Hold.mk hb1
        clear hj1 hr1 hb1
        go_wp2_with fail
        refine (rReadQuoted_any b s j1 w1 HR1.out hs).mono ?_
        rintro e w2 ⟨hb2, t, j2, no2, rfl, hts, hr2, hf2, ht2⟩
        have HR2 := Hold.mk hr2
        have HB2 := Hold.mk (HB1.out.trans hb2)
        have HF2 := Hold.mk (And.intro hf2 ht2)
        clear hr2 hb2 hf2 ht2 HR1 HB1
        go_wp2_with fail
        refine (rBlanks_any b s j2 no2 w2 HR2.out hs).mono ?_
        rintro e w3 ⟨rfl, j3, hj3, hij3, hr3, hb3⟩
        have HJ3 := Hold.mk hj3
        have HR3 := Hold.mk hr3
        have HB3 := Hold.mk (HB2.out.trans hb3)
        clear hj3 hr3 hb3 HR2 HB2
        go_wp2_with fail
        refine (rWant_any b s ⟨#[58]⟩ j3 no2 w3 HR3.out hs (by decide)).mono ?_
        rintro e w4 ⟨rfl, hb4, j4, no4, hr4, hf4, ht4⟩
        have HR4 := Hold.mk hr4
        have HB4 := Hold.mk (HB3.out.trans hb4)
        have HBY := Hold.mk (HBX.out.trans HB4.out)
        have HOY := Hold.mk (HOX.out.but HB4.out hbw)
        have HVS4 := Hold.mk (HVS0.out.mono (cfF_but HB4.out (by omega : b < w.heap.size + 2)))
        have HCO0 : Hold ((no4 = false → Colon s j t j4) ∧ (no4 = true → R = none)) := ⟨by
          constructor
          · intro e
            obtain ⟨e1, e2⟩ := hf4 e
            have e3 := HF2.out.1 e1
            rw [HJ1.out] at e3
            have e4 := wordL_some e2
            rw [HJ3.out] at e4
            exact ⟨_, e3, e4⟩
          · intro e
            rw [← HQ.out]
            cases hno : no2 with
            | true =>
              have e3 := HF2.out.2 hno
              rw [HJ1.out] at e3
              exact obj_str e3
            | false =>
              have e3 := HF2.out.1 hno
              rw [HJ1.out] at e3
              refine obj_no e3 (.inl (fun r2 e5 => ?_))
              have e2 := (ht4 e).elim (fun h => by rw [hno] at h; cases h) id
              rw [HJ3.out, e5] at e2
              have e6 : wordL (⟨#[58]⟩ : ByteArray).data.toList (58 :: r2) = some r2 := rfl
              rw [e6] at e2; cases e2⟩
        clear hr4 hb4 hf4 ht4 HR3 HB3 HB4 HRX HBX HOX HVS0 HF2 HJ1 HJ3
        have x2 := HR4.out.c2
        cases no4 with
        | true =>
          have HP := Hold.mk (obj_bad HOY.out HBY.out hbw HR4.out (HCO0.out.2 rfl))
          have ho90 := HOY.out
          clear HCO0
          have hv8 := ho90.box
          have hv9 := ho90.res
          obtain ⟨na9, nc9, ia9, ic9, hra, hrb⟩ := ho90.shape
          subst hra hrb
          obtain ⟨y0, y1, y2, y3, y4⟩ := cells5R hv8
          obtain ⟨v0, v1, v2, v3, v4⟩ := cells5R hv9
          have g0 := freeR hv9 0
          have g1 := freeR hv9 1
          have g2 := freeR hv9 2
          have g3 := freeR hv9 3
          have g4 := freeR hv9 4
          clear hv8 hv9 ho90
          go_wp2_with fail
          clear y0 y1 y2 y3 y4 v0 v1 v2 v3 v4 g0 g1 g2 g3 g4
          obtain ⟨W2, hW2, hv3, hp⟩ := HP.out
          unfold set5R at hW2
          rw [← hW2]
          clear hW2
          obtain ⟨v0, v1, v2, v3, v4⟩ := cells5R hv3
          exact bodyPost_ret (v := .agg #[.int .i64 6, .int .i64 0, .string ⟨#[]⟩, .slice na9 nm.length nc9, .slice ia9 ls.length ic9]) (by simp [results, Tryd.results36, go_sem, v0, v1, v2, v3, v4]) rfl hp
        | false =>
          have HCO := Hold.mk (HCO0.out.1 rfl)
          have hcl := HCO.out.lt
          clear HCO0
          obtain ⟨na0, nc0, ia0, ic0, hra, hrb⟩ := HOY.out.shape
          subst hra hrb
          go_upto_region 14 with (fail)
          clear x2
          go_cut [] (fun wx => ONxt b s R w m j wx)
          case first =>
            obtain ⟨wd, hwd⟩ : ∃ wd, wd = w4.drew := ⟨_, rfl⟩
            refine wp_region_mixC AnyC 7 rfl (by kernel_rfl) ?_
            rw [← hwd]
            have hbd : But b w4 wd := by rw [hwd]; exact (But.refl b w4).drew
            have HRD : Hold (RC b s j4 false wd) := ⟨by rw [hwd]; exact HR4.out.below (Below.refl _ _).drew⟩
            have HBD := Hold.mk (HBY.out.trans hbd)
            have HOD := Hold.mk (HOY.out.but hbd hbw)
            have HVSD := Hold.mk (HVS4.out.mono (cfF_but hbd (by omega : b < w.heap.size + 2)))
            have hwds : w.heap.size + 2 ≤ wd.heap.size := by have := ltR HOD.out.box; omega
            clear hwd hbd
            have HVC := Hold.mk (HVAL.out m j4 wd (by omega) (by omega) HRD.out)
            refine mixl_seg (by kernel_rfl) (fun _ _ d _ _ h => by cases d <;> exact h) [0, 2, 3] [_, _, _] 4 7 rfl _ _ _ rfl (by kernel_rfl) (anyC _) ?_
            repeat (go_big_quiet_step (fail))
            refine wpQuiet_nil ?_
            refine mixl_two (i := 1) (j := 4) rfl rfl (by kernel_rfl) (anyC _) rfl rfl (fun K hK => ?_) (fun K hK => ?_)
            · obtain ⟨y0, y1, y2, y3, y4⟩ := cells5R HOD.out.box
              go_wp2_with fail
              clear y0 y1 y2 y3 y4
              refine mixl_act (i := 4) rfl (by kernel_rfl) (anyC _) rfl (fun K hK => ?_)
              go_wp2_with fail
              refine HVC.out.mono ?_
              rintro e w3 ⟨hb3, bd, x, j5, rfl, ⟨xk, xn, xt, xna, xnl, xnc, xia, xil, xic, rfl⟩, hr3, hf3, ht3⟩
              have HO3 := Hold.mk (HOD.out.but hb3 hbw)
              have HB3 := Hold.mk (HBD.out.trans hb3)
              have HR3 := Hold.mk hr3
              have HX3 := Hold.mk (And.intro hf3 ht3)
              have HV3 := Hold.mk (HVSD.out.mono (cfF_but hb3 (by omega : b < w.heap.size + 2)))
              have hs3 := hb3.size
              clear hb3 hf3 hr3 ht3
              go_wp2_with fail
              refine mixl_act (i := 5) rfl (by kernel_rfl) (anyC _) rfl (fun K hK => ?_)
              go_wp2_with fail
              refine (rWith_any b s j5 bd (w.heap.size + 2) _ _ nm ls t xk xn xt xna xia xnl xnc xil xic w3 HR3.out (by omega) (by omega) HO3.out.nam HO3.out.itm HO3.out.len (by omega) (by omega)).mono ?_
              rintro e w4 ⟨hb4, nv', iv', rfl, hr4, hn4, hi4⟩
              have HNX := Hold.mk (onxt (m := m) (j := j) (nm := nm) (xs := xs) (ls := ls) (wd := wd) HO3.out HB3.out hbw hlj hls hup.out HCO.out hwds HX3.out.1 HX3.out.2 HV3.out HQ.out hb4 hr4 hn4 hi4)
              have hbx := (HO3.out.but hb4 hbw).box
              obtain ⟨na4, nc4, hn5, _⟩ := hn4
              obtain ⟨ia4, ic4, hi5, _⟩ := hi4
              clear hb4 hr4
              subst hn5 hi5
              go_wp2_with fail
              refine mixl_act (i := 6) rfl (by kernel_rfl) (anyC _) rfl (fun K hK => ?_)
              obtain ⟨y0, y1, y2, y3, y4⟩ := cells5R hbx
              have g0 := freeR hbx 0
              have g1 := freeR hbx 1
              have g2 := freeR hbx 2
              have g3 := freeR hbx 3
              have g4 := freeR hbx 4
              clear hbx
              go_wp2_with fail
              clear y0 y1 y2 y3 y4 g0 g1 g2 g3 g4
              refine mix_done (by kernel_rfl) (anyC _) ?_
              go_wp2_with fail
              go_meet
              case rel => exact HNX.out
            · go_wp2_with fail
              refine HVC.out.mono ?_
              rintro e w3 ⟨hb3, bd, x, j5, rfl, ⟨xk, xn, xt, xna, xnl, xnc, xia, xil, xic, rfl⟩, hr3, hf3, ht3⟩
              have HO3 := Hold.mk (HOD.out.but hb3 hbw)
              have HB3 := Hold.mk (HBD.out.trans hb3)
              have HR3 := Hold.mk hr3
              have HX3 := Hold.mk (And.intro hf3 ht3)
              have HV3 := Hold.mk (HVSD.out.mono (cfF_but hb3 (by omega : b < w.heap.size + 2)))
              have hs3 := hb3.size
              clear hb3 hf3 hr3 ht3
              go_wp2_with fail
              refine mixl_act (i := 1) rfl (by kernel_rfl) (anyC _) rfl (fun K hK => ?_)
              obtain ⟨y0, y1, y2, y3, y4⟩ := cells5R HO3.out.box
              go_wp2_with fail
              clear y0 y1 y2 y3 y4
              refine mixl_act (i := 5) rfl (by kernel_rfl) (anyC _) rfl (fun K hK => ?_)
              go_wp2_with fail
              refine (rWith_any b s j5 bd (w.heap.size + 2) _ _ nm ls t xk xn xt xna xia xnl xnc xil xic w3 HR3.out (by omega) (by omega) HO3.out.nam HO3.out.itm HO3.out.len (by omega) (by omega)).mono ?_
              rintro e w4 ⟨hb4, nv', iv', rfl, hr4, hn4, hi4⟩
              have HNX := Hold.mk (onxt (m := m) (j := j) (nm := nm) (xs := xs) (ls := ls) (wd := wd) HO3.out HB3.out hbw hlj hls hup.out HCO.out hwds HX3.out.1 HX3.out.2 HV3.out HQ.out hb4 hr4 hn4 hi4)
              have hbx := (HO3.out.but hb4 hbw).box
              obtain ⟨na4, nc4, hn5, _⟩ := hn4
              obtain ⟨ia4, ic4, hi5, _⟩ := hi4
              clear hb4 hr4
              subst hn5 hi5
              go_wp2_with fail
              refine mixl_act (i := 6) rfl (by kernel_rfl) (anyC _) rfl (fun K hK => ?_)
              obtain ⟨y0, y1, y2, y3, y4⟩ := cells5R hbx
              have g0 := freeR hbx 0
              have g1 := freeR hbx 1
              have g2 := freeR hbx 2
              have g3 := freeR hbx 3
              have g4 := freeR hbx 4
              clear hbx
              go_wp2_with fail
              clear y0 y1 y2 y3 y4 g0 g1 g2 g3 g4
              refine mix_done (by kernel_rfl) (anyC _) ?_
              go_wp2_with fail
              go_meet
              case rel => exact HNX.out
          case rest =>
            obtain ⟨hb4, bd, j3, nv, iv, nm, xs, ls, hr4, ha4, hls4, hf4, ht4⟩ := hcut
            generalize wc = wb at *
            clear HR4 HBY HOY HVS4 HQ HCO
            have HB4 := Hold.mk hb4
            have HR4 := Hold.mk hr4
            have HA4 := Hold.mk ha4
            have HF4 := Hold.mk (And.intro hf4 ht4)
            clear hb4 hr4 ha4 hf4 ht4
            go_wp2_with fail
            refine (rHere_any b s j3 bd wb HR4.out).mono ?_
            rintro e w5 ⟨rfl, hb5⟩
            have HRX := Hold.mk (HR4.out.below hb5)
            have HBX := Hold.mk (HB4.out.trans (But.of_below hb5))
            have HOX := Hold.mk (HA4.out.but (But.of_below (b := b) hb5) hbw)
            have HFX : Hold (bd = false → j < j3 ∧ nm.length ≤ j3 ∧ nm.length ≤ s.size ∧ upN nm ∧ Vals (cfF (w.heap.size + 2) w5) xs ls ∧ ∃ r, dl s j3 = skipL r ∧ tailL m 6 r nm xs = R) := ⟨fun e => by
              obtain ⟨q1, q2, q0, qu, q3, q4⟩ := HF4.out.1 e
              exact ⟨q1, q2, q0, qu, q3.mono (cfF_but (But.of_below (b := b) hb5) (by omega)), q4⟩⟩
            have HX2 : Hold (bd = true → R = none) := ⟨HF4.out.2⟩
            clear hb5 HR4 HB4 HA4 HF4
            by_cases h44 : hereB (dl s j3) = 44
            · obtain ⟨hjl, hdj⟩ := esc_char h44 (by decide)
              rw [h44]
              have x1 := HRX.out.c1
              have f1 := HRX.out.fz 1
              have HN : Hold (OInv b s n R w (gk - 1) (w5.setCell ⟨b, 1, none⟩ (.int .i64 ((j3 : Int) + 1)))) := ⟨HBX.out.trans (But.set _ _ _), bd, j3 + 1, nv, iv, nm, xs, ls, HRX.out.to1 hjl, HOX.out.but (But.set _ _ _) hbw, hls4, fun e => by
                obtain ⟨q1, q2, q0, qu, q3, r, q4, q5⟩ := HFX.out e
                refine ⟨by omega, by omega, q0, qu, q3.mono (cfF_but (But.set _ _ _) (by omega)), m, by omega, by omega, ?_⟩
                rw [← q5, tail_on (r := dl s (j3 + 1)) (by rw [← q4, hdj]), more_next, if_neg (by decide)], HX2.out⟩
              have hgk1 : gk - 1 < gk := by omega
              clear h44 hdj
              go_wp2_with fail
              clear x1 f1
              go_roundg (gk - 1)
              case measure => exact hgk1
              case rel => exact HN.out
            · have b44 : (((hereB (dl s j3)).toNat : Int) != 44) = true := by rw [bne_iff_ne]; exact fun e => h44 (UInt8.toNat_inj.1 (show (hereB (dl s j3)).toNat = 44 by omega))
              have HX1 : Hold (bd = false → Vals (cfF (w.heap.size + 2) w5) xs ls ∧ ∃ r, dl s j3 = skipL r ∧ endL 6 r nm xs = R) := ⟨fun e => by
                obtain ⟨q1, q2, q0, qu, q3, r, q4, q5⟩ := HFX.out e
                refine ⟨q3, r, q4, ?_⟩
                rw [← q5, tail_end (fun r' e2 => ?_)]
                apply h44
                rw [q4, e2]; rfl⟩
              clear h44 HFX
              go_wp2_with fail
              clear b44
              refine (rWant_any b s ⟨#[125]⟩ j3 bd w5 HRX.out hs (by decide)).mono ?_
              rintro e w9 ⟨rfl, hb9, k9, no9, hr9, hf9, ht9⟩
              have HP := Hold.mk (obj_fin (R := R) (xs := xs) HOX.out HBX.out hbw hb9 hr9 HX1.out HX2.out hf9 ht9)
              have ho90 := HOX.out.but hb9 hbw
              clear hb9 hr9 hf9 ht9
              have hv8 := ho90.box
              have hv9 := ho90.res
              obtain ⟨na9, nc9, ia9, ic9, hra, hrb⟩ := ho90.shape
              subst hra hrb
              obtain ⟨y0, y1, y2, y3, y4⟩ := cells5R hv8
              obtain ⟨v0, v1, v2, v3, v4⟩ := cells5R hv9
              have g0 := freeR hv9 0
              have g1 := freeR hv9 1
              have g2 := freeR hv9 2
              have g3 := freeR hv9 3
              have g4 := freeR hv9 4
              clear hv8 hv9 ho90
              go_wp2_with fail
              clear y0 y1 y2 y3 y4 v0 v1 v2 v3 v4 g0 g1 g2 g3 g4
              obtain ⟨W2, hW2, hv3, hp⟩ := HP.out
              unfold set5R at hW2
              rw [← hW2]
              clear hW2
              obtain ⟨v0, v1, v2, v3, v4⟩ := cells5R hv3
              exact bodyPost_ret (v := .agg #[.int .i64 6, .int .i64 0, .string ⟨#[]⟩, .slice na9 nm.length nc9, .slice ia9 ls.length ic9]) (by simp [results, Tryd.results36, go_sem, v0, v1, v2, v3, v4]) rfl hp

end Go.Proofs.YtdhilnnohokoeaaDoor
