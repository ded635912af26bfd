/- The reader of the reference: array. (printed by genXQM.py) -/
import Derived.Test.YtdhilnnohokoeaaDoorQL
import Derived.Test.YtdhilnnohokoeaaDoorRU
import Derived.Deep.DeepCutAuto
namespace Go.Proofs.YtdhilnnohokoeaaDoor
open Go.Shelf Go.RowKit

/-- a value that is read, or it is none -/
def RResPost (b : Nat) (s : ByteArray) (R : Option (JV × List UInt8)) (w : World) (e : Ending) (w' : World) : Prop :=
  But b w w' ∧ ∃ (bd : Bool) (x : Value) (j : Nat), e = .returned x ∧ shape5 x ∧ RC b s j bd w' ∧ (bd = false → ∃ v, R = some (v, dl s j) ∧ JAt (cfF w.heap.size w') v x) ∧ (bd = true → R = none)
/-- behind a value the blanks are passed over -/
def skp (p : JV × List UInt8) : JV × List UInt8 := (p.1, skipL p.2)
theorem skp_some {R : Option (JV × List UInt8)} {v : JV} {l : List UInt8} (h : R.map skp = some (v, l)) : ∃ r, R = some (v, r) ∧ l = skipL r := by
  cases R with
  | none => cases h
  | some p =>
    obtain ⟨x, r⟩ := p
    have := Option.some.inj h
    unfold skp at this
    simp only [Prod.mk.injEq] at this
    exact ⟨r, by rw [this.1], this.2.symm⟩
theorem skp_none {R : Option (JV × List UInt8)} (h : R.map skp = none) : R = none := by
  cases R with
  | none => rfl
  | some p => cases h

/-- values, and the cells that they lie in -/
def Vals (c : CF) (xs : List JV) (ls : List (List Value)) : Prop := ls.length = xs.length ∧ ∀ (i : Nat) x l, xs[i]? = some x → ls[i]? = some l → JAt c x (.agg l.toArray)
theorem Vals.mono {c d : CF} {xs : List JV} {ls : List (List Value)} (h : Vals c xs ls) (hl : CLe c d) : Vals d xs ls := ⟨h.1, fun i x l hx hy => (h.2 i x l hx hy).mono hl⟩
theorem Vals.nil (c : CF) : Vals c [] [] := ⟨rfl, fun i x l h => by simp at h⟩
theorem Vals.add {c : CF} {xs : List JV} {ls : List (List Value)} {x : JV} {l : List Value} (h : Vals c xs ls) (hx : JAt c x (.agg l.toArray)) : Vals c (xs ++ [x]) (ls ++ [l]) := by
  refine ⟨by simp [h.1], fun i y m hy hm => ?_⟩
  by_cases hi : i < xs.length
  · rw [List.getElem?_append_left hi] at hy
    rw [List.getElem?_append_left (by rw [h.1]; exact hi)] at hm
    exact h.2 i y m hy hm
  · rw [List.getElem?_append_right (by omega)] at hy
    rw [List.getElem?_append_right (by rw [h.1]; omega), h.1] at hm
    cases he : i - xs.length with
    | zero =>
      rw [he] at hy hm
      obtain rfl : x = y := by simpa using hy
      obtain rfl : l = m := by simpa using hm
      exact hx
    | succ q => rw [he] at hy; simp at hy
/-- a row of raw cells that hold values is a slice of values -/
theorem items_raw {c d : CF} {v : Value} {xs : List JV} {ls : List (List Value)} (h : SAt 5 Raw5 c v ls) (hv : Vals d xs ls) (hc : CLe c d) : ItemsAt d v xs := by
  obtain ⟨a, cap, rfl, hle, hcap, hel⟩ := h
  refine ⟨a, cap, by rw [hv.1], by rw [← hv.1]; omega, fun i x hx => ?_⟩
  have hi : i < ls.length := by rw [hv.1]; exact (List.getElem?_eq_some_iff.1 hx).1
  obtain ⟨b, off, dd, rfl, h5, hcell, rfl, _, _⟩ := hel i _ (List.getElem?_eq_getElem hi)
  have hj := hv.2 i x _ hx (List.getElem?_eq_getElem hi)
  obtain ⟨c0, c1, c2, c3, c4, e5⟩ := five_of h5
  rw [e5] at hj hcell
  obtain ⟨k, n, t, nm, it, na, ncap, ia, icap, hxe, e, _⟩ := id hj.open
  simp only [Value.agg.injEq, Array.mk.injEq, List.cons.injEq, and_true] at e
  obtain ⟨rfl, rfl, rfl, rfl, rfl⟩ := e
  exact ⟨b, off, k, n, t, nm, it, na, ncap, ia, icap, rfl, hxe, hc _ _ _ (by simpa using hcell 0 _ rfl), hc _ _ _ (hcell 1 _ rfl), hc _ _ _ (hcell 2 _ rfl), hc _ _ _ (hcell 3 _ rfl), hc _ _ _ (hcell 4 _ rfl), hj⟩

/-- the array under way -/
structure AV (B : Nat) (sl : Value) (ls : List (List Value)) (cs : List Value) (w : World) : Prop where
  box : w.heap[B + 1]? = some (.cells #[.int .i64 5, .int .i64 0, .string ⟨#[]⟩, .slice none 0 0, sl] 26 (0, 0))
  res : w.heap[B]? = some (.cells zero5R 26 (0, 0))
  itm : OwnS 5 Raw5 26 (B + 2) w sl ls.length ls cs
theorem AV.but {B : Nat} {sl : Value} {ls : List (List Value)} {cs : List Value} {w w' : World} (h : AV B sl ls cs w) {b : Nat} (hb : But b w w') (hbB : b < B) : AV B sl ls cs w' :=
  ⟨But.keep hb h.box (by omega), But.keep hb h.res (by omega), h.itm.keepB (fun _ _ _ _ h => h) hb (fun q hq e => by have := (h.itm.low q hq).1; have := Option.some.inj e; omega)⟩
theorem AV.start {w : World} (W : World) (hW : W = (w.alloc (.cells zero5R 26)).alloc (.cells (kind5 5) 26)) : AV w.heap.size (.slice none 0 0) [] [] W := by
  subst hW
  refine ⟨?_, kept (heap_alloc_new w _) ((Below.refl _ _).alloc (Nat.le_refl _) _), OwnS.start _ _ _ (by simp)⟩
  have := heap_alloc_new (w.alloc (.cells zero5R 26)) (.cells (kind5 5) 26)
  simpa using this
theorem AV.push {B : Nat} {sl sl' : Value} {ls ls' : List (List Value)} {cs cs' : List Value} {w w' : World} (h : AV B sl ls cs w) (hg : Grew w w' sl sl') (ho : OwnS 5 Raw5 26 (B + 2) w' sl' ls'.length ls' cs') : AV B sl' ls' cs' (w'.setCell ⟨B + 1, 4, none⟩ sl') := by
  have hset := But.set (b := B + 1) w' 4 sl'
  have hs1 : ∀ q, sl.ownBlock = some q → B + 2 ≤ q := fun q hq => (h.itm.low q hq).1
  refine ⟨?_, ?_, ?_⟩
  · rw [set_at (hg.kept h.box (fun g hq e => by have := hs1 g hq; omega))]; rfl
  · exact But.keep hset (hg.kept h.res (fun g hq e => by have := hs1 g hq; omega)) (by omega)
  · exact ho.keepB (fun _ _ _ _ h => h) hset (fun q hq e => by have := (ho.low q hq).1; have := Option.some.inj e; omega)
/-- the values stand, when the row has grown and the box holds it -/
theorem AV.vals {B : Nat} {sl sl' : Value} {w w' : World} (hg : Grew w w' sl sl') : CLe (cfX (B + 2) sl.ownBlock none w) (cfX (B + 2) sl'.ownBlock none (w'.setCell ⟨B + 1, 4, none⟩ sl')) := by
  have h1 : CLe (cfX (B + 2) sl.ownBlock none w) (cfX (B + 2) sl'.ownBlock none w') := cfX_grown hg.by_ (.inl rfl) hg.own (fun _ h => by cases h)
  exact h1.trans (cfX_grown (But.set (b := B + 1) w' 4 sl') (.inr (.inr fun q e => by have := Option.some.inj e; omega)) (fun _ h => .inl h) (fun _ h => by cases h))
theorem AV.valsBut {B : Nat} {sl : Value} {w w' : World} {b : Nat} (hb : But b w w') (hbB : b < B) : CLe (cfX (B + 2) sl.ownBlock none w) (cfX (B + 2) sl.ownBlock none w') :=
  cfX_grown hb (.inr (.inr fun q e => by have := Option.some.inj e; omega)) (fun _ h => .inl h) (fun _ h => by cases h)
theorem AV.valsNew {B : Nat} {sl : Value} {ls : List (List Value)} {cs : List Value} {w w' : World} (h : AV B sl ls cs w) : CLe (cfF w.heap.size w') (cfX (B + 2) sl.ownBlock none w') :=
  cfX_new h.itm.le (fun q hq => (h.itm.low q hq).2) (fun q h => by cases h)
theorem AV.done {B : Nat} {sl : Value} {ls : List (List Value)} {cs : List Value} {xs : List JV} {w : World} (h : AV B sl ls cs w) (hv : Vals (cfX (B + 2) sl.ownBlock none w) xs ls) : JAt (cfF (B + 2) w) (.mk 5 0 ⟨#[]⟩ [] xs) (.agg #[.int .i64 5, .int .i64 0, .string ⟨#[]⟩, .slice none 0 0, sl]) := by
  have hs := h.itm.atA (B := B + 2) (grow_raw (c' := cfA (B + 2) w) h.itm.row)
  exact JAt.shut (by kernel_rfl) (by kernel_rfl) (by decide) ⟨none, 0, rfl, by simp, fun i s h => by simp at h⟩ (items_raw hs (hv.mono (cfX_cf w (Nat.le_refl _))) (CLe.refl _))

/-- the loop: what is still to be read tells the whole -/
def AInv (b : Nat) (s : ByteArray) (n : Nat) (R : Option (JV × List UInt8)) (w : World) (g : Nat) (wr : World) : Prop :=
  But b w wr ∧ ∃ (bd : Bool) (j : Nat) (sl : Value) (xs : List JV) (ls : List (List Value)) (cs : List Value), RC b s j bd wr ∧ AV w.heap.size sl ls cs wr ∧ ls.length ≤ s.size + 1 ∧
    (bd = false → s.size - j + 1 ≤ g ∧ ls.length ≤ j ∧ ls.length ≤ s.size ∧ Vals (cfX (w.heap.size + 2) sl.ownBlock none wr) xs ls ∧ ∃ m, m ≤ n ∧ 2 * (s.size - j) + 2 ≤ m ∧ arrL m (dl s j) xs = R) ∧ (bd = true → R = none)
/-- a value was read, and the row grew by one -/
def ANxt (b : Nat) (s : ByteArray) (R : Option (JV × List UInt8)) (w : World) (m j : Nat) (wx : World) : Prop :=
  But b w wx ∧ ∃ (bd : Bool) (j3 : Nat) (sl : Value) (xs : List JV) (ls : List (List Value)) (cs : List Value), RC b s j3 bd wx ∧ AV w.heap.size sl ls cs wx ∧ ls.length ≤ s.size + 1 ∧
    (bd = false → j < j3 ∧ ls.length ≤ j3 ∧ ls.length ≤ s.size ∧ Vals (cfX (w.heap.size + 2) sl.ownBlock none wx) xs ls ∧ ∃ r, dl s j3 = skipL r ∧ tailL m 5 r [] xs = R) ∧ (bd = true → R = none)
theorem arr_skip (m : Nat) (l l' : List UInt8) (xs : List JV) (h : skipL l = skipL l') : arrL (m + 1) l xs = arrL (m + 1) l' xs := by rw [arrL, arrL, ← val_skip m l, h, val_skip]
theorem dl_lt {s : ByteArray} {j k : Nat} (h : (dl s k).length < (dl s j).length) : j < k ∧ j < s.size := by
  rw [dl_len, dl_len] at h; omega
/-- the end of an array -/
theorem arr_fin {b : Nat} {s : ByteArray} {R : Option (JV × List UInt8)} {w w1 w2 : World} {sl : Value} {xs : List JV} {ls : List (List Value)} {cs : List Value} {bd no' : Bool} {j k : Nat} (h : AV w.heap.size sl ls cs w1) (hb : But b w w1) (hbw : b < w.heap.size) (hb2 : But b w1 w2) (hr : RC b s k no' w2)
    (h1 : bd = false → Vals (cfX (w.heap.size + 2) sl.ownBlock none w1) xs ls ∧ ∃ r, dl s j = skipL r ∧ endL 5 r [] xs = R) (h2 : bd = true → R = none)
    (hf : no' = false → bd = false ∧ wordL (⟨#[93]⟩ : ByteArray).data.toList (dl s j) = some (dl s k)) (ht : no' = true → bd = true ∨ wordL (⟨#[93]⟩ : ByteArray).data.toList (dl s j) = none) :
    ∃ W2, W2 = set5R w2 w.heap.size (.int .i64 5) (.int .i64 0) (.string ⟨#[]⟩) (.slice none 0 0) sl ∧ W2.heap[w.heap.size]? = some (.cells #[.int .i64 5, .int .i64 0, .string ⟨#[]⟩, .slice none 0 0, sl] 26 (0, 0)) ∧ RResPost b s R w (.returned (.agg #[.int .i64 5, .int .i64 0, .string ⟨#[]⟩, .slice none 0 0, sl])) W2 := by
  have h' := h.but hb2 hbw
  refine ⟨_, rfl, set5R_self h'.res, But.own (hb.trans hb2) (Nat.le_refl _) (set5R_but _ _ _ _ _ _ _), no', _, k, rfl, ?_, ⟨?_, hr.le⟩, fun e => ?_, fun e => ?_⟩
  · obtain ⟨a, cap, e⟩ := h.itm.shape
    exact ⟨_, _, _, _, _, _, _, _, _, by rw [e]⟩
  · exact But.keep (set5R_but _ _ _ _ _ _ _) hr.box (by omega)
  · obtain ⟨e1, e2⟩ := hf e
    obtain ⟨hv, r, hr1, hr2⟩ := h1 e1
    have e3 := wordL_some e2
    refine ⟨.mk 5 0 ⟨#[]⟩ [] xs, by rw [← hr2, end_some (r := dl s k) (by rw [← hr1, e3]; rfl)], ?_⟩
    have hj := h'.done (hv.mono (AV.valsBut hb2 hbw))
    exact (hj.mono (cfF_but (set5R_but _ _ _ _ _ _ _) (by omega))).mono (cfF_le _ (by omega))
  · cases hbd : bd with
    | true => exact h2 hbd
    | false =>
      obtain ⟨_, r, hr1, hr2⟩ := h1 hbd
      have e2 := (ht e).elim (fun h => by rw [hbd] at h; cases h) id
      rw [← hr2]
      refine end_none (fun r' hq => ?_)
      rw [hr1, hq] at e2
      have e3 : wordL (⟨#[93]⟩ : ByteArray).data.toList (endK 5 :: r') = some r' := rfl
      rw [e3] at e2; cases e2

theorem anxt {b : Nat} {s : ByteArray} {R : Option (JV × List UInt8)} {w wd w3 w4 : World} {sl sl' : Value} {xs : List JV} {ls : List (List Value)} {cs cs' : List Value} {m j j3 : Nat} {bd : Bool} {l : List Value}
    (hA : AV w.heap.size sl ls cs w3) (hR : RC b s j3 bd w3) (hB : But b w w3) (hbw : b < w.heap.size) (hj : ls.length ≤ j) (hj2 : ls.length ≤ s.size)
    (hf : bd = false → ∃ v, (valL m (dl s j)).map skp = some (v, dl s j3) ∧ JAt (cfF wd.heap.size w3) v (.agg l.toArray)) (ht : bd = true → (valL m (dl s j)).map skp = none)
    (hv : Vals (cfX (w.heap.size + 2) sl.ownBlock none wd) xs ls) (hc1 : CLe (cfX (w.heap.size + 2) sl.ownBlock none wd) (cfX (w.heap.size + 2) sl.ownBlock none w3)) (hc2 : CLe (cfF wd.heap.size w3) (cfX (w.heap.size + 2) sl.ownBlock none w3))
    (hq : arrL (m + 1) (dl s j) xs = R) (hg : Grew w3 w4 sl sl') (ho0 : OwnS 5 Raw5 26 (w.heap.size + 2) w4 sl' (ls.length + 1) (ls ++ [l]) cs') :
    ANxt b s R w m j (w4.setCell ⟨w.heap.size + 1, 4, none⟩ sl') := by
  have hs1 : ∀ q, sl.ownBlock = some q → w.heap.size + 2 ≤ q := fun q hq => (hA.itm.low q hq).1
  have hset := But.set (b := w.heap.size + 1) w4 4 sl'
  have ho : OwnS 5 Raw5 26 (w.heap.size + 2) w4 sl' (ls ++ [l]).length (ls ++ [l]) cs' := by rw [List.length_append]; exact ho0
  have hrc : RC b s j3 bd (w4.setCell ⟨w.heap.size + 1, 4, none⟩ sl') := ⟨But.keep hset (hg.kept hR.box (fun g hq e => by have := hs1 g hq; omega)) (by omega), hR.le⟩
  refine ⟨But.own (hB.row hg.by_ (fun q hq => by have := hs1 q hq; omega)) (Nat.le_succ _) hset, bd, j3, sl', ?_⟩
  cases bd with
  | true => exact ⟨[], ls ++ [l], cs', hrc, hA.push hg ho, by simp; omega, (fun e => by cases e), fun _ => by rw [← hq, arr_none (skp_none (ht rfl))]⟩
  | false =>
    obtain ⟨v, h1, h2⟩ := hf rfl
    obtain ⟨r, h3, h4⟩ := skp_some h1
    have h5 := valL_len _ _ _ _ h3
    have h6 := skipL_len r
    obtain ⟨h7, h8⟩ := dl_lt (s := s) (j := j) (k := j3) (by rw [h4]; omega)
    exact ⟨xs ++ [v], ls ++ [l], cs', hrc, hA.push hg ho, by simp; omega, fun _ => ⟨h7, by simp; omega, by simp; omega, ((hv.mono hc1).add (h2.mono hc2)).mono (AV.vals hg), r, h4, by rw [← hq, arr_some h3]⟩, (fun e => by cases e)⟩

set_option maxHeartbeats 16000000 in
set_option maxRecDepth 100000 in
theorem rArray_step (b : Nat) (s : ByteArray) (n : Nat) (hs : s.size ≤ 1000000)
    (hval : ∀ (m i : Nat) (w : World), m < n → 2 * (s.size - i) + 1 ≤ m → RC b s i false w → Calls Tryd.prog 16 #[.pointer (some ⟨b, 0, none⟩)] w (RResPost b s ((valL m (dl s i)).map skp) w))
    (i : Nat) (w : World) (hn : 2 * (s.size - i) ≤ n) (h : RC b s i false w) (hr : ∃ r, dl s i = 91 :: r) :
    Calls Tryd.prog 35 #[.pointer (some ⟨b, 0, none⟩)] w (RResPost b s (listL n 5 (dl s (i + 1))) w) := by
  obtain ⟨r, hr⟩ := hr
  obtain ⟨hi, hi2, hi3⟩ := dl_split hr
  obtain ⟨W, hW⟩ : ∃ W, W = (w.alloc (.cells zero5R 26)).alloc (.cells (kind5 5) 26) := ⟨_, rfl⟩
  have HAV := Hold.mk (AV.start W hW)
  have hbel : Below w.heap.size w W := by rw [hW]; exact ((Below.refl _ w).alloc (Nat.le_refl _) _).alloc (by simp) _
  have HBW := Hold.mk hbel
  have HR := Hold.mk (h.below hbel)
  have hbw := h.lt
  have HVAL := Hold.mk hval
  obtain ⟨R, hR⟩ : ∃ R, R = listL n 5 (dl s (i + 1)) := ⟨_, rfl⟩
  rw [← hR]
  have HRD := Hold.mk hR
  clear h hval hbel hR hi2 hi3 hr
  go_enter Tryd.func35, Tryd.ntmps35
  go_upto_region 2 with (fail)
  rw [← hW]
  clear hW
  have x1 := HR.out.c1
  have f1 := HR.out.fz 1
  go_upto_region 3 with (fail)
  clear x1 f1
  obtain ⟨W2, hW2⟩ : ∃ W2, W2 = W.setCell ⟨b, 1, none⟩ (.int .i64 ((i : Int) + 1)) := ⟨_, rfl⟩
  have HR2 : Hold (RC b s (i + 1) false W2) := ⟨by rw [hW2]; exact HR.out.to1 hi⟩
  have HB2 : Hold (But b w W2) := ⟨by rw [hW2]; exact (But.of_below HBW.out).trans (But.set _ _ _)⟩
  have HA2 : Hold (AV w.heap.size (.slice none 0 0) [] [] W2) := ⟨by rw [hW2]; exact HAV.out.but (But.set _ _ _) hbw⟩
  rw [← hW2]
  clear hW2 HR HAV HBW
  go_wp2_with fail
  refine (rBlanks_any b s (i + 1) false W2 HR2.out hs).mono ?_
  rintro e w3 ⟨rfl, j, hj, hij, hr3, hb3⟩
  have HJ := Hold.mk hj
  have HR3 := Hold.mk hr3
  have HB3 := Hold.mk (HB2.out.trans hb3)
  have HA3 := Hold.mk (HA2.out.but hb3 hbw)
  clear hj hr3 hb3 HR2 HB2 HA2
  go_wp2_with fail
  refine (rHere_any b s j false w3 HR3.out).mono ?_
  rintro e w4 ⟨rfl, hb4⟩
  have HR4 := Hold.mk (HR3.out.below hb4)
  have HB4 := Hold.mk (HB3.out.trans (But.of_below hb4))
  have HA4 := Hold.mk (HA3.out.but (But.of_below (b := b) hb4) hbw)
  clear hb4 HR3 HB3 HA3
  by_cases h93 : hereB (dl s j) = 93
  · obtain ⟨hjl, hdj⟩ := esc_char h93 (by decide)
    rw [h93]
    have x1 := HR4.out.c1
    have f1 := HR4.out.fz 1
    go_upto_region 6 with (fail)
    clear x1 f1
    obtain ⟨W5, hW5⟩ : ∃ W5, W5 = w4.setCell ⟨b, 1, none⟩ (.int .i64 ((j : Int) + 1)) := ⟨_, rfl⟩
    have HR5 : Hold (RC b s (j + 1) false W5) := ⟨by rw [hW5]; exact HR4.out.to1 hjl⟩
    have HB5 : Hold (But b w W5) := ⟨by rw [hW5]; exact HB4.out.trans (But.set _ _ _)⟩
    have HA5 : Hold (AV w.heap.size (.slice none 0 0) [] [] W5) := ⟨by rw [hW5]; exact HA4.out.but (But.set _ _ _) hbw⟩
    have HP : Hold (∃ W2, W2 = set5R W5 w.heap.size (.int .i64 5) (.int .i64 0) (.string ⟨#[]⟩) (.slice none 0 0) (.slice none 0 0) ∧ W2.heap[w.heap.size]? = some (.cells (kind5 5) 26 (0, 0)) ∧ RResPost b s R w (.returned (.agg (kind5 5))) W2) := ⟨
      ⟨_, rfl, set5R_self HA5.out.res, But.own HB5.out (Nat.le_refl _) (set5R_but _ _ _ _ _ _ _), false, _, j + 1, rfl, ⟨_, _, _, _, _, _, _, _, _, rfl⟩, ⟨But.keep (set5R_but _ _ _ _ _ _ _) HR5.out.box (by omega), HR5.out.le⟩, fun _ => ⟨.mk 5 0 ⟨#[]⟩ [] [], by
        rw [HRD.out]; unfold listL
        rw [← HJ.out, hdj]; rfl, jat_leaf _ 5 0 ⟨#[]⟩ (by kernel_rfl) (by kernel_rfl) (by decide)⟩, fun e => by cases e⟩⟩
    have hv8 := HA5.out.box
    have hv9 := HA5.out.res
    rw [← hW5]
    clear hW5 h93 hdj
    obtain ⟨y0, y1, y2, y3, y4⟩ := cells5R hv8
    obtain ⟨v0, v1, v2, v3, v4⟩ := cells5R hv9
    have g0 := freeR hv9 0
    have g1 := freeR hv9 1
    have g2 := freeR hv9 2
    have g3 := freeR hv9 3
    have g4 := freeR hv9 4
    clear hv8 hv9
    go_wp2_with fail
    clear y0 y1 y2 y3 y4 v0 v1 v2 v3 v4 g0 g1 g2 g3 g4
    obtain ⟨W2, hW2, hv3, hp⟩ := HP.out
    unfold set5R at hW2
    rw [← hW2]
    clear hW2
    obtain ⟨v0, v1, v2, v3, v4⟩ := cells5R hv3
    exact bodyPost_ret (v := .agg (kind5 5)) (by simp [results, Tryd.results35, go_sem, v0, v1, v2, v3, v4]) rfl hp
  · have b93 : (((hereB (dl s j)).toNat : Int) == 93) = false := byte_ne (k := 93) h93
    have HI : Hold (AInv b s n R w (s.size + 1) w4) := ⟨HB4.out, false, j, _, [], [], [], HR4.out, HA4.out, by simp, fun _ => ⟨by omega, by simp, by simp, Vals.nil _, n, Nat.le_refl _, by omega, ?_⟩, fun e => by cases e⟩
    rotate_left
    · obtain ⟨n', rfl⟩ : ∃ n', n = n' + 1 := ⟨n - 1, by omega⟩
      rw [HRD.out]; unfold listL
      have hne : ¬ (dl s j).head? = some (endK 5) := fun e => h93 ((here_head (by decide)).2 e)
      rw [← HJ.out, if_neg hne, if_pos rfl]
      exact arr_skip _ _ _ _ (by rw [HJ.out, skipL_skip])
    clear HRD HJ HR4 HB4 HA4 h93
    go_wp2_with fail
    clear b93
    go_loopg [] (s.size + 1) (fun g wr => AInv b s n R w g wr)
    case atStart => exact HI.out
    case round =>
      obtain ⟨hbt, bd, j, sl, xs, ls, cs, hr, ha, hls, hf, ht⟩ := hrel
      clear HI
      have HRX := Hold.mk hr
      have HBX := Hold.mk hbt
      have HAX := Hold.mk ha
      have x2 := hr.c2
      cases bd with
      | true =>
        have HXN : Hold (R = none) := ⟨ht rfl⟩
        clear hf ht hr ha hbt
        go_wp2_with fail
        clear x2
        refine (rWant_any b s ⟨#[93]⟩ j true wr HRX.out hs (by decide)).mono ?_
        rintro e w9 ⟨rfl, hb9, k9, no9, hr9, hf9, ht9⟩
        have HP := Hold.mk (arr_fin (R := R) (xs := xs) HAX.out HBX.out hbw hb9 hr9 (fun e => by cases e) (fun _ => HXN.out) hf9 ht9)
        have hv8 := But.keep hb9 HAX.out.box (by omega)
        have hv9 := But.keep hb9 HAX.out.res (by omega)
        obtain ⟨ra, rcap, hra⟩ := HAX.out.itm.shape
        clear hb9 hr9 hf9 ht9
        subst hra
        obtain ⟨y0, y1, y2, y3, y4⟩ := cells5R hv8
        obtain ⟨v0, v1, v2, v3, v4⟩ := cells5R hv9
        have g0 := freeR hv9 0
        have g1 := freeR hv9 1
        have g2 := freeR hv9 2
        have g3 := freeR hv9 3
        have g4 := freeR hv9 4
        clear hv8 hv9
        go_wp2_with fail
        clear y0 y1 y2 y3 y4 v0 v1 v2 v3 v4 g0 g1 g2 g3 g4
        obtain ⟨W2, hW2, hv3, hp⟩ := HP.out
        unfold set5R at hW2
        rw [← hW2]
        clear hW2
        obtain ⟨v0, v1, v2, v3, v4⟩ := cells5R hv3
        exact bodyPost_ret (v := .agg #[.int .i64 5, .int .i64 0, .string ⟨#[]⟩, .slice none 0 0, .slice ra ls.length rcap]) (by simp [results, Tryd.results35, go_sem, v0, v1, v2, v3, v4]) rfl hp
      | false =>
        obtain ⟨hg, hlj, hjs2, hvs, m, hmn, hm, hq⟩ := hf rfl
        obtain ⟨m, rfl⟩ : ∃ m', m = m' + 1 := ⟨m - 1, by omega⟩
        have hjs : ls.length ≤ j := hlj
        have HVS0 := Hold.mk hvs
        have HQ := Hold.mk hq
        obtain ⟨sa, scap, rfl⟩ := ha.itm.shape
        clear hf ht hr ha hbt hvs hq
        go_upto_region 8 with (fail)
        clear x2
        go_cut [] (fun wx => ANxt b s R w m j wx)
        case first =>
          obtain ⟨wd, hwd⟩ : ∃ wd, wd = wr.drew := ⟨_, rfl⟩
          refine wp_region_mixC AnyC 8 rfl (by kernel_rfl) ?_
          rw [← hwd]
          have hbd : But b wr wd := by rw [hwd]; exact (But.refl b wr).drew
          have HRD : Hold (RC b s j false wd) := ⟨by rw [hwd]; exact HRX.out.below (Below.refl _ _).drew⟩
          have HBD := Hold.mk (HBX.out.trans hbd)
          have HAVD := Hold.mk (HAX.out.but hbd hbw)
          have HVS : Hold (Vals (cfX (w.heap.size + 2) (Value.slice sa ls.length scap).ownBlock none wd) xs ls) := ⟨HVS0.out.mono (AV.valsBut hbd hbw)⟩
          clear hwd hbd
          have HVC := Hold.mk (HVAL.out m j wd (by omega) (by omega) HRD.out)
          refine mixl_seg (by kernel_rfl) (fun _ _ d _ _ h => by cases d <;> exact h) [0, 2] [_, _] 6 8 rfl _ _ _ rfl (by kernel_rfl) (anyC _) ?_
          repeat (go_big_quiet_step (fail))
          refine wpQuiet_nil ?_
          refine mixl_two (i := 1) (j := 3) rfl rfl (by kernel_rfl) (anyC _) rfl rfl (fun K hK => ?_) (fun K hK => ?_)
          · obtain ⟨y0, y1, y2, y3, y4⟩ := cells5R HAVD.out.box
            go_wp2_with fail
            clear y0 y1 y2 y3 y4
            refine mixl_act (i := 3) rfl (by kernel_rfl) (anyC _) rfl (fun K hK => ?_)
            go_wp2_with fail
            refine HVC.out.mono ?_
            rintro e w3 ⟨hb3, bd, x, j3, rfl, ⟨xk, xn, xt, xna, xnl, xnc, xia, xil, xic, rfl⟩, hr3, hf3, ht3⟩
            have HAV3 := Hold.mk (HAVD.out.but hb3 hbw)
            have HB3 := Hold.mk (HBD.out.trans hb3)
            have HR3 := Hold.mk hr3
            have HX3 := Hold.mk (And.intro hf3 ht3)
            have HCL := Hold.mk (And.intro (AV.valsBut (sl := .slice sa ls.length scap) hb3 hbw) (AV.valsNew (w' := w3) HAVD.out))
            clear hb3 hf3 hr3 ht3
            go_wp2_with fail
            refine mixl_act (i := 4) rfl (by kernel_rfl) (anyC _) rfl (fun K hK => ?_)
            go_wp2_with fail
            refine mixl_act (i := 5) rfl (by kernel_rfl) (anyC _) rfl (fun K hK => ?_)
            refine wp_push Raw5_mono _ _ rfl infoVal Tryd.underlying24 rfl (by decide) _ w3 _ ls.length _ _ HAV3.out.itm rfl #[.int .i64 xk, .int .i64 xn, .string xt, .slice xna xnl xnc, .slice xia xil xic] [.int .i64 xk, .int .i64 xn, .string xt, .slice xna xnl xnc, .slice xia xil xic] rfl rfl (by simp [Value.oneCell']) [.int .i64 xk, .int .i64 xn, .string xt, .slice xna xnl xnc, .slice xia xil xic] ⟨rfl, rfl, by simp [Value.oneCell']⟩ _ rfl rfl (by omega) (by decide) ?_
            intro sv2 w4 ho4 hg4
            refine hK _ _ ?_
            clear hK K
            obtain ⟨ra, rcap, rfl⟩ := ho4.shape
            have hbx := hg4.kept HAV3.out.box (fun g hg e => by have := (HAV3.out.itm.low g hg).1; omega)
            have HNX := Hold.mk (anxt (m := m) (j := j) (ls := ls) (xs := xs) HAV3.out HR3.out HB3.out hbw hjs hjs2 HX3.out.1 HX3.out.2 HVS.out HCL.out.1 HCL.out.2 HQ.out hg4 ho4)
            clear ho4 hg4
            refine mixl_act (i := 6) rfl (by kernel_rfl) (anyC _) rfl (fun K hK => ?_)
            go_wp2_with fail
            refine mixl_act (i := 7) rfl (by kernel_rfl) (anyC _) rfl (fun K hK => ?_)
            obtain ⟨y0, y1, y2, y3, y4⟩ := cells5R hbx
            have f4 := freeR hbx 4
            clear hbx
            go_wp2_with fail
            clear y0 y1 y2 y3 y4 f4
            refine mix_done (by kernel_rfl) (anyC _) ?_
            go_wp2_with fail
            go_meet
            case rel => exact HNX.out
          · go_wp2_with fail
            refine HVC.out.mono ?_
            rintro e w3 ⟨hb3, bd, x, j3, rfl, ⟨xk, xn, xt, xna, xnl, xnc, xia, xil, xic, rfl⟩, hr3, hf3, ht3⟩
            have HAV3 := Hold.mk (HAVD.out.but hb3 hbw)
            have HB3 := Hold.mk (HBD.out.trans hb3)
            have HR3 := Hold.mk hr3
            have HX3 := Hold.mk (And.intro hf3 ht3)
            have HCL := Hold.mk (And.intro (AV.valsBut (sl := .slice sa ls.length scap) hb3 hbw) (AV.valsNew (w' := w3) HAVD.out))
            clear hb3 hf3 hr3 ht3
            go_wp2_with fail
            refine mixl_two (i := 1) (j := 4) rfl rfl (by kernel_rfl) (anyC _) rfl rfl (fun K hK => ?_) (fun K hK => ?_)
            · obtain ⟨y0, y1, y2, y3, y4⟩ := cells5R HAV3.out.box
              go_wp2_with fail
              clear y0 y1 y2 y3 y4
              refine mixl_act (i := 4) rfl (by kernel_rfl) (anyC _) rfl (fun K hK => ?_)
              go_wp2_with fail
              refine mixl_act (i := 5) rfl (by kernel_rfl) (anyC _) rfl (fun K hK => ?_)
              refine wp_push Raw5_mono _ _ rfl infoVal Tryd.underlying24 rfl (by decide) _ w3 _ ls.length _ _ HAV3.out.itm rfl #[.int .i64 xk, .int .i64 xn, .string xt, .slice xna xnl xnc, .slice xia xil xic] [.int .i64 xk, .int .i64 xn, .string xt, .slice xna xnl xnc, .slice xia xil xic] rfl rfl (by simp [Value.oneCell']) [.int .i64 xk, .int .i64 xn, .string xt, .slice xna xnl xnc, .slice xia xil xic] ⟨rfl, rfl, by simp [Value.oneCell']⟩ _ rfl rfl (by omega) (by decide) ?_
              intro sv2 w4 ho4 hg4
              refine hK _ _ ?_
              clear hK K
              obtain ⟨ra, rcap, rfl⟩ := ho4.shape
              have hbx := hg4.kept HAV3.out.box (fun g hg e => by have := (HAV3.out.itm.low g hg).1; omega)
              have HNX := Hold.mk (anxt (m := m) (j := j) (ls := ls) (xs := xs) HAV3.out HR3.out HB3.out hbw hjs hjs2 HX3.out.1 HX3.out.2 HVS.out HCL.out.1 HCL.out.2 HQ.out hg4 ho4)
              clear ho4 hg4
              refine mixl_act (i := 6) rfl (by kernel_rfl) (anyC _) rfl (fun K hK => ?_)
              go_wp2_with fail
              refine mixl_act (i := 7) rfl (by kernel_rfl) (anyC _) rfl (fun K hK => ?_)
              obtain ⟨y0, y1, y2, y3, y4⟩ := cells5R hbx
              have f4 := freeR hbx 4
              clear hbx
              go_wp2_with fail
              clear y0 y1 y2 y3 y4 f4
              refine mix_done (by kernel_rfl) (anyC _) ?_
              go_wp2_with fail
              go_meet
              case rel => exact HNX.out
            · go_wp2_with fail
              refine mixl_act (i := 1) rfl (by kernel_rfl) (anyC _) rfl (fun K hK => ?_)
              have hlt := ltR HAV3.out.box
              obtain ⟨y0, y1, y2, y3, y4⟩ := cells5R HAV3.out.box
              go_wp2_with fail
              clear y0 y1 y2 y3 y4
              refine mixl_act (i := 5) rfl (by kernel_rfl) (anyC _) rfl (fun K hK => ?_)
              refine wp_push Raw5_mono _ _ rfl infoVal Tryd.underlying24 rfl (by decide) _ w3 _ ls.length _ _ HAV3.out.itm rfl #[.int .i64 xk, .int .i64 xn, .string xt, .slice xna xnl xnc, .slice xia xil xic] [.int .i64 xk, .int .i64 xn, .string xt, .slice xna xnl xnc, .slice xia xil xic] rfl rfl (by simp [Value.oneCell']) [.int .i64 xk, .int .i64 xn, .string xt, .slice xna xnl xnc, .slice xia xil xic] ⟨rfl, rfl, by simp [Value.oneCell']⟩ _ rfl rfl (by omega) (by decide) ?_
              intro sv2 w4 ho4 hg4
              refine hK _ _ ?_
              clear hK K
              obtain ⟨ra, rcap, rfl⟩ := ho4.shape
              have hbx := hg4.kept HAV3.out.box (fun g hg e => by have := (HAV3.out.itm.low g hg).1; omega)
              have HNX := Hold.mk (anxt (m := m) (j := j) (ls := ls) (xs := xs) HAV3.out HR3.out HB3.out hbw hjs hjs2 HX3.out.1 HX3.out.2 HVS.out HCL.out.1 HCL.out.2 HQ.out hg4 ho4)
              clear ho4 hg4
              refine mixl_act (i := 6) rfl (by kernel_rfl) (anyC _) rfl (fun K hK => ?_)
              go_wp2_with fail
              refine mixl_act (i := 7) rfl (by kernel_rfl) (anyC _) rfl (fun K hK => ?_)
              obtain ⟨y0, y1, y2, y3, y4⟩ := cells5R hbx
              have f4 := freeR hbx 4
              clear hbx
              go_wp2_with fail
              clear y0 y1 y2 y3 y4 f4
              refine mix_done (by kernel_rfl) (anyC _) ?_
              go_wp2_with fail
              go_meet
              case rel => exact HNX.out
        case rest =>
          obtain ⟨hb4, bd, j3, sl, xs, ls, cs, hr4, ha4, hls4, hf4, ht4⟩ := hcut
          generalize wc = wb at *
          clear HRX HBX HAX HVS0 HQ
          have HB4 := Hold.mk hb4
          have HR4 := Hold.mk hr4
          have HA4 := Hold.mk ha4
          have HF4 := Hold.mk (And.intro hf4 ht4)
          clear hb4 hr4 ha4 hf4 ht4
          go_wp2_with fail
          refine (rHere_any b s j3 bd wb HR4.out).mono ?_
          rintro e w5 ⟨rfl, hb5⟩
          have HRX := Hold.mk (HR4.out.below hb5)
          have HBX := Hold.mk (HB4.out.trans (But.of_below hb5))
          have HAX := Hold.mk (HA4.out.but (But.of_below (b := b) hb5) hbw)
          have HFX : Hold (bd = false → j < j3 ∧ ls.length ≤ j3 ∧ ls.length ≤ s.size ∧ Vals (cfX (w.heap.size + 2) sl.ownBlock none w5) xs ls ∧ ∃ r, dl s j3 = skipL r ∧ tailL m 5 r [] xs = R) := ⟨fun e => by
            obtain ⟨q1, q2, q0, q3, q4⟩ := HF4.out.1 e
            exact ⟨q1, q2, q0, q3.mono (AV.valsBut (But.of_below (b := b) hb5) hbw), q4⟩⟩
          have HX2 : Hold (bd = true → R = none) := ⟨HF4.out.2⟩
          clear hb5 HR4 HB4 HA4 HF4
          by_cases h44 : hereB (dl s j3) = 44
          · obtain ⟨hjl, hdj⟩ := esc_char h44 (by decide)
            rw [h44]
            have x1 := HRX.out.c1
            have f1 := HRX.out.fz 1
            have HN : Hold (AInv b s n R w (gk - 1) (w5.setCell ⟨b, 1, none⟩ (.int .i64 ((j3 : Int) + 1)))) := ⟨HBX.out.trans (But.set _ _ _), bd, j3 + 1, sl, xs, ls, cs, HRX.out.to1 hjl, HAX.out.but (But.set _ _ _) hbw, hls4, fun e => by
              obtain ⟨q1, q2, q0, q3, r, q4, q5⟩ := HFX.out e
              refine ⟨by omega, by omega, q0, q3.mono (AV.valsBut (But.set _ _ _) hbw), m, by omega, by omega, ?_⟩
              rw [← q5, tail_on (r := dl s (j3 + 1)) (by rw [← q4, hdj]), more_next, if_pos rfl], HX2.out⟩
            have hgk1 : gk - 1 < gk := by omega
            clear h44 hdj
            go_wp2_with fail
            clear x1 f1
            go_roundg (gk - 1)
            case measure => exact hgk1
            case rel => exact HN.out
          · have b44 : (((hereB (dl s j3)).toNat : Int) != 44) = true := by rw [bne_iff_ne]; exact fun e => h44 (UInt8.toNat_inj.1 (show (hereB (dl s j3)).toNat = 44 by omega))
            have HX1 : Hold (bd = false → Vals (cfX (w.heap.size + 2) sl.ownBlock none w5) xs ls ∧ ∃ r, dl s j3 = skipL r ∧ endL 5 r [] xs = R) := ⟨fun e => by
              obtain ⟨q1, q2, q0, q3, r, q4, q5⟩ := HFX.out e
              refine ⟨q3, r, q4, ?_⟩
              rw [← q5, tail_end (fun r' e2 => ?_)]
              apply h44
              rw [q4, e2]; rfl⟩
            clear h44 HFX
            go_wp2_with fail
            clear b44
            refine (rWant_any b s ⟨#[93]⟩ j3 bd w5 HRX.out hs (by decide)).mono ?_
            rintro e w9 ⟨rfl, hb9, k9, no9, hr9, hf9, ht9⟩
            have HP := Hold.mk (arr_fin (R := R) (xs := xs) HAX.out HBX.out hbw hb9 hr9 HX1.out HX2.out hf9 ht9)
            have hv8 := But.keep hb9 HAX.out.box (by omega)
            have hv9 := But.keep hb9 HAX.out.res (by omega)
            obtain ⟨ra, rcap, hra⟩ := HAX.out.itm.shape
            clear hb9 hr9 hf9 ht9
            subst hra
            obtain ⟨y0, y1, y2, y3, y4⟩ := cells5R hv8
            obtain ⟨v0, v1, v2, v3, v4⟩ := cells5R hv9
            have g0 := freeR hv9 0
            have g1 := freeR hv9 1
            have g2 := freeR hv9 2
            have g3 := freeR hv9 3
            have g4 := freeR hv9 4
            clear hv8 hv9
            go_wp2_with fail
            clear y0 y1 y2 y3 y4 v0 v1 v2 v3 v4 g0 g1 g2 g3 g4
            obtain ⟨W2, hW2, hv3, hp⟩ := HP.out
            unfold set5R at hW2
            rw [← hW2]
            clear hW2
            obtain ⟨v0, v1, v2, v3, v4⟩ := cells5R hv3
            exact bodyPost_ret (v := .agg #[.int .i64 5, .int .i64 0, .string ⟨#[]⟩, .slice none 0 0, .slice ra ls.length rcap]) (by simp [results, Tryd.results35, go_sem, v0, v1, v2, v3, v4]) rfl hp

end Go.Proofs.YtdhilnnohokoeaaDoor
