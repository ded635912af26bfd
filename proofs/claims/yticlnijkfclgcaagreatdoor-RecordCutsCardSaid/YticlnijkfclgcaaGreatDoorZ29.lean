/- Catalogs: spaces sorted, each once; Formed of the program. -/
import Derived.Test.YticlnijkfclgcaaGreatDoorZ28
import Derived.Test.YticlnijkfclgcaaGreatDoorCLays
import Derived.Shelf.Slices.In.SortNone
import Derived.Shelf.Slices.Turned
import Derived.Lib.OwnBridge
import Derived.Lib.RowBridge
import Derived.Sort.OwnSortedInts
namespace Go.Proofs.YticlnijkfclgcaaGreatDoor
open Go.RowKit Go.Sort Go.Shelf

/-- all spaces are between 1 and 200, and no two alike -/
def spacesOk (zs : List Int) : Bool := decide zs.Nodup && zs.all fun z => decide (1 ≤ z ∧ z ≤ 200)
abbrev sortZ (zs : List Int) : List Int := zs.mergeSort fun x y => decide (x ≤ y)
theorem sortZ_perm (zs : List Int) : (sortZ zs).Perm zs := List.mergeSort_perm zs _
theorem sortZ_len (zs : List Int) : (sortZ zs).length = zs.length := (sortZ_perm zs).length_eq
theorem sortZ_up (zs : List Int) : (sortZ zs).Pairwise (· ≤ ·) := by
  have h := List.pairwise_mergeSort (le := fun x y : Int => decide (x ≤ y)) (fun a b c h1 h2 => by simp at h1 h2 ⊢; omega) (fun a b => by simp; omega) zs
  exact h.imp fun h => of_decide_eq_true h
theorem keeps_at {ts : List Int} {j : Nat} (hj : j + 1 < ts.length) : Lib.keeps ts.toArray (j + 1) = decide (ts[j + 1] ≠ ts[j]'(by omega)) := by
  unfold Lib.keeps
  have h1 : ts.toArray[j + 1]! = ts[j + 1] := by rw [getElem!_pos ts.toArray (j + 1) (by simpa using hj)]; simp
  have h2 : ts.toArray[j]! = ts[j]'(by omega) := by rw [getElem!_pos ts.toArray j (by simp; omega)]; simp
  simp [h1, h2]
theorem keeps_nodup {ts : List Int} (hs : ts.Pairwise (· ≤ ·)) : (∀ j, j < ts.length → Lib.keeps ts.toArray j = true) ↔ ts.Nodup := by
  rw [List.pairwise_iff_getElem] at hs
  constructor
  · intro h
    rw [List.nodup_iff_pairwise_ne, List.pairwise_iff_getElem]
    intro i j hi hj hij
    obtain ⟨q, rfl⟩ : ∃ q, j = q + 1 := ⟨j - 1, by omega⟩
    have h1 := h (q + 1) hj
    rw [keeps_at hj] at h1
    have h1 := of_decide_eq_true h1
    have h2 := hs q (q + 1) (by omega) hj (by omega)
    have h3 : ts[i] ≤ ts[q]'(by omega) := by
      rcases Nat.lt_or_ge i q with h4 | h4
      · exact hs i q hi (by omega) h4
      · obtain rfl : i = q := by omega
        exact Int.le_refl _
    omega
  · intro h j hj
    rw [List.nodup_iff_pairwise_ne, List.pairwise_iff_getElem] at h
    cases j with
    | zero => exact Lib.keeps_lt_one _ 0 (by omega)
    | succ q =>
      rw [keeps_at hj]
      have := h q (q + 1) (by omega) hj (by omega)
      exact decide_eq_true (fun e => this e.symm)
theorem compact_len {ts : List Int} (hs : ts.Pairwise (· ≤ ·)) : (Lib.compact ts).length = ts.length ↔ ts.Nodup := by
  rw [← keeps_nodup hs]
  constructor
  · intro h j hj
    unfold Lib.compact Lib.compactUpTo at h
    rw [List.length_map] at h
    have h2 : ((List.range ts.length).filter (Lib.keeps ts.toArray)).length = (List.range ts.length).length := by rw [h, List.length_range]
    exact List.length_filter_eq_length_iff.1 h2 j (List.mem_range.2 hj)
  · intro h; rw [Lib.compact_all _ h]
theorem compact_same {ts : List Int} (hs : ts.Pairwise (· ≤ ·)) (h : ts.Nodup) : Lib.compact ts = ts := Lib.compact_all _ ((keeps_nodup hs).2 h)
theorem spacesOk_no {zs : List Int} (h : ¬ (sortZ zs).Nodup) : spacesOk zs = false := by
  unfold spacesOk
  rw [decide_eq_false (fun h2 => h ((sortZ_perm zs).nodup_iff.2 h2))]; rfl
theorem spacesOk_yes {zs : List Int} (h : (sortZ zs).Nodup) {a b : Int} (h0 : (sortZ zs)[0]? = some a) (h1 : (sortZ zs)[zs.length - 1]? = some b) : spacesOk zs = (decide (1 ≤ a) && decide (b ≤ 200)) := by
  unfold spacesOk
  rw [decide_eq_true ((sortZ_perm zs).nodup_iff.1 h), Bool.true_and, Bool.eq_iff_iff, List.all_eq_true, Bool.and_eq_true, decide_eq_true_eq, decide_eq_true_eq]
  have hs := List.pairwise_iff_getElem.1 (sortZ_up zs)
  have hl := sortZ_len zs
  obtain ⟨l0, e0⟩ := List.getElem?_eq_some_iff.1 h0
  obtain ⟨l1, e1⟩ := List.getElem?_eq_some_iff.1 h1
  constructor
  · intro h
    have ha := of_decide_eq_true (h a ((sortZ_perm zs).mem_iff.1 (List.mem_of_getElem? h0)))
    have hb := of_decide_eq_true (h b ((sortZ_perm zs).mem_iff.1 (List.mem_of_getElem? h1)))
    exact ⟨ha.1, hb.2⟩
  · rintro ⟨ha, hb⟩ z hz
    obtain ⟨i, hi, rfl⟩ := List.getElem_of_mem ((sortZ_perm zs).mem_iff.2 hz)
    refine decide_eq_true ⟨?_, ?_⟩
    · rcases Nat.eq_zero_or_pos i with h4 | h4
      · subst h4; rw [e0]; exact ha
      · have := hs 0 i l0 hi h4
        rw [e0] at this; omega
    · rcases Nat.lt_or_ge i (zs.length - 1) with h4 | h4
      · have := hs i (zs.length - 1) hi l1 h4
        rw [e1] at this; omega
      · have e : i = zs.length - 1 := by omega
        subst e; rw [e1]; exact hb
theorem spacesOk_nil : spacesOk [] = true := rfl
theorem owns_ints {T : TypeId} {B p : Nat} {w : World} {sl : Value} {xs : List Int} {cs : List Value} (h : OwnS 1 RInt T B w sl p xs cs) : cs = xs.map (Value.int .i64) := by
  have hc : cs.length = xs.length := by have := h.row.1; omega
  apply List.ext_getElem?
  intro i
  by_cases hi : i < xs.length
  · obtain ⟨d, h1, h2, h3⟩ := h.row.2 i xs[i] (List.getElem?_eq_getElem hi)
    have h3 : d = [.int .i64 xs[i]] := h3
    have := h2 0 (.int .i64 xs[i]) (by rw [h3]; rfl)
    rw [Nat.mul_one, Nat.add_zero] at this
    rw [this, List.getElem?_map, List.getElem?_eq_getElem hi]; rfl
  · rw [List.getElem?_eq_none (by omega), List.getElem?_eq_none (by simp; omega)]
theorem below_grownI {B g : Nat} {w w' : World} (h : w.grownBy w' (some g)) (hg : B ≤ g) (hB : B ≤ w.heap.size) : Below B w w' := by
  obtain ⟨h1, h2, h3, h4, h5⟩ := h
  exact ⟨h1, h2, h3, h4, fun k hk => h5 k (by omega) (fun e => by injection e with e; omega)⟩
/-- behind slices.Sort -/
theorem sort_ints (T : TypeId) (B p : Nat) (sl : Value) (zs : List Int) (cs : List Value) (w : World) (h : OwnS 1 RInt T B w sl p zs cs) (hp : p ≤ 400000000) :
    Calls Tryz.prog (Tryz.laysSortI_ren.f 189) #[sl] w fun e w' => e = .returned (.tuple #[]) ∧ Below B w w' ∧ w'.ownsRow B T 1 sl p ((sortZ zs).map (Value.int .i64)) := by
  have e1 := owns_ints h
  have hlen := h.len
  rcases id h.own.2 with ⟨hv, hn⟩ | ⟨g, cap, cur, hv, hb, hg, hle, hcap, hs, ht⟩
  · obtain rfl : zs = [] := List.length_eq_zero_iff.1 (by omega)
    subst hv; subst hn
    refine (Any.slices_Sort_int_none Tryz.laysSortI none 0 w).mono ?_
    rintro e w' ⟨rfl, rfl⟩
    refine ⟨rfl, Below.refl _ _, ?_⟩
    have e0 : sortZ [] = [] := by simp [sortZ]
    rw [e0]
    exact World.ownsRow_nil _ _ _ _
  · subst hv
    rw [e1, Nat.mul_one] at ht
    have hH : Holds (Value.int .i64) w g 0 zs.toArray := holds_of_blockI hg (by rw [hlen]; exact ht)
    have hlt : g < w.heap.size := heap_lt hg
    have hc := Any.slices_Sort_int Tryz.laysSortI g 0 cap zs w hH hlt (by omega)
    rw [hlen] at hc
    refine hc.mono ?_
    rintro e w' ⟨rfl, n, os, rfl⟩
    refine ⟨rfl, below_grownI (grownBy_sortedI _) hb h.le, ?_⟩
    have hr := ownsRow_sortedI (n := n) (os := os) (ss := zs) (ts := sortZ zs) (sortZ_len zs) hb hg (by rw [hlen]; exact hle) hcap hs
    rw [hlen] at hr
    exact hr
/-- behind slices.Compact -/
theorem compact_ints (T : TypeId) (B p : Nat) (a : Option Addr) (cap : Nat) (ts : List Int) (w : World) (h : w.ownsRow B T 1 (.slice a p cap) p (ts.map (Value.int .i64))) :
    Calls Tryz.prog (Tryz.laysCompactI_ren.f 20) #[.slice a p cap] w fun e w' => e = .returned (.slice a (Lib.compact ts).length cap) ∧ Below B w w' ∧ (Lib.compact ts = ts → w'.ownsRow B T 1 (.slice a p cap) p (ts.map (Value.int .i64))) := by
  by_cases hv : (Value.slice a p cap) = .slice none 0 0
  · injection hv with h1 h2 h3
    subst h1; subst h2; subst h3
    have ht : ts = [] := List.length_eq_zero_iff.1 (by have := h.1; simpa using this)
    subst ht
    refine (Any.slices_Compact_int_empty Tryz.laysCompactI none 0 w).mono ?_
    rintro e w' ⟨rfl, rfl⟩
    exact ⟨rfl, Below.refl _ _, fun _ => h⟩
  · obtain ⟨g, cap', e, hb, hlt, hle, hcap, hl, hH⟩ := Lib.holds_of_ownsRow h hv
    injection e with e1 _ e3
    subst e1; subst e3
    have hc := Any.slices_Compact_int Tryz.laysCompactI g 0 cap ts w hH (by unfold maxLen at hcap; omega) (by omega)
    rw [hl] at hc
    refine hc.mono ?_
    rintro e w' ⟨rfl, q, rfl⟩
    have hk := Lib.compact_length_le ts
    refine ⟨rfl, Lib.below_putRow (Below.refl _ _) hb, fun hs => ?_⟩
    have hr := Lib.ownsRow_putRow (q := q) (k := p) (ys := Lib.compact ts ++ List.replicate (p - (Lib.compact ts).length) 0) h (by simp; omega) (Nat.le_refl _)
    rw [hs, hl, Nat.sub_self] at hr
    rw [hs, hl, Nat.sub_self]
    have e9 : List.take p (ts.map (Value.int .i64)) = ts.map (Value.int .i64) := List.take_of_length_le (by simp [hl])
    simpa [hl, e9] using hr
/-- a formed collection; a formed catalog -/
def formX (x : CX) : Bool := nameF x.name && decide (x.ixs.length ≤ 4) && rises (x.ixs.map fun x => x.ix.name) && !(x.ixs.any fun p => !formI p.ix)
def formC (l : List CX) : Bool := decide (l.length ≤ 4) && rises (l.map fun x => x.name) && l.all formX && spacesOk (spacesC l)
/-- paths of a size that is looked at -/
def SmallC (l : List CX) : Prop := ∀ x ∈ l, ∀ p ∈ x.ixs, ∀ f ∈ p.ix.fields, f.1.size ≤ 1000000
set_option maxRecDepth 100000 in
set_option maxHeartbeats 4000000 in
theorem formed1C_any (x : PX) (xa : Option Addr) (xcap : Nat) (w : World) (hx : RPX (cf w) x [.string x.ix.name, .slice xa x.ix.fields.length xcap, .bool x.ix.uniq, .int .i64 x.sp]) (hsm : ∀ f ∈ x.ix.fields, f.1.size ≤ 1000000) (hT : Tabs w) :
    Calls Tryz.prog 75 #[.agg #[.string x.ix.name, .slice xa x.ix.fields.length xcap, .bool x.ix.uniq, .int .i64 x.sp]] w fun e w' => e = .returned (.bool (!formI x.ix)) ∧ Below w.heap.size w w' := by
  have HB := Hold.mk (Boxed.refl w (.cells #[.string x.ix.name, .slice xa x.ix.fields.length xcap, .bool x.ix.uniq, .int .i64 x.sp] 85))
  have HI : Hold (IAt (cf w) x.ix (.agg #[.string x.ix.name, .slice xa x.ix.fields.length xcap, .bool x.ix.uniq])) := ⟨by
    obtain ⟨a, cap, e, h1, h2, _⟩ := hx
    simp only [List.cons.injEq, Value.slice.injEq, true_and, and_true] at e
    obtain ⟨rfl, rfl⟩ := e
    exact ⟨h1, _, rfl, h2⟩⟩
  have HX := Hold.mk (FormedI_any x.ix _ _ (HI.out.mono (cle_below HB.out.below)) hsm (hT.below HB.out.below))
  obtain ⟨⟨nm, fl, u⟩, sp⟩ := x
  simp only at *
  generalize formI ⟨nm, fl, u⟩ = r at *
  clear hx hsm hT
  go_enter Tryz.func75, Tryz.ntmps75
  go_wp2_with fail
  refine HX.out.mono ?_
  rintro e w1 ⟨rfl, hb1⟩
  have HB1 := Hold.mk (HB.out.next hb1)
  clear hb1 HX
  go_wp2_with fail
  go_ret
  exact ⟨rfl, HB1.out.below⟩
theorem formed1C_enters (args : Array Value) (w : World) : (callFunc 75 args).run Tryz.prog w = .ok (.enter 75 args) w := enters_of Tryz.func75 (by kernel_rfl) rfl args w
set_option maxRecDepth 100000 in
set_option maxHeartbeats 16000000 in
theorem FormedC_any (l : List CX) (v : Value) (w : World) (h : CatAt (cf w) l v) (hsm : SmallC l) (hT : Tabs w) :
    Calls Tryz.prog 47 #[v] w fun e w' => e = .returned (.bool (formC l)) ∧ Below w.heap.size w w' := by
  have HCA := Hold.mk h
  obtain ⟨a, cap, rfl, hs⟩ := h
  have HS := Hold.mk hs
  obtain ⟨a', cap', e, hle, hcap, hel⟩ := hs
  cases e
  obtain ⟨W0, hW0⟩ : ∃ W0, W0 = w.alloc (.cells #[.slice a l.length cap] 63) := ⟨_, rfl⟩
  have hb0 : Below w.heap.size w W0 := by rw [hW0]; exact (Below.refl _ w).alloc (Nat.le_refl _) _
  have HK0 : Hold (W0.heap[w.heap.size]? = some (.cells #[.slice a l.length cap] 63 (0, 0))) := ⟨by rw [hW0]; exact heap_alloc_new w _⟩
  have HY : Hold (∀ wr, Below W0.heap.size W0 wr → wr.cell? ⟨w.heap.size, 0, none⟩ = some (.slice a l.length cap)) := ⟨fun wr hb => by
    have := kept HK0.out hb
    simp [World.cell?, this]⟩
  have HB0 := Hold.mk hb0
  have HE := Hold.mk hel
  have HT := Hold.mk hT
  have HSM := Hold.mk hsm
  have y0 := HY.out W0 (Below.refl _ _)
  clear hb0 hel hT hsm
  go_enter Tryz.func47, Tryz.ntmps47
  go_upto_region 1 with (fail)
  rw [← hW0]
  clear hW0
  by_cases h4 : l.length ≤ 4
  case neg =>
    have h4b : (4 : Int) < (l.length : Int) := by omega
    have HR : Hold (formC l = false) := ⟨by unfold formC; rw [decide_eq_false h4]; rfl⟩
    clear h4
    go_wp2_with fail
    go_ret
    exact ⟨by rw [HR.out]; rfl, HB0.out⟩
  have h4b : ¬ (4 : Int) < (l.length : Int) := by omega
  have H4 := Hold.mk h4
  have HRI := Hold.mk (risingC_any l _ W0 (HS.out.mono RCX_mono (cle_below HB0.out)))
  clear h4
  go_wp2_with fail
  refine HRI.out.mono ?_
  rintro e w1 ⟨rfl, hb1⟩
  have HB1 := Hold.mk hb1
  clear hb1 HRI y0
  cases hri : rises (l.map fun x => x.name) with
  | false =>
    have HR : Hold (formC l = false) := ⟨by unfold formC; rw [hri]; simp⟩
    have HBE := Hold.mk (HB0.out.trans (HB1.out.mono HB0.out.size))
    clear hri
    go_wp2_with fail
    go_ret
    exact ⟨by rw [HR.out]; rfl, HBE.out⟩
  | true =>
  have HF0 : Hold (formC l = (l.all formX && spacesOk (spacesC l))) := ⟨by unfold formC; rw [hri, decide_eq_true H4.out]; rfl⟩
  have y0 := HY.out w1 HB1.out
  clear hri
  go_wp2_with fail
  clear y0
  go_loopw [20] (fun i wr => ∃ j : Nat, i = .int .i64 j ∧ j ≤ l.length ∧ (∀ (q : Nat) x, q < j → l[q]? = some x → formX x = true) ∧ Below W0.heap.size W0 wr) (fun i _ => l.length - (intOf i).toNat)
  case atStart => exact ⟨0, rfl, Nat.zero_le _, fun _ _ h => by omega, HB1.out⟩
  case round =>
    obtain ⟨j, rfl, hj, hall, hbl⟩ := hrel
    have HALL := Hold.mk hall
    have HBL := Hold.mk hbl
    have HBW : Hold (Below w.heap.size w wr) := ⟨HB0.out.trans (hbl.mono HB0.out.size)⟩
    clear hall hbl HB1
    by_cases hlt : j < l.length
    · obtain ⟨x, hx⟩ : ∃ x, l[j]? = some x := ⟨l[j], List.getElem?_eq_getElem hlt⟩
      obtain ⟨b, off, d, rfl, hd, hcc, xa, xcap, rfl, hxn, hxw, hxi⟩ := HE.out j x hx
      have hcl := cle_below HBW.out
      have z0 := hcl _ _ _ (hcc 0 _ rfl)
      have z1 := hcl _ _ _ (hcc 1 _ rfl)
      have z2 := hcl _ _ _ (hcc 2 _ rfl)
      unfold cf at z0 z1 z2
      rw [Nat.add_zero] at z0
      have HXE := Hold.mk hx
      have HXI := Hold.mk hxi
      have HXS : Hold (∀ p ∈ x.ixs, ∀ f ∈ p.ix.fields, f.1.size ≤ 1000000) := ⟨HSM.out x (List.mem_of_getElem? hx)⟩
      have HFX : Hold (formX x = (nameF x.name && decide (x.ixs.length ≤ 4) && rises (x.ixs.map fun x => x.ix.name) && !(x.ixs.any fun p => !formI p.ix))) := ⟨rfl⟩
      have HNO : Hold (formX x = false → formC l = false) := ⟨fun h => by
        rw [HF0.out]
        have : l.all formX = false := by
          rw [← Bool.not_eq_true, List.all_eq_true]
          intro h2
          have h3 := h2 x (List.mem_of_getElem? hx)
          rw [h] at h3; cases h3
        rw [this]; rfl⟩
      have HNM := Hold.mk (fun w => Name_any x.name w hxn)
      obtain ⟨nm, sp, xs⟩ := x
      simp only at *
      obtain ⟨W1, hW1⟩ : ∃ W1, W1 = wr.alloc (.cells #[.string nm, .int .i64 sp, .slice xa xs.length xcap] 78) := ⟨_, rfl⟩
      have hb1 : Below wr.heap.size wr W1 := by rw [hW1]; exact (Below.refl _ wr).alloc (Nat.le_refl _) _
      have HK1 : Hold (W1.heap[wr.heap.size]? = some (.cells #[.string nm, .int .i64 sp, .slice xa xs.length xcap] 78 (0, 0))) := ⟨by rw [hW1]; exact heap_alloc_new wr _⟩
      replace HBL := Hold.mk (HBL.out.trans (hb1.mono HBL.out.size))
      replace HBW := Hold.mk (HBW.out.trans (hb1.mono HBW.out.size))
      clear hx hcc hcl hd hxi hxn hb1
      go_upto_region 6 with (fail)
      rw [← hW1]
      clear hW1 z0 z1 z2
      obtain ⟨c0, c1, c2⟩ := cells_three HK1.out
      go_wp2_with fail
      refine (HNM.out _).mono ?_
      rintro e w2 ⟨rfl, hb2⟩
      replace HBL := Hold.mk (HBL.out.trans (hb2.mono HBL.out.size))
      replace HBW := Hold.mk (HBW.out.trans (hb2.mono HBW.out.size))
      replace HK1 := Hold.mk (kept HK1.out hb2)
      clear hb2 HNM c0 c1 c2
      cases hn : nameF nm with
      | false =>
        have HR := Hold.mk (HNO.out (by rw [HFX.out, hn]; rfl))
        clear hn
        go_wp2_with fail
        go_ret
        exact ⟨by rw [HR.out]; rfl, HBW.out⟩
      | true =>
      rw [hn] at HFX
      clear hn
      obtain ⟨c0, c1, c2⟩ := cells_three HK1.out
      by_cases hx4 : xs.length ≤ 4
      case neg =>
        have HR := Hold.mk (HNO.out (by rw [HFX.out, decide_eq_false hx4]; rfl))
        have h4c : (4 : Int) < (xs.length : Int) := by omega
        clear hx4
        go_wp2_with fail
        go_ret
        exact ⟨by rw [HR.out]; rfl, HBW.out⟩
      rw [decide_eq_true hx4] at HFX
      have h4c : ¬ (4 : Int) < (xs.length : Int) := by omega
      have HX4 := Hold.mk hx4
      have HRP := Hold.mk (risingP_any xs _ w2 (HXI.out.mono RPX_mono (cle_below HBW.out)))
      clear hx4
      go_wp2_with fail
      refine HRP.out.mono ?_
      rintro e w3 ⟨rfl, hb3⟩
      replace HBL := Hold.mk (HBL.out.trans (hb3.mono HBL.out.size))
      replace HBW := Hold.mk (HBW.out.trans (hb3.mono HBW.out.size))
      replace HK1 := Hold.mk (kept HK1.out hb3)
      clear hb3 HRP c0 c1 c2
      cases hrp : rises (xs.map fun x => x.ix.name) with
      | false =>
        have HR := Hold.mk (HNO.out (by rw [HFX.out, hrp]; rfl))
        clear hrp
        go_wp2_with fail
        go_ret
        exact ⟨by rw [HR.out]; rfl, HBW.out⟩
      | true =>
      rw [hrp] at HFX
      clear hrp
      obtain ⟨c0, c1, c2⟩ := cells_three HK1.out
      have HAN := Hold.mk (anyQ_any 75 formed1C_enters (fun p => !formI p.ix) _ xs w3 (HXI.out.mono RPX_mono (cle_below HBW.out)) (fun p hp pa pcap wr' hb' hr' => formed1C_any p pa pcap wr' hr' (HXS.out p hp) (HT.out.below (HBW.out.trans (hb'.mono HBW.out.size)))))
      go_wp2_with fail
      refine HAN.out.mono ?_
      rintro e w4 ⟨rfl, hb4⟩
      replace HBL := Hold.mk (HBL.out.trans (hb4.mono HBL.out.size))
      replace HBW := Hold.mk (HBW.out.trans (hb4.mono HBW.out.size))
      clear hb4 HAN c0 c1 c2
      cases han : xs.any fun p => !formI p.ix with
      | true =>
        have HR := Hold.mk (HNO.out (by rw [HFX.out, han]; rfl))
        clear han
        go_wp2_with fail
        go_ret
        exact ⟨by rw [HR.out]; rfl, HBW.out⟩
      | false =>
        rw [han] at HFX
        have HA2 : Hold (∀ (q : Nat) x, q < j + 1 → l[q]? = some x → formX x = true) := ⟨fun q x hq hx => by
          by_cases e : q = j
          · subst e; rw [HXE.out] at hx; cases hx; rw [HFX.out]; rfl
          · exact HALL.out q x (by omega) hx⟩
        clear han
        go_wp2_with fail
        exact ⟨⟨j + 1, by go_num, hlt, HA2.out, HBL.out⟩, by simp [intOf]; omega⟩
    · have HLX : Hold (l.all formX = true) := ⟨by
        rw [List.all_eq_true]
        intro x hx
        obtain ⟨q, hq, e⟩ := List.getElem_of_mem hx
        exact HALL.out q x (by omega) (by rw [← e]; exact List.getElem?_eq_getElem hq)⟩
      have HFF : Hold (formC l = spacesOk (spacesC l)) := ⟨by rw [HF0.out, HLX.out]; rfl⟩
      have HSL : Hold ((spacesC l).length ≤ 1000000) := ⟨by
        have h1 : ∀ x ∈ l, (spacesX x).length ≤ 5 := fun x hx => by
          have h := List.all_eq_true.1 HLX.out x hx
          unfold formX at h
          rw [Bool.and_eq_true, Bool.and_eq_true, Bool.and_eq_true] at h
          have := of_decide_eq_true h.1.1.2
          unfold spacesX
          simp; omega
        have h2 : ∀ m : List CX, (∀ x ∈ m, (spacesX x).length ≤ 5) → (spacesC m).length ≤ m.length * 5 := by
          intro m
          induction m with
          | nil => intro _; simp [spacesC]
          | cons x m ih =>
            intro hm
            unfold spacesC at ih ⊢
            rw [List.flatMap_cons, List.length_append, List.length_cons, Nat.add_mul]
            have := hm x (by simp)
            have := ih (fun y hy => hm y (by simp [hy]))
            omega
        have := h2 l h1
        have := H4.out
        omega⟩
      have y0 := HY.out wr HBL.out
      have HSP := Hold.mk (Spaces_any l (.agg #[.slice a l.length cap]) wr (HCA.out.mono (cle_below HBW.out)) HSL.out)
      obtain ⟨zs, hzs⟩ : ∃ zs, zs = spacesC l := ⟨_, rfl⟩
      rw [← hzs] at HSP HFF HSL
      clear hzs
      go_wp2_with fail
      refine HSP.out.mono ?_
      rintro e w2 ⟨sv, p, cs, rfl, hown, hb2⟩
      have hpz : zs.length = p := hown.len
      have HBW2 := Hold.mk (HBW.out.trans (hb2.mono HBW.out.size))
      have HWS := Hold.mk HBW.out.size
      have HSO := Hold.mk (sort_ints 3 wr.heap.size p sv zs cs w2 hown (by have := HSL.out; omega))
      obtain ⟨sa, scap, rfl⟩ := hown.shape
      clear hown hb2 HSP y0
      go_wp2_with fail
      refine HSO.out.mono ?_
      rintro e w3 ⟨rfl, hb3, hrow⟩
      have HBW3 := Hold.mk (HBW2.out.trans (hb3.mono HWS.out))
      have HCO := Hold.mk (compact_ints 3 wr.heap.size p sa scap (sortZ zs) w3 hrow)
      have HUP := Hold.mk (sortZ_up zs)
      have hsl := sortZ_len zs
      clear hb3 hrow HSO
      go_wp2_with fail
      refine HCO.out.mono ?_
      rintro e w4 ⟨rfl, hb4, hrow⟩
      have HBW4 := Hold.mk (HBW3.out.trans (hb4.mono HWS.out))
      have HRW := Hold.mk hrow
      clear hb4 hrow HCO
      by_cases hnd : (sortZ zs).Nodup
      · have hcs := compact_same HUP.out hnd
        have hrow := HRW.out hcs
        have hcl : (((Lib.compact (sortZ zs)).length : Int) == (p : Int)) = true := by rw [hcs, hsl, hpz]; simp
        cases p with
        | zero =>
          have hz0 : zs = [] := List.length_eq_zero_iff.1 hpz
          have HR : Hold (formC l = true) := ⟨by rw [HFF.out, hz0]; exact spacesOk_nil⟩
          clear hcs hrow hnd
          go_wp2_with fail
          go_ret
          exact ⟨by rw [HR.out]; rfl, HBW4.out⟩
        | succ p =>
          obtain ⟨u0, hu0⟩ : ∃ u0, (sortZ zs)[0]? = some u0 := ⟨_, List.getElem?_eq_getElem (by omega)⟩
          obtain ⟨u1, hu1⟩ : ∃ u1, (sortZ zs)[zs.length - 1]? = some u1 := ⟨_, List.getElem?_eq_getElem (by omega)⟩
          have HOK := Hold.mk (spacesOk_yes hnd hu0 hu1)
          rw [hpz, Nat.add_sub_cancel] at hu1
          rcases hrow.2 with ⟨hv, hn0⟩ | ⟨g, cap2, cur, hv, hgb, hgg, _⟩
          · omega
          · injection hv with e1 e2 e3
            subst e1
            have z0 := hrow.cells (g := g) rfl 0 (.int .i64 u0) (by rw [List.getElem?_map, hu0]; rfl)
            have z1 := hrow.cells (g := g) rfl p (.int .i64 u1) (by rw [List.getElem?_map, hu1]; rfl)
            rw [addr_at] at z0 z1
            have hp1 : (p : Int) + 1 - 1 = (p : Int) := by omega
            have hwr : Hold (wrap64 (p : Int) = (p : Int)) := ⟨by
              have hpb : p ≤ 1000000 := by have := HSL.out; omega
              simp [wrap64]; omega⟩
            have z2 : w4.cell? ⟨g, (wrap64 (p : Int)).toNat, none⟩ = some (.int .i64 u1) := by rw [hwr.out, Int.toNat_natCast]; exact z1
            have hwl : (0 : Int) ≤ wrap64 (p : Int) ∧ wrap64 (p : Int) < (p : Int) + 1 := by rw [hwr.out]; omega
            obtain ⟨hwa, hwb⟩ := hwl
            have hp0 : ((p : Int) + 1 == 0) = false := by rw [beq_eq_false_iff_ne]; omega
            have hcl2 : (((Lib.compact (sortZ zs)).length : Int) == (p : Int) + 1) = true := by simpa using hcl
            have HFR := Hold.mk (HFF.out.trans HOK.out)
            clear hcs hrow hnd hu0 hu1 hgg hsl hpz
            by_cases ha : 1 ≤ u0
            · by_cases hb : u1 ≤ 200
              · have HR : Hold (formC l = true) := ⟨by rw [HFR.out, decide_eq_true ha, decide_eq_true hb]; rfl⟩
                go_wp2_with fail
                go_ret
                exact ⟨by rw [HR.out]; first | rfl | simp [hb], HBW4.out⟩
              · have HR : Hold (formC l = false) := ⟨by rw [HFR.out, decide_eq_true ha, decide_eq_false hb]; rfl⟩
                go_wp2_with fail
                go_ret
                exact ⟨by rw [HR.out]; first | rfl | (simp; omega), HBW4.out⟩
            · have HR : Hold (formC l = false) := ⟨by rw [HFR.out, decide_eq_false ha]; rfl⟩
              go_wp2_with fail
              go_ret
              exact ⟨by rw [HR.out]; rfl, HBW4.out⟩
      · have hcl : (((Lib.compact (sortZ zs)).length : Int) == (p : Int)) = false := by
          rw [beq_eq_false_iff_ne]
          intro e
          exact hnd ((compact_len HUP.out).1 (by omega))
        have HR : Hold (formC l = false) := ⟨by rw [HFF.out]; exact spacesOk_no hnd⟩
        clear hnd
        go_wp2_with fail
        go_ret
        exact ⟨by rw [HR.out]; rfl, HBW4.out⟩
end Go.Proofs.YticlnijkfclgcaaGreatDoor
