/- Catalogs: Show of the program (printed by genXCBC.py). -/
import Derived.Test.YticlnijkfclgcaaGreatDoorZ08
import Derived.Test.YticlnijkfclgcaaGreatDoorZ38
namespace Go.Proofs.YticlnijkfclgcaaGreatDoor
open Go.Shelf Go.RowKit

/-- all stands but a box and a row's own block; the box as long as one of ds is not done -/
def KeepO (zb : Nat) (sv : Value) (w : World) (ds : List Nat) : Array Bool → World → Prop := fun l w' => (∀ b, b < w.heap.size → b ≠ zb → sv.ownBlock ≠ some b → w'.heap[b]? = w.heap[b]?) ∧ ((ds.any fun d => !l.getD d true) = true → w'.heap[zb]? = w.heap[zb]?)
def OthT (zb : Nat) (sv : Value) (w : World) : Type := { w' : World // ∀ b, b < w.heap.size → b ≠ zb → sv.ownBlock ≠ some b → w'.heap[b]? = w.heap[b]? }
instance (zb : Nat) (sv : Value) (w : World) : Nonempty (OthT zb sv w) := ⟨⟨w, fun _ _ _ _ => rfl⟩⟩
theorem OthT.cell {zb b o : Nat} {sv v : Value} {w : World} (h : w.cell? ⟨b, o, none⟩ = some v) (hb : b ≠ zb) (hs : sv.ownBlock ≠ some b) (e : OthT zb sv w) : e.val.cell? ⟨b, o, none⟩ = some v := by
  rw [World.cell?_of_block (w := w) (e.property b (lt_of_cell h) hb hs)]; exact h
abbrev OthC (zb : Nat) (sv : Value) (w : World) : World → Prop := fun w' => ∃ e : OthT zb sv w, w' = e.val
def BoxOT (zb : Nat) (w : World) : Type := { w' : World // w'.heap[zb]? = w.heap[zb]? }
instance (zb : Nat) (w : World) : Nonempty (BoxOT zb w) := ⟨⟨w, rfl⟩⟩
theorem BoxOT.cell {zb o : Nat} {v : Value} {w : World} (h : w.cell? ⟨zb, o, none⟩ = some v) (e : BoxOT zb w) : e.val.cell? ⟨zb, o, none⟩ = some v := by
  rw [World.cell?_of_block (w := w) e.property]; exact h
abbrev BoxOC (zb : Nat) (w : World) : World → Prop := fun w' => ∃ e : BoxOT zb w, w' = e.val
theorem keepO_back {zb : Nat} {sv : Value} {w : World} {ds is : List Nat} (h : (is.all fun i => !ds.contains i) = true) : ∀ i ∈ is, ∀ l w', KeepO zb sv w ds (l.setIfInBounds i true) w' → KeepO zb sv w ds l w' := fun i hi l w' ⟨h1, h2⟩ => by
  refine ⟨h1, fun h3 => h2 ?_⟩
  have hni : ¬ i ∈ ds := by
    have := List.all_eq_true.1 h i hi
    simpa using this
  rw [List.any_eq_true] at h3 ⊢
  obtain ⟨d, hd, h4⟩ := h3
  exact ⟨d, hd, by rw [getD_set_ne true (fun e => hni (by rw [e]; exact hd))]; exact h4⟩
theorem keepO_base {zb : Nat} {sv : Value} {w : World} {ds : List Nat} : ∀ l w', KeepO zb sv w ds l w' → OthC zb sv w w' := fun _ w' h => ⟨⟨w', h.1⟩, rfl⟩
theorem keepO_box {zb : Nat} {sv : Value} {w : World} {ds : List Nat} {d : Nat} (hd : d ∈ ds) : ∀ l w', l.getD d true = false → KeepO zb sv w ds l w' → BoxOC zb w w' := fun l w' h1 ⟨_, h3⟩ =>
  ⟨⟨w', h3 (List.any_eq_true.2 ⟨d, hd, by rw [h1]; rfl⟩)⟩, rfl⟩
theorem keepO_on {zb : Nat} {sv : Value} {w w' : World} {ds : List Nat} {l : Array Bool} (h : ∀ b, b < w.heap.size → b ≠ zb → sv.ownBlock ≠ some b → w'.heap[b]? = w.heap[b]?) (k : w'.heap[zb]? = w.heap[zb]?) : KeepO zb sv w ds l w' := ⟨h, fun _ => k⟩
theorem keepO_off {zb : Nat} {sv : Value} {w w' : World} {ds : List Nat} {l : Array Bool} (h : ∀ b, b < w.heap.size → b ≠ zb → sv.ownBlock ≠ some b → w'.heap[b]? = w.heap[b]?) (k : (ds.any fun d => !l.getD d true) = false) : KeepO zb sv w ds l w' := ⟨h, fun e => by rw [k] at e; cases e⟩
/-- memory behind the value's box, but for its row -/
def cfV (vb : Nat) (sl : Value) (w : World) : CF := fun b o => if vb < b ∧ sl.ownBlock ≠ some b then w.cell? ⟨b, o, none⟩ else none
/-- a value whose items are laid one by one -/
structure AVC (W2 wr : World) (vb : Nat) (sl : Value) (n : Nat) (items : List JV) (cs : List Value) : Prop where
  bel : Below vb W2 wr
  box : wr.heap[vb]? = some (.cells #[.int .i64 5, .int .i64 0, .string ⟨#[]⟩, .slice none 0 0, sl] 58 (0, 0))
  own : wr.ownsRow (vb + 1) 58 5 sl n cs
  row : VRow (cfV vb sl wr) items cs
  len : items.length = n
theorem AVC.quiet {W2 wr w' : World} {vb : Nat} {sl : Value} {n : Nat} {items : List JV} {cs : List Value} (h : AVC W2 wr vb sl n items cs) (hb : Below wr.heap.size wr w') : AVC W2 w' vb sl n items cs :=
  ⟨h.bel.trans (hb.mono (Nat.le_of_lt (heap_lt h.box))), kept h.box hb, h.own.kept (row := none) (grownZ_below hb) (by cases sl.ownBlock <;> simp), h.row.mono (fun b o u e => by
    unfold cfV at e ⊢
    split at e
    · rename_i hc; rw [if_pos hc]; exact cle_below hb b o u e
    · cases e), h.len⟩
theorem AVC.push {W2 wr w9 wA : World} {vb : Nat} {sl sl2 : Value} {n N : Nat} {items : List JV} {cs : List Value} (h : AVC W2 wr vb sl n items cs) (hb : Below wr.heap.size wr w9) (hN : wr.heap.size ≤ N) {x : JV} {c0 c1 c2 c3 c4 : Value} (hx : JAt (cfA N w9) x (.agg #[c0, c1, c2, c3, c4]))
    (hg : w9.grownBy wA sl.ownBlock) (hn : ∀ g, sl2.ownBlock = some g → sl.ownBlock = some g ∨ w9.heap.size ≤ g) (ho : wA.ownsRow (vb + 1) 58 5 sl2 (n + 1) (cs ++ [c0, c1, c2, c3, c4])) :
    AVC W2 (wA.setCell ⟨vb, 4, none⟩ sl2) vb sl2 (n + 1) (items ++ [x]) (cs ++ [c0, c1, c2, c3, c4]) := by
  have hlt := heap_lt h.box
  have h9 := h.quiet hb
  have hs9 := hb.size
  have hlow := h.own.lt
  have hk : wA.heap[vb]? = some (.cells #[.int .i64 5, .int .i64 0, .string ⟨#[]⟩, .slice none 0 0, sl] 58 (0, 0)) := by
    rw [hg.block vb (by omega) (fun e => by have := (hlow vb e.symm).1; omega)]; exact h9.box
  have hold : ∀ b, b < w9.heap.size → vb < b → sl.ownBlock ≠ some b → (wA.setCell ⟨vb, 4, none⟩ sl2).heap[b]? = w9.heap[b]? := fun b h1 h2 h3 => by
    rw [Below.heap_setCell _ _ _ _ (show b ≠ vb by omega), hg.block b h1 (fun e => h3 e.symm)]
  have hne2 : ∀ b, b < w9.heap.size → sl.ownBlock ≠ some b → sl2.ownBlock ≠ some b := fun b h1 h2 e => by
    rcases hn b e with h3 | h3
    · exact h2 h3
    · omega
  refine ⟨?_, ?_, own_set ho (Nat.lt_succ_self vb), ?_, by rw [List.length_append, h.len]; rfl⟩
  · exact ((h9.bel).grown hg (by have := h9.bel.size; omega) (fun g e => by have := (hlow g e).1; omega)).setCell (p := ⟨vb, 4, none⟩) (Nat.le_refl _) _
  · have := set_self (o := 4) (c := sl2) hk
    simpa using this
  · refine (h9.row.mono (fun b o u e => ?_)).snoc (hx.mono (fun b o u e => ?_))
    · unfold cfV at e ⊢
      split at e
      · rename_i hc
        have h1 := lt_of_cell e
        rw [if_pos ⟨hc.1, hne2 b h1 hc.2⟩, World.cell?_of_block (hold b h1 hc.1 hc.2)]; exact e
      · cases e
    · unfold cfA at e
      unfold cfV
      split at e
      · rename_i hc
        have h1 := lt_of_cell e
        have h2 : sl.ownBlock ≠ some b := fun e2 => by have := (hlow b e2).2; omega
        rw [if_pos ⟨by omega, hne2 b h1 h2⟩, World.cell?_of_block (hold b h1 (by omega) h2)]; exact e
      · cases e
theorem rows_step {l : List CX} {j : Nat} {x : CX} (h : l[j]? = some x) : (l.take (j + 1)).flatMap rowsX = (l.take j).flatMap rowsX ++ (rowJ x.name x.sp [] :: x.ixs.map fun p => rowJ x.name p.sp [showJ p.ix]) := by
  rw [take_succ h, List.flatMap_append]; simp [rowsX]
/-- what Show hands back -/
def ShowPostC (l : List CX) (w : World) (e : Ending) (w' : World) : Prop := (if formC l = true then ∃ y, e = .returned (.tuple #[y, .int .i64 0]) ∧ JAt (cf w') (showC l) y
    else e = .returned (.tuple #[.agg #[.int .i64 0, .int .i64 0, .string ⟨#[]⟩, .slice none 0 0, .slice none 0 0], .int .i64 2])) ∧ Below w.heap.size w w'
set_option maxRecDepth 100000 in
set_option maxHeartbeats 32000000 in
theorem ShowC_any (l : List CX) (v : Value) (w : World) (h : CatAt (cf w) l v) (hsm : SmallC l) (hT : Tabs w) :
    Calls Tryz.prog 28 #[v] w (ShowPostC l w) := by
  have HCV := Hold.mk h
  have HT := Hold.mk hT
  have HSM := Hold.mk hsm
  obtain ⟨a, cap, rfl, hs⟩ := h
  obtain ⟨_, _, e, hle, hcap, hel⟩ := hs
  cases e
  have HE := Hold.mk hel
  obtain ⟨W0, hW0, hb0, e0, e1⟩ := twoEM w (.cells #[.slice a l.length cap] 63) (.cells zero5 58)
  have HB0 := Hold.mk hb0
  have HK0 := Hold.mk e0
  have HK1 := Hold.mk e1
  have HZ0 : Hold (W0.heap.size = w.heap.size + 2) := ⟨by rw [hW0]; simp⟩
  have y0 : W0.cell? ⟨w.heap.size, 0, none⟩ = some (.slice a l.length cap) := by simp [World.cell?, e0]
  have HFO := Hold.mk (FormedC_any l _ W0 (HCV.out.mono (cle_below hb0)) hsm (hT.below hb0))
  clear hel hb0 e0 e1 hsm hT
  go_enter Tryz.func28, Tryz.ntmps28
  go_upto_region 1 with (fail)
  rw [← hW0]
  clear hW0
  go_wp2_with fail
  refine HFO.out.mono ?_
  rintro e w1 ⟨rfl, hb1⟩
  have HB1 := Hold.mk hb1
  have HRB := Hold.mk (kept HK1.out hb1)
  have HCB := Hold.mk (kept HK0.out hb1)
  have HBW := Hold.mk (HB0.out.trans (hb1.mono HB0.out.size))
  have HSZ : Hold (w.heap.size + 2 ≤ w1.heap.size) := ⟨by have := hb1.size; have := HZ0.out; omega⟩
  clear hb1 HFO y0
  cases hfo : formC l with
  | false =>
    have HF := Hold.mk hfo
    clear hfo
    obtain ⟨r0, r1, r2, r3, r4⟩ := cells_five HRB.out
    have f0 := free_box HRB.out 0
    have f1 := free_box HRB.out 1
    have f2 := free_box HRB.out 2
    have f3 := free_box HRB.out 3
    have f4 := free_box HRB.out 4
    go_wp2_with fail
    obtain ⟨W2, hW2⟩ : ∃ W2, W2 = (((((w1.setCell ⟨w.heap.size + 1, 0, none⟩ (.int .i64 0)).setCell ⟨w.heap.size + 1, 1, none⟩ (.int .i64 0)).setCell ⟨w.heap.size + 1, 2, none⟩ (.string ⟨#[]⟩)).setCell ⟨w.heap.size + 1, 3, none⟩ (.slice none 0 0)).setCell ⟨w.heap.size + 1, 4, none⟩ (.slice none 0 0)) := ⟨_, rfl⟩
    rw [← hW2]
    have hbk : W2.heap[w.heap.size + 1]? = some (.cells zero5 58 (0, 0)) := by rw [hW2]; exact set5_self HRB.out
    have hbw : Below w.heap.size w W2 := by rw [hW2]; exact set5_below HBW.out (by omega)
    clear hW2
    clear r0 r1 r2 r3 r4 f0 f1 f2 f3 f4
    obtain ⟨c0, c1, c2, c3, c4⟩ := cells_five hbk
    exact bodyPost_ret (v := .tuple #[.agg #[.int .i64 0, .int .i64 0, .string ⟨#[]⟩, .slice none 0 0, .slice none 0 0], .int .i64 2]) (by simp [results, Tryz.results28, go_sem, c0, c1, c2, c3, c4]) rfl ⟨by rw [if_neg (by rw [HF.out]; decide)], hbw⟩
  | true =>
  have HF := Hold.mk hfo
  clear hfo
  obtain ⟨vb, hvb⟩ : ∃ vb, vb = w1.heap.size := ⟨_, rfl⟩
  obtain ⟨W2, hW2⟩ : ∃ W2, W2 = w1.alloc (.cells #[.int .i64 5, .int .i64 0, .string ⟨#[]⟩, .slice none 0 0, .slice none 0 0] 58) := ⟨_, rfl⟩
  have hb2 : Below w1.heap.size w1 W2 := by rw [hW2]; exact (Below.refl _ w1).alloc (Nat.le_refl _) _
  have HVB : Hold (w.heap.size + 2 ≤ vb) := ⟨by rw [hvb]; exact HSZ.out⟩
  have HSRC : Hold (∀ wn, Below vb W2 wn → wn.cell? ⟨w.heap.size, 0, none⟩ = some (.slice a l.length cap) ∧ wn.heap[w.heap.size + 1]? = some (.cells zero5 58 (0, 0)) ∧ Below w.heap.size w wn) := ⟨fun wn hb => by
    have h1 : Below vb w1 wn := by rw [hvb] at hb ⊢; exact hb2.trans hb
    have h2 : wn.heap[w.heap.size]? = some (.cells #[.slice a l.length cap] 63 (0, 0)) := by rw [h1.block _ (by have := HVB.out; omega)]; exact HCB.out
    exact ⟨by simp [World.cell?, h2], by rw [h1.block _ (by have := HVB.out; omega)]; exact HRB.out, HBW.out.trans (h1.mono (by have := HVB.out; omega))⟩⟩
  have HA2 : Hold (AVC W2 W2 vb (.slice none 0 0) 0 ((l.take 0).flatMap rowsX) []) := ⟨⟨Below.refl _ _, by rw [hW2, hvb]; exact heap_alloc_new w1 _, World.ownsRow_nil _ _ _ _, by simpa using VRow.nil _, by simp⟩⟩
  clear hb2
  go_upto_region 4 with (fail)
  rw [← hW2, ← hvb]
  clear hW2 hvb
  obtain ⟨y0, _, _⟩ := HSRC.out W2 (Below.refl _ _)
  go_wp2_with fail
  clear y0
  go_loopw [19] (fun i wr => ∃ (j n : Nat) (sl : Value) (cs : List Value), i = .int .i64 j ∧ j ≤ l.length ∧ AVC W2 wr vb sl n ((l.take j).flatMap rowsX) cs) (fun i _ => l.length - (intOf i).toNat)
  case atStart => exact ⟨0, 0, _, _, rfl, Nat.zero_le _, HA2.out⟩
  case round =>
    clear HA2
    obtain ⟨j, n, sl, cs, rfl, hj, hav⟩ := hrel
    obtain ⟨sla, slc, rfl⟩ := own_shapeZ hav.own
    have HAV := Hold.mk hav
    clear hav
    by_cases hlt : j < l.length
    · obtain ⟨x, hx⟩ : ∃ x, l[j]? = some x := ⟨l[j], List.getElem?_eq_getElem hlt⟩
      obtain ⟨b, off, d, rfl, hd, hcc, xa, xcap, rfl, hxn, hxw, hxi⟩ := HE.out j x hx
      have HXE := Hold.mk hx
      have HXI := Hold.mk hxi
      have HXN := Hold.mk (And.intro hxn hxw)
      have HXF := Hold.mk ((formX_iff.1 ((formC_iff.1 HF.out).2.2.1 x (List.mem_of_getElem? hx))).2)
      have HXS := Hold.mk (HSM.out x (List.mem_of_getElem? hx))
      have HRS := Hold.mk (rows_step hx)
      have HNL : Hold (n ≤ 1000) := ⟨by
        have h1 := HAV.out.len
        have h2 : ∀ k, ((l.take k).flatMap rowsX).length ≤ 5 * k := fun k => by
          induction k with
          | zero => simp
          | succ k ih =>
            by_cases hk : k < l.length
            · have hk2 := List.getElem?_eq_getElem hk
              rw [rows_step hk2, List.length_append, List.length_cons, List.length_map]
              have := (formX_iff.1 ((formC_iff.1 HF.out).2.2.1 _ (List.mem_of_getElem? hk2))).2.1
              omega
            · rw [List.take_of_length_le (by omega)] at ih ⊢; omega
        have := h2 j
        have := (formC_iff.1 HF.out).1
        omega⟩
      have hxl : x.ixs.length ≤ xcap ∧ xcap ≤ 9223372036854775807 := by
        obtain ⟨_, _, e, h1, h2, _⟩ := hxi
        cases e; exact ⟨h1, h2⟩
      obtain ⟨hxl1, hxl2⟩ := hxl
      obtain ⟨nm, sp, xs⟩ := x
      simp only at *
      have hcl := cle_below (HSRC.out wr HAV.out.bel).2.2
      have z0 := hcl _ _ _ (hcc 0 _ rfl)
      have z1 := hcl _ _ _ (hcc 1 _ rfl)
      have z2 := hcl _ _ _ (hcc 2 _ rfl)
      unfold cf at z0 z1 z2
      rw [Nat.add_zero] at z0
      obtain ⟨xb, hxb⟩ : ∃ xb, xb = wr.heap.size := ⟨_, rfl⟩
      obtain ⟨W3, hW3⟩ : ∃ W3, W3 = wr.alloc (.cells #[.string nm, .int .i64 sp, .slice xa xs.length xcap] 78) := ⟨_, rfl⟩
      have hb3 : Below wr.heap.size wr W3 := by rw [hW3]; exact (Below.refl _ wr).alloc (Nat.le_refl _) _
      have HXK : Hold (W3.heap[xb]? = some (.cells #[.string nm, .int .i64 sp, .slice xa xs.length xcap] 78 (0, 0))) := ⟨by rw [hW3, hxb]; exact heap_alloc_new wr _⟩
      have HAVQ := Hold.mk (HAV.out.quiet hb3)
      have HXG : Hold (vb < xb ∧ ∀ b, (Value.slice sla n slc).ownBlock = some b → b < xb) := ⟨by rw [hxb]; exact ⟨heap_lt HAV.out.box, fun b hb => (HAV.out.own.lt b hb).2⟩⟩
      clear hd hcc hxn hxw hxi hcl hx hb3
      go_upto_region 7 with (fail)
      rw [← hW3, ← hxb]
      clear hW3 hxb z0 z1 z2
      obtain ⟨x0, x1, x2⟩ := cells_three HXK.out
      have g0 := OthT.cell (zb := vb) (sv := .slice sla n slc) x0 (by have := HXG.out.1; omega) (fun e => by have := HXG.out.2 _ e; omega)
      have g1 := OthT.cell (zb := vb) (sv := .slice sla n slc) x1 (by have := HXG.out.1; omega) (fun e => by have := HXG.out.2 _ e; omega)
      clear x0 x1 x2
      have hvb := HAVQ.out.box
      obtain ⟨_, _, _, _, v4⟩ := cells_five hvb
      have h1 := BoxOT.cell v4
      clear hvb v4
      go_upto_region 7 with (fail)
      refine wp_region_mixL (KeepO vb (.slice sla n slc) W3 [8]) 11 rfl (by kernel_rfl) ?_
      obtain ⟨w9, hw9⟩ : ∃ w9, w9 = W3.drew := ⟨_, rfl⟩
      have hb9 : Below W3.heap.size W3 w9 := by rw [hw9]; exact (Below.refl _ _).drew
      have HB9 := Hold.mk hb9
      rw [← hw9]
      clear hw9 hb9
      refine mixL_seg (by kernel_rfl) (fun _ _ d _ _ h => by cases d <;> exact h) (OthC vb (.slice sla n slc) W3) keepO_base [0, 2, 3, 4, 5] (keepO_back rfl) [_, _, _, _, _] 6 11 rfl _ _ _ rfl (by kernel_rfl) ?_
      repeat (go_big_quiet_step (fail))
      refine wpQuiet_nil ?_
      refine mixL_one (by kernel_rfl) (fun _ _ d _ _ h => by cases d <;> exact h) (BoxOC vb W3) 8 (keepO_box (by decide)) 1 (fun l w => keepO_back (is := [1]) rfl 1 (by simp) l w) _ 5 _ _ _ rfl (by kernel_rfl) (by kernel_rfl) (by kernel_rfl) ?_
      repeat (go_big_quiet_step (fail))
      refine wpQuiet_nil ?_
      clear h1 g0 g1
      have HROW := Hold.mk (row_any nm sp (.slice none 0 0) [] w9.heap.size w9 HXN.out.1 HXN.out.2 (Nat.le_refl _) (SAt.none _ _ _) (by decide))
      refine mixL_act (i := 6) rfl (by kernel_rfl) (keepO_on (fun b hb _ _ => HB9.out.block b hb) (HB9.out.block vb (heap_lt HAVQ.out.box))) rfl (fun K hK => ?_)
      go_wp2_with fail
      refine HROW.out.mono ?_
      rintro e w10 ⟨ia, icap, rfl, hit, hb10⟩
      have HB10 := Hold.mk (HB9.out.trans (hb10.mono HB9.out.size))
      have HJ10 : Hold (JAt (cfA w9.heap.size w10) (rowJ nm sp []) (.agg #[.int .i64 5, .int .i64 0, .string ⟨#[]⟩, .slice none 0 0, .slice ia 2 icap])) := ⟨JAt.shut (by kernel_rfl) (by kernel_rfl) (by decide) (strs_no _) (by simpa using hit)⟩
      have HNN : Hold (W3.heap.size ≤ w9.heap.size) := ⟨HB9.out.size⟩
      simp only [List.length_nil, Nat.add_zero]
      clear hit hb10 HROW
      go_wp2_with fail
      have HOS := Hold.mk (own_triv (HAVQ.out.own.kept (row := none) (grownZ_below HB10.out) (by cases (Value.slice sla n slc).ownBlock <;> simp)) HAVQ.out.own.1 (by decide) (by have := HB10.out.size; have := heap_lt HAVQ.out.box; omega))
      refine mixL_act (i := 7) rfl (by kernel_rfl) (keepO_on (fun b hb _ _ => HB10.out.block b hb) (HB10.out.block vb (heap_lt HAVQ.out.box))) rfl (fun K hK => ?_)
      go_wp2_with fail
      have HB11 : Hold (Below W3.heap.size W3 (w10.alloc (.cells #[.int .i64 5, .int .i64 0, .string ⟨#[]⟩, .slice none 0 0, .slice ia 2 icap] 58))) := ⟨HB10.out.alloc HB10.out.size _⟩
      refine mixL_act (i := 8) rfl (by kernel_rfl) (keepO_on (fun b hb _ _ => HB11.out.block b hb) (HB11.out.block vb (heap_lt HAVQ.out.box))) rfl (fun K hK => ?_)
      refine wp_push (R := RTriv) (fun _ _ _ _ _ h => h) _ _ rfl infoVal Tryz.underlying56 rfl (by decide) _ w10 _ n _ cs HOS.out rfl #[.int .i64 5, .int .i64 0, .string ⟨#[]⟩, .slice none 0 0, .slice ia 2 icap] [.int .i64 5, .int .i64 0, .string ⟨#[]⟩, .slice none 0 0, .slice ia 2 icap] rfl rfl (by simp [Value.oneCell']) () trivial _ rfl rfl (by have := HNL.out; omega) (by decide) ?_
      intro sl2 wA hoA hgA
      obtain ⟨pa, pc, rfl⟩ := hoA.shape
      have HN := Hold.mk (HAVQ.out.push HB10.out HNN.out HJ10.out hgA.by_ hgA.own hoA.own)
      have hlow := HAVQ.out.own.lt
      have HOA : Hold (∀ b, b < W3.heap.size → b ≠ vb → (Value.slice sla n slc).ownBlock ≠ some b → wA.heap[b]? = W3.heap[b]?) := ⟨fun b hb _ h2 => by
        rw [hgA.by_.block b (Nat.lt_of_lt_of_le hb HB10.out.size) (fun e => h2 e.symm)]; exact HB10.out.block b hb⟩
      have hbx : wA.heap[vb]? = some (.cells #[.int .i64 5, .int .i64 0, .string ⟨#[]⟩, .slice none 0 0, .slice sla n slc] 58 (0, 0)) := hgA.kept (kept HAVQ.out.box HB10.out) (fun g hg e => by have := (hlow g hg).1; omega)
      have HBX := Hold.mk hbx
      clear hoA hgA hlow hbx
      go_wp2_with fail
      refine mixL_seg (by kernel_rfl) (fun _ _ d _ _ h => by cases d <;> exact h) (OthC vb (.slice sla n slc) W3) keepO_base [9] (keepO_back rfl) [_] 1 2 rfl _ _ _ rfl (by kernel_rfl) ?_
      repeat (go_big_quiet_step (fail))
      refine wpQuiet_nil ?_
      refine mixL_act (i := 10) rfl (by kernel_rfl) (keepO_off HOA.out (by kernel_rfl)) rfl (fun K hK => ?_)
      obtain ⟨_, _, _, _, v4⟩ := cells_five HBX.out
      have f4 := free_box HBX.out 4
      go_wp2_with fail
      clear v4 f4
      obtain ⟨wB, hwB⟩ : ∃ wB, wB = wA.setCell ⟨vb, 4, none⟩ (.slice pa (n + 1) pc) := ⟨_, rfl⟩
      rw [← hwB]
      rw [← hwB] at HN
      have HOB : Hold (∀ b, b < W3.heap.size → b ≠ vb → (Value.slice sla n slc).ownBlock ≠ some b → wB.heap[b]? = W3.heap[b]?) := ⟨fun b h1 h2 h3 => by
        rw [hwB, Below.heap_setCell _ _ _ _ h2]; exact HOA.out b h1 h2 h3⟩
      clear hwB HOA HBX
      refine mixL_done (by kernel_rfl) (keepO_off HOB.out (by kernel_rfl)) ?_
      have HXKB : Hold (wB.heap[xb]? = some (.cells #[.string nm, .int .i64 sp, .slice xa xs.length xcap] 78 (0, 0))) := ⟨by
        rw [HOB.out xb (heap_lt HXK.out) (by have := HXG.out.1; omega) (fun e => by have := HXG.out.2 _ e; omega)]; exact HXK.out⟩
      clear HOB HAVQ HB9 HB10 HB11 HJ10 HNN HOS HAV HXK
      obtain ⟨_, _, x2⟩ := cells_three HXKB.out
      have HVX : Hold (vb < xb) := ⟨HXG.out.1⟩
      have HI0 : Hold (AVC W2 wB vb (.slice pa (n + 1) pc) (n + 1) ((l.take j).flatMap rowsX ++ rowJ nm sp [] :: (xs.take 0).map fun p => rowJ nm p.sp [showJ p.ix]) _) := ⟨by simpa using HN.out⟩
      go_wp2_with fail
      clear x2
      go_loopw [36] (fun i wq => ∃ (q n : Nat) (sl : Value) (cs : List Value), i = .int .i64 q ∧ q ≤ xs.length ∧ AVC W2 wq vb sl n ((l.take j).flatMap rowsX ++ rowJ nm sp [] :: (xs.take q).map fun p => rowJ nm p.sp [showJ p.ix]) cs ∧ n ≤ 1001 + q ∧ wq.heap[xb]? = some (.cells #[.string nm, .int .i64 sp, .slice xa xs.length xcap] 78 (0, 0))) (fun i _ => xs.length - (intOf i).toNat)
      case atStart => exact ⟨0, _, _, _, rfl, Nat.zero_le _, HI0.out, by have := HNL.out; omega, HXKB.out⟩
      case round =>
        rename World => wq
        clear HI0 HXKB HN HXG
        obtain ⟨q, n', sl', cs', rfl, hq, hav, hnq, hxk⟩ := hrel
        obtain ⟨sla', slc', rfl⟩ := own_shapeZ hav.own
        have HAV := Hold.mk hav
        have HXK := Hold.mk hxk
        have HNQ := Hold.mk hnq
        clear hav hxk hnq HNL
        by_cases hlt2 : q < xs.length
        · obtain ⟨p, hp⟩ : ∃ p, xs[q]? = some p := ⟨xs[q], List.getElem?_eq_getElem hlt2⟩
          obtain ⟨_, _, e, _, _, hxel⟩ := HXI.out
          cases e
          obtain ⟨b2, off2, d2, rfl, hd2, hcc2, fa, fcap, rfl, hpnm, hpf, hpw⟩ := hxel q p hp
          have hcl := cle_below (HSRC.out wq HAV.out.bel).2.2
          have p0 := hcl _ _ _ (hcc2 0 _ rfl)
          have p1 := hcl _ _ _ (hcc2 1 _ rfl)
          have p2 := hcl _ _ _ (hcc2 2 _ rfl)
          have p3 := hcl _ _ _ (hcc2 3 _ rfl)
          unfold cf at p0 p1 p2 p3
          rw [Nat.add_zero] at p0
          have HFO2 := Hold.mk (HXF.out.2.2 p (List.mem_of_getElem? hp))
          have HSMP := Hold.mk (HXS.out p (List.mem_of_getElem? hp))
          have HPF := Hold.mk (hpf.mono hcl)
          have HIN := Hold.mk hpnm
          have HIW := Hold.mk hpw
          have HTP : Hold (xs.take (q + 1) = xs.take q ++ [p]) := ⟨take_succ hp⟩
          obtain ⟨⟨iname, fl, u⟩, isp⟩ := p
          simp only at *
          obtain ⟨pb, hpb⟩ : ∃ pb, pb = wq.heap.size := ⟨_, rfl⟩
          obtain ⟨W4, hW4⟩ : ∃ W4, W4 = wq.alloc (.cells #[.string iname, .slice fa fl.length fcap, .bool u, .int .i64 isp] 85) := ⟨_, rfl⟩
          have hb4 : Below wq.heap.size wq W4 := by rw [hW4]; exact (Below.refl _ wq).alloc (Nat.le_refl _) _
          have HPK : Hold (W4.heap[pb]? = some (.cells #[.string iname, .slice fa fl.length fcap, .bool u, .int .i64 isp] 85 (0, 0))) := ⟨by rw [hW4, hpb]; exact heap_alloc_new wq _⟩
          have HB4 := Hold.mk hb4
          have HPB : Hold (wq.heap.size ≤ pb) := ⟨by rw [hpb]; exact Nat.le_refl _⟩
          clear hd2 hcc2 hpnm hpf hpw hcl hp hxel hb4
          go_upto_region 11 with (fail)
          rw [← hW4, ← hpb]
          clear hW4 hpb p0 p1 p2 p3
          obtain ⟨p0, p1, p2, _⟩ := cells_fourZ HPK.out
          have HSH := Hold.mk (ShowA_any ⟨iname, fl, u⟩ (.agg #[.string iname, .slice fa fl.length fcap, .bool u]) W4 ⟨HIN.out, _, rfl, HPF.out.mono (cle_below HB4.out)⟩ HSMP.out (HT.out.below ((HSRC.out wq HAV.out.bel).2.2.trans (HB4.out.mono (HSRC.out wq HAV.out.bel).2.2.size))))
          go_wp2_with fail
          refine HSH.out.mono ?_
          rintro e w5 ⟨hpost, hb5⟩
          rw [if_pos HFO2.out] at hpost
          obtain ⟨y, rfl, hyj⟩ := hpost
          have HSJ := Hold.mk hyj
          obtain ⟨sk, sn, st, snm, sit, sna, snc, sia, sic, _, rfl, _⟩ := hyj.open
          obtain ⟨sb, hsb⟩ : ∃ sb, sb = w5.heap.size := ⟨_, rfl⟩
          obtain ⟨W6, hW6⟩ : ∃ W6, W6 = w5.alloc (.cells #[.int .i64 sk, .int .i64 sn, .string st, .slice sna snm.length snc, .slice sia sit.length sic] 58) := ⟨_, rfl⟩
          have hb6 : Below w5.heap.size w5 W6 := by rw [hW6]; exact (Below.refl _ w5).alloc (Nat.le_refl _) _
          have HSK : Hold (W6.heap[sb]? = some (.cells #[.int .i64 sk, .int .i64 sn, .string st, .slice sna snm.length snc, .slice sia sit.length sic] 58 (0, 0))) := ⟨by rw [hW6, hsb]; exact heap_alloc_new w5 _⟩
          have HBS5 := Hold.mk hb6
          have HW45 : Hold (W4.heap.size ≤ w5.heap.size) := ⟨hb5.size⟩
          have HBQ6 : Hold (Below wq.heap.size wq W6) := ⟨HB4.out.trans ((hb5.trans (hb6.mono hb5.size)).mono HB4.out.size)⟩
          have HPK6 := Hold.mk (kept HPK.out (hb5.trans (hb6.mono hb5.size)))
          have HXK6 := Hold.mk (kept HXK.out HBQ6.out)
          have HAVQ := Hold.mk (HAV.out.quiet HBQ6.out)
          have HSB : Hold (wq.heap.size ≤ sb) := ⟨by rw [hsb]; have := HB4.out.size; have := hb5.size; omega⟩
          have HOWN : Hold (∀ b, (Value.slice sla' n' slc').ownBlock = some b → vb < b ∧ b < wq.heap.size) := ⟨fun b hb => HAV.out.own.lt b hb⟩
          have HNN : Hold (wq.heap.size ≤ W4.heap.size) := ⟨HB4.out.size⟩
          have HVQ : Hold (vb < wq.heap.size) := ⟨heap_lt HAV.out.box⟩
          clear hb5 hb6 hyj HSH p0 p1 p2
          go_upto_region 12 with (fail)
          rw [← hW6, ← hsb]
          clear hW6 hsb
          obtain ⟨x0, _, _⟩ := cells_three HXK6.out
          obtain ⟨_, _, _, p3⟩ := cells_fourZ HPK6.out
          obtain ⟨s0, s1, s2, s3, s4⟩ := cells_five HSK.out
          have hxo := own_ne HAVQ.out.own HXK6.out (by decide)
          have g0 := OthT.cell (zb := vb) (sv := .slice sla' n' slc') x0 (by have := HVX.out; omega) (fun e => hxo _ e rfl)
          have g1 := OthT.cell (zb := vb) (sv := .slice sla' n' slc') p3 (by have := HVQ.out; have := HPB.out; omega) (fun e => by have := (HOWN.out _ e).2; have := HPB.out; omega)
          have k0 := OthT.cell (zb := vb) (sv := .slice sla' n' slc') s0 (by have := HVQ.out; have := HSB.out; omega) (fun e => by have := (HOWN.out _ e).2; have := HSB.out; omega)
          have k1 := OthT.cell (zb := vb) (sv := .slice sla' n' slc') s1 (by have := HVQ.out; have := HSB.out; omega) (fun e => by have := (HOWN.out _ e).2; have := HSB.out; omega)
          have k2 := OthT.cell (zb := vb) (sv := .slice sla' n' slc') s2 (by have := HVQ.out; have := HSB.out; omega) (fun e => by have := (HOWN.out _ e).2; have := HSB.out; omega)
          have k3 := OthT.cell (zb := vb) (sv := .slice sla' n' slc') s3 (by have := HVQ.out; have := HSB.out; omega) (fun e => by have := (HOWN.out _ e).2; have := HSB.out; omega)
          have k4 := OthT.cell (zb := vb) (sv := .slice sla' n' slc') s4 (by have := HVQ.out; have := HSB.out; omega) (fun e => by have := (HOWN.out _ e).2; have := HSB.out; omega)
          have HNL : Hold (n' ≤ 5000) := ⟨by have := HNQ.out; have := HXF.out.1; omega⟩
          clear x0 p3 s0 s1 s2 s3 s4 hxo
          have hvb := HAVQ.out.box
          obtain ⟨_, _, _, _, v4⟩ := cells_five hvb
          have h1 := BoxOT.cell v4
          clear hvb v4
          go_upto_region 12 with (fail)
          refine wp_region_mixL (KeepO vb (.slice sla' n' slc') W6 [10]) 13 rfl (by kernel_rfl) ?_
          obtain ⟨w9, hw9⟩ : ∃ w9, w9 = W6.drew := ⟨_, rfl⟩
          have hb9 : Below W6.heap.size W6 w9 := by rw [hw9]; exact (Below.refl _ _).drew
          have HB9 := Hold.mk hb9
          rw [← hw9]
          clear hw9 hb9
          refine mixL_seg (by kernel_rfl) (fun _ _ d _ _ h => by cases d <;> exact h) (OthC vb (.slice sla' n' slc') W6) keepO_base [0, 2, 3, 4, 5, 6] (keepO_back rfl) [_, _, _, _, _, _] 7 13 rfl _ _ _ rfl (by kernel_rfl) ?_
          repeat (go_big_quiet_step (fail))
          refine wpQuiet_nil ?_
          refine mixL_one (by kernel_rfl) (fun _ _ d _ _ h => by cases d <;> exact h) (BoxOC vb W6) 10 (keepO_box (by decide)) 1 (fun l w => keepO_back (is := [1]) rfl 1 (by simp) l w) _ 6 _ _ _ rfl (by kernel_rfl) (by kernel_rfl) (by kernel_rfl) ?_
          repeat (go_big_quiet_step (fail))
          refine wpQuiet_nil ?_
          clear h1 g0 g1 k0 k1 k2 k3 k4
          obtain ⟨wS, hwS⟩ : ∃ wS, wS = w9.alloc (.cells #[.int .i64 sk, .int .i64 sn, .string st, .slice sna snm.length snc, .slice sia sit.length sic] 58) := ⟨_, rfl⟩
          have hbS : Below w9.heap.size w9 wS := by rw [hwS]; exact (Below.refl _ w9).alloc (Nat.le_refl _) _
          have HBS := Hold.mk (HB9.out.trans (hbS.mono HB9.out.size))
          have hkS : wS.heap[w9.heap.size]? = some (.cells #[.int .i64 sk, .int .i64 sn, .string st, .slice sna snm.length snc, .slice sia sit.length sic] 58 (0, 0)) := by rw [hwS]; exact heap_alloc_new w9 _
          have hmS : SAt 5 (RJ W4.heap.size wS) (cf wS) (.slice (some ⟨w9.heap.size, 0, none⟩) 1 1) [showJ ⟨iname, fl, u⟩] := by
            refine ⟨_, _, rfl, Nat.le_refl _, by decide, fun i y hy => ?_⟩
            match i, hy with
            | 0, hy =>
              obtain rfl := Option.some.inj hy
              obtain ⟨d0, d1, d2, d3, d4⟩ := cells_five hkS
              refine ⟨w9.heap.size, 0, [.int .i64 sk, .int .i64 sn, .string st, .slice sna snm.length snc, .slice sia sit.length sic], rfl, rfl, fun j v hv => ?_, rfl, HSJ.out.mono (cfA_below (HBS5.out.trans (HBS.out.mono HBS5.out.size)))⟩
              match j, hv with
              | 0, hv => obtain rfl := Option.some.inj hv; exact d0
              | 1, hv => obtain rfl := Option.some.inj hv; exact d1
              | 2, hv => obtain rfl := Option.some.inj hv; exact d2
              | 3, hv => obtain rfl := Option.some.inj hv; exact d3
              | 4, hv => obtain rfl := Option.some.inj hv; exact d4
              | j + 5, hv => simp at hv
            | i + 1, hy => simp at hy
          have HROW := Hold.mk (row_any nm isp (.slice (some ⟨w9.heap.size, 0, none⟩) 1 1) [showJ ⟨iname, fl, u⟩] W4.heap.size wS HXN.out.1 HIW.out (by have := HW45.out; have := HBS5.out.size; have := HB9.out.size; have := hbS.size; omega) hmS (by simp))
          refine mixL_act (i := 7) rfl (by kernel_rfl) (keepO_on (fun b hb _ _ => HB9.out.block b hb) (HB9.out.block vb (heap_lt HAVQ.out.box))) rfl (fun K hK => ?_)
          go_wp2_with fail
          rw [← hwS]
          clear hwS hbS hkS hmS
          refine mixL_act (i := 8) rfl (by kernel_rfl) (keepO_on (fun b hb _ _ => HBS.out.block b hb) (HBS.out.block vb (heap_lt HAVQ.out.box))) rfl (fun K hK => ?_)
          go_wp2_with fail
          refine HROW.out.mono ?_
          rintro e w10 ⟨ia, icap, rfl, hit, hb10⟩
          have HB10 := Hold.mk (HBS.out.trans (hb10.mono HBS.out.size))
          have HJ10 : Hold (JAt (cfA W4.heap.size w10) (rowJ nm isp [showJ ⟨iname, fl, u⟩]) (.agg #[.int .i64 5, .int .i64 0, .string ⟨#[]⟩, .slice none 0 0, .slice ia 3 icap])) := ⟨JAt.shut (by kernel_rfl) (by kernel_rfl) (by decide) (strs_no _) (by simpa using hit)⟩
          simp only [List.length_cons, List.length_nil, Nat.zero_add, Nat.reduceAdd]
          clear hit hb10 HROW
          go_wp2_with fail
          have HOS := Hold.mk (own_triv (HAVQ.out.own.kept (row := none) (grownZ_below HB10.out) (by cases (Value.slice sla' n' slc').ownBlock <;> simp)) HAVQ.out.own.1 (by decide) (by have := HB10.out.size; have := heap_lt HAVQ.out.box; omega))
          refine mixL_act (i := 9) rfl (by kernel_rfl) (keepO_on (fun b hb _ _ => HB10.out.block b hb) (HB10.out.block vb (heap_lt HAVQ.out.box))) rfl (fun K hK => ?_)
          go_wp2_with fail
          have HB11 : Hold (Below W6.heap.size W6 (w10.alloc (.cells #[.int .i64 5, .int .i64 0, .string ⟨#[]⟩, .slice none 0 0, .slice ia 3 icap] 58))) := ⟨HB10.out.alloc HB10.out.size _⟩
          refine mixL_act (i := 10) rfl (by kernel_rfl) (keepO_on (fun b hb _ _ => HB11.out.block b hb) (HB11.out.block vb (heap_lt HAVQ.out.box))) rfl (fun K hK => ?_)
          refine wp_push (R := RTriv) (fun _ _ _ _ _ h => h) _ _ rfl infoVal Tryz.underlying56 rfl (by decide) _ w10 _ n' _ cs' HOS.out rfl #[.int .i64 5, .int .i64 0, .string ⟨#[]⟩, .slice none 0 0, .slice ia 3 icap] [.int .i64 5, .int .i64 0, .string ⟨#[]⟩, .slice none 0 0, .slice ia 3 icap] rfl rfl (by simp [Value.oneCell']) () trivial _ rfl rfl (by have := HNL.out; omega) (by decide) ?_
          intro sl2 wA hoA hgA
          obtain ⟨pa, pc, rfl⟩ := hoA.shape
          have HN := Hold.mk (HAV.out.push (HBQ6.out.trans (HB10.out.mono HBQ6.out.size)) HNN.out HJ10.out hgA.by_ hgA.own hoA.own)
          have hlow := HAVQ.out.own.lt
          have HOA : Hold (∀ b, b < W6.heap.size → b ≠ vb → (Value.slice sla' n' slc').ownBlock ≠ some b → wA.heap[b]? = W6.heap[b]?) := ⟨fun b hb _ h2 => by
            rw [hgA.by_.block b (Nat.lt_of_lt_of_le hb HB10.out.size) (fun e => h2 e.symm)]; exact HB10.out.block b hb⟩
          have hbx : wA.heap[vb]? = some (.cells #[.int .i64 5, .int .i64 0, .string ⟨#[]⟩, .slice none 0 0, .slice sla' n' slc'] 58 (0, 0)) := hgA.kept (kept HAVQ.out.box HB10.out) (fun g hg e => by have := (hlow g hg).1; omega)
          have HBX := Hold.mk hbx
          clear hoA hgA hlow hbx
          go_wp2_with fail
          refine mixL_seg (by kernel_rfl) (fun _ _ d _ _ h => by cases d <;> exact h) (OthC vb (.slice sla' n' slc') W6) keepO_base [11] (keepO_back rfl) [_] 1 2 rfl _ _ _ rfl (by kernel_rfl) ?_
          repeat (go_big_quiet_step (fail))
          refine wpQuiet_nil ?_
          refine mixL_act (i := 12) rfl (by kernel_rfl) (keepO_off HOA.out (by kernel_rfl)) rfl (fun K hK => ?_)
          obtain ⟨_, _, _, _, v4⟩ := cells_five HBX.out
          have f4 := free_box HBX.out 4
          go_wp2_with fail
          clear v4 f4
          obtain ⟨wB, hwB⟩ : ∃ wB, wB = wA.setCell ⟨vb, 4, none⟩ (.slice pa (n' + 1) pc) := ⟨_, rfl⟩
          rw [← hwB]
          rw [← hwB] at HN
          have HOB : Hold (∀ b, b < W6.heap.size → b ≠ vb → (Value.slice sla' n' slc').ownBlock ≠ some b → wB.heap[b]? = W6.heap[b]?) := ⟨fun b h1 h2 h3 => by
            rw [hwB, Below.heap_setCell _ _ _ _ h2]; exact HOA.out b h1 h2 h3⟩
          clear hwB HOA HBX
          refine mixL_done (by kernel_rfl) (keepO_off HOB.out (by kernel_rfl)) ?_
          have HXKB : Hold (wB.heap[xb]? = some (.cells #[.string nm, .int .i64 sp, .slice (some ⟨b2, off2, none⟩) xs.length xcap] 78 (0, 0))) := ⟨by
            rw [HOB.out xb (heap_lt HXK6.out) (by have := HVX.out; omega) (fun e => own_ne HAVQ.out.own HXK6.out (by decide) _ e rfl)]; exact HXK6.out⟩
          have HN3 : Hold (AVC W2 wB vb (.slice pa (n' + 1) pc) (n' + 1) ((l.take j).flatMap rowsX ++ rowJ nm sp [] :: (xs.take (q + 1)).map fun p => rowJ nm p.sp [showJ p.ix]) _) := ⟨by
            have := HN.out
            rw [HTP.out, List.map_append]
            simpa using this⟩
          clear HOB HN HAVQ
          go_wp2_with fail
          exact ⟨⟨q + 1, n' + 1, _, _, by go_num, hlt2, HN3.out, by have := HNQ.out; omega, HXKB.out⟩, by simp [intOf]; omega⟩
        · obtain rfl : q = xs.length := by omega
          have HE2 : Hold (AVC W2 wq vb (.slice sla' n' slc') n' ((l.take (j + 1)).flatMap rowsX) cs') := ⟨by
            have := HAV.out
            rw [List.take_of_length_le (Nat.le_refl _)] at this
            rw [HRS.out]; exact this⟩
          go_wp2_with fail
          exact ⟨⟨j + 1, n', _, cs', by go_num, hlt, HE2.out⟩, by simp [intOf]; omega⟩
    · obtain rfl : j = l.length := by omega
      have HTK : Hold (l.take l.length = l) := ⟨List.take_of_length_le (Nat.le_refl _)⟩
      rw [HTK.out] at HAV
      obtain ⟨_, hrb, hbw⟩ := HSRC.out wr HAV.out.bel
      have HRB2 := Hold.mk hrb
      have HBW2 := Hold.mk hbw
      obtain ⟨z0, z1, z2, z3, z4⟩ := cells_five HAV.out.box
      obtain ⟨r0, r1, r2, r3, r4⟩ := cells_five hrb
      have f0 := free_box hrb 0
      have f1 := free_box hrb 1
      have f2 := free_box hrb 2
      have f3 := free_box hrb 3
      have f4 := free_box hrb 4
      clear hrb hbw
      go_wp2_with fail
      obtain ⟨W3, hW3⟩ : ∃ W3, W3 = (((((wr.setCell ⟨w.heap.size + 1, 0, none⟩ (.int .i64 5)).setCell ⟨w.heap.size + 1, 1, none⟩ (.int .i64 0)).setCell ⟨w.heap.size + 1, 2, none⟩ (.string ⟨#[]⟩)).setCell ⟨w.heap.size + 1, 3, none⟩ (.slice none 0 0)).setCell ⟨w.heap.size + 1, 4, none⟩ (.slice sla n slc)) := ⟨_, rfl⟩
      rw [← hW3]
      have hbk : W3.heap[w.heap.size + 1]? = some (.cells #[.int .i64 5, .int .i64 0, .string ⟨#[]⟩, .slice none 0 0, .slice sla n slc] 58 (0, 0)) := by rw [hW3]; exact set5_self HRB2.out
      have hbw : Below w.heap.size w W3 := by rw [hW3]; exact set5_below HBW2.out (by omega)
      have how : W3.ownsRow (vb + 1) 58 5 (.slice sla n slc) n cs := by rw [hW3]; exact own_set5 HAV.out.own (by have := HVB.out; omega)
      have hvr : VRow (cf W3) (l.flatMap rowsX) cs := HAV.out.row.mono (fun b o u e => by
        unfold cfV at e
        split at e
        · rename_i hc
          show W3.cell? ⟨b, o, none⟩ = some u
          rw [hW3]
          exact (set5_cells (show b ≠ w.heap.size + 1 by have := HVB.out; omega)).trans e
        · cases e)
      have hln := HAV.out.len
      clear hW3 r0 r1 r2 r3 r4 f0 f1 f2 f3 f4 z0 z1 z2 z3 z4
      obtain ⟨c0, c1, c2, c3, c4⟩ := cells_five hbk
      subst hln
      exact bodyPost_ret (v := .tuple #[.agg #[.int .i64 5, .int .i64 0, .string ⟨#[]⟩, .slice none 0 0, .slice sla (l.flatMap rowsX).length slc], .int .i64 0]) (by simp [results, Tryz.results28, go_sem, c0, c1, c2, c3, c4]) rfl ⟨by rw [if_pos HF.out]; exact ⟨_, rfl, JAt.shut (by kernel_rfl) (by kernel_rfl) (by decide) (strs_no _) (items_of_own how hvr)⟩, hbw⟩
end Go.Proofs.YticlnijkfclgcaaGreatDoor
