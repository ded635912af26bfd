/- the law JsonDeep, walked. -/
import Derived.Test.YthbahjgccipjkaaDoorJM
namespace Go.Proofs.YthbahjgccipjkaaDoor
open Go.RowKit

/-- the cells, but for one block's -/
def cfx (B : Nat) (w : World) : CF := fun b o => if b = B then none else w.cell? ⟨b, o, none⟩
theorem cfx_cf (B : Nat) (w : World) : CLe (cfx B w) (cf w) := fun b o v h => by
  unfold cfx at h; split at h
  · cases h
  · exact h
theorem cf_cfx {w w1 : World} (hb : Below w.heap.size w w1) : CLe (cf w) (cfx w.heap.size w1) := fun b o v h => by
  have hlt := lt_of_cell h
  unfold cfx; rw [if_neg (by omega)]; exact cle_below hb b o v h
theorem cfx_step {B : Nat} {w w' : World} (h : ∀ b, b ≠ B → b < w.heap.size → w'.heap[b]? = w.heap[b]?) : CLe (cfx B w) (cfx B w') := fun b o v hv => by
  unfold cfx at hv ⊢
  split at hv
  · cases hv
  · rename_i hb
    rw [if_neg hb]
    have hlt := lt_of_cell hv
    rw [← hv]; simp only [World.cell?, h b hb hlt]

/-- at the head of the loop: the box holds a value -/
def DeepInv (w : World) (i : Value) (wr : World) : Prop :=
  ∃ (j : Nat) (v : JV) (k n : Int) (t : ByteArray) (na : Option Addr) (nl ncap : Nat) (ia : Option Addr) (il icap : Nat), i = .int .i64 j ∧ j ≤ 8 ∧
    wr.heap[w.heap.size]? = some (.cells #[.int .i64 k, .int .i64 n, .string t, .slice na nl ncap, .slice ia il icap] 25) ∧
    JAt (cfx w.heap.size wr) v (.agg #[.int .i64 k, .int .i64 n, .string t, .slice na nl ncap, .slice ia il icap]) ∧ Below w.heap.size w wr ∧ w.heap.size < wr.heap.size

theorem DeepInv.start {w w2 : World} {v : JV} {k n : Int} {t : ByteArray} {na : Option Addr} {nl ncap : Nat} {ia : Option Addr} {il icap : Nat}
    (h : JAt (cf w) v (.agg #[.int .i64 k, .int .i64 n, .string t, .slice na nl ncap, .slice ia il icap])) (hb : Boxed w w2 (.cells #[.int .i64 k, .int .i64 n, .string t, .slice na nl ncap, .slice ia il icap] 25)) :
    DeepInv w (.int .i64 0) w2 :=
  ⟨0, v, k, n, t, na, nl, ncap, ia, il, icap, rfl, by omega, hb.blk, h.mono (cf_cfx hb.below), hb.below, hb.lt⟩

theorem five_cells {w : World} {b : Nat} {c0 c1 c2 c3 c4 : Value} {t : TypeId} (h : w.heap[b]? = some (.cells #[c0, c1, c2, c3, c4] t)) :
    w.cell? ⟨b, 0, none⟩ = some c0 ∧ w.cell? ⟨b, 1, none⟩ = some c1 ∧ w.cell? ⟨b, 2, none⟩ = some c2 ∧ w.cell? ⟨b, 3, none⟩ = some c3 ∧ w.cell? ⟨b, 4, none⟩ = some c4 := by
  refine ⟨?_, ?_, ?_, ?_, ?_⟩ <;> simp [World.cell?, h]

theorem cells_set {w : World} {b o : Nat} {cs : Array Value} {t : TypeId} {u : Value} (h : w.heap[b]? = some (.cells cs t)) : (w.setCell ⟨b, o, none⟩ u).heap[b]? = some (.cells (cs.setIfInBounds o u) t) := by
  obtain ⟨hb, he⟩ := Array.getElem?_eq_some_iff.1 h
  show (w.heap.modify b _)[b]? = _
  rw [Array.getElem?_modify]
  simp [h]

theorem DeepInv.step {w wr : World} {j : Nat} {v : JV} {k n : Int} {t : ByteArray} {na : Option Addr} {nl ncap : Nat} {ia : Option Addr} {il icap : Nat} (hj : j + 1 ≤ 8)
    (hblk : wr.heap[w.heap.size]? = some (.cells #[.int .i64 k, .int .i64 n, .string t, .slice na nl ncap, .slice ia il icap] 25))
    (hjat : JAt (cfx w.heap.size wr) v (.agg #[.int .i64 k, .int .i64 n, .string t, .slice na nl ncap, .slice ia il icap])) (hbel : Below w.heap.size w wr) (hlt : w.heap.size < wr.heap.size) :
    DeepInv w (.int .i64 ((j : Int) + 1)) ((((((wr.setCell ⟨w.heap.size, 0, none⟩ (.int .i64 5)).setCell ⟨w.heap.size, 1, none⟩ (.int .i64 0)).setCell ⟨w.heap.size, 2, none⟩ (.string ⟨#[]⟩)).setCell ⟨w.heap.size, 3, none⟩ (.slice none 0 0)).setCell ⟨w.heap.size, 4, none⟩ (.slice (some ⟨wr.heap.size, 0, none⟩) 1 1)).alloc
      (.cells #[.int .i64 k, .int .i64 n, .string t, .slice na nl ncap, .slice ia il icap] 25)) := by
  generalize hS : ((((wr.setCell ⟨w.heap.size, 0, none⟩ (.int .i64 5)).setCell ⟨w.heap.size, 1, none⟩ (.int .i64 0)).setCell ⟨w.heap.size, 2, none⟩ (.string ⟨#[]⟩)).setCell ⟨w.heap.size, 3, none⟩ (.slice none 0 0)).setCell ⟨w.heap.size, 4, none⟩ (.slice (some ⟨wr.heap.size, 0, none⟩) 1 1) = S
  have hsz : S.heap.size = wr.heap.size := by rw [← hS]; simp [World.setCell]
  have hB : S.heap[w.heap.size]? = some (.cells #[.int .i64 5, .int .i64 0, .string ⟨#[]⟩, .slice none 0 0, .slice (some ⟨wr.heap.size, 0, none⟩) 1 1] 25) := by
    rw [← hS, cells_set (cells_set (cells_set (cells_set (cells_set hblk))))]; simp
  have hO : ∀ b, b ≠ w.heap.size → S.heap[b]? = wr.heap[b]? := by
    intro b hb
    rw [← hS, Below.heap_setCell _ _ _ _ (fun e => hb (by simpa using e)), Below.heap_setCell _ _ _ _ (fun e => hb (by simpa using e)), Below.heap_setCell _ _ _ _ (fun e => hb (by simpa using e)), Below.heap_setCell _ _ _ _ (fun e => hb (by simpa using e)), Below.heap_setCell _ _ _ _ (fun e => hb (by simpa using e))]
  have hbS : Below w.heap.size w S := by
    rw [← hS]
    exact ((((hbel.setCell (p := ⟨w.heap.size, 0, none⟩) (Nat.le_refl _) _).setCell (p := ⟨w.heap.size, 1, none⟩) (Nat.le_refl _) _).setCell (p := ⟨w.heap.size, 2, none⟩) (Nat.le_refl _) _).setCell (p := ⟨w.heap.size, 3, none⟩) (Nat.le_refl _) _).setCell (p := ⟨w.heap.size, 4, none⟩) (Nat.le_refl _) _
  clear hS
  have hnew : (S.alloc (.cells #[.int .i64 k, .int .i64 n, .string t, .slice na nl ncap, .slice ia il icap] 25)).heap[wr.heap.size]? = some (.cells #[.int .i64 k, .int .i64 n, .string t, .slice na nl ncap, .slice ia il icap] 25) := by
    rw [← hsz]; exact heap_alloc_new S _
  obtain ⟨x0, x1, x2, x3, x4⟩ := five_cells hnew
  have hold : ∀ b, b < wr.heap.size → (S.alloc (.cells #[.int .i64 k, .int .i64 n, .string t, .slice na nl ncap, .slice ia il icap] 25)).heap[b]? = S.heap[b]? := fun b hb => by
    have := ((Below.refl S.heap.size S).alloc (Nat.le_refl _) (.cells #[.int .i64 k, .int .i64 n, .string t, .slice na nl ncap, .slice ia il icap] 25)).block b (by omega)
    exact this
  have hne : ¬ wr.heap.size = w.heap.size := by omega
  refine ⟨j + 1, .mk 5 0 ⟨#[]⟩ [] [v], 5, 0, ⟨#[]⟩, none, 0, 0, some ⟨wr.heap.size, 0, none⟩, 1, 1, by simp, hj, ?_, ?_, hbS.alloc (by omega) _, by simp; omega⟩
  · rw [hold _ hlt]; exact hB
  · refine JAt.mk 5 0 ⟨#[]⟩ [] [v] (.slice none 0 0) (some ⟨wr.heap.size, 0, none⟩) 1 (fun _ => .agg #[.int .i64 k, .int .i64 n, .string t, .slice na nl ncap, .slice ia il icap]) (by kernel_rfl) (by kernel_rfl) (by simp [ByteArray.size]) (strs_nil _) (by simp) (fun i u hu => ?_) (fun i u hu => ?_)
    · have hi : i = 0 := by
        have := (List.getElem?_eq_some_iff.1 hu).1; simp at this; omega
      subst hi
      refine ⟨wr.heap.size, 0, rfl, _, _, _, _, _, rfl, ?_, ?_, ?_, ?_, ?_⟩ <;> (unfold cfx; rw [if_neg hne]; assumption)
    · have hi : i = 0 := by
        have := (List.getElem?_eq_some_iff.1 hu).1; simp at this; omega
      subst hi
      obtain rfl : v = u := by simpa using hu
      exact hjat.mono (cfx_step (fun b hb hbl => by rw [hold b hbl, hO b hb]))

theorem five_free {w : World} {b : Nat} {cs : Array Value} {t : TypeId} (h : w.heap[b]? = some (.cells cs t)) :
    w.frozen? ⟨b, 0, none⟩ = false ∧ w.frozen? ⟨b, 1, none⟩ = false ∧ w.frozen? ⟨b, 2, none⟩ = false ∧ w.frozen? ⟨b, 3, none⟩ = false ∧ w.frozen? ⟨b, 4, none⟩ = false := by
  refine ⟨?_, ?_, ?_, ?_, ?_⟩ <;> simp [World.frozen?, h]

theorem tmod9 {m : Int} (h : (Lit.int .u8 m).wf = true) : wrap64 (m.tmod 9) ≤ 8 := by
  have h0 : 0 ≤ m := by
    have := h
    simp [Lit.wf] at this
    have h2 : IntKind.u8.min = 0 := by kernel_rfl
    omega
  have h1 : m.tmod 9 = m % 9 := Int.tmod_eq_emod_of_nonneg h0
  rw [h1]
  unfold wrap64
  omega

set_option maxHeartbeats 4000000 in
theorem jsonDeep_walk (v : JV) (x : Value) (m : Int) (hm : (Lit.int .u8 m).wf = true) (w : World) (hx : JAt (cf w) v x) (hT : Tabs w) :
    Calls Tryd.prog 4 #[x, .int .u8 m] w fun e w' => e = .returned (.bool true) ∧ Below w.heap.size w w' := by
  obtain ⟨k, n, t, nm, it, na, ncap, ia, icap, rfl, rfl, _⟩ := hx.open
  have HJ := Lib.hid hx
  have HT := Lib.hid hT
  have HX := Lib.hid (awake_any (w.alloc (.cells #[.int .i64 k, .int .i64 n, .string t, .slice na nm.length ncap, .slice ia it.length icap] 25)) (hT.alloc _))
  have hwr : wrap64 (m.tmod 9) ≤ 8 := tmod9 hm
  clear hm
  clear hx hT
  generalize hv : JV.mk k n t nm it = v at HJ
  clear hv
  go_enter Tryd.func4, Tryd.ntmps4
  go_wp2_with fail
  refine HX.out.mono ?_
  rintro e w1 ⟨rfl, hb1⟩
  have hbx := (Boxed.refl w (.cells #[.int .i64 k, .int .i64 n, .string t, .slice na nm.length ncap, .slice ia it.length icap] 25)).next hb1
  have y0 := hbx.c0
  have y1 := hbx.c1
  have y2 := hbx.c2
  have y3 := hbx.c3
  have y4 := hbx.c4
  have HB := Lib.hid hbx
  have HY := Lib.hid (few_any HJ.out w1 (cle_below hbx.below))
  clear HX hb1 hbx
  cases hf : fewF v with
  | false =>
    rw [hf] at HY
    clear hf
    go_wp2_with fail
    refine HY.out.mono ?_
    rintro e w2 ⟨rfl, hb2⟩
    have HB2 := Lib.hid (HB.out.next hb2)
    have HX := Lib.hid (awake_any w2 (HT.out.below HB2.out.below))
    clear HY hb2 HB y0 y1 y2 y3 y4
    go_wp2_with fail
    refine HX.out.mono ?_
    rintro e w3 ⟨rfl, hb3⟩
    have hb4 := (HB2.out.next hb3).below
    clear HX hb3
    go_wp2_with fail
    go_ret
    exact ⟨rfl, hb4⟩
  | true =>
    rw [hf] at HY
    clear hf
    go_wp2_with fail
    refine HY.out.mono ?_
    rintro e w2 ⟨rfl, hb2⟩
    have hbx := HB.out.next hb2
    clear HY hb2 HB y0 y1 y2 y3 y4
    have HI := Lib.hid (DeepInv.start HJ.out hbx)
    clear hbx HJ
    go_wp2_with fail
    go_loopw [5] (fun i wr => DeepInv w i wr) (fun i _ => 9 - (intOf i).toNat)
    case atStart => exact HI.out
    case round =>
      clear HI
      obtain ⟨j, v', k, n, t, na, nl, ncap, ia, il, icap, rfl, hj, hblk, hjat, hbel, hlt⟩ := hrel
      obtain ⟨y0, y1, y2, y3, y4⟩ := five_cells hblk
      obtain ⟨q0, q1, q2, q3, q4⟩ := five_free hblk
      have HBL := Lib.hid hblk
      have HJ := Lib.hid hjat
      have HBE := Lib.hid hbel
      clear hblk hjat hbel
      by_cases hc : (j : Int) < wrap64 (m.tmod 9)
      · have HST := Lib.hid (DeepInv.step (j := j) (by omega) HBL.out HJ.out HBE.out hlt)
        go_wp2_with fail
        exact ⟨HST.out, by simp [intOf]; omega⟩
      · have g0 := Grow.cell y0
        have g1 := Grow.cell y1
        have g2 := Grow.cell y2
        have g3 := Grow.cell y3
        have g4 := Grow.cell y4
        have HP := Lib.hid (Calls.grow (fun e : Grow wr => Depth_any v' _ e.val ((HJ.out.mono (cfx_cf _ _)).mono (cle_below e.property))))
        have HR := Lib.hid (Calls.grow (fun e : Grow wr => rDepth_any v' _ e.val ((HJ.out.mono (cfx_cf _ _)).mono (cle_below e.property))))
        generalize depthF 7 v' = r at HP HR
        clear HJ HBL q0 q1 q2 q3 q4
        go_wp2_with fail
        refine wp_region_grow (by kernel_rfl) (by kernel_rfl) ?_
        repeat (go_big_quiet_step (first | exact HP.out _ | exact HR.out _))
        refine wpQuiet_nil ?_
        rintro ⟨w3, hb3⟩
        have hb4 := HBE.out.trans (hb3.mono (Nat.le_of_lt hlt))
        simp only
        clear hb3 g0 g1 g2 g3 g4 HP HR y0 y1 y2 y3 y4
        go_wp2_with fail
        go_ret
        exact ⟨by simp, hb4⟩

end Go.Proofs.YthbahjgccipjkaaDoor
