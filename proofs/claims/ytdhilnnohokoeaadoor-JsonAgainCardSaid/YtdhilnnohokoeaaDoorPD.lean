/- value of the printer: arrays and objects. -/
import Derived.Test.YtdhilnnohokoeaaDoorPC
namespace Go.Proofs.YtdhilnnohokoeaaDoor
open Go.Shelf Go.RowKit

/-- what stands while members are printed: the printer, the value's box -/
structure PV (B b bx : Nat) (box : Array Value) (l : List UInt8) (w wr : World) : Prop where
  pb : PB B b l wr
  keep : Keep B b w wr
  box : wr.heap[bx]? = some (.cells box 26 (0, 0))
  ne : bx ≠ b
theorem PV.next {B b bx : Nat} {box : Array Value} {l l' : List UInt8} {w wr w' : World} (h : PV B b bx box l w wr) (hp : PB B b l' w') (hk : Keep B b wr w') : PV B b bx box l' w w' :=
  ⟨hp, h.keep.trans hk, hk.box h.box h.ne, h.ne⟩
theorem PV.alloc {B b bx : Nat} {box : Array Value} {l : List UInt8} {w wr : World} (h : PV B b bx box l w wr) (o : Obj) : PV B b bx box l w (wr.alloc o) :=
  h.next (h.pb.alloc o) (Keep.alloc h.pb.le o)
theorem PV.drew {B b bx : Nat} {box : Array Value} {l : List UInt8} {w wr : World} (h : PV B b bx box l w wr) : PV B b bx box l w wr.drew :=
  ⟨h.pb.drew, h.keep.drew, h.box, h.ne⟩
/-- the value's box and the member's -/
theorem PV.inner {B b bx : Nat} {box cs : Array Value} {l : List UInt8} {w wr : World} (h : PV B b bx box l w wr) : PV B b wr.heap.size cs l w (wr.alloc (.cells cs 26)) :=
  ⟨h.pb.alloc _, h.keep.trans (Keep.alloc h.pb.le _), heap_alloc_new wr _, by have := h.pb.lt; omega⟩

theorem lenB_succ (d : Nat) : lenB (d + 1) = 400 + 24 * (lenB d + 400) := by rw [lenB]
theorem fits_num {j L p a M Q : Nat} (hj : j < 24) (h1 : p ≤ j * (L + Q)) (hl : a + (400 + 24 * (L + Q)) ≤ M) : a + (1 + p) + (L + Q) + 1 ≤ M := by
  have h2 : (j + 1) * (L + Q) ≤ 24 * (L + Q) := Nat.mul_le_mul_right _ hj
  rw [Nat.add_mul, Nat.one_mul] at h2
  omega
theorem part_fits {M d j n : Nat} {l : List UInt8} {f : JV → List UInt8} {k : Int} {nm : List ByteArray} {it : List JV} (hl : l.length + lenB (d + 1) ≤ M) (hn : ∀ s ∈ nm, textF s = true) (hf : ∀ x ∈ it, (f x).length ≤ lenB d) (hj : j < n) (hn24 : n ≤ 24) (m : UInt8) :
    (l ++ ([m] ++ partF f k nm it j)).length + (lenB d + 400) + 1 ≤ M := by
  have h1 := partF_len (k := k) hn hf j
  rw [lenB_succ] at hl
  rw [List.length_append, List.length_append, List.length_singleton]
  exact fits_num (Nat.lt_of_lt_of_le hj hn24) h1 hl
theorem fits_one {M d : Nat} {l : List UInt8} (hl : l.length + lenB (d + 1) ≤ M) : l.length + 1 ≤ M := by
  rw [lenB_succ] at hl; omega
theorem end_num {p a L M : Nat} (h1 : p ≤ 24 * (L + 400)) (hl : a + (400 + 24 * (L + 400)) ≤ M) : a + (1 + p) + 1 ≤ M := by
  omega
theorem part_end {M d : Nat} {l : List UInt8} {f : JV → List UInt8} {k : Int} {nm : List ByteArray} {it : List JV} (hl : l.length + lenB (d + 1) ≤ M) (hn : ∀ s ∈ nm, textF s = true) (hf : ∀ x ∈ it, (f x).length ≤ lenB d) (hn24 : it.length ≤ 24) (m : UInt8) :
    (l ++ ([m] ++ partF f k nm it it.length)).length + 1 ≤ M := by
  have h1 := Nat.le_trans (partF_len (k := k) hn hf it.length) (Nat.mul_le_mul_right _ hn24)
  rw [lenB_succ] at hl
  rw [List.length_append, List.length_append, List.length_singleton]
  exact end_num h1 hl
section
variable {M L : Nat} {l : List UInt8} {s : ByteArray}
theorem fits_a {Q : Nat} (h : l.length + (L + Q) + 1 ≤ M) : l.length + 1 ≤ M := by omega
theorem fits_b {Q : Nat} (c : UInt8) (h : l.length + (L + Q) + 1 ≤ M) : (l ++ [c]).length + (L + Q) ≤ M := by rw [List.length_append, List.length_singleton]; omega
theorem fits_c {Q : Nat} (h : l.length + (L + Q) + 1 ≤ M) : l.length + (L + Q) ≤ M := by omega
theorem sz_a (h : s.size ≤ 60) : s.size ≤ 1000000000 := Nat.le_trans h (by decide)
theorem fits_d (hs : s.size ≤ 60) (h : l.length + (L + 400) ≤ M) : l.length + 6 * s.size + 2 ≤ M := by omega
theorem fits_e (hs : s.size ≤ 60) (h : l.length + (L + 400) ≤ M) : (l ++ quotedF s.data.toList).length + (L + 1) ≤ M := by
  have := @quotedF_len s
  rw [List.length_append]; omega
theorem fits_f (h : l.length + (L + 1) ≤ M) : l.length + 1 ≤ M := by omega
theorem fits_g (c : UInt8) (h : l.length + (L + 1) ≤ M) : (l ++ [c]).length + (L + 0) ≤ M := by rw [List.length_append, List.length_singleton]; omega
theorem fits_h {q : Nat} (h : l.length + (L + q) ≤ M) : l.length + L ≤ M := by omega
end
theorem part_step {f : JV → List UInt8} {k : Int} {nm : List ByteArray} {it : List JV} {j : Nat} {x : JV} (hx : it[j]? = some x) (l : List UInt8) (m : UInt8) : l ++ ([m] ++ partF f k nm it (j + 1)) = l ++ ([m] ++ partF f k nm it j) ++ headF k nm j ++ f x := by
  rw [partF, hx]
  simp only [Option.map_some, Option.getD_some, List.append_assoc]

set_option maxRecDepth 100000 in
set_option maxHeartbeats 8000000 in
theorem value_array (d : Nat) (IH : ValueAt d) (n : Int) (t : ByteArray) (nm : List ByteArray) (it : List JV) (na : Option Addr) (ncap : Nat) (ia : Option Addr) (icap : Nat) (c : CF) (B b : Nat) (l : List UInt8) (w : World)
    (h24 : it.length ≤ 24) (hnm : ∀ s ∈ nm, textF s = true) (hfi : ∀ x ∈ it, formedF d x = true) (hit : ItemsAt c (.slice ia it.length icap) it) (hlow : Low B c) (hc : CLe c (cf w)) (h : PB B b l w) (hp : Pow B w) (hl : l.length + lenB (d + 1) ≤ 140737488355328) :
    Calls Tryd.prog 19 #[.pointer (some ⟨b, 0, none⟩), .agg #[.int .i64 5, .int .i64 n, .string t, .slice na nm.length ncap, .slice ia it.length icap]] w fun e w' => e = .returned (.tuple #[]) ∧ PB B b (l ++ ([91] ++ partF (showF d) 5 nm it it.length ++ [93])) w' ∧ Keep B b w w' := by
  have HFL := Hold.mk (fun x hx => let ⟨y, hy⟩ := JAt.item hit hx; showF_len d x c y hy (hfi x hx))
  have HV : Hold (PV B b w.heap.size #[.int .i64 5, .int .i64 n, .string t, .slice na nm.length ncap, .slice ia it.length icap] l w (w.alloc (.cells #[.int .i64 5, .int .i64 n, .string t, .slice na nm.length ncap, .slice ia it.length icap] 26))) :=
    ⟨h.alloc _, Keep.alloc h.le _, heap_alloc_new w _, by have := h.lt; omega⟩
  have HL1 := Hold.mk (fits_one hl)
  have HEND := Hold.mk (part_end (k := 5) hl hnm HFL.out h24 91)
  obtain ⟨ia', icap', e, hlen, hel⟩ := hit
  cases e
  have HE := Hold.mk hel
  have HIH := Hold.mk IH
  have HC := Hold.mk hc
  have HP := Hold.mk hp
  have HLO := Hold.mk hlow
  have HFI := Hold.mk hfi
  have HNM := Hold.mk hnm
  have HL := Hold.mk hl
  clear hel IH hc hp hlow hfi hnm h hl
  go_enter Tryd.func19, Tryd.ntmps19
  go_wp2_with fail
  go_still_tail 5, (by kernel_rfl)
  go_wp2_with fail
  refine (pb_byte 91 HV.out.drew.pb HL1.out).mono ?_
  rintro e w1 ⟨rfl, h1, hk1⟩
  have HV1 := Hold.mk (HV.out.drew.next h1 hk1)
  obtain ⟨y0, y1, y2, y3, y4⟩ := box_cells HV1.out.box
  clear h1 hk1 HV HL1
  go_wp2_with fail
  clear y0 y1 y2 y3 y4
  go_loopw [48] (fun i wr => ∃ j : Nat, i = .int .i64 j ∧ j ≤ it.length ∧ PV B b w.heap.size #[.int .i64 5, .int .i64 n, .string t, .slice na nm.length ncap, .slice ia it.length icap] (l ++ ([91] ++ partF (showF d) 5 nm it j)) w wr) (fun i _ => it.length - (intOf i).toNat)
  case atStart => exact ⟨0, rfl, Nat.zero_le _, by simpa [partF] using HV1.out⟩
  case round =>
    obtain ⟨j, rfl, hj, hpv⟩ := hrel
    clear HV1
    have HV := Hold.mk hpv
    obtain ⟨y0, y1, y2, y3, y4⟩ := box_cells hpv.box
    have hlt0 := hpv.pb.lt
    have hwl : w.heap.size < wr.heap.size := (Array.getElem?_eq_some_iff.1 hpv.box).1
    clear hpv
    by_cases hlt : j < it.length
    · obtain ⟨x, hx⟩ : ∃ x, it[j]? = some x := ⟨it[j], List.getElem?_eq_getElem hlt⟩
      obtain ⟨bb, off, k2, n2, t2, nm2, it2, na2, ncap2, ia2, icap2, rfl, hxe, x0, x1, x2, x3, x4, hxj⟩ := HE.out j x hx
      have hcl := HLO.out.keep HC.out HV.out.keep.below
      have z0 := hcl _ _ _ x0
      have z1 := hcl _ _ _ x1
      have z2 := hcl _ _ _ x2
      have z3 := hcl _ _ _ x3
      have z4 := hcl _ _ _ x4
      unfold cf at z0 z1 z2 z3 z4
      have HX := Hold.mk hxj
      have HFX := Hold.mk (HFI.out x (List.mem_of_getElem? hx))
      have HFIT := Hold.mk (part_fits (k := 5) (j := j) HL.out HNM.out HFL.out hlt h24 91)
      have HST := Hold.mk (part_step (f := showF d) (k := 5) (nm := nm) hx l 91)
      have HCL := Hold.mk hcl
      have HVX := Hold.mk (HV.out.alloc (.cells #[.int .i64 k2, .int .i64 n2, .string t2, .slice na2 nm2.length ncap2, .slice ia2 it2.length icap2] 26))
      have HVI : Hold (PV B b wr.heap.size #[.int .i64 k2, .int .i64 n2, .string t2, .slice na2 nm2.length ncap2, .slice ia2 it2.length icap2] (l ++ ([91] ++ partF (showF d) 5 nm it j)) w (wr.alloc (.cells #[.int .i64 k2, .int .i64 n2, .string t2, .slice na2 nm2.length ncap2, .slice ia2 it2.length icap2] 26))) := ⟨HV.out.inner⟩
      clear x0 x1 x2 x3 x4 hx hxe hxj hcl
      generalize l ++ ([91] ++ partF (showF d) 5 nm it j) = l1 at *
      by_cases hj0 : j = 0
      · have hj1 : ¬ 0 < j := by omega
        have HH : Hold (headF 5 nm j = []) := ⟨by simp [headF, hj0]⟩
        clear hj0
        replace HFIT := Hold.mk (fits_c HFIT.out)
        go_wp2_with fail
        refine (HIH.out x _ c B b _ _ HFX.out HX.out HLO.out (HLO.out.keep HC.out HVX.out.keep.below) HVX.out.pb (HP.out.keep HVX.out.keep.below) (fits_h HFIT.out)).mono ?_
        rintro e w3 ⟨rfl, h3, hk3⟩
        have h3b : PB B b (l ++ ([91] ++ partF (showF d) 5 nm it (j + 1))) w3 := by rw [HST.out, HH.out]; simpa only [List.append_assoc, List.append_nil, List.nil_append] using h3
        replace HVX := Hold.mk (HVX.out.next h3b hk3)
        clear h3 hk3 h3b y0 y1 y2 y3 y4
        go_wp2_with fail
        exact ⟨⟨j + 1, by go_num, hlt, HVX.out⟩, by simp [intOf]; omega⟩
      · have hj1 : 0 < j := by omega
        have HH : Hold (headF 5 nm j = [44]) := ⟨by simp [headF, hj0]⟩
        clear hj0
        go_wp2_with fail
        refine (pb_byte 44 HVX.out.pb (fits_a HFIT.out)).mono ?_
        rintro e w2 ⟨rfl, h2, hk2⟩
        replace HVX := Hold.mk (HVX.out.next h2 hk2)
        replace HVI := Hold.mk (HVI.out.next h2 hk2)
        clear y0 y1 y2 y3 y4 h2 hk2
        obtain ⟨y0, y1, y2, y3, y4⟩ := box_cells HVX.out.box
        obtain ⟨u0, u1, u2, u3, u4⟩ := box_cells HVI.out.box
        replace HFIT := Hold.mk (fits_b 44 HFIT.out)
        go_wp2_with fail
        refine (HIH.out x _ c B b _ _ HFX.out HX.out HLO.out (HLO.out.keep HC.out HVX.out.keep.below) HVX.out.pb (HP.out.keep HVX.out.keep.below) (fits_h HFIT.out)).mono ?_
        rintro e w3 ⟨rfl, h3, hk3⟩
        have h3b : PB B b (l ++ ([91] ++ partF (showF d) 5 nm it (j + 1))) w3 := by rw [HST.out, HH.out]; simpa only [List.append_assoc, List.append_nil, List.nil_append] using h3
        replace HVX := Hold.mk (HVX.out.next h3b hk3)
        clear h3 hk3 h3b y0 y1 y2 y3 y4
        go_wp2_with fail
        exact ⟨⟨j + 1, by go_num, hlt, HVX.out⟩, by simp [intOf]; omega⟩
    · have ej : j = it.length := by omega
      have HJ := Hold.mk ej
      clear ej
      go_wp2_with fail
      go_still_tail 5, (by kernel_rfl)
      go_wp2_with fail
      refine (pb_byte 93 HV.out.drew.pb (by rw [HJ.out]; exact HEND.out)).mono ?_
      rintro e w3 ⟨rfl, h3, hk3⟩
      have HV3 := Hold.mk (HV.out.drew.next h3 hk3)
      clear h3 hk3 y0 y1 y2 y3 y4
      go_wp2_with fail
      go_end0
      exact ⟨rfl, by have := HV3.out.pb; rw [HJ.out] at this; simpa using this, HV3.out.keep⟩

set_option maxRecDepth 100000 in
set_option maxHeartbeats 8000000 in
theorem value_object (d : Nat) (IH : ValueAt d) (n : Int) (t : ByteArray) (nm : List ByteArray) (it : List JV) (na : Option Addr) (ncap : Nat) (ia : Option Addr) (icap : Nat) (c : CF) (B b : Nat) (l : List UInt8) (w : World)
    (h24 : it.length ≤ 24) (hnl : nm.length = it.length) (hnm : ∀ s ∈ nm, textF s = true) (hfi : ∀ x ∈ it, formedF d x = true) (hst : StrsAt c (.slice na nm.length ncap) nm) (hit : ItemsAt c (.slice ia it.length icap) it) (hlow : Low B c) (hc : CLe c (cf w)) (h : PB B b l w) (hp : Pow B w) (hl : l.length + lenB (d + 1) ≤ 140737488355328) :
    Calls Tryd.prog 19 #[.pointer (some ⟨b, 0, none⟩), .agg #[.int .i64 6, .int .i64 n, .string t, .slice na nm.length ncap, .slice ia it.length icap]] w fun e w' => e = .returned (.tuple #[]) ∧ PB B b (l ++ ([123] ++ partF (showF d) 6 nm it it.length ++ [125])) w' ∧ Keep B b w w' := by
  have HFL := Hold.mk (fun x hx => let ⟨y, hy⟩ := JAt.item hit hx; showF_len d x c y hy (hfi x hx))
  have HV : Hold (PV B b w.heap.size #[.int .i64 6, .int .i64 n, .string t, .slice na nm.length ncap, .slice ia it.length icap] l w (w.alloc (.cells #[.int .i64 6, .int .i64 n, .string t, .slice na nm.length ncap, .slice ia it.length icap] 26))) :=
    ⟨h.alloc _, Keep.alloc h.le _, heap_alloc_new w _, by have := h.lt; omega⟩
  have HL1 := Hold.mk (fits_one hl)
  have HEND := Hold.mk (part_end (k := 6) hl hnm HFL.out h24 123)
  obtain ⟨ia', icap', e, hlen, hel⟩ := hit
  cases e
  obtain ⟨na', ncap', e, hnlen, hnel⟩ := hst
  cases e
  have HS := Hold.mk hnel
  have HNL := Hold.mk hnl
  clear hnel hnl
  have HE := Hold.mk hel
  have HIH := Hold.mk IH
  have HC := Hold.mk hc
  have HP := Hold.mk hp
  have HLO := Hold.mk hlow
  have HFI := Hold.mk hfi
  have HNM := Hold.mk hnm
  have HL := Hold.mk hl
  clear hel IH hc hp hlow hfi hnm h hl
  go_enter Tryd.func19, Tryd.ntmps19
  go_wp2_with fail
  go_still_tail 5, (by kernel_rfl)
  go_wp2_with fail
  refine (pb_byte 123 HV.out.drew.pb HL1.out).mono ?_
  rintro e w1 ⟨rfl, h1, hk1⟩
  have HV1 := Hold.mk (HV.out.drew.next h1 hk1)
  obtain ⟨y0, y1, y2, y3, y4⟩ := box_cells HV1.out.box
  clear h1 hk1 HV HL1
  go_wp2_with fail
  clear y0 y1 y2 y3 y4
  go_loopw [48] (fun i wr => ∃ j : Nat, i = .int .i64 j ∧ j ≤ it.length ∧ PV B b w.heap.size #[.int .i64 6, .int .i64 n, .string t, .slice na nm.length ncap, .slice ia it.length icap] (l ++ ([123] ++ partF (showF d) 6 nm it j)) w wr) (fun i _ => it.length - (intOf i).toNat)
  case atStart => exact ⟨0, rfl, Nat.zero_le _, by simpa [partF] using HV1.out⟩
  case round =>
    obtain ⟨j, rfl, hj, hpv⟩ := hrel
    clear HV1
    have HV := Hold.mk hpv
    obtain ⟨y0, y1, y2, y3, y4⟩ := box_cells hpv.box
    have hlt0 := hpv.pb.lt
    have hwl : w.heap.size < wr.heap.size := (Array.getElem?_eq_some_iff.1 hpv.box).1
    clear hpv
    by_cases hlt : j < it.length
    · obtain ⟨x, hx⟩ : ∃ x, it[j]? = some x := ⟨it[j], List.getElem?_eq_getElem hlt⟩
      obtain ⟨bb, off, k2, n2, t2, nm2, it2, na2, ncap2, ia2, icap2, rfl, hxe, x0, x1, x2, x3, x4, hxj⟩ := HE.out j x hx
      obtain ⟨s, hs⟩ : ∃ s, nm[j]? = some s := ⟨nm[j]'(by rw [HNL.out]; exact hlt), List.getElem?_eq_getElem (by rw [HNL.out]; exact hlt)⟩
      have hsj : j < nm.length := by rw [HNL.out]; exact hlt
      obtain ⟨hsz, sb, so, rfl, hsc⟩ := HS.out j s hs
      have HSZ := Hold.mk (text_size (HNM.out s (List.mem_of_getElem? hs)))
      have hcl := HLO.out.keep HC.out HV.out.keep.below
      have z0 := hcl _ _ _ x0
      have z1 := hcl _ _ _ x1
      have z2 := hcl _ _ _ x2
      have z3 := hcl _ _ _ x3
      have z4 := hcl _ _ _ x4
      have z5 := hcl _ _ _ hsc
      unfold cf at z0 z1 z2 z3 z4 z5
      have HX := Hold.mk hxj
      have HFX := Hold.mk (HFI.out x (List.mem_of_getElem? hx))
      have HFIT := Hold.mk (part_fits (k := 6) (j := j) HL.out HNM.out HFL.out hlt h24 123)
      have HST := Hold.mk (part_step (f := showF d) (k := 6) (nm := nm) hx l 123)
      have HCL := Hold.mk hcl
      have HSX := Hold.mk hs
      have hsb := lt_of_cell z5
      have HVX := Hold.mk (HV.out.alloc (.cells #[.int .i64 k2, .int .i64 n2, .string t2, .slice na2 nm2.length ncap2, .slice ia2 it2.length icap2] 26))
      have HVI : Hold (PV B b wr.heap.size #[.int .i64 k2, .int .i64 n2, .string t2, .slice na2 nm2.length ncap2, .slice ia2 it2.length icap2] (l ++ ([123] ++ partF (showF d) 6 nm it j)) w (wr.alloc (.cells #[.int .i64 k2, .int .i64 n2, .string t2, .slice na2 nm2.length ncap2, .slice ia2 it2.length icap2] 26))) := ⟨HV.out.inner⟩
      have HSC := Hold.mk hsc
      clear x0 x1 x2 x3 x4 hx hxe hxj hcl hsc hs hsz
      generalize l ++ ([123] ++ partF (showF d) 6 nm it j) = l1 at *
      by_cases hj0 : j = 0
      · have hj1 : ¬ 0 < j := by omega
        have HH : Hold (headF 6 nm j = quotedF s.data.toList ++ [58]) := ⟨by unfold headF; rw [if_pos hj0, if_pos rfl, List.getD_eq_getElem?_getD, HSX.out]; rfl⟩
        clear hj0
        replace HFIT := Hold.mk (fits_c HFIT.out)
        go_wp2_with fail
        refine (quoted_any B b _ s _ HVX.out.pb (sz_a HSZ.out) (fits_d HSZ.out HFIT.out)).mono ?_
        rintro e w4 ⟨rfl, h4, hk4⟩
        replace HVX := Hold.mk (HVX.out.next h4 hk4)
        replace HVI := Hold.mk (HVI.out.next h4 hk4)
        clear y0 y1 y2 y3 y4 h4 hk4 z5
        replace HFIT := Hold.mk (fits_e HSZ.out HFIT.out)
        go_wp2_with fail
        refine (pb_byte 58 HVX.out.pb (fits_f HFIT.out)).mono ?_
        rintro e w5 ⟨rfl, h5, hk5⟩
        replace HVX := Hold.mk (HVX.out.next h5 hk5)
        replace HVI := Hold.mk (HVI.out.next h5 hk5)
        obtain ⟨u0, u1, u2, u3, u4⟩ := box_cells HVI.out.box
        clear h5 hk5
        replace HFIT := Hold.mk (fits_g 58 HFIT.out)
        go_wp2_with fail
        refine (HIH.out x _ c B b _ _ HFX.out HX.out HLO.out (HLO.out.keep HC.out HVX.out.keep.below) HVX.out.pb (HP.out.keep HVX.out.keep.below) (fits_h HFIT.out)).mono ?_
        rintro e w3 ⟨rfl, h3, hk3⟩
        have h3b : PB B b (l ++ ([123] ++ partF (showF d) 6 nm it (j + 1))) w3 := by rw [HST.out, HH.out]; simpa only [List.append_assoc, List.append_nil, List.nil_append] using h3
        replace HVX := Hold.mk (HVX.out.next h3b hk3)
        clear h3 hk3 h3b 
        go_wp2_with fail
        exact ⟨⟨j + 1, by go_num, hlt, HVX.out⟩, by simp [intOf]; omega⟩
      · have hj1 : 0 < j := by omega
        have HH : Hold (headF 6 nm j = [44] ++ quotedF s.data.toList ++ [58]) := ⟨by unfold headF; rw [if_neg hj0, if_pos rfl, List.getD_eq_getElem?_getD, HSX.out]; rfl⟩
        clear hj0
        go_wp2_with fail
        refine (pb_byte 44 HVX.out.pb (fits_a HFIT.out)).mono ?_
        rintro e w2 ⟨rfl, h2, hk2⟩
        replace HVX := Hold.mk (HVX.out.next h2 hk2)
        replace HVI := Hold.mk (HVI.out.next h2 hk2)
        clear y0 y1 y2 y3 y4 h2 hk2 z5
        obtain ⟨y0, y1, y2, y3, y4⟩ := box_cells HVX.out.box
        obtain ⟨u0, u1, u2, u3, u4⟩ := box_cells HVI.out.box
        replace HFIT := Hold.mk (fits_b 44 HFIT.out)
        have z5 := HLO.out.keep HC.out HVX.out.keep.below _ _ _ HSC.out
        unfold cf at z5
        go_wp2_with fail
        refine (quoted_any B b _ s _ HVX.out.pb (sz_a HSZ.out) (fits_d HSZ.out HFIT.out)).mono ?_
        rintro e w4 ⟨rfl, h4, hk4⟩
        replace HVX := Hold.mk (HVX.out.next h4 hk4)
        replace HVI := Hold.mk (HVI.out.next h4 hk4)
        clear y0 y1 y2 y3 y4 h4 hk4 z5 u0 u1 u2 u3 u4
        replace HFIT := Hold.mk (fits_e HSZ.out HFIT.out)
        go_wp2_with fail
        refine (pb_byte 58 HVX.out.pb (fits_f HFIT.out)).mono ?_
        rintro e w5 ⟨rfl, h5, hk5⟩
        replace HVX := Hold.mk (HVX.out.next h5 hk5)
        replace HVI := Hold.mk (HVI.out.next h5 hk5)
        obtain ⟨u0, u1, u2, u3, u4⟩ := box_cells HVI.out.box
        clear h5 hk5
        replace HFIT := Hold.mk (fits_g 58 HFIT.out)
        go_wp2_with fail
        refine (HIH.out x _ c B b _ _ HFX.out HX.out HLO.out (HLO.out.keep HC.out HVX.out.keep.below) HVX.out.pb (HP.out.keep HVX.out.keep.below) (fits_h HFIT.out)).mono ?_
        rintro e w3 ⟨rfl, h3, hk3⟩
        have h3b : PB B b (l ++ ([123] ++ partF (showF d) 6 nm it (j + 1))) w3 := by rw [HST.out, HH.out]; simpa only [List.append_assoc, List.append_nil, List.nil_append] using h3
        replace HVX := Hold.mk (HVX.out.next h3b hk3)
        clear h3 hk3 h3b 
        go_wp2_with fail
        exact ⟨⟨j + 1, by go_num, hlt, HVX.out⟩, by simp [intOf]; omega⟩
    · have ej : j = it.length := by omega
      have HJ := Hold.mk ej
      clear ej
      go_wp2_with fail
      go_still_tail 5, (by kernel_rfl)
      go_wp2_with fail
      refine (pb_byte 125 HV.out.drew.pb (by rw [HJ.out]; exact HEND.out)).mono ?_
      rintro e w3 ⟨rfl, h3, hk3⟩
      have HV3 := Hold.mk (HV.out.drew.next h3 hk3)
      clear h3 hk3 y0 y1 y2 y3 y4
      go_wp2_with fail
      go_end0
      exact ⟨rfl, by have := HV3.out.pb; rw [HJ.out] at this; simpa using this, HV3.out.keep⟩


theorem value_any : ∀ d, ValueAt d
  | 0 => fun v x c B b l w hf => by simp [formedF] at hf
  | d + 1 => fun v x c B b l w hf hv hlow hc h hp hl => by
    have IH := value_any d
    obtain ⟨k, n, t, nm, it, na, ncap, ia, icap, rfl, rfl, _, hn, _, hst, hit⟩ := hv.open
    have h1 := formed_head hf
    have hl4 : l.length + 400 ≤ 140737488355328 := by rw [lenB_succ] at hl; exact Nat.le_trans (Nat.add_le_add_left (Nat.le_add_right _ _) _) hl
    rw [showF]
    by_cases h3 : k = 3
    · subst h3; rw [if_pos rfl]; exact value_int n t _ _ B b l w hn h hp hl4
    rw [if_neg h3]
    by_cases h4 : k = 4
    · subst h4; rw [if_pos rfl]; exact value_string n t _ _ B b l w (text_size h1.2.2.2.2) h hl4
    rw [if_neg h4]
    by_cases h5 : k = 5
    · subst h5
      obtain ⟨h24, _, hnm, hfi, _⟩ := formed_body hf (by decide)
      rw [if_pos rfl]; exact value_array d IH n t nm it na ncap ia icap c B b l w h24 hnm hfi hit hlow hc h hp hl
    rw [if_neg h5]
    by_cases h6 : k = 6
    · subst h6
      obtain ⟨h24, hnl, hnm, hfi, _⟩ := formed_body hf (by decide)
      rw [if_pos rfl]; exact value_object d IH n t nm it na ncap ia icap c B b l w h24 (by simpa using hnl) hnm hfi hst hit hlow hc h hp hl
    rw [if_neg h6]
    have h0 := h1.1
    have h7 := h1.2.1
    exact value_word k n (by omega) t _ _ B b l w h hl4

end Go.Proofs.YtdhilnnohokoeaaDoor
