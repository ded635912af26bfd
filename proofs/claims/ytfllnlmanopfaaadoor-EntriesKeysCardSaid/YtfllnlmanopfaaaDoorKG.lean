/- Keys of the reference: Big, Text. -/
import Derived.Test.YtfllnlmanopfaaaDoorKF
namespace Go.Proofs.YtfllnlmanopfaaaDoor
open Go.RowKit

/-- a new row of bytes is handed back -/
def NewPost (l : List UInt8) (w : World) (e : Ending) (w' : World) : Prop := ∃ sv, e = .returned sv ∧ BRow w.heap.size w' sv l ∧ Below w.heap.size w w'

/-- where Big stands: the last j bytes are laid -/
structure BigIn (w wr : World) (x j : Nat) (cur : Array Value) : Prop where
  bel : Below w.heap.size w wr
  row : wr.heap[w.heap.size]? = some (.cells cur 5 (0, 0))
  size : cur.size = 8
  done : ∀ q, 8 - j ≤ q → q < 8 → cur[q]? = some (.int .u8 ((x : Int) / 2 ^ (56 - 8 * q) % 256))
theorem BigIn.put {w wr : World} {x j : Nat} {cur : Array Value} (h : BigIn w wr x j cur) (hj : j < 8) : BigIn w (wr.setCell ⟨w.heap.size, 7 - j, none⟩ (.int .u8 ((x : Int) / 2 ^ (8 * j) % 256))) x (j + 1) (cur.set! (7 - j) (.int .u8 ((x : Int) / 2 ^ (8 * j) % 256))) := by
  refine ⟨h.bel.setCell (p := ⟨w.heap.size, 7 - j, none⟩) (Nat.le_refl _) _, set_self h.row, by simp [h.size], fun q h1 h2 => ?_⟩
  have hs := h.size
  by_cases he : q = 7 - j
  · subst he
    rw [Array.set!_eq_setIfInBounds, Array.getElem?_setIfInBounds_self_of_lt (by omega), show 56 - 8 * (7 - j) = 8 * j by omega]
  · rw [Array.set!_eq_setIfInBounds, Array.getElem?_setIfInBounds_ne (by omega)]
    exact h.done q (by omega) h2
theorem BigIn.cell {w wr : World} {x j : Nat} {cur : Array Value} (h : BigIn w wr x j cur) (hj : j < 8) : ∃ v, wr.cell? ⟨w.heap.size, 7 - j, none⟩ = some v :=
  ⟨cur[7 - j]'(by rw [h.size]; omega), by have := h.size; simp [World.cell?, h.row]⟩
theorem BigIn.all {w wr : World} {x : Nat} {cur : Array Value} (h : BigIn w wr x 8 cur) : BRow w.heap.size wr (.slice (some ⟨w.heap.size, 0, none⟩) 8 8) (be64 x) := by
  have hd : cur.toList = bv (be64 x) := by
    apply List.ext_getElem?
    intro q
    by_cases hq : q < 8
    · have h1 := h.done q (by omega) hq
      rw [Array.getElem?_toList, h1, bv_get (be_get x hq), be_cell]
    · rw [List.getElem?_eq_none (by rw [Array.length_toList, h.size]; omega), List.getElem?_eq_none (by rw [bv_len, be64_len]; omega)]
  exact ⟨⟨by rw [bv_len]; rfl, .inr ⟨w.heap.size, 8, cur, rfl, Nat.le_refl _, h.row, Nat.le_refl _, by decide, by rw [h.size], by rw [be64_len, List.take_of_length_le (by rw [Array.length_toList, h.size]; omega)]; exact hd⟩⟩, Nat.le_of_lt (heap_lt h.row)⟩
theorem div_step (x j : Nat) : x / 2 ^ (8 * j) / 256 = x / 2 ^ (8 * (j + 1)) := by
  rw [Nat.div_div_eq_div_mul, Nat.mul_add, Nat.pow_add]

set_option maxRecDepth 100000 in
set_option maxHeartbeats 4000000 in
theorem Big_any (x : Nat) (w : World) (hx : x < 18446744073709551616) :
    Calls Tryd.prog 100 #[.int .u64 (x : Int)] w (NewPost (be64 x) w) := by
  obtain ⟨M, hM, hmk⟩ := made_bytes 8 (by omega) w
  have HT : Hold (BigIn w (w.alloc (.cells M 5)) x 0 M) := ⟨(Below.refl _ w).alloc (Nat.le_refl _) _, heap_alloc_new w _, hM, fun q h1 h2 => by omega⟩
  have hmk2 : (Instr.makeSlice 55 (.int .i64 8) (.int .i64 8)).run Tryd.prog w = .ok (.slice (some ⟨w.heap.size, 0, none⟩) 8 8) (w.alloc (.cells M 5)) := hmk
  clear hM hmk
  go_enter Tryd.func100, Tryd.ntmps100
  go_wp2_with fail
  clear hmk2
  go_loopw [0, 4] (fun n i wr => ∃ (j y : Nat) (cur : Array Value), i = .int .i64 (7 - (j : Int)) ∧ j ≤ 8 ∧ n = .int .u64 (y : Int) ∧ y = x / 2 ^ (8 * j) ∧ BigIn w wr x j cur) (fun _ i _ => (intOf i + 1).toNat)
  case atStart => exact ⟨0, x, M, rfl, Nat.zero_le _, rfl, by simp, HT.out⟩
  case round =>
    obtain ⟨j, y, cur, rfl, hj, rfl, hy, hbi⟩ := hrel
    have HB := Hold.mk hbi
    have HY := Hold.mk hy
    have hyx : y < 18446744073709551616 := by rw [hy]; exact Nat.lt_of_le_of_lt (Nat.div_le_self _ _) hx
    clear HT hbi hy
    by_cases hlt : j < 8
    · obtain ⟨v, z2⟩ := HB.out.cell hlt
      have z3 := free_box HB.out.row (7 - j)
      have hp := HB.out.put hlt
      rw [show (x : Int) / 2 ^ (8 * j) = (y : Int) by rw [HY.out]; simp] at hp
      have HP := Hold.mk hp
      have hgw := heap_lt HB.out.row
      clear hp
      go_wp2_with fail
      exact ⟨⟨j + 1, y / 256, _, by go_num, hlt, by go_num, by rw [HY.out, div_step], HP.out⟩, by simp [intOf]; omega⟩
    · obtain rfl : j = 8 := by omega
      have HR := Hold.mk HB.out.all
      have HW := Hold.mk HB.out.bel
      go_wp2_with fail
      go_ret
      exact ⟨_, rfl, HR.out, HW.out⟩

set_option maxRecDepth 100000 in
set_option maxHeartbeats 4000000 in
theorem Text_any (s : ByteArray) (w : World) (hs : s.size ≤ 1000000) :
    Calls Tryd.prog 101 #[.string s] w (NewPost (textK s.data.toList) w) := by
  go_enter Tryd.func101, Tryd.ntmps101
  go_wp2_with fail
  go_loopw [3, 4] (fun v i wr => ∃ j : Nat, i = .int .i64 j ∧ j ≤ s.size ∧ BRow w.heap.size wr v ((s.data.toList.take j).flatMap escK) ∧ Below w.heap.size w wr) (fun _ i _ => s.size - (intOf i).toNat)
  case atStart => exact ⟨0, rfl, Nat.zero_le _, BRow.empty w, Below.refl _ _⟩
  case round =>
    obtain ⟨j, rfl, hj, hbr, hbl⟩ := hrel
    obtain ⟨l1, hl1⟩ : ∃ l1, l1 = (s.data.toList.take j).flatMap escK := ⟨_, rfl⟩
    rw [← hl1] at hbr
    obtain ⟨ja, jcap, rfl, _⟩ := hbr.shape
    have HBR := Hold.mk hbr
    have HBL := Hold.mk hbl
    have HL1 := Hold.mk hl1
    have hlen : l1.length ≤ 2 * j := by
      rw [hl1]
      have := textK_len (s.data.toList.take j)
      unfold textK at this
      rw [List.length_append, List.length_take] at this
      simp only [List.length_cons, List.length_nil] at this
      omega
    clear hbr hbl hl1
    by_cases hlt : j < s.size
    · have hc : s.data.toList[j]? = some s[j] := by
        rw [List.getElem?_eq_getElem (by rw [size_list]; exact hlt)]; rfl
      have HST := Hold.mk (escK_take hc)
      clear hc
      by_cases h0 : s[j] = 0
      · have hz : ((s[j].toNat : Int) == 0) = true := by rw [h0]; rfl
        have HE : Hold (escK s[j] = [s[j]] ++ [255]) := ⟨by rw [h0]; rfl⟩
        have HFIT : Hold (l1.length + 2 ≤ 140737488355328) := ⟨by omega⟩
        clear h0 hlen
        go_wp2_with (at_builtin; refine app_new rfl _ _ rfl _ _ _ _ HBR.out rfl _ [s[j]] rfl _ rfl (by simp) (Nat.succ_pos _) (by have := HFIT.out; simp; omega) ?_)
        intro sv2 w2 hb2 hg2
        obtain ⟨l2, hl2⟩ : ∃ l2, l2 = l1 ++ [s[j]] := ⟨_, rfl⟩
        rw [← hl2] at hb2
        have HL2 := Hold.mk hl2
        obtain ⟨ka, kcap, rfl, _⟩ := hb2.shape
        have HB2 := Hold.mk hb2
        replace HBL := Hold.mk (HBL.out.trans (HBR.out.below hg2))
        have HFIT2 : Hold (l2.length + 1 ≤ 140737488355328) := ⟨by have := HFIT.out; rw [hl2]; simp; omega⟩
        clear hb2 hg2 hl2 HBR
        go_wp2_with (at_builtin; refine app_new rfl _ _ rfl _ _ _ _ HB2.out rfl _ [255] rfl _ rfl (by simp) (Nat.succ_pos _) (by have := HFIT2.out; simp; omega) ?_)
        intro sv3 w3 hb3 hg3
        have HB3 : Hold (BRow w.heap.size w3 sv3 ((s.data.toList.take (j + 1)).flatMap escK)) := ⟨by rw [HST.out, HE.out, ← List.append_assoc, ← HL1.out, ← HL2.out]; exact hb3⟩
        replace HBL := Hold.mk (HBL.out.trans (HB2.out.below hg3))
        clear hb3 hg3
        go_wp2_with fail
        exact ⟨⟨j + 1, by go_num, hlt, HB3.out, HBL.out⟩, by simp [intOf]; omega⟩
      · have hz : ((s[j].toNat : Int) == 0) = false := by
          rw [beq_eq_false_iff_ne]; intro e; exact h0 (UInt8.toNat_inj.1 (by simpa using e))
        have HE : Hold (escK s[j] = [s[j]]) := ⟨by unfold escK; rw [if_neg h0]⟩
        have HFIT : Hold (l1.length + 1 ≤ 140737488355328) := ⟨by omega⟩
        clear h0 hlen
        go_wp2_with (at_builtin; refine app_new rfl _ _ rfl _ _ _ _ HBR.out rfl _ [s[j]] rfl _ rfl (by simp) (Nat.succ_pos _) (by have := HFIT.out; simp; omega) ?_)
        intro sv3 w3 hb3 hg3
        have HB3 : Hold (BRow w.heap.size w3 sv3 ((s.data.toList.take (j + 1)).flatMap escK)) := ⟨by rw [HST.out, HE.out, ← HL1.out]; exact hb3⟩
        replace HBL := Hold.mk (HBL.out.trans (HBR.out.below hg3))
        clear hb3 hg3
        go_wp2_with fail
        exact ⟨⟨j + 1, by go_num, hlt, HB3.out, HBL.out⟩, by simp [intOf]; omega⟩
    · obtain rfl : j = s.size := by omega
      have HFIT : Hold (l1.length + 2 ≤ 140737488355328) := ⟨by omega⟩
      clear hlen
      go_wp2_with (at_builtin; refine app_new rfl _ _ rfl _ _ _ _ HBR.out rfl _ [0, 0] rfl _ rfl (by simp) (Nat.succ_pos _) (by have := HFIT.out; simp; omega) ?_)
      intro sv3 w3 hb3 hg3
      have HB3 : Hold (BRow w.heap.size w3 sv3 (textK s.data.toList)) := ⟨by unfold textK; rw [HL1.out, List.take_of_length_le (by rw [size_list]; omega)] at hb3; exact hb3⟩
      replace HBL := Hold.mk (HBL.out.trans (HBR.out.below hg3))
      clear hb3 hg3
      go_wp2_with fail
      go_ret
      exact ⟨_, rfl, HB3.out, HBL.out⟩

end Go.Proofs.YtfllnlmanopfaaaDoor
