/- Keys of the reference: Big, Text. Keys of the reference: Plain. -/
import Derived.Test.YtcmfanfkcbjeoaaGreatDoorKE
namespace Go.Proofs.YtcmfanfkcbjeoaaGreatDoor
open Go.RowKit

/-- a new row of bytes is handed back -/
def NewPostK (l : List UInt8) (w : World) (e : Ending) (w' : World) : Prop := ∃ sv, e = .returned sv ∧ BRow w.heap.size w' sv l ∧ Below w.heap.size w w'

/-- where Big stands: the last j bytes are laid -/
structure BigIn (w wr : World) (x j : Nat) (cur : Array Value) : Prop where
  bel : Below w.heap.size w wr
  row : wr.heap[w.heap.size]? = some (.cells cur 5 (0, 0))
  size : cur.size = 8
  done : ∀ q, 8 - j ≤ q → q < 8 → cur[q]? = some (.int .u8 ((x : Int) / 2 ^ (56 - 8 * q) % 256))
theorem BigIn.put {w wr : World} {x j : Nat} {cur : Array Value} (h : BigIn w wr x j cur) (hj : j < 8) : BigIn w (wr.setCell ⟨w.heap.size, 7 - j, none⟩ (.int .u8 ((x : Int) / 2 ^ (8 * j) % 256))) x (j + 1) (cur.set! (7 - j) (.int .u8 ((x : Int) / 2 ^ (8 * j) % 256))) := by
  refine ⟨h.bel.setCell (p := ⟨w.heap.size, 7 - j, none⟩) (Nat.le_refl _) _, set_self h.row, by simp [h.size], fun q h1 h2 => ?_⟩
  have hs := h.size
  by_cases he : q = 7 - j
  · subst he
    rw [Array.set!_eq_setIfInBounds, Array.getElem?_setIfInBounds_self_of_lt (by omega), show 56 - 8 * (7 - j) = 8 * j by omega]
  · rw [Array.set!_eq_setIfInBounds, Array.getElem?_setIfInBounds_ne (by omega)]
    exact h.done q (by omega) h2
theorem BigIn.cell {w wr : World} {x j : Nat} {cur : Array Value} (h : BigIn w wr x j cur) (hj : j < 8) : ∃ v, wr.cell? ⟨w.heap.size, 7 - j, none⟩ = some v :=
  ⟨cur[7 - j]'(by rw [h.size]; omega), by have := h.size; simp [World.cell?, h.row]⟩
theorem BigIn.all {w wr : World} {x : Nat} {cur : Array Value} (h : BigIn w wr x 8 cur) : BRow w.heap.size wr (.slice (some ⟨w.heap.size, 0, none⟩) 8 8) (be64 x) := by
  have hd : cur.toList = bv (be64 x) := by
    apply List.ext_getElem?
    intro q
    by_cases hq : q < 8
    · have h1 := h.done q (by omega) hq
      rw [Array.getElem?_toList, h1, bv_get (be_get x hq), be_cell]
    · rw [List.getElem?_eq_none (by rw [Array.length_toList, h.size]; omega), List.getElem?_eq_none (by rw [bv_len, be64_len]; omega)]
  exact ⟨⟨by rw [bv_len]; rfl, .inr ⟨w.heap.size, 8, cur, rfl, Nat.le_refl _, h.row, Nat.le_refl _, by decide, by rw [h.size], by rw [be64_len, List.take_of_length_le (by rw [Array.length_toList, h.size]; omega)]; exact hd⟩⟩, Nat.le_of_lt (heap_lt h.row)⟩
theorem div_step (x j : Nat) : x / 2 ^ (8 * j) / 256 = x / 2 ^ (8 * (j + 1)) := by
  rw [Nat.div_div_eq_div_mul, Nat.mul_add, Nat.pow_add]

set_option maxRecDepth 100000 in
set_option maxHeartbeats 4000000 in
theorem Big_any (x : Nat) (w : World) (hx : x < 18446744073709551616) :
    Calls Tryz.prog 180 #[.int .u64 (x : Int)] w (NewPostK (be64 x) w) := by
  obtain ⟨M, hM, hmk⟩ := made_bytes 8 (by omega) w
  have HT : Hold (BigIn w (w.alloc (.cells M 5)) x 0 M) := ⟨(Below.refl _ w).alloc (Nat.le_refl _) _, heap_alloc_new w _, hM, fun q h1 h2 => by omega⟩
  have hmk2 : (Instr.makeSlice 29 (.int .i64 8) (.int .i64 8)).run Tryz.prog w = .ok (.slice (some ⟨w.heap.size, 0, none⟩) 8 8) (w.alloc (.cells M 5)) := hmk
  clear hM hmk
  go_enter Tryz.func180, Tryz.ntmps180
  go_wp2_with fail
  clear hmk2
  go_loopw [0, 4] (fun n i wr => ∃ (j y : Nat) (cur : Array Value), i = .int .i64 (7 - (j : Int)) ∧ j ≤ 8 ∧ n = .int .u64 (y : Int) ∧ y = x / 2 ^ (8 * j) ∧ BigIn w wr x j cur) (fun _ i _ => (intOf i + 1).toNat)
  case atStart => exact ⟨0, x, M, rfl, Nat.zero_le _, rfl, by simp, HT.out⟩
  case round =>
    obtain ⟨j, y, cur, rfl, hj, rfl, hy, hbi⟩ := hrel
    have HB := Hold.mk hbi
    have HY := Hold.mk hy
    have hyx : y < 18446744073709551616 := by rw [hy]; exact Nat.lt_of_le_of_lt (Nat.div_le_self _ _) hx
    clear HT hbi hy
    by_cases hlt : j < 8
    · obtain ⟨v, z2⟩ := HB.out.cell hlt
      have z3 := free_box HB.out.row (7 - j)
      have hp := HB.out.put hlt
      rw [show (x : Int) / 2 ^ (8 * j) = (y : Int) by rw [HY.out]; simp] at hp
      have HP := Hold.mk hp
      have hgw := heap_lt HB.out.row
      clear hp
      go_wp2_with fail
      exact ⟨⟨j + 1, y / 256, _, by go_num, hlt, by go_num, by rw [HY.out, div_step], HP.out⟩, by simp [intOf]; omega⟩
    · obtain rfl : j = 8 := by omega
      have HR := Hold.mk HB.out.all
      have HW := Hold.mk HB.out.bel
      go_wp2_with fail
      go_ret
      exact ⟨_, rfl, HR.out, HW.out⟩

set_option maxRecDepth 100000 in
set_option maxHeartbeats 4000000 in
theorem Text_any (s : ByteArray) (w : World) (hs : s.size ≤ 1000000) :
    Calls Tryz.prog 181 #[.string s] w (NewPostK (textK s.data.toList) w) := by
  go_enter Tryz.func181, Tryz.ntmps181
  go_wp2_with fail
  go_loopw [3, 4] (fun v i wr => ∃ j : Nat, i = .int .i64 j ∧ j ≤ s.size ∧ BRow w.heap.size wr v ((s.data.toList.take j).flatMap escK) ∧ Below w.heap.size w wr) (fun _ i _ => s.size - (intOf i).toNat)
  case atStart => exact ⟨0, rfl, Nat.zero_le _, BRow.empty w, Below.refl _ _⟩
  case round =>
    obtain ⟨j, rfl, hj, hbr, hbl⟩ := hrel
    obtain ⟨l1, hl1⟩ : ∃ l1, l1 = (s.data.toList.take j).flatMap escK := ⟨_, rfl⟩
    rw [← hl1] at hbr
    obtain ⟨ja, jcap, rfl, _⟩ := hbr.shape
    have HBR := Hold.mk hbr
    have HBL := Hold.mk hbl
    have HL1 := Hold.mk hl1
    have hlen : l1.length ≤ 2 * j := by
      rw [hl1]
      have := textK_len (s.data.toList.take j)
      unfold textK at this
      rw [List.length_append, List.length_take] at this
      simp only [List.length_cons, List.length_nil] at this
      omega
    clear hbr hbl hl1
    by_cases hlt : j < s.size
    · have hc : s.data.toList[j]? = some s[j] := by
        rw [List.getElem?_eq_getElem (by rw [size_list]; exact hlt)]; rfl
      have HST := Hold.mk (escK_take hc)
      clear hc
      by_cases h0 : s[j] = 0
      · have hz : ((s[j].toNat : Int) == 0) = true := by rw [h0]; rfl
        have HE : Hold (escK s[j] = [s[j]] ++ [255]) := ⟨by rw [h0]; rfl⟩
        have HFIT : Hold (l1.length + 2 ≤ 140737488355328) := ⟨by omega⟩
        clear h0 hlen
        go_wp2_with (at_builtin; refine app_new rfl _ _ rfl _ _ _ _ HBR.out rfl _ [s[j]] rfl _ rfl (by simp) (Nat.succ_pos _) (by have := HFIT.out; simp; omega) ?_)
        intro sv2 w2 hb2 hg2
        obtain ⟨l2, hl2⟩ : ∃ l2, l2 = l1 ++ [s[j]] := ⟨_, rfl⟩
        rw [← hl2] at hb2
        have HL2 := Hold.mk hl2
        obtain ⟨ka, kcap, rfl, _⟩ := hb2.shape
        have HB2 := Hold.mk hb2
        replace HBL := Hold.mk (HBL.out.trans (HBR.out.below hg2))
        have HFIT2 : Hold (l2.length + 1 ≤ 140737488355328) := ⟨by have := HFIT.out; rw [hl2]; simp; omega⟩
        clear hb2 hg2 hl2 HBR
        go_wp2_with (at_builtin; refine app_new rfl _ _ rfl _ _ _ _ HB2.out rfl _ [255] rfl _ rfl (by simp) (Nat.succ_pos _) (by have := HFIT2.out; simp; omega) ?_)
        intro sv3 w3 hb3 hg3
        have HB3 : Hold (BRow w.heap.size w3 sv3 ((s.data.toList.take (j + 1)).flatMap escK)) := ⟨by rw [HST.out, HE.out, ← List.append_assoc, ← HL1.out, ← HL2.out]; exact hb3⟩
        replace HBL := Hold.mk (HBL.out.trans (HB2.out.below hg3))
        clear hb3 hg3
        go_wp2_with fail
        exact ⟨⟨j + 1, by go_num, hlt, HB3.out, HBL.out⟩, by simp [intOf]; omega⟩
      · have hz : ((s[j].toNat : Int) == 0) = false := by
          rw [beq_eq_false_iff_ne]; intro e; exact h0 (UInt8.toNat_inj.1 (by simpa using e))
        have HE : Hold (escK s[j] = [s[j]]) := ⟨by unfold escK; rw [if_neg h0]⟩
        have HFIT : Hold (l1.length + 1 ≤ 140737488355328) := ⟨by omega⟩
        clear h0 hlen
        go_wp2_with (at_builtin; refine app_new rfl _ _ rfl _ _ _ _ HBR.out rfl _ [s[j]] rfl _ rfl (by simp) (Nat.succ_pos _) (by have := HFIT.out; simp; omega) ?_)
        intro sv3 w3 hb3 hg3
        have HB3 : Hold (BRow w.heap.size w3 sv3 ((s.data.toList.take (j + 1)).flatMap escK)) := ⟨by rw [HST.out, HE.out, ← HL1.out]; exact hb3⟩
        replace HBL := Hold.mk (HBL.out.trans (HBR.out.below hg3))
        clear hb3 hg3
        go_wp2_with fail
        exact ⟨⟨j + 1, by go_num, hlt, HB3.out, HBL.out⟩, by simp [intOf]; omega⟩
    · obtain rfl : j = s.size := by omega
      have HFIT : Hold (l1.length + 2 ≤ 140737488355328) := ⟨by omega⟩
      clear hlen
      go_wp2_with (at_builtin; refine app_new rfl _ _ rfl _ _ _ _ HBR.out rfl _ [0, 0] rfl _ rfl (by simp) (Nat.succ_pos _) (by have := HFIT.out; simp; omega) ?_)
      intro sv3 w3 hb3 hg3
      have HB3 : Hold (BRow w.heap.size w3 sv3 (textK s.data.toList)) := ⟨by unfold textK; rw [HL1.out, List.take_of_length_le (by rw [size_list]; omega)] at hb3; exact hb3⟩
      replace HBL := Hold.mk (HBL.out.trans (HBR.out.below hg3))
      clear hb3 hg3
      go_wp2_with fail
      go_ret
      exact ⟨_, rfl, HB3.out, HBL.out⟩

end Go.Proofs.YtcmfanfkcbjeoaaGreatDoor

namespace Go.Proofs.YtcmfanfkcbjeoaaGreatDoor
open Go.RowKit

theorem PutIn.quiet {B : Nat} {w wr w2 : World} {s0 sv : Value} {box : Array Value} {l : List UInt8} (h : PutIn B w wr s0 sv box l) (k : Below wr.heap.size wr w2) : PutIn B w w2 s0 sv box l := ⟨h.row.quiet k, h.grew.quiet k, h.low⟩
/-- a row of one byte that has just been laid -/
theorem PutIn.one (w : World) (box : Array Value) (c : UInt8) : PutIn w.heap.size w ((w.alloc (.cells box 25)).alloc (.cells #[.int .u8 (c.toNat : Int)] 5)) (.slice none 0 0) (.slice (some ⟨w.heap.size + 1, 0, none⟩) 1 1) box [c] := by
  have h := World.ownsRow_lit (base := w.heap.size) (e := 5) (size := 1) (w.alloc (.cells box 25)) #[.int .u8 (c.toNat : Int)] 1 (by simp) (by decide) rfl
  rw [show (w.alloc (.cells box 25)).heap.size = w.heap.size + 1 by simp] at h
  refine ⟨⟨h, by simp; omega⟩, ⟨World.grownBy_alloc _ _ _, fun g hg => .inr ?_⟩, fun g hg => by simp [Value.ownBlock] at hg⟩
  simp [Value.ownBlock] at hg
  simp; omega

theorem add_top {n : Int} (h0 : -9223372036854775808 ≤ n) (h1 : n ≤ 9223372036854775807) : IntKind.u64.wrap (IntKind.u64.wrap n + 9223372036854775808) = ((n + 9223372036854775808).toNat : Int) := by
  simp [IntKind.wrap, IntKind.bits, IntKind.signed]; omega
/-- what Plain of the reference is known to answer, going down d -/
def RPlainAt (d : Nat) : Prop := ∀ (v : JV) (x : Value) (w : World), formedF d v = true → keyB d ≤ 200000000000 → JAt (cf w) v x → Calls Tryz.prog 144 #[x] w (NewPostK (putF v) w)
theorem PutIn.new {w wr : World} {sv : Value} {box : Array Value} {l : List UInt8} (h : PutIn w.heap.size w wr (.slice none 0 0) sv box l) : NewPostK l w (.returned sv) wr :=
  ⟨sv, rfl, h.row, ((Below.refl w.heap.size w).alloc (Nat.le_refl _) _).trans (h.grew.below (by simp) (fun g hg => by simp [Value.ownBlock] at hg))⟩

set_option maxRecDepth 100000 in
set_option maxHeartbeats 4000000 in
theorem rplain_int (n : Int) (t : ByteArray) (nv iv : Value) (w : World) (hn : (Lit.int .i64 n).wf = true) :
    Calls Tryz.prog 144 #[.agg #[.int .i64 3, .int .i64 n, .string t, nv, iv]] w (NewPostK (4 :: be64 (n + 9223372036854775808).toNat) w) := by
  have hn2 := wf_i64 hn
  have HF := Hold.mk (add_top hn2.1 hn2.2)
  have HXX : Hold ((n + 9223372036854775808).toNat < 18446744073709551616) := ⟨by omega⟩
  clear hn
  have HB := Hold.mk (PutIn.one w #[.int .i64 3, .int .i64 n, .string t, nv, iv] 4)
  go_enter Tryz.func144, Tryz.ntmps144
  go_wp2_with fail
  rw [HF.out]
  refine (Big_any _ _ HXX.out).mono ?_
  rintro e w2 ⟨s2, rfl, hs2, hb2⟩
  obtain ⟨sa, scap, rfl, _⟩ := hs2.shape
  have HS2 := Hold.mk hs2
  replace HB := Hold.mk (HB.out.quiet hb2)
  clear hs2 hb2
  go_wp2_with (at_builtin; refine app_src rfl _ _ rfl _ _ _ [4] HB.out.row rfl _ _ _ HS2.out rfl (by first | exact Nat.succ_pos _ | (unfold textK; simp)) (by first | (rw [be64_len]; decide) | (have := HLT.out; simp; omega)) ?_)
  intro sv3 w3 hb3 hg3
  have HN := Hold.mk (HB.out.next hb3 hg3).new
  clear hb3 hg3
  go_wp2_with fail
  go_ret
  exact HN.out

set_option maxRecDepth 100000 in
set_option maxHeartbeats 4000000 in
theorem rplain_string (n : Int) (t : ByteArray) (nv iv : Value) (w : World) (ht : t.size ≤ 60) :
    Calls Tryz.prog 144 #[.agg #[.int .i64 4, .int .i64 n, .string t, nv, iv]] w (NewPostK (5 :: textK t.data.toList) w) := by
  have HLT : Hold ((textK t.data.toList).length ≤ 1000) := ⟨by have := textK_len t.data.toList; rw [size_list] at this; omega⟩
  have HB := Hold.mk (PutIn.one w #[.int .i64 4, .int .i64 n, .string t, nv, iv] 5)
  go_enter Tryz.func144, Tryz.ntmps144
  go_wp2_with fail
  refine (Text_any t _ (by omega)).mono ?_
  rintro e w2 ⟨s2, rfl, hs2, hb2⟩
  obtain ⟨sa, scap, rfl, _⟩ := hs2.shape
  have HS2 := Hold.mk hs2
  replace HB := Hold.mk (HB.out.quiet hb2)
  clear hs2 hb2
  go_wp2_with (at_builtin; refine app_src rfl _ _ rfl _ _ _ [5] HB.out.row rfl _ _ _ HS2.out rfl (by first | exact Nat.succ_pos _ | (unfold textK; simp)) (by first | (rw [be64_len]; decide) | (have := HLT.out; simp; omega)) ?_)
  intro sv3 w3 hb3 hg3
  have HN := Hold.mk (HB.out.next hb3 hg3).new
  clear hb3 hg3
  go_wp2_with fail
  go_ret
  exact HN.out

set_option maxRecDepth 100000 in
set_option maxHeartbeats 4000000 in
theorem rplain_word (k : Int) (hk : k = 0 ∨ k = 1 ∨ k = 2) (n : Int) (t : ByteArray) (nv iv : Value) (w : World) :
    Calls Tryz.prog 144 #[.agg #[.int .i64 k, .int .i64 n, .string t, nv, iv]] w (NewPostK [(k + 1).toNat.toUInt8] w) := by
  rcases hk with rfl | rfl | rfl
  · have HN := Hold.mk (PutIn.one w #[.int .i64 0, .int .i64 n, .string t, nv, iv] 1).new
    go_enter Tryz.func144, Tryz.ntmps144
    go_wp2_with fail
    go_ret
    exact HN.out
  · have HN := Hold.mk (PutIn.one w #[.int .i64 1, .int .i64 n, .string t, nv, iv] 2).new
    go_enter Tryz.func144, Tryz.ntmps144
    go_wp2_with fail
    go_ret
    exact HN.out
  · have HN := Hold.mk (PutIn.one w #[.int .i64 2, .int .i64 n, .string t, nv, iv] 3).new
    go_enter Tryz.func144, Tryz.ntmps144
    go_wp2_with fail
    go_ret
    exact HN.out

set_option maxRecDepth 100000 in
set_option maxHeartbeats 8000000 in
theorem rplain_array (d : Nat) (IH : RPlainAt d) (n : Int) (t : ByteArray) (nm : List ByteArray) (it : List JV) (na : Option Addr) (ncap : Nat) (ia : Option Addr) (icap : Nat) (w : World)
    (h24 : it.length ≤ 24) (hnl : nm.length = 0) (hnm : ∀ s ∈ nm, textF s = true) (hfi : ∀ x ∈ it, formedF d x = true) (hst : StrsAt (cf w) (.slice na nm.length ncap) nm) (hit : ItemsAt (cf w) (.slice ia it.length icap) it) (hl : keyB (d + 1) ≤ 200000000000) :
    Calls Tryz.prog 144 #[.agg #[.int .i64 5, .int .i64 n, .string t, .slice na nm.length ncap, .slice ia it.length icap]] w (NewPostK (6 :: (membK 5 nm 0 it ++ [0])) w) := by
  have HB := Hold.mk (PutIn.one w #[.int .i64 5, .int .i64 n, .string t, .slice na nm.length ncap, .slice ia it.length icap] 6)
  obtain ⟨ia', icap', e, hlen, hel⟩ := hit
  cases e
  obtain ⟨na', ncap', e, hnlen, hnel⟩ := hst
  cases e
  have HL : Hold (0 + keyB (d + 1) ≤ 140737488355328) := ⟨by omega⟩
  have HKD : Hold (keyB d ≤ 200000000000) := ⟨Nat.le_trans (keyB_mono d) hl⟩
  have HS := Hold.mk hnel
  have HNL := Hold.mk hnl
  have HE := Hold.mk hel
  have HIH := Hold.mk IH
  have HFI := Hold.mk hfi
  have HNM := Hold.mk hnm
  have H24 := Hold.mk h24
  have HLOW : Hold (∀ {wr : World} {sv : Value} {l : List UInt8}, PutIn w.heap.size w wr (.slice none 0 0) sv #[.int .i64 5, .int .i64 n, .string t, .slice na nm.length ncap, .slice ia it.length icap] l → Below w.heap.size w wr) := ⟨fun h => ((Below.refl w.heap.size w).alloc (Nat.le_refl _) _).trans (h.grew.below (by simp) (fun g hg => by simp [Value.ownBlock] at hg))⟩
  clear hl hnel hnl hel IH hfi hnm h24
  go_enter Tryz.func144, Tryz.ntmps144
  go_wp2_with fail
  go_loopw [3, 4] (fun v i wr => ∃ j : Nat, i = .int .i64 j ∧ j ≤ it.length ∧ PutIn w.heap.size w wr (.slice none 0 0) v #[.int .i64 5, .int .i64 n, .string t, .slice na nm.length ncap, .slice ia it.length icap] ([6] ++ membK 5 nm 0 (it.take j))) (fun _ i _ => it.length - (intOf i).toNat)
  case atStart =>
    have e : [6] ++ membK 5 nm 0 (it.take 0) = [6] := by simp [membK]
    exact ⟨0, rfl, Nat.zero_le _, by rw [e]; exact HB.out⟩
  case round =>
    obtain ⟨j, rfl, hj, hpi⟩ := hrel
    clear HB
    obtain ⟨l3, hl3⟩ : ∃ l3, l3 = [6] ++ membK 5 nm 0 (it.take j) := ⟨_, rfl⟩
    rw [← hl3] at hpi
    obtain ⟨ja, jcap, rfl, _⟩ := hpi.row.shape
    have HB := Hold.mk hpi
    have HL3 := Hold.mk hl3
    have hbw := HLOW.out hpi
    clear hpi hl3
    obtain ⟨y0, y1, y2, y3, y4⟩ := cells_five HB.out.box
    by_cases hlt : j < it.length
    · obtain ⟨x, hx⟩ : ∃ x, it[j]? = some x := ⟨it[j], List.getElem?_eq_getElem hlt⟩
      obtain ⟨bb, off, k2, n2, t2, nm2, it2, na2, ncap2, ia2, icap2, rfl, hxe, x0, x1, x2, x3, x4, hxj⟩ := HE.out j x hx
      have hcl := cle_below hbw
      have HXC := Hold.mk (And.intro x0 (And.intro x1 (And.intro x2 (And.intro x3 x4))))
      have HX := Hold.mk hxj
      have HFX := Hold.mk (HFI.out x (List.mem_of_getElem? hx))
      have HFIT : Hold (l3.length + (keyB d + 200) ≤ 140737488355328) := ⟨by
        have h1 := mK_fits (k := 5) HL.out HNM.out HFI.out H24.out hlt
        rw [HL3.out, List.length_append, List.length_singleton]; omega⟩
      have HST := Hold.mk (membK_step (k := 5) (nm := nm) hx)
      have HPL : Hold ((putF x).length ≤ keyB d) := ⟨putF_len d x HFX.out⟩
      have z0 := hcl _ _ _ x0
      have z1 := hcl _ _ _ x1
      have z2 := hcl _ _ _ x2
      have z3 := hcl _ _ _ x3
      have z4 := hcl _ _ _ x4
      unfold cf at z0 z1 z2 z3 z4
      replace HX := Hold.mk (HX.out.mono hcl)
      have HFC : Hold (l3.length + keyB d ≤ 140737488355328) := ⟨by have := HFIT.out; omega⟩
      clear x0 x1 x2 x3 x4 hx hxe hxj hcl hbw
      go_wp2_with fail
      clear y0 y1 y2 y3 y4 z0 z1 z2 z3 z4
      refine (HIH.out x _ _ HFX.out HKD.out HX.out).mono ?_
      rintro e w7 ⟨s7, rfl, hs7, hb7⟩
      obtain ⟨pa, pcap, rfl, _⟩ := hs7.shape
      have HS7 := Hold.mk hs7
      replace HB := Hold.mk (HB.out.quiet hb7)
      clear hs7 hb7
      go_wp2_with (at_builtin; refine app_src rfl _ _ rfl _ _ _ _ HB.out.row rfl _ _ _ HS7.out rfl (putF_pos x) (by have := HFC.out; have := HPL.out; omega) ?_)
      intro sv8 w8 hb8 hg8
      have hn := HB.out.next hb8 hg8
      rw [show l3 ++ putF x = [6] ++ membK 5 nm 0 (it.take (j + 1)) by rw [HST.out, HL3.out]; simp [nameK]] at hn
      have HN := Hold.mk hn
      clear hn hb8 hg8
      go_wp2_with fail
      exact ⟨⟨j + 1, by go_num, hlt, HN.out⟩, by simp [intOf]; omega⟩
    · obtain rfl : j = it.length := by omega
      rw [List.take_of_length_le (Nat.le_refl _)] at HL3
      have HEND := Hold.mk (mK_end (k := 5) HL.out HNM.out HFI.out H24.out)
      go_wp2_with (at_builtin; refine app_new rfl _ _ rfl _ _ _ _ HB.out.row rfl _ [0] rfl _ rfl (by simp) (Nat.succ_pos _) (by have := HEND.out; have e := HL3.out; rw [e]; simp; omega) ?_)
      intro sv4 w4 hb4 hg4
      have hn := (HB.out.next hb4 hg4).new
      rw [show l3 ++ [0] = 6 :: (membK 5 nm 0 it ++ [0]) by rw [HL3.out]; simp] at hn
      have HN := Hold.mk hn
      clear hb4 hg4 hn y0 y1 y2 y3 y4
      go_wp2_with fail
      go_ret
      exact HN.out

set_option maxRecDepth 100000 in
set_option maxHeartbeats 8000000 in
theorem rplain_object (d : Nat) (IH : RPlainAt d) (n : Int) (t : ByteArray) (nm : List ByteArray) (it : List JV) (na : Option Addr) (ncap : Nat) (ia : Option Addr) (icap : Nat) (w : World)
    (h24 : it.length ≤ 24) (hnl : nm.length = it.length) (hnm : ∀ s ∈ nm, textF s = true) (hfi : ∀ x ∈ it, formedF d x = true) (hst : StrsAt (cf w) (.slice na nm.length ncap) nm) (hit : ItemsAt (cf w) (.slice ia it.length icap) it) (hl : keyB (d + 1) ≤ 200000000000) :
    Calls Tryz.prog 144 #[.agg #[.int .i64 6, .int .i64 n, .string t, .slice na nm.length ncap, .slice ia it.length icap]] w (NewPostK (7 :: (membK 6 nm 0 it ++ [0])) w) := by
  have HB := Hold.mk (PutIn.one w #[.int .i64 6, .int .i64 n, .string t, .slice na nm.length ncap, .slice ia it.length icap] 7)
  obtain ⟨ia', icap', e, hlen, hel⟩ := hit
  cases e
  obtain ⟨na', ncap', e, hnlen, hnel⟩ := hst
  cases e
  have HL : Hold (0 + keyB (d + 1) ≤ 140737488355328) := ⟨by omega⟩
  have HKD : Hold (keyB d ≤ 200000000000) := ⟨Nat.le_trans (keyB_mono d) hl⟩
  have HS := Hold.mk hnel
  have HNL := Hold.mk hnl
  have HE := Hold.mk hel
  have HIH := Hold.mk IH
  have HFI := Hold.mk hfi
  have HNM := Hold.mk hnm
  have H24 := Hold.mk h24
  have HLOW : Hold (∀ {wr : World} {sv : Value} {l : List UInt8}, PutIn w.heap.size w wr (.slice none 0 0) sv #[.int .i64 6, .int .i64 n, .string t, .slice na nm.length ncap, .slice ia it.length icap] l → Below w.heap.size w wr) := ⟨fun h => ((Below.refl w.heap.size w).alloc (Nat.le_refl _) _).trans (h.grew.below (by simp) (fun g hg => by simp [Value.ownBlock] at hg))⟩
  clear hl hnel hnl hel IH hfi hnm h24
  go_enter Tryz.func144, Tryz.ntmps144
  go_wp2_with fail
  go_loopw [3, 5] (fun v i wr => ∃ j : Nat, i = .int .i64 j ∧ j ≤ it.length ∧ PutIn w.heap.size w wr (.slice none 0 0) v #[.int .i64 6, .int .i64 n, .string t, .slice na nm.length ncap, .slice ia it.length icap] ([7] ++ membK 6 nm 0 (it.take j))) (fun _ i _ => it.length - (intOf i).toNat)
  case atStart =>
    have e : [7] ++ membK 6 nm 0 (it.take 0) = [7] := by simp [membK]
    exact ⟨0, rfl, Nat.zero_le _, by rw [e]; exact HB.out⟩
  case round =>
    obtain ⟨j, rfl, hj, hpi⟩ := hrel
    clear HB
    obtain ⟨l3, hl3⟩ : ∃ l3, l3 = [7] ++ membK 6 nm 0 (it.take j) := ⟨_, rfl⟩
    rw [← hl3] at hpi
    obtain ⟨ja, jcap, rfl, _⟩ := hpi.row.shape
    have HB := Hold.mk hpi
    have HL3 := Hold.mk hl3
    have hbw := HLOW.out hpi
    clear hpi hl3
    obtain ⟨y0, y1, y2, y3, y4⟩ := cells_five HB.out.box
    by_cases hlt : j < it.length
    · obtain ⟨x, hx⟩ : ∃ x, it[j]? = some x := ⟨it[j], List.getElem?_eq_getElem hlt⟩
      obtain ⟨bb, off, k2, n2, t2, nm2, it2, na2, ncap2, ia2, icap2, rfl, hxe, x0, x1, x2, x3, x4, hxj⟩ := HE.out j x hx
      have hcl := cle_below hbw
      have HXC := Hold.mk (And.intro x0 (And.intro x1 (And.intro x2 (And.intro x3 x4))))
      have HX := Hold.mk hxj
      have HFX := Hold.mk (HFI.out x (List.mem_of_getElem? hx))
      have HFIT : Hold (l3.length + (keyB d + 200) ≤ 140737488355328) := ⟨by
        have h1 := mK_fits (k := 6) HL.out HNM.out HFI.out H24.out hlt
        rw [HL3.out, List.length_append, List.length_singleton]; omega⟩
      have HST := Hold.mk (membK_step (k := 6) (nm := nm) hx)
      have HPL : Hold ((putF x).length ≤ keyB d) := ⟨putF_len d x HFX.out⟩
      obtain ⟨s, hs⟩ : ∃ s, nm[j]? = some s := ⟨nm[j]'(by rw [HNL.out]; exact hlt), List.getElem?_eq_getElem (by rw [HNL.out]; exact hlt)⟩
      have hsj : j < nm.length := by rw [HNL.out]; exact hlt
      obtain ⟨hsz, sb, so, rfl, hsc⟩ := HS.out j s hs
      have HSC := Hold.mk hsc
      have HSZ := Hold.mk (text_size (HNM.out s (List.mem_of_getElem? hs)))
      have HNK : Hold (nameK 6 nm j = 1 :: textK s.data.toList) := ⟨by unfold nameK; rw [if_pos rfl, List.getD_eq_getElem?_getD, hs]; rfl⟩
      have HTL : Hold ((textK s.data.toList).length ≤ 122) := ⟨by have h := textK_len s.data.toList; rw [size_list] at h; have := HSZ.out; omega⟩
      clear x0 x1 x2 x3 x4 hx hxe hxj hcl hbw hs hsc hsz
      go_wp2_with (at_builtin; refine app_new rfl _ _ rfl _ _ _ _ HB.out.row rfl _ [1] rfl _ rfl (by simp) (Nat.succ_pos _) (by have := HFIT.out; simp; omega) ?_)
      intro sv4 w4 hb4 hg4
      obtain ⟨l4, hl4⟩ : ∃ l4, l4 = l3 ++ [1] := ⟨_, rfl⟩
      rw [← hl4] at hb4
      have HL4 := Hold.mk hl4
      have HFB : Hold (l4.length + (122 + keyB d) ≤ 140737488355328) := ⟨by have := HFIT.out; rw [hl4]; simp; omega⟩
      obtain ⟨ka, kcap, rfl, _⟩ := hb4.shape
      replace HB := Hold.mk (HB.out.next hb4 hg4)
      clear hb4 hg4 hl4 y0 y1 y2 y3 y4
      obtain ⟨y0, y1, y2, y3, y4⟩ := cells_five HB.out.box
      have z5 := cle_below (HLOW.out HB.out) _ _ _ HSC.out
      unfold cf at z5
      go_wp2_with fail
      refine (Text_any s _ (by have := HSZ.out; omega)).mono ?_
      rintro e w5 ⟨s5, rfl, hs5, hb5⟩
      obtain ⟨ta, tcap, rfl, _⟩ := hs5.shape
      have HS5 := Hold.mk hs5
      replace HB := Hold.mk (HB.out.quiet hb5)
      clear hs5 hb5 y0 y1 y2 y3 y4 z5
      go_wp2_with (at_builtin; refine app_src rfl _ _ rfl _ _ _ _ HB.out.row rfl _ _ _ HS5.out rfl (by unfold textK; simp) (by have := HFB.out; have := HTL.out; omega) ?_)
      intro sv6 w6 hb6 hg6
      obtain ⟨l6, hl6⟩ : ∃ l6, l6 = l4 ++ textK s.data.toList := ⟨_, rfl⟩
      rw [← hl6] at hb6
      have HL6 := Hold.mk hl6
      have HFC : Hold (l6.length + keyB d ≤ 140737488355328) := ⟨by have := HFB.out; have := HTL.out; rw [hl6, List.length_append]; omega⟩
      obtain ⟨ma, mcap, rfl, _⟩ := hb6.shape
      replace HB := Hold.mk (HB.out.next hb6 hg6)
      clear hb6 hg6 hl6
      obtain ⟨y0, y1, y2, y3, y4⟩ := cells_five HB.out.box
      have hcl := cle_below (HLOW.out HB.out)
      have z0 := hcl _ _ _ HXC.out.1
      have z1 := hcl _ _ _ HXC.out.2.1
      have z2 := hcl _ _ _ HXC.out.2.2.1
      have z3 := hcl _ _ _ HXC.out.2.2.2.1
      have z4 := hcl _ _ _ HXC.out.2.2.2.2
      unfold cf at z0 z1 z2 z3 z4
      replace HX := Hold.mk (HX.out.mono hcl)
      clear hcl
      go_wp2_with fail
      clear y0 y1 y2 y3 y4 z0 z1 z2 z3 z4
      refine (HIH.out x _ _ HFX.out HKD.out HX.out).mono ?_
      rintro e w7 ⟨s7, rfl, hs7, hb7⟩
      obtain ⟨pa, pcap, rfl, _⟩ := hs7.shape
      have HS7 := Hold.mk hs7
      replace HB := Hold.mk (HB.out.quiet hb7)
      clear hs7 hb7
      go_wp2_with (at_builtin; refine app_src rfl _ _ rfl _ _ _ _ HB.out.row rfl _ _ _ HS7.out rfl (putF_pos x) (by have := HFC.out; have := HPL.out; omega) ?_)
      intro sv8 w8 hb8 hg8
      have hn := HB.out.next hb8 hg8
      rw [show l6 ++ putF x = [7] ++ membK 6 nm 0 (it.take (j + 1)) by rw [HST.out, HNK.out, HL6.out, HL4.out, HL3.out]; simp] at hn
      have HN := Hold.mk hn
      clear hn hb8 hg8
      go_wp2_with fail
      exact ⟨⟨j + 1, by go_num, hlt, HN.out⟩, by simp [intOf]; omega⟩
    · obtain rfl : j = it.length := by omega
      rw [List.take_of_length_le (Nat.le_refl _)] at HL3
      have HEND := Hold.mk (mK_end (k := 6) HL.out HNM.out HFI.out H24.out)
      go_wp2_with (at_builtin; refine app_new rfl _ _ rfl _ _ _ _ HB.out.row rfl _ [0] rfl _ rfl (by simp) (Nat.succ_pos _) (by have := HEND.out; have e := HL3.out; rw [e]; simp; omega) ?_)
      intro sv4 w4 hb4 hg4
      have hn := (HB.out.next hb4 hg4).new
      rw [show l3 ++ [0] = 7 :: (membK 6 nm 0 it ++ [0]) by rw [HL3.out]; simp] at hn
      have HN := Hold.mk hn
      clear hb4 hg4 hn y0 y1 y2 y3 y4
      go_wp2_with fail
      go_ret
      exact HN.out

theorem rplain_any : ∀ d, RPlainAt d
  | 0 => fun v x w hf => by simp [formedF] at hf
  | d + 1 => fun v x w hf hl hv => by
    have IH := rplain_any d
    obtain ⟨k, n, t, nm, it, na, ncap, ia, icap, rfl, rfl, _, hn, _, hst, hit⟩ := hv.open
    have h1 := formed_head hf
    rw [putF]
    by_cases h3 : k = 3
    · subst h3; rw [if_pos rfl]; exact rplain_int n t _ _ w hn
    rw [if_neg h3]
    by_cases h4 : k = 4
    · subst h4; rw [if_pos rfl]; exact rplain_string n t _ _ w (text_size h1.2.2.2.2)
    rw [if_neg h4]
    by_cases h5 : k = 5
    · subst h5
      obtain ⟨h24, hnl, hnm, hfi, _⟩ := formed_body hf (by decide)
      rw [if_pos (.inl rfl)]; exact rplain_array d IH n t nm it na ncap ia icap w h24 (by simpa using hnl) hnm hfi hst hit hl
    by_cases h6 : k = 6
    · subst h6
      obtain ⟨h24, hnl, hnm, hfi, _⟩ := formed_body hf (by decide)
      rw [if_pos (.inr rfl)]; exact rplain_object d IH n t nm it na ncap ia icap w h24 (by simpa using hnl) hnm hfi hst hit hl
    rw [if_neg (by omega)]
    have h0 := h1.1
    have h7 := h1.2.1
    exact rplain_word k (by omega) n t _ _ w

end Go.Proofs.YtcmfanfkcbjeoaaGreatDoor
