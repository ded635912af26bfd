/- Keys of the program: put. -/
import Derived.Test.YtfllnlmanopfaaaDoorKB
import Derived.Test.YtfllnlmanopfaaaDoorFC
namespace Go.Proofs.YtfllnlmanopfaaaDoor
open Go.RowKit

/-- what put is known to do, going down d -/
def PutAt (d : Nat) : Prop := ∀ (v : JV) (x : Value) (B : Nat) (sv : Value) (l : List UInt8) (c : CF) (w : World), formedF d v = true → JAt c v x → CLe c (cfU B w) → BRow B w sv l → l.length + keyB d ≤ 140737488355328 →
  Calls Tryd.prog 138 #[sv, x] w (PutPost B sv (l ++ putF v) w)

theorem cfU_cfU {B : Nat} {w w' : World} (hb : Below B w w') : CLe (cfU B w) (cfU B w') := fun b o u h => by
  unfold cfU at h ⊢; split at h
  · rename_i hB; rw [if_pos hB, hb.cell (p := ⟨b, o, none⟩) hB]; exact h
  · cases h
theorem kind_byte {k : Int} (h0 : 0 ≤ k) (h6 : k ≤ 6) : (((k + 1).toNat.toUInt8.toNat : Nat) : Int) = k + 1 := by
  obtain ⟨n, rfl⟩ := Int.eq_ofNat_of_zero_le h0
  have : n ≤ 6 := by omega
  have e : ((n : Int) + 1).toNat = n + 1 := by omega
  rw [e]
  simp; omega

/-- where put stands: the row as it has grown, its own box -/
structure PutIn (B : Nat) (w wr : World) (s0 sv : Value) (box : Array Value) (l : List UInt8) : Prop where
  row : BRow B wr sv l
  grew : Grew (w.alloc (.cells box 25)) wr s0 sv
  low : ∀ g, s0.ownBlock = some g → g < w.heap.size
theorem PutIn.start {B : Nat} {w : World} {sv : Value} {l : List UInt8} (h : BRow B w sv l) (box : Array Value) : PutIn B w (w.alloc (.cells box 25)) sv sv box l := ⟨h.alloc _, Grew.refl _ _, fun g hg => (h.low g hg).2⟩
theorem PutIn.next {B : Nat} {w wr w2 : World} {s0 sv s2 : Value} {box : Array Value} {l l2 : List UInt8} (h : PutIn B w wr s0 sv box l) (hr : BRow B w2 s2 l2) (hg : Grew wr w2 sv s2) : PutIn B w w2 s0 s2 box l2 := ⟨hr, h.grew.trans hg, h.low⟩
theorem PutIn.alloc {B : Nat} {w wr : World} {s0 sv : Value} {box : Array Value} {l : List UInt8} (h : PutIn B w wr s0 sv box l) (o : Obj) : PutIn B w (wr.alloc o) s0 sv box l := ⟨h.row.alloc o, h.grew.alloc o, h.low⟩
theorem PutIn.drew {B : Nat} {w wr : World} {s0 sv : Value} {box : Array Value} {l : List UInt8} (h : PutIn B w wr s0 sv box l) : PutIn B w wr.drew s0 sv box l := ⟨⟨h.row.own, h.row.le⟩, h.grew.drew, h.low⟩
theorem PutIn.ne {B : Nat} {w wr : World} {s0 sv : Value} {box : Array Value} {l : List UInt8} (h : PutIn B w wr s0 sv box l) : ∀ g, sv.ownBlock = some g → w.heap.size ≠ g := fun g hg e => by
  rcases h.grew.own g hg with h1 | h1
  · have := h.low g h1; omega
  · simp at h1; omega
theorem PutIn.box {B : Nat} {w wr : World} {s0 sv : Value} {box : Array Value} {l : List UInt8} (h : PutIn B w wr s0 sv box l) : wr.heap[w.heap.size]? = some (.cells box 25 (0, 0)) :=
  h.grew.kept (heap_alloc_new w _) (fun g hg e => by have := h.low g hg; omega)
theorem PutIn.post {B : Nat} {w wr : World} {s0 sv : Value} {box : Array Value} {l : List UInt8} (h : PutIn B w wr s0 sv box l) : PutPost B s0 l w (.returned sv) wr := ⟨sv, rfl, h.row, ((Grew.refl w s0).alloc _).trans h.grew⟩
theorem PutIn.low_cells {B : Nat} {w wr : World} {s0 sv : Value} {box : Array Value} {l : List UInt8} (h : PutIn B w wr s0 sv box l) {c : CF} (hc : CLe c (cfU B w)) (hB : B ≤ w.heap.size) (hl : ∀ g, s0.ownBlock = some g → B ≤ g) : CLe c (cfU B wr) :=
  hc.trans (cfU_cfU (((Below.refl B w).alloc hB _).trans (h.grew.below (by simp; omega) hl)))

set_option maxRecDepth 100000 in
set_option maxHeartbeats 4000000 in
theorem put_int (B : Nat) (sv : Value) (l : List UInt8) (n : Int) (t : ByteArray) (nv iv : Value) (w : World) (hn : (Lit.int .i64 n).wf = true) (hb : BRow B w sv l) (hl : l.length + 200 ≤ 140737488355328) :
    Calls Tryd.prog 138 #[sv, .agg #[.int .i64 3, .int .i64 n, .string t, nv, iv]] w (PutPost B sv (l ++ (4 :: be64 (n + 9223372036854775808).toNat)) w) := by
  obtain ⟨sa, scap, rfl, _⟩ := hb.shape
  have hn2 := wf_i64 hn
  have HB := Hold.mk (PutIn.start hb #[.int .i64 3, .int .i64 n, .string t, nv, iv])
  have HL := Hold.mk hl
  clear hb hl hn
  go_enter Tryd.func138, Tryd.ntmps138
  go_wp2_with (at_builtin; refine app_new rfl _ _ rfl B _ _ _ HB.out.row rfl _ [4] rfl _ rfl (by simp) (Nat.succ_pos _) (by have := HL.out; simp; omega) ?_)
  intro sv2 w2 hb2 hg2
  obtain ⟨l2, hl2⟩ : ∃ l2, l2 = l ++ [4] := ⟨_, rfl⟩
  rw [← hl2] at hb2
  have HL2 := Hold.mk hl2
  replace HB := Hold.mk (HB.out.next hb2 hg2)
  obtain ⟨sa2, scap2, rfl, _⟩ := hb2.shape
  obtain ⟨y0, y1, y2, y3, y4⟩ := cells_five HB.out.box
  have HF := Hold.mk (flip_top hn2.1 hn2.2)
  have HX : Hold ((n + 9223372036854775808).toNat < 18446744073709551616) := ⟨by omega⟩
  clear hb2 hg2 hl2
  go_wp2_with fail
  rw [HF.out]
  refine (append64_any B _ l2 _ _ HB.out.row (by have := HL.out; have e := HL2.out; rw [e]; simp; omega)).mono ?_
  rintro e w3 ⟨s3, rfl, hb3, hg3⟩
  have HP := Hold.mk ((HB.out.next hb3 hg3).post)
  clear hb3 hg3 y0 y1 y2 y3 y4
  go_wp2_with fail
  go_ret
  rw [show l ++ 4 :: be64 (n + 9223372036854775808).toNat = l2 ++ be64 (n + 9223372036854775808).toNat by rw [HL2.out, List.append_assoc]; rfl]
  exact HP.out

set_option maxRecDepth 100000 in
set_option maxHeartbeats 4000000 in
theorem put_string (B : Nat) (sv : Value) (l : List UInt8) (n : Int) (t : ByteArray) (nv iv : Value) (w : World) (ht : t.size ≤ 60) (hb : BRow B w sv l) (hl : l.length + 200 ≤ 140737488355328) :
    Calls Tryd.prog 138 #[sv, .agg #[.int .i64 4, .int .i64 n, .string t, nv, iv]] w (PutPost B sv (l ++ (5 :: textK t.data.toList)) w) := by
  obtain ⟨sa, scap, rfl, _⟩ := hb.shape
  have HB := Hold.mk (PutIn.start hb #[.int .i64 4, .int .i64 n, .string t, nv, iv])
  have HL := Hold.mk hl
  clear hb hl
  go_enter Tryd.func138, Tryd.ntmps138
  go_wp2_with (at_builtin; refine app_new rfl _ _ rfl B _ _ _ HB.out.row rfl _ [5] rfl _ rfl (by simp) (Nat.succ_pos _) (by have := HL.out; simp; omega) ?_)
  intro sv2 w2 hb2 hg2
  obtain ⟨l2, hl2⟩ : ∃ l2, l2 = l ++ [5] := ⟨_, rfl⟩
  rw [← hl2] at hb2
  have HL2 := Hold.mk hl2
  replace HB := Hold.mk (HB.out.next hb2 hg2)
  obtain ⟨sa2, scap2, rfl, _⟩ := hb2.shape
  obtain ⟨y0, y1, y2, y3, y4⟩ := cells_five HB.out.box
  clear hb2 hg2 hl2
  go_wp2_with fail
  refine (text4_any B _ l2 t _ HB.out.row (by omega) (by have := HL.out; have e := HL2.out; rw [e]; simp; omega)).mono ?_
  rintro e w3 ⟨s3, rfl, hb3, hg3⟩
  have HP := Hold.mk ((HB.out.next hb3 hg3).post)
  clear hb3 hg3 y0 y1 y2 y3 y4
  go_wp2_with fail
  go_ret
  rw [show l ++ 5 :: textK t.data.toList = l2 ++ textK t.data.toList by rw [HL2.out, List.append_assoc]; rfl]
  exact HP.out

set_option maxRecDepth 100000 in
set_option maxHeartbeats 4000000 in
theorem put_word (k : Int) (hk : k = 0 ∨ k = 1 ∨ k = 2) (B : Nat) (sv : Value) (l : List UInt8) (n : Int) (t : ByteArray) (nv iv : Value) (w : World) (hb : BRow B w sv l) (hl : l.length + 200 ≤ 140737488355328) :
    Calls Tryd.prog 138 #[sv, .agg #[.int .i64 k, .int .i64 n, .string t, nv, iv]] w (PutPost B sv (l ++ [(k + 1).toNat.toUInt8]) w) := by
  obtain ⟨sa, scap, rfl, _⟩ := hb.shape
  have HB := Hold.mk (PutIn.start hb #[.int .i64 k, .int .i64 n, .string t, nv, iv])
  have HL := Hold.mk hl
  clear hb hl
  rcases hk with rfl | rfl | rfl
  · go_enter Tryd.func138, Tryd.ntmps138
    go_wp2_with (at_builtin; refine app_new rfl _ _ rfl B _ _ _ HB.out.row rfl _ [1] rfl _ rfl (by simp) (Nat.succ_pos _) (by have := HL.out; simp; omega) ?_)
    intro sv2 w2 hb2 hg2
    replace HB := Hold.mk (HB.out.next hb2 hg2)
    obtain ⟨sa2, scap2, rfl, _⟩ := hb2.shape
    obtain ⟨y0, y1, y2, y3, y4⟩ := cells_five HB.out.box
    have HP := Hold.mk HB.out.post
    clear hb2 hg2
    go_wp2_with fail
    go_ret
    exact HP.out
  · go_enter Tryd.func138, Tryd.ntmps138
    go_wp2_with (at_builtin; refine app_new rfl _ _ rfl B _ _ _ HB.out.row rfl _ [2] rfl _ rfl (by simp) (Nat.succ_pos _) (by have := HL.out; simp; omega) ?_)
    intro sv2 w2 hb2 hg2
    replace HB := Hold.mk (HB.out.next hb2 hg2)
    obtain ⟨sa2, scap2, rfl, _⟩ := hb2.shape
    obtain ⟨y0, y1, y2, y3, y4⟩ := cells_five HB.out.box
    have HP := Hold.mk HB.out.post
    clear hb2 hg2
    go_wp2_with fail
    go_ret
    exact HP.out
  · go_enter Tryd.func138, Tryd.ntmps138
    go_wp2_with (at_builtin; refine app_new rfl _ _ rfl B _ _ _ HB.out.row rfl _ [3] rfl _ rfl (by simp) (Nat.succ_pos _) (by have := HL.out; simp; omega) ?_)
    intro sv2 w2 hb2 hg2
    replace HB := Hold.mk (HB.out.next hb2 hg2)
    obtain ⟨sa2, scap2, rfl, _⟩ := hb2.shape
    obtain ⟨y0, y1, y2, y3, y4⟩ := cells_five HB.out.box
    have HP := Hold.mk HB.out.post
    clear hb2 hg2
    go_wp2_with fail
    go_ret
    exact HP.out

end Go.Proofs.YtfllnlmanopfaaaDoor
