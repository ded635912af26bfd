/- value of the printer. -/
import Derived.Test.YtdhilnnohokoeaaDoorPB
import Derived.Shelf.Strconv.Itoa4
import Derived.Deep.RegionWith
namespace Go.Proofs.YtdhilnnohokoeaaDoor
open Go.Shelf Go.RowKit

/-- all that c holds lies below B -/
def Low (B : Nat) (c : CF) : Prop := ∀ b o u, c b o = some u → b < B
theorem Low.keep {B : Nat} {c : CF} {w w' : World} (h : Low B c) (hc : CLe c (cf w)) (hb : Below B w w') : CLe c (cf w') := fun b o u hu => by
  have := hc b o u hu
  unfold cf at *
  rw [hb.cell (p := ⟨b, o, none⟩) (h b o u hu)]; exact this
/-- the table of FormatInt -/
def Pow (B : Nat) (w : World) : Prop := Lib.TabIs Tryd.prog w "internal/strconv.uint64pow10" .u64 Lib.pow10Tab ∧ 3 < B
theorem Pow.keep {B : Nat} {w w' : World} (h : Pow B w) (hb : Below B w w') : Pow B w' := by
  refine ⟨?_, h.2⟩
  have h1 := h.1
  unfold Lib.TabIs World.var? at *
  rw [show Tryd.prog.globalNamed "internal/strconv.uint64pow10" = some 3 by kernel_rfl] at *
  simp only [Option.bind_some] at *
  rw [hb.block _ h.2]
  exact h1

theorem below_grow (w : World) (k : Nat) (os : Array Obj) : Below w.heap.size w (Go.Sort.grow (w.drewN k) os) := by
  refine ⟨rfl, rfl, rfl, ?_, fun i hi => ?_⟩
  · simp
  · rw [Go.Sort.heap_grow_old _ _ (by simpa using hi)]; rfl
theorem PB.grown {B b : Nat} {l : List UInt8} {w w' : World} (h : PB B b l w) (hb : Below w.heap.size w w') : PB B b l w' := by
  have hg : w.grownBy w' none := ⟨hb.os, hb.tape, hb.output, hb.size, fun k hk _ => hb.block k hk⟩
  have key : ∀ p, Lib.BuilderAtF 53 5 B b p (Lib.byteCells l) w → Lib.BuilderAtF 53 5 B b p (Lib.byteCells l) w' := by
    rintro p ⟨hB, v, hbk, hown, hne⟩
    refine ⟨hB, v, ?_, hown.kept hg ?_, hne⟩
    · rw [hb.block b (Array.getElem?_eq_some_iff.1 hbk).1]; exact hbk
    · cases v.ownBlock with
      | none => exact .inl rfl
      | some x => exact .inr (by simp)
  rcases h with h | h
  · exact .inl (key _ h)
  · exact .inr (key _ h)
theorem PB.alloc {B b : Nat} {l : List UInt8} {w : World} (h : PB B b l w) (o : Obj) : PB B b l (w.alloc o) := h.grown ((Below.refl _ w).alloc (Nat.le_refl _) o)
theorem PB.lt {B b : Nat} {l : List UInt8} {w : World} (h : PB B b l w) : b < w.heap.size := by
  have : ∃ p, Lib.BuilderAtF 53 5 B b p (Lib.byteCells l) w := by
    rcases h with h | h
    · exact ⟨_, h⟩
    · exact ⟨_, h⟩
  obtain ⟨p, hB, v, hb, _⟩ := this
  exact (Array.getElem?_eq_some_iff.1 hb).1
theorem Keep.grown {B b : Nat} {w w' : World} (hB : B ≤ w.heap.size) (hb : Below w.heap.size w w') : Keep B b w w' :=
  ⟨hb.mono hB, fun k o hk _ _ => by rw [hb.block k (Array.getElem?_eq_some_iff.1 hk).1]; exact hk⟩
theorem Keep.alloc {B b : Nat} {w : World} (hB : B ≤ w.heap.size) (o : Obj) : Keep B b w (w.alloc o) := Keep.grown hB ((Below.refl _ w).alloc (Nat.le_refl _) o)
/-- a box that is kept -/
theorem Keep.box {B b k : Nat} {w w' : World} {cs : Array Value} (h : Keep B b w w') (hk : w.heap[k]? = some (.cells cs 26 (0, 0))) (hb : k ≠ b) : w'.heap[k]? = some (.cells cs 26 (0, 0)) :=
  h.others k _ hk (by simpa using hb) (fun c fz e => by injection e with _ e2; exact absurd e2 (by decide))
theorem box_cells {w : World} {k : Nat} {c0 c1 c2 c3 c4 : Value} {t : TypeId} {fr : Nat × Nat} (h : w.heap[k]? = some (.cells #[c0, c1, c2, c3, c4] t fr)) :
    w.cell? ⟨k, 0, none⟩ = some c0 ∧ w.cell? ⟨k, 1, none⟩ = some c1 ∧ w.cell? ⟨k, 2, none⟩ = some c2 ∧ w.cell? ⟨k, 3, none⟩ = some c3 ∧ w.cell? ⟨k, 4, none⟩ = some c4 := by
  simp [World.cell?, h]

theorem format_any {B b : Nat} {l : List UInt8} {w : World} (n : Int) (hn : (Lit.int .i64 n).wf = true) (h : PB B b l w) (hp : Pow B w) :
    Calls Tryd.prog 41 #[.int .i64 n, .int .i64 10] w fun e w' => e = .returned (.string ⟨(Lib.itoa n).toArray⟩) ∧ PB B b l w' ∧ Keep B b w w' := by
  have hw := wf_i64 hn
  have H : Calls Tryd.prog 41 #[.int .i64 n, .int .i64 10] w _ := Any.strconv_FormatInt_10 Tryd.laysFmt n hw.1 hw.2 w hp.1
  refine H.mono ?_
  rintro e w' ⟨rfl, k, os, rfl⟩
  have hb := below_grow w k os
  exact ⟨rfl, h.grown hb, Keep.grown h.le hb⟩

theorem itoa_fits {n : Int} {l : List UInt8} (h : -9223372036854775808 ≤ n ∧ n ≤ 9223372036854775807) (hl : l.length + 400 ≤ 140737488355328) : l.length + (⟨(Lib.itoa n).toArray⟩ : ByteArray).size ≤ 140737488355328 := by
  have := Lib.itoa_length_le n h.1 h.2
  simp only [ByteArray.size, List.size_toArray]
  omega
theorem word_fits {l : List UInt8} {s : ByteArray} (hl : l.length + 400 ≤ 140737488355328) (hs : s.size ≤ 5 := by decide) : l.length + s.size ≤ 140737488355328 := by omega

/-- what value of the printer is known to do, going down d -/
def ValueAt (d : Nat) : Prop := ∀ (v : JV) (x : Value) (c : CF) (B b : Nat) (l : List UInt8) (w : World), formedF d v = true → JAt c v x → Low B c → CLe c (cf w) → PB B b l w → Pow B w → l.length + lenB d ≤ 140737488355328 →
  Calls Tryd.prog 19 #[.pointer (some ⟨b, 0, none⟩), x] w fun e w' => e = .returned (.tuple #[]) ∧ PB B b (l ++ showF d v) w' ∧ Keep B b w w'

set_option maxRecDepth 100000 in
set_option maxHeartbeats 4000000 in
theorem value_int (n : Int) (t : ByteArray) (nv iv : Value) (B b : Nat) (l : List UInt8) (w : World) (hn : (Lit.int .i64 n).wf = true) (h : PB B b l w) (hp : Pow B w) (hl : l.length + 400 ≤ 140737488355328) :
    Calls Tryd.prog 19 #[.pointer (some ⟨b, 0, none⟩), .agg #[.int .i64 3, .int .i64 n, .string t, nv, iv]] w fun e w' => e = .returned (.tuple #[]) ∧ PB B b (l ++ Lib.itoa n) w' ∧ Keep B b w w' := by
  have HPB := Lib.hid (h.alloc (.cells #[.int .i64 3, .int .i64 n, .string t, nv, iv] 26))
  have hk0 : Keep B b w (w.alloc (.cells #[.int .i64 3, .int .i64 n, .string t, nv, iv] 26)) := Keep.alloc h.le _
  have HK := Lib.hid hk0
  have HP := Lib.hid (hp.keep hk0.below)
  have HW := Lib.hid (wf_i64 hn)
  have HN := Lib.hid hn
  clear h hp hk0 hn
  go_enter Tryd.func19, Tryd.ntmps19
  go_wp2_with fail
  go_region_with (first
    | (go_at_call 41; refine (format_any n HN.out HPB.out.drew (HP.out.keep (Below.refl _ _).drew)).mono ?_; rintro e w2 ⟨rfl, h2, hk2⟩)
    | (go_at_call 40; refine (pb_str _ h2 (itoa_fits HW.out hl)).mono ?_; rintro e w3 ⟨rfl, h3, hk3⟩))
  all_goals
    go_wp2_with fail
    go_end0
    exact ⟨rfl, h3, (HK.out.drew.trans hk2).trans hk3⟩

set_option maxRecDepth 100000 in
set_option maxHeartbeats 4000000 in
theorem value_string (n : Int) (t : ByteArray) (nv iv : Value) (B b : Nat) (l : List UInt8) (w : World) (ht : t.size ≤ 60) (h : PB B b l w) (hl : l.length + 400 ≤ 140737488355328) :
    Calls Tryd.prog 19 #[.pointer (some ⟨b, 0, none⟩), .agg #[.int .i64 4, .int .i64 n, .string t, nv, iv]] w fun e w' => e = .returned (.tuple #[]) ∧ PB B b (l ++ quotedF t.data.toList) w' ∧ Keep B b w w' := by
  have HPB := Lib.hid (h.alloc (.cells #[.int .i64 4, .int .i64 n, .string t, nv, iv] 26))
  have hk0 : Keep B b w (w.alloc (.cells #[.int .i64 4, .int .i64 n, .string t, nv, iv] 26)) := Keep.alloc h.le _
  have HK := Lib.hid hk0
  clear h hk0
  go_enter Tryd.func19, Tryd.ntmps19
  go_wp2_with fail
  refine (quoted_any B b l t _ HPB.out (by omega) (by omega)).mono ?_
  rintro e w2 ⟨rfl, h2, hk2⟩
  have H2 := Lib.hid h2
  have HK2 := Lib.hid (HK.out.trans hk2)
  clear h2 hk2
  go_wp2_with fail
  go_end0
  exact ⟨rfl, H2.out, HK2.out⟩

set_option maxRecDepth 100000 in
set_option maxHeartbeats 4000000 in
theorem value_word (k n : Int) (hk : k = 0 ∨ k = 1 ∨ k = 2) (t : ByteArray) (nv iv : Value) (B b : Nat) (l : List UInt8) (w : World) (h : PB B b l w) (hl : l.length + 400 ≤ 140737488355328) :
    Calls Tryd.prog 19 #[.pointer (some ⟨b, 0, none⟩), .agg #[.int .i64 k, .int .i64 n, .string t, nv, iv]] w fun e w' => e = .returned (.tuple #[]) ∧ PB B b (l ++ wordF k) w' ∧ Keep B b w w' := by
  have HPB := Lib.hid (h.alloc (.cells #[.int .i64 k, .int .i64 n, .string t, nv, iv] 26))
  have hk0 : Keep B b w (w.alloc (.cells #[.int .i64 k, .int .i64 n, .string t, nv, iv] 26)) := Keep.alloc h.le _
  have HK := Lib.hid hk0
  clear h hk0
  rcases hk with rfl | rfl | rfl
  all_goals
    go_enter Tryd.func19, Tryd.ntmps19
    go_wp2_with fail
    go_region_with (go_at_call 40; refine (pb_str _ (HPB.out.drew.alloc _) (by exact word_fits hl)).mono ?_; rintro e w3 ⟨rfl, h3, hk3⟩)
    all_goals
      go_wp2_with fail
      go_end0
      exact ⟨rfl, h3, (HK.out.drew.trans (Keep.alloc HPB.out.drew.le _)).trans hk3⟩

end Go.Proofs.YtdhilnnohokoeaaDoor
