/- The reader of the program: its box; peek, take, fail, word. -/
import Derived.Test.YtdhilnnohokoeaaDoorRC
import Derived.Test.YtdhilnnohokoeaaDoorRLays
import Derived.Test.YtdhilnnohokoeaaDoorJGrow
import Derived.Shelf.Small.Strs
import Derived.Shelf.Strings.Prefix
namespace Go.Proofs.YtdhilnnohokoeaaDoor
open Go.Shelf Go.RowKit

/-- all blocks but one stand -/
abbrev But (b : Nat) (w w' : World) : Prop := w.grownBy w' (some b)
theorem But.refl (b : Nat) (w : World) : But b w w := World.grownBy.refl w _
theorem But.of_below {b : Nat} {w w' : World} (h : Below w.heap.size w w') : But b w w' := ⟨h.os, h.tape, h.output, h.size, fun k hk _ => h.block k hk⟩
theorem But.set {b : Nat} (w : World) (o : Nat) (v : Value) : But b w (w.setCell ⟨b, o, none⟩ v) :=
  ⟨rfl, rfl, rfl, by simp, fun k _ hk => Below.heap_setCell w _ v k (fun e => hk (by rw [e]))⟩
theorem But.drew {b : Nat} {w w' : World} (h : But b w w') : But b w w'.drew := ⟨h.os, h.tape, h.output, h.size, h.block⟩
theorem But.drewN {b : Nat} {w w' : World} (h : But b w w') (n : Nat) : But b w (w'.drewN n) := ⟨h.os, h.tape, h.output, h.size, h.block⟩
theorem But.of_drew {b : Nat} {w w' : World} (h : But b w.drew w') : But b w w' := ⟨h.os, h.tape, h.output, h.size, h.block⟩
theorem But.of_drewN {b n : Nat} {w w' : World} (h : But b (w.drewN n) w') : But b w w' := ⟨h.os, h.tape, h.output, h.size, h.block⟩
theorem But.alloc {b : Nat} {w w' : World} (h : But b w w') (o : Obj) : But b w (w'.alloc o) :=
  h.trans (World.grownBy_alloc w' o _)
theorem But.below {B b : Nat} {w w' : World} (h : But b w w') (hb : B ≤ b) (hw : b < w.heap.size) : Below B w w' :=
  ⟨h.os, h.tape, h.output, h.size, fun k hk => h.block k (by omega) (fun e => by have := Option.some.inj e; omega)⟩
theorem But.keep {b : Nat} {w w' : World} (h : But b w w') {q : Nat} {o : Obj} (hq : w.heap[q]? = some o) (hne : q ≠ b) : w'.heap[q]? = some o := by
  rw [h.block q (Array.getElem?_eq_some_iff.1 hq).1 (fun e => hne (Option.some.inj e))]; exact hq
/-- the cells outside a block -/
def cfO (b : Nat) (w : World) : CF := fun q o => if q = b then none else w.cell? ⟨q, o, none⟩
theorem cfO_cf (b : Nat) (w : World) : CLe (cfO b w) (cf w) := fun q o v h => by
  unfold cfO at h; split at h
  · cases h
  · exact h
theorem cfO_but {b : Nat} {w w' : World} (h : But b w w') : CLe (cfO b w) (cfO b w') := fun q o v hv => by
  unfold cfO at *; split at hv
  · cases hv
  · rename_i hne
    rw [if_neg hne]
    exact h.cell hv (fun e => hne (Option.some.inj e))
theorem cfO_below {b : Nat} {w w' : World} (h : Below w.heap.size w w') : CLe (cfO b w) (cfO b w') := cfO_but (But.of_below h)

/-- the reader's box: what it reads, how far, whether it is bad -/
structure RB (b : Nat) (s : ByteArray) (i : Nat) (bad : Bool) (w : World) : Prop where
  box : w.heap[b]? = some (.cells #[.string s, .int .i64 (i : Int), .bool bad] 41 (0, 0))
  le : i ≤ s.size
theorem RB.c0 {b : Nat} {s : ByteArray} {i : Nat} {bad : Bool} {w : World} (h : RB b s i bad w) : w.cell? ⟨b, 0, none⟩ = some (.string s) := by simp [World.cell?, h.box]
theorem RB.c1 {b : Nat} {s : ByteArray} {i : Nat} {bad : Bool} {w : World} (h : RB b s i bad w) : w.cell? ⟨b, 1, none⟩ = some (.int .i64 (i : Int)) := by simp [World.cell?, h.box]
theorem RB.c2 {b : Nat} {s : ByteArray} {i : Nat} {bad : Bool} {w : World} (h : RB b s i bad w) : w.cell? ⟨b, 2, none⟩ = some (.bool bad) := by simp [World.cell?, h.box]
theorem RB.fz {b : Nat} {s : ByteArray} {i : Nat} {bad : Bool} {w : World} (h : RB b s i bad w) (o : Nat) : w.frozen? ⟨b, o, none⟩ = false := by simp [World.frozen?, h.box]
theorem RB.lt {b : Nat} {s : ByteArray} {i : Nat} {bad : Bool} {w : World} (h : RB b s i bad w) : b < w.heap.size := (Array.getElem?_eq_some_iff.1 h.box).1
theorem RB.below {b : Nat} {s : ByteArray} {i : Nat} {bad : Bool} {w w' : World} (h : RB b s i bad w) (k : Below w.heap.size w w') : RB b s i bad w' := ⟨by rw [k.block b h.lt]; exact h.box, h.le⟩
theorem RB.drew {b : Nat} {s : ByteArray} {i : Nat} {bad : Bool} {w : World} (h : RB b s i bad w) : RB b s i bad w.drew := ⟨h.box, h.le⟩
theorem RB.drewN {b : Nat} {s : ByteArray} {i : Nat} {bad : Bool} {w : World} (h : RB b s i bad w) (n : Nat) : RB b s i bad (w.drewN n) := ⟨h.box, h.le⟩
theorem RB.keep {b c : Nat} {s : ByteArray} {i : Nat} {bad : Bool} {w w' : World} (h : RB b s i bad w) (k : But c w w') (hne : b ≠ c) : RB b s i bad w' := ⟨k.keep h.box hne, h.le⟩
theorem set_at {w : World} {b o : Nat} {cs : Array Value} {t : TypeId} {u : Value} (h : w.heap[b]? = some (.cells cs t (0, 0))) : (w.setCell ⟨b, o, none⟩ u).heap[b]? = some (.cells (cs.setIfInBounds o u) t (0, 0)) := by
  obtain ⟨hb, he⟩ := Array.getElem?_eq_some_iff.1 h
  show (w.heap.modify b _)[b]? = _
  rw [Array.getElem?_modify]
  simp [h]
theorem RB.to {b : Nat} {s : ByteArray} {i : Nat} {bad : Bool} {w : World} (h : RB b s i bad w) {j : Nat} (hj : j ≤ s.size) : RB b s j bad (w.setCell ⟨b, 1, none⟩ (.int .i64 (j : Int))) :=
  ⟨by rw [set_at h.box]; rfl, hj⟩
theorem RB.to1 {b : Nat} {s : ByteArray} {i : Nat} {bad : Bool} {w : World} (h : RB b s i bad w) (hj : i < s.size) : RB b s (i + 1) bad (w.setCell ⟨b, 1, none⟩ (.int .i64 ((i : Int) + 1))) :=
  ⟨by rw [set_at h.box]; rfl, hj⟩
theorem RB.worse {b : Nat} {s : ByteArray} {i : Nat} {bad : Bool} {w : World} (h : RB b s i bad w) : RB b s i true (w.setCell ⟨b, 2, none⟩ (.bool true)) :=
  ⟨by rw [set_at h.box]; rfl, h.le⟩
/-- it is bad, wherever -/
def RBad (b : Nat) (s : ByteArray) (w : World) : Prop := ∃ i, RB b s i true w

theorem keptR {w w' : World} {k : Nat} {o : Obj} (h : w.heap[k]? = some o) (hb : Below w.heap.size w w') : w'.heap[k]? = some o := by
  rw [hb.block k (Array.getElem?_eq_some_iff.1 h).1]; exact h
theorem ltR {w : World} {k : Nat} {o : Obj} (h : w.heap[k]? = some o) : k < w.heap.size := (Array.getElem?_eq_some_iff.1 h).1
theorem cells5R {w : World} {k : Nat} {c0 c1 c2 c3 c4 : Value} {t : TypeId} (h : w.heap[k]? = some (.cells #[c0, c1, c2, c3, c4] t (0, 0))) :
    w.cell? ⟨k, 0, none⟩ = some c0 ∧ w.cell? ⟨k, 1, none⟩ = some c1 ∧ w.cell? ⟨k, 2, none⟩ = some c2 ∧ w.cell? ⟨k, 3, none⟩ = some c3 ∧ w.cell? ⟨k, 4, none⟩ = some c4 := by
  simp [World.cell?, h]
theorem freeR {w : World} {k : Nat} {cs : Array Value} {t : TypeId} (h : w.heap[k]? = some (.cells cs t (0, 0))) (o : Nat) : w.frozen? ⟨k, o, none⟩ = false := by simp [World.frozen?, h]
/-- five stores into a box -/
def set5R (w : World) (k : Nat) (c0 c1 c2 c3 c4 : Value) : World := ((((w.setCell ⟨k, 0, none⟩ c0).setCell ⟨k, 1, none⟩ c1).setCell ⟨k, 2, none⟩ c2).setCell ⟨k, 3, none⟩ c3).setCell ⟨k, 4, none⟩ c4
theorem set5R_self {w : World} {k : Nat} {a0 a1 a2 a3 a4 c0 c1 c2 c3 c4 : Value} {t : TypeId} (h : w.heap[k]? = some (.cells #[a0, a1, a2, a3, a4] t (0, 0))) : (set5R w k c0 c1 c2 c3 c4).heap[k]? = some (.cells #[c0, c1, c2, c3, c4] t (0, 0)) := by
  unfold set5R
  rw [set_at (set_at (set_at (set_at (set_at h))))]; rfl
theorem set5R_but (w : World) (k : Nat) (c0 c1 c2 c3 c4 : Value) : But k w (set5R w k c0 c1 c2 c3 c4) :=
  ((((But.set w 0 c0).trans (But.set _ 1 c1)).trans (But.set _ 2 c2)).trans (But.set _ 3 c3)).trans (But.set _ 4 c4)
/-- all blocks but b that stood in w stand, where a box of the call's own was written too -/
theorem But.own {b k : Nat} {w w1 w2 : World} (h : But b w w1) (hk : w.heap.size ≤ k) (g : But k w1 w2) : But b w w2 :=
  ⟨g.os.trans h.os, g.tape.trans h.tape, g.output.trans h.output, Nat.le_trans h.size g.size, fun q hq hn => by
    rw [g.block q (Nat.lt_of_lt_of_le hq h.size) (fun e => by have := Option.some.inj e; omega)]; exact h.block q hq hn⟩

theorem isB_index (c : UInt8) : decide (0 ≤ Lib.indexByte [32, 9, 10, 13] c) = isB c := by
  have : ∀ a : Fin 256, decide (0 ≤ Lib.indexByte [32, 9, 10, 13] (UInt8.ofNat a.val)) = isB (UInt8.ofNat a.val) := by decide +kernel
  obtain ⟨a, rfl⟩ := byte_fin c
  exact this a
theorem index_blank (c : UInt8) (w : World) :
    Calls Tryd.prog 28 #[.string ⟨#[32, 9, 10, 13]⟩, .int .u8 c.toNat] w fun e w' => e = .returned (.int .i64 (Lib.indexByte [32, 9, 10, 13] c)) ∧ w' = w := by
  have h : Calls Tryd.prog 28 #[.string ⟨#[32, 9, 10, 13]⟩, .int .u8 c.toNat] w fun e w' => e = .returned (.int .i64 (Lib.indexByte [32, 9, 10, 13] (c.toNat : Int).toNat.toUInt8)) ∧ w' = w :=
    Any.strings_IndexByte Tryd.laysIR ⟨#[32, 9, 10, 13]⟩ c.toNat w
  simpa using h

/-- the byte at a place, or 0 -/
def hereB (l : List UInt8) : UInt8 := l.head?.getD 0

theorem hereB_at {s : ByteArray} {i : Nat} (h : i < s.size) : hereB (dl s i) = s[i] := by rw [dl_cons h]; rfl
theorem hereB_end (s : ByteArray) : hereB (dl s s.size) = 0 := by rw [dl_end]; rfl

/-- the place in the reader's box at b -/
def rat (b : Nat) (w : World) : Nat := ((w.cell? ⟨b, 1, none⟩).map fun v => (intOf v).toNat).getD 0
theorem RB.rat {b : Nat} {s : ByteArray} {i : Nat} {bad : Bool} {w : World} (h : RB b s i bad w) : rat b w = i := by
  unfold Go.Proofs.YtdhilnnohokoeaaDoor.rat; rw [h.c1]; simp [intOf]
def PeekPost (b : Nat) (s : ByteArray) (i : Nat) (bad : Bool) (w : World) (e : Ending) (w' : World) : Prop :=
  ∃ j, dl s j = skipL (dl s i) ∧ i ≤ j ∧ e = .returned (.int .u8 ((hereB (dl s j)).toNat : Int)) ∧ RB b s j bad w' ∧ But b w w'
set_option maxHeartbeats 2000000 in
set_option maxRecDepth 100000 in
theorem peek_any (b : Nat) (s : ByteArray) (i : Nat) (bad : Bool) (w : World) (h : RB b s i bad w) (hs : s.size ≤ 1000000) :
    Calls Tryd.prog 15 #[.pointer (some ⟨b, 0, none⟩)] w (PeekPost b s i bad w) := by
  have HR := Hold.mk h
  clear h
  go_enter Tryd.func15, Tryd.ntmps15
  go_wp2_with fail
  go_loopw [] (fun wr => ∃ j, i ≤ j ∧ skipL (dl s j) = skipL (dl s i) ∧ RB b s j bad wr ∧ But b w wr) (fun wr => s.size - rat b wr)
  case atStart => exact ⟨i, Nat.le_refl _, rfl, HR.out, But.refl _ _⟩
  case round =>
    obtain ⟨j, hij, hsk, hr, hbt⟩ := hrel
    clear HR
    have HR := Hold.mk hr
    have HB := Hold.mk hbt
    have HS := Hold.mk hsk
    have hjs := hr.le
    clear hr hbt hsk
    by_cases hlt : j < s.size
    · obtain ⟨c, hc⟩ : ∃ c, s[j] = c := ⟨_, rfl⟩
      have HC := Hold.mk hc
      have x0 := HR.out.c0
      have x1 := HR.out.c1
      have hfz := HR.out.fz 1
      have hd := isB_index c
      cases hb : isB c with
      | true =>
        rw [hb] at hd
        have HD := Hold.mk hd
        have HBC := Hold.mk hb
        have HN : Hold (skipL (dl s (j + 1)) = skipL (dl s i)) := ⟨by rw [← HS.out, dl_cons hlt, skipL_yes (by rw [HC.out]; exact HBC.out)]⟩
        clear hb
        go_wp2_with fail
        go_quiet ((go_at_call 28; exact Calls.quiet_of_same (index_blank c _)))
        go_wp2_with fail
        exact ⟨⟨j + 1, by omega, HN.out, (HR.out.drewN nq).to1 hlt, (HB.out.drewN nq).trans (But.set _ _ _)⟩, by rw [((HR.out.drewN nq).to1 hlt).rat, HR.out.rat]; omega⟩
      | false =>
        rw [hb] at hd
        have HE : Hold (dl s j = skipL (dl s i)) := ⟨by rw [← HS.out, dl_cons hlt, skipL_no (by rw [HC.out]; exact hb)]⟩
        have HH : Hold ((hereB (dl s j)) = c) := ⟨by rw [hereB_at hlt]; exact HC.out⟩
        have he : ((j : Int) == (s.size : Int)) = false := by simp; omega
        clear hb
        go_wp2_with fail
        go_quiet ((go_at_call 28; exact Calls.quiet_of_same (index_blank c _)))
        go_wp2_with fail
        go_quiet (fail)
        go_wp2_with fail
        go_quiet (fail)
        go_wp2_with fail
        go_ret
        exact ⟨j, HE.out, hij, by rw [HH.out]; rfl, ((HR.out.drewN _).drewN _).drewN _, ((HB.out.drewN _).drewN _).drewN _⟩
    · obtain rfl : j = s.size := by omega
      have x0 := HR.out.c0
      have x1 := HR.out.c1
      have HE : Hold (dl s s.size = skipL (dl s i)) := ⟨by rw [← HS.out, dl_end]; rfl⟩
      clear hlt hjs
      go_wp2_with fail
      go_quiet ((go_at_call 28; exact Calls.quiet_of_same (index_blank 0 _)))
      go_wp2_with fail
      go_quiet (fail)
      go_wp2_with fail
      go_ret
      exact ⟨s.size, HE.out, hij, by rw [hereB_end]; rfl, (HR.out.drewN _).drewN _, (HB.out.drewN _).drewN _⟩

/-- the next byte, where it is c: what is behind it; else it is bad -/
def TakePost (b : Nat) (s : ByteArray) (i : Nat) (c : UInt8) (bad : Bool) (w : World) (e : Ending) (w' : World) : Prop :=
  e = .returned (.tuple #[]) ∧ But b w w' ∧ ((∃ r, skipL (dl s i) = c :: r ∧ ∃ j, dl s j = r ∧ i < j ∧ RB b s j bad w') ∨ (∀ r, skipL (dl s i) ≠ c :: r) ∧ RBad b s w')

set_option maxHeartbeats 2000000 in
set_option maxRecDepth 100000 in
theorem take_any (b : Nat) (s : ByteArray) (i : Nat) (c : UInt8) (bad : Bool) (w : World) (h : RB b s i bad w) (hs : s.size ≤ 1000000) (hc0 : c ≠ 0) :
    Calls Tryd.prog 48 #[.pointer (some ⟨b, 0, none⟩), .int .u8 (c.toNat : Int)] w (TakePost b s i c bad w) := by
  have HR := Hold.mk h
  have HC0 := Hold.mk hc0
  clear h hc0
  go_enter Tryd.func48, Tryd.ntmps48
  go_wp2_with fail
  refine wp_region_mixC (ButTC b w.drew) 16 rfl (by kernel_rfl) ?_
  refine mixl_seg (by kernel_rfl) (fun _ _ d _ _ h => by cases d <;> exact h) [0, 2] [_, _] 14 16 rfl _ _ _ rfl (by kernel_rfl) (butTC (But.refl _ _)) ?_
  repeat (go_big_quiet_step (fail))
  refine wpQuiet_nil ?_
  refine mixl_act (i := 1) rfl (by kernel_rfl) (butTC (But.refl _ _)) rfl (fun K hK => ?_)
  go_wp2_with fail
  refine (peek_any b s i bad _ HR.out.drew hs).mono ?_
  rintro e w1 ⟨j, hj, hij, rfl, hr, hbt⟩
  have HB := Hold.mk hbt
  have HJ := Hold.mk hj
  have HIJ := Hold.mk hij
  clear HR
  have HR := Hold.mk hr
  have hjs := hr.le
  have hjl := hr.lt
  have hsk := skipL_skip (dl s i)
  clear hbt hj hr hij
  by_cases hx : hereB (dl s j) = c
  · have hne : dl s j ≠ [] := fun e => HC0.out (by rw [← hx, e]; rfl)
    have hlt : j < s.size := by
      rcases Nat.lt_or_ge j s.size with h | h
      · exact h
      · obtain rfl : j = s.size := by omega
        exact absurd (dl_end s) hne
    have hsj : s[j] = c := by rw [← hereB_at hlt]; exact hx
    have HP : Hold (TakePost b s i c bad w (.returned (.tuple #[])) (w1.setCell ⟨b, 1, none⟩ (.int .i64 ((j : Int) + 1)))) := ⟨rfl, HB.out.of_drew.trans (But.set _ _ _), .inl ⟨dl s (j + 1), by rw [← HJ.out, dl_cons hlt, hsj], j + 1, rfl, by have := HIJ.out; omega, HR.out.to1 hlt⟩⟩
    rw [hx]
    have b1 : ((c.toNat : Int) != (c.toNat : Int)) = false := by simp
    have b2 : ((j : Int) == (s.size : Int)) = false := by simp; omega
    clear hx hne hsj hsk
    go_wp2_with fail
    refine wpAnyC_sub (D := GrowC w1) ?_ _ _ _ _ ?_
    · rintro w2 ⟨⟨w3, h3⟩, rfl⟩
      exact butTC (HB.out.trans (But.of_below h3))
    have x0 := Grow.cell HR.out.c0
    have x1 := Grow.cell HR.out.c1
    refine mixl_seg (by kernel_rfl) (fun _ _ d _ _ h => by cases d <;> exact h) [3, 4, 5, 6, 7, 8, 9, 10, 11, 12, 13, 14, 15] [_, _, _, _, _, _, _, _, _, _, _, _, _] 0 13 rfl _ _ _ rfl (by kernel_rfl) (growC (Below.refl _ _)) ?_
    repeat (go_big_quiet_step (fail))
    refine wpQuiet_nil ?_
    refine mix_done (by kernel_rfl) (growC (Below.refl _ _)) ?_
    clear x0 x1
    have x1 := HR.out.c1
    have f1 := HR.out.fz 1
    go_wp2_with fail
    go_end0
    exact HP.out
  · have b1 : (((hereB (dl s j)).toNat : Int) != (c.toNat : Int)) = true := by rw [bne_iff_ne]; exact fun e => hx (UInt8.toNat_inj.1 (by omega))
    have HP : Hold (TakePost b s i c bad w (.returned (.tuple #[])) (w1.setCell ⟨b, 2, none⟩ (.bool true))) := ⟨rfl, HB.out.of_drew.trans (But.set _ _ _), .inr ⟨fun r e => hx (by rw [HJ.out, e]; rfl), j, HR.out.worse⟩⟩
    clear hx hsk
    generalize hereB (dl s j) = x at b1 ⊢
    go_wp2_with fail
    refine wpAnyC_sub (D := GrowC w1) ?_ _ _ _ _ ?_
    · rintro w2 ⟨⟨w3, h3⟩, rfl⟩
      exact butTC (HB.out.trans (But.of_below h3))
    refine mixl_seg (by kernel_rfl) (fun _ _ d _ _ h => by cases d <;> exact h) [3, 4, 5, 6, 7, 8, 9, 10, 11, 12, 13, 14, 15] [_, _, _, _, _, _, _, _, _, _, _, _, _] 0 13 rfl _ _ _ rfl (by kernel_rfl) (growC (Below.refl _ _)) ?_
    repeat (go_big_quiet_step (fail))
    refine wpQuiet_nil ?_
    refine mix_done (by kernel_rfl) (growC (Below.refl _ _)) ?_
    have x1 := HR.out.c2
    have f1 := HR.out.fz 2
    go_wp2_with fail
    go_end0
    exact HP.out

abbrev zero5R : Array Value := #[.int .i64 0, .int .i64 0, .string ⟨#[]⟩, .slice none 0 0, .slice none 0 0]
/-- bad, and a value of nothing -/
def FailPost (b : Nat) (s : ByteArray) (w : World) (e : Ending) (w' : World) : Prop := e = .returned (.agg zero5R) ∧ RBad b s w' ∧ But b w w'
set_option maxHeartbeats 2000000 in
set_option maxRecDepth 100000 in
theorem fail_any (b : Nat) (s : ByteArray) (i : Nat) (bad : Bool) (w : World) (h : RB b s i bad w) :
    Calls Tryd.prog 27 #[.pointer (some ⟨b, 0, none⟩)] w (FailPost b s w) := by
  have HR := Hold.mk h
  have hlt := h.lt
  have x2 := h.c2
  have f2 := h.fz 2
  clear h
  go_enter Tryd.func27, Tryd.ntmps27
  go_wp2_with fail
  obtain ⟨W2, hW2⟩ : ∃ W2, W2 = (w.setCell ⟨b, 2, none⟩ (.bool true)).alloc (.cells zero5R 26) := ⟨_, rfl⟩
  rw [← hW2]
  have hv : W2.heap[w.heap.size]? = some (.cells zero5R 26 (0, 0)) := by
    rw [hW2]; have := heap_alloc_new (w.setCell ⟨b, 2, none⟩ (.bool true)) (.cells zero5R 26); simpa using this
  have hr : RB b s i true W2 := by rw [hW2]; exact HR.out.worse.below ((Below.refl _ _).alloc (Nat.le_refl _) _)
  have hb : But b w W2 := by rw [hW2]; exact (But.set w 2 _).alloc _
  obtain ⟨v0, v1, v2, v3, v4⟩ := cells5R hv
  exact bodyPost_ret (v := .agg zero5R) (by simp [results, Tryd.results27, go_sem, v0, v1, v2, v3, v4]) rfl ⟨rfl, ⟨i, hr⟩, hb⟩

end Go.Proofs.YtdhilnnohokoeaaDoor
