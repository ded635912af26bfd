/- The reader of the program: its box; peek, take, fail, word. The reader of the program: word. Reading: strconv's ParseInt, and ParseUint at four hexadecimal digits. The reader of the program: hex. The reader of the program: escape. -/
import Derived.Test.YticlnijkfclgcaaGreatDoorZ03
import Derived.Test.YticlnijkfclgcaaGreatDoorZ10
import Derived.Test.YticlnijkfclgcaaGreatDoorRLays
import Derived.Shelf.Small.Strs
import Derived.Shelf.Strings.Prefix
import Derived.Shelf.Strconv.ParseIntPublic10
import Derived.Shelf.Strconv.Lower
import Derived.Lib.SmallJoins
import Derived.Lib.ConvBytes
namespace Go.Proofs.YticlnijkfclgcaaGreatDoor
open Go.Shelf Go.RowKit

/-- all blocks but one stand -/
abbrev But (b : Nat) (w w' : World) : Prop := w.grownBy w' (some b)
theorem But.refl (b : Nat) (w : World) : But b w w := World.grownBy.refl w _
theorem But.of_below {b : Nat} {w w' : World} (h : Below w.heap.size w w') : But b w w' := ⟨h.os, h.tape, h.output, h.size, fun k hk _ => h.block k hk⟩
theorem But.set {b : Nat} (w : World) (o : Nat) (v : Value) : But b w (w.setCell ⟨b, o, none⟩ v) :=
  ⟨rfl, rfl, rfl, by simp, fun k _ hk => Below.heap_setCell w _ v k (fun e => hk (by rw [e]))⟩
theorem But.drew {b : Nat} {w w' : World} (h : But b w w') : But b w w'.drew := ⟨h.os, h.tape, h.output, h.size, h.block⟩
theorem But.drewN {b : Nat} {w w' : World} (h : But b w w') (n : Nat) : But b w (w'.drewN n) := ⟨h.os, h.tape, h.output, h.size, h.block⟩
theorem But.of_drew {b : Nat} {w w' : World} (h : But b w.drew w') : But b w w' := ⟨h.os, h.tape, h.output, h.size, h.block⟩
theorem But.alloc {b : Nat} {w w' : World} (h : But b w w') (o : Obj) : But b w (w'.alloc o) :=
  h.trans (World.grownBy_alloc w' o _)
theorem But.below {B b : Nat} {w w' : World} (h : But b w w') (hb : B ≤ b) (hw : b < w.heap.size) : Below B w w' :=
  ⟨h.os, h.tape, h.output, h.size, fun k hk => h.block k (by omega) (fun e => by have := Option.some.inj e; omega)⟩
theorem But.keep {b : Nat} {w w' : World} (h : But b w w') {q : Nat} {o : Obj} (hq : w.heap[q]? = some o) (hne : q ≠ b) : w'.heap[q]? = some o := by
  rw [h.block q (Array.getElem?_eq_some_iff.1 hq).1 (fun e => hne (Option.some.inj e))]; exact hq
/-- the reader's box: what it reads, how far, whether it is bad -/
structure RB (b : Nat) (s : ByteArray) (i : Nat) (bad : Bool) (w : World) : Prop where
  box : w.heap[b]? = some (.cells #[.string s, .int .i64 (i : Int), .bool bad] 72 (0, 0))
  le : i ≤ s.size
theorem RB.c0 {b : Nat} {s : ByteArray} {i : Nat} {bad : Bool} {w : World} (h : RB b s i bad w) : w.cell? ⟨b, 0, none⟩ = some (.string s) := by simp [World.cell?, h.box]
theorem RB.c1 {b : Nat} {s : ByteArray} {i : Nat} {bad : Bool} {w : World} (h : RB b s i bad w) : w.cell? ⟨b, 1, none⟩ = some (.int .i64 (i : Int)) := by simp [World.cell?, h.box]
theorem RB.c2 {b : Nat} {s : ByteArray} {i : Nat} {bad : Bool} {w : World} (h : RB b s i bad w) : w.cell? ⟨b, 2, none⟩ = some (.bool bad) := by simp [World.cell?, h.box]
theorem RB.fz {b : Nat} {s : ByteArray} {i : Nat} {bad : Bool} {w : World} (h : RB b s i bad w) (o : Nat) : w.frozen? ⟨b, o, none⟩ = false := by simp [World.frozen?, h.box]
theorem RB.lt {b : Nat} {s : ByteArray} {i : Nat} {bad : Bool} {w : World} (h : RB b s i bad w) : b < w.heap.size := (Array.getElem?_eq_some_iff.1 h.box).1
theorem RB.below {b : Nat} {s : ByteArray} {i : Nat} {bad : Bool} {w w' : World} (h : RB b s i bad w) (k : Below w.heap.size w w') : RB b s i bad w' := ⟨by rw [k.block b h.lt]; exact h.box, h.le⟩
theorem RB.drew {b : Nat} {s : ByteArray} {i : Nat} {bad : Bool} {w : World} (h : RB b s i bad w) : RB b s i bad w.drew := ⟨h.box, h.le⟩
theorem RB.drewN {b : Nat} {s : ByteArray} {i : Nat} {bad : Bool} {w : World} (h : RB b s i bad w) (n : Nat) : RB b s i bad (w.drewN n) := ⟨h.box, h.le⟩
theorem RB.keep {b c : Nat} {s : ByteArray} {i : Nat} {bad : Bool} {w w' : World} (h : RB b s i bad w) (k : But c w w') (hne : b ≠ c) : RB b s i bad w' := ⟨k.keep h.box hne, h.le⟩
theorem set_at {w : World} {b o : Nat} {cs : Array Value} {t : TypeId} {u : Value} (h : w.heap[b]? = some (.cells cs t (0, 0))) : (w.setCell ⟨b, o, none⟩ u).heap[b]? = some (.cells (cs.setIfInBounds o u) t (0, 0)) := by
  obtain ⟨hb, he⟩ := Array.getElem?_eq_some_iff.1 h
  show (w.heap.modify b _)[b]? = _
  rw [Array.getElem?_modify]
  simp [h]
theorem RB.to {b : Nat} {s : ByteArray} {i : Nat} {bad : Bool} {w : World} (h : RB b s i bad w) {j : Nat} (hj : j ≤ s.size) : RB b s j bad (w.setCell ⟨b, 1, none⟩ (.int .i64 (j : Int))) :=
  ⟨by rw [set_at h.box]; rfl, hj⟩
theorem RB.to1 {b : Nat} {s : ByteArray} {i : Nat} {bad : Bool} {w : World} (h : RB b s i bad w) (hj : i < s.size) : RB b s (i + 1) bad (w.setCell ⟨b, 1, none⟩ (.int .i64 ((i : Int) + 1))) :=
  ⟨by rw [set_at h.box]; rfl, hj⟩
theorem RB.worse {b : Nat} {s : ByteArray} {i : Nat} {bad : Bool} {w : World} (h : RB b s i bad w) : RB b s i true (w.setCell ⟨b, 2, none⟩ (.bool true)) :=
  ⟨by rw [set_at h.box]; rfl, h.le⟩
/-- it is bad, wherever -/
def RBad (b : Nat) (s : ByteArray) (w : World) : Prop := ∃ i, RB b s i true w
theorem keptR {w w' : World} {k : Nat} {o : Obj} (h : w.heap[k]? = some o) (hb : Below w.heap.size w w') : w'.heap[k]? = some o := by
  rw [hb.block k (Array.getElem?_eq_some_iff.1 h).1]; exact h
theorem ltR {w : World} {k : Nat} {o : Obj} (h : w.heap[k]? = some o) : k < w.heap.size := (Array.getElem?_eq_some_iff.1 h).1
theorem cells5R {w : World} {k : Nat} {c0 c1 c2 c3 c4 : Value} {t : TypeId} (h : w.heap[k]? = some (.cells #[c0, c1, c2, c3, c4] t (0, 0))) :
    w.cell? ⟨k, 0, none⟩ = some c0 ∧ w.cell? ⟨k, 1, none⟩ = some c1 ∧ w.cell? ⟨k, 2, none⟩ = some c2 ∧ w.cell? ⟨k, 3, none⟩ = some c3 ∧ w.cell? ⟨k, 4, none⟩ = some c4 := by
  simp [World.cell?, h]
theorem freeR {w : World} {k : Nat} {cs : Array Value} {t : TypeId} (h : w.heap[k]? = some (.cells cs t (0, 0))) (o : Nat) : w.frozen? ⟨k, o, none⟩ = false := by simp [World.frozen?, h]
/-- five stores into a box -/
def set5R (w : World) (k : Nat) (c0 c1 c2 c3 c4 : Value) : World := ((((w.setCell ⟨k, 0, none⟩ c0).setCell ⟨k, 1, none⟩ c1).setCell ⟨k, 2, none⟩ c2).setCell ⟨k, 3, none⟩ c3).setCell ⟨k, 4, none⟩ c4
theorem set5R_self {w : World} {k : Nat} {a0 a1 a2 a3 a4 c0 c1 c2 c3 c4 : Value} {t : TypeId} (h : w.heap[k]? = some (.cells #[a0, a1, a2, a3, a4] t (0, 0))) : (set5R w k c0 c1 c2 c3 c4).heap[k]? = some (.cells #[c0, c1, c2, c3, c4] t (0, 0)) := by
  unfold set5R
  rw [set_at (set_at (set_at (set_at (set_at h))))]; rfl
theorem set5R_but (w : World) (k : Nat) (c0 c1 c2 c3 c4 : Value) : But k w (set5R w k c0 c1 c2 c3 c4) :=
  ((((But.set w 0 c0).trans (But.set _ 1 c1)).trans (But.set _ 2 c2)).trans (But.set _ 3 c3)).trans (But.set _ 4 c4)
/-- all blocks but b that stood in w stand, where a box of the call's own was written too -/
theorem But.own {b k : Nat} {w w1 w2 : World} (h : But b w w1) (hk : w.heap.size ≤ k) (g : But k w1 w2) : But b w w2 :=
  ⟨g.os.trans h.os, g.tape.trans h.tape, g.output.trans h.output, Nat.le_trans h.size g.size, fun q hq hn => by
    rw [g.block q (Nat.lt_of_lt_of_le hq h.size) (fun e => by have := Option.some.inj e; omega)]; exact h.block q hq hn⟩
theorem isB_index (c : UInt8) : decide (0 ≤ Lib.indexByte [32, 9, 10, 13] c) = isB c := by
  have : ∀ a : Fin 256, decide (0 ≤ Lib.indexByte [32, 9, 10, 13] (UInt8.ofNat a.val)) = isB (UInt8.ofNat a.val) := by decide +kernel
  obtain ⟨a, rfl⟩ := byte_fin c
  exact this a
theorem index_blank (c : UInt8) (w : World) :
    Calls Tryz.prog 42 #[.string ⟨#[32, 9, 10, 13]⟩, .int .u8 c.toNat] w fun e w' => e = .returned (.int .i64 (Lib.indexByte [32, 9, 10, 13] c)) ∧ w' = w := by
  have h : Calls Tryz.prog 42 #[.string ⟨#[32, 9, 10, 13]⟩, .int .u8 c.toNat] w fun e w' => e = .returned (.int .i64 (Lib.indexByte [32, 9, 10, 13] (c.toNat : Int).toNat.toUInt8)) ∧ w' = w :=
    Any.strings_IndexByte Tryz.laysIR ⟨#[32, 9, 10, 13]⟩ c.toNat w
  simpa using h
/-- the byte at a place, or 0 -/
def hereB (l : List UInt8) : UInt8 := l.head?.getD 0
theorem hereB_at {s : ByteArray} {i : Nat} (h : i < s.size) : hereB (dl s i) = s[i] := by rw [dl_cons h]; rfl
theorem hereB_end (s : ByteArray) : hereB (dl s s.size) = 0 := by rw [dl_end]; rfl
/-- the place in the reader's box at b -/
def rat (b : Nat) (w : World) : Nat := ((w.cell? ⟨b, 1, none⟩).map fun v => (intOf v).toNat).getD 0
theorem RB.rat {b : Nat} {s : ByteArray} {i : Nat} {bad : Bool} {w : World} (h : RB b s i bad w) : rat b w = i := by
  unfold Go.Proofs.YticlnijkfclgcaaGreatDoor.rat; rw [h.c1]; simp [intOf]
def PeekPost (b : Nat) (s : ByteArray) (i : Nat) (bad : Bool) (w : World) (e : Ending) (w' : World) : Prop :=
  ∃ j, dl s j = skipL (dl s i) ∧ i ≤ j ∧ e = .returned (.int .u8 ((hereB (dl s j)).toNat : Int)) ∧ RB b s j bad w' ∧ But b w w'
set_option maxHeartbeats 2000000 in
set_option maxRecDepth 100000 in
theorem peek_any (b : Nat) (s : ByteArray) (i : Nat) (bad : Bool) (w : World) (h : RB b s i bad w) (hs : s.size ≤ 1000000) :
    Calls Tryz.prog 25 #[.pointer (some ⟨b, 0, none⟩)] w (PeekPost b s i bad w) := by
  have HR := Hold.mk h
  clear h
  go_enter Tryz.func25, Tryz.ntmps25
  go_wp2_with fail
  go_loopw [] (fun wr => ∃ j, i ≤ j ∧ skipL (dl s j) = skipL (dl s i) ∧ RB b s j bad wr ∧ But b w wr) (fun wr => s.size - rat b wr)
  case atStart => exact ⟨i, Nat.le_refl _, rfl, HR.out, But.refl _ _⟩
  case round =>
    obtain ⟨j, hij, hsk, hr, hbt⟩ := hrel
    clear HR
    have HR := Hold.mk hr
    have HB := Hold.mk hbt
    have HS := Hold.mk hsk
    have hjs := hr.le
    clear hr hbt hsk
    by_cases hlt : j < s.size
    · obtain ⟨c, hc⟩ : ∃ c, s[j] = c := ⟨_, rfl⟩
      have HC := Hold.mk hc
      have x0 := HR.out.c0
      have x1 := HR.out.c1
      have hfz := HR.out.fz 1
      have hd := isB_index c
      cases hb : isB c with
      | true =>
        rw [hb] at hd
        have HD := Hold.mk hd
        have HBC := Hold.mk hb
        have HN : Hold (skipL (dl s (j + 1)) = skipL (dl s i)) := ⟨by rw [← HS.out, dl_cons hlt, skipL_yes (by rw [HC.out]; exact HBC.out)]⟩
        clear hb
        go_wp2_with fail
        go_quiet ((go_at_call 42; exact Calls.quiet_of_same (index_blank c _)))
        go_wp2_with fail
        exact ⟨⟨j + 1, by omega, HN.out, (HR.out.drewN nq).to1 hlt, (HB.out.drewN nq).trans (But.set _ _ _)⟩, by rw [((HR.out.drewN nq).to1 hlt).rat, HR.out.rat]; omega⟩
      | false =>
        rw [hb] at hd
        have HE : Hold (dl s j = skipL (dl s i)) := ⟨by rw [← HS.out, dl_cons hlt, skipL_no (by rw [HC.out]; exact hb)]⟩
        have HH : Hold ((hereB (dl s j)) = c) := ⟨by rw [hereB_at hlt]; exact HC.out⟩
        have he : ((j : Int) == (s.size : Int)) = false := by simp; omega
        clear hb
        go_wp2_with fail
        go_quiet ((go_at_call 42; exact Calls.quiet_of_same (index_blank c _)))
        go_wp2_with fail
        go_quiet (fail)
        go_wp2_with fail
        go_quiet (fail)
        go_wp2_with fail
        go_ret
        exact ⟨j, HE.out, hij, by rw [HH.out]; rfl, ((HR.out.drewN _).drewN _).drewN _, ((HB.out.drewN _).drewN _).drewN _⟩
    · obtain rfl : j = s.size := by omega
      have x0 := HR.out.c0
      have x1 := HR.out.c1
      have HE : Hold (dl s s.size = skipL (dl s i)) := ⟨by rw [← HS.out, dl_end]; rfl⟩
      clear hlt hjs
      go_wp2_with fail
      go_quiet ((go_at_call 42; exact Calls.quiet_of_same (index_blank 0 _)))
      go_wp2_with fail
      go_quiet (fail)
      go_wp2_with fail
      go_ret
      exact ⟨s.size, HE.out, hij, by rw [hereB_end]; rfl, (HR.out.drewN _).drewN _, (HB.out.drewN _).drewN _⟩
/-- the next byte, where it is c: what is behind it; else it is bad -/
def TakePost (b : Nat) (s : ByteArray) (i : Nat) (c : UInt8) (bad : Bool) (w : World) (e : Ending) (w' : World) : Prop :=
  e = .returned (.tuple #[]) ∧ But b w w' ∧ ((∃ r, skipL (dl s i) = c :: r ∧ ∃ j, dl s j = r ∧ i < j ∧ RB b s j bad w') ∨ (∀ r, skipL (dl s i) ≠ c :: r) ∧ RBad b s w')
set_option maxHeartbeats 2000000 in
set_option maxRecDepth 100000 in
theorem take_any (b : Nat) (s : ByteArray) (i : Nat) (c : UInt8) (bad : Bool) (w : World) (h : RB b s i bad w) (hs : s.size ≤ 1000000) (hc0 : c ≠ 0) :
    Calls Tryz.prog 57 #[.pointer (some ⟨b, 0, none⟩), .int .u8 (c.toNat : Int)] w (TakePost b s i c bad w) := by
  have HR := Hold.mk h
  have HC0 := Hold.mk hc0
  clear h hc0
  go_enter Tryz.func57, Tryz.ntmps57
  go_wp2_with fail
  refine wp_region_mixC (ButTC b w.drew) 16 rfl (by kernel_rfl) ?_
  refine mixl_seg (by kernel_rfl) (fun _ _ d _ _ h => by cases d <;> exact h) [0, 2] [_, _] 14 16 rfl _ _ _ rfl (by kernel_rfl) (butTC (But.refl _ _)) ?_
  repeat (go_big_quiet_step (fail))
  refine wpQuiet_nil ?_
  refine mixl_act (i := 1) rfl (by kernel_rfl) (butTC (But.refl _ _)) rfl (fun K hK => ?_)
  go_wp2_with fail
  refine (peek_any b s i bad _ HR.out.drew hs).mono ?_
  rintro e w1 ⟨j, hj, hij, rfl, hr, hbt⟩
  have HB := Hold.mk hbt
  have HJ := Hold.mk hj
  have HIJ := Hold.mk hij
  clear HR
  have HR := Hold.mk hr
  have hjs := hr.le
  have hjl := hr.lt
  have hsk := skipL_skip (dl s i)
  clear hbt hj hr hij
  by_cases hx : hereB (dl s j) = c
  · have hne : dl s j ≠ [] := fun e => HC0.out (by rw [← hx, e]; rfl)
    have hlt : j < s.size := by
      rcases Nat.lt_or_ge j s.size with h | h
      · exact h
      · obtain rfl : j = s.size := by omega
        exact absurd (dl_end s) hne
    have hsj : s[j] = c := by rw [← hereB_at hlt]; exact hx
    have HP : Hold (TakePost b s i c bad w (.returned (.tuple #[])) (w1.setCell ⟨b, 1, none⟩ (.int .i64 ((j : Int) + 1)))) := ⟨rfl, HB.out.of_drew.trans (But.set _ _ _), .inl ⟨dl s (j + 1), by rw [← HJ.out, dl_cons hlt, hsj], j + 1, rfl, by have := HIJ.out; omega, HR.out.to1 hlt⟩⟩
    rw [hx]
    have b1 : ((c.toNat : Int) != (c.toNat : Int)) = false := by simp
    have b2 : ((j : Int) == (s.size : Int)) = false := by simp; omega
    clear hx hne hsj hsk
    go_wp2_with fail
    refine wpAnyC_sub (D := GrowC w1) ?_ _ _ _ _ ?_
    · rintro w2 ⟨⟨w3, h3⟩, rfl⟩
      exact butTC (HB.out.trans (But.of_below h3))
    have x0 := Grow.cell HR.out.c0
    have x1 := Grow.cell HR.out.c1
    refine mixl_seg (by kernel_rfl) (fun _ _ d _ _ h => by cases d <;> exact h) [3, 4, 5, 6, 7, 8, 9, 10, 11, 12, 13, 14, 15] [_, _, _, _, _, _, _, _, _, _, _, _, _] 0 13 rfl _ _ _ rfl (by kernel_rfl) (growC (Below.refl _ _)) ?_
    repeat (go_big_quiet_step (fail))
    refine wpQuiet_nil ?_
    refine mix_done (by kernel_rfl) (growC (Below.refl _ _)) ?_
    clear x0 x1
    have x1 := HR.out.c1
    have f1 := HR.out.fz 1
    go_wp2_with fail
    go_end0
    exact HP.out
  · have b1 : (((hereB (dl s j)).toNat : Int) != (c.toNat : Int)) = true := by rw [bne_iff_ne]; exact fun e => hx (UInt8.toNat_inj.1 (by omega))
    have HP : Hold (TakePost b s i c bad w (.returned (.tuple #[])) (w1.setCell ⟨b, 2, none⟩ (.bool true))) := ⟨rfl, HB.out.of_drew.trans (But.set _ _ _), .inr ⟨fun r e => hx (by rw [HJ.out, e]; rfl), j, HR.out.worse⟩⟩
    clear hx hsk
    generalize hereB (dl s j) = x at b1 ⊢
    go_wp2_with fail
    refine wpAnyC_sub (D := GrowC w1) ?_ _ _ _ _ ?_
    · rintro w2 ⟨⟨w3, h3⟩, rfl⟩
      exact butTC (HB.out.trans (But.of_below h3))
    refine mixl_seg (by kernel_rfl) (fun _ _ d _ _ h => by cases d <;> exact h) [3, 4, 5, 6, 7, 8, 9, 10, 11, 12, 13, 14, 15] [_, _, _, _, _, _, _, _, _, _, _, _, _] 0 13 rfl _ _ _ rfl (by kernel_rfl) (growC (Below.refl _ _)) ?_
    repeat (go_big_quiet_step (fail))
    refine wpQuiet_nil ?_
    refine mix_done (by kernel_rfl) (growC (Below.refl _ _)) ?_
    have x1 := HR.out.c2
    have f1 := HR.out.fz 2
    go_wp2_with fail
    go_end0
    exact HP.out
abbrev zero5R : Array Value := #[.int .i64 0, .int .i64 0, .string ⟨#[]⟩, .slice none 0 0, .slice none 0 0]
/-- bad, and a value of nothing -/
def FailPost (b : Nat) (s : ByteArray) (w : World) (e : Ending) (w' : World) : Prop := e = .returned (.agg zero5R) ∧ RBad b s w' ∧ But b w w'
set_option maxHeartbeats 2000000 in
set_option maxRecDepth 100000 in
theorem fail_any (b : Nat) (s : ByteArray) (i : Nat) (bad : Bool) (w : World) (h : RB b s i bad w) :
    Calls Tryz.prog 41 #[.pointer (some ⟨b, 0, none⟩)] w (FailPost b s w) := by
  have HR := Hold.mk h
  have hlt := h.lt
  have x2 := h.c2
  have f2 := h.fz 2
  clear h
  go_enter Tryz.func41, Tryz.ntmps41
  go_wp2_with fail
  obtain ⟨W2, hW2⟩ : ∃ W2, W2 = (w.setCell ⟨b, 2, none⟩ (.bool true)).alloc (.cells zero5R 58) := ⟨_, rfl⟩
  rw [← hW2]
  have hv : W2.heap[w.heap.size]? = some (.cells zero5R 58 (0, 0)) := by
    rw [hW2]; have := heap_alloc_new (w.setCell ⟨b, 2, none⟩ (.bool true)) (.cells zero5R 58); simpa using this
  have hr : RB b s i true W2 := by rw [hW2]; exact HR.out.worse.below ((Below.refl _ _).alloc (Nat.le_refl _) _)
  have hb : But b w W2 := by rw [hW2]; exact (But.set w 2 _).alloc _
  obtain ⟨v0, v1, v2, v3, v4⟩ := cells5R hv
  exact bodyPost_ret (v := .agg zero5R) (by simp [results, Tryz.results41, go_sem, v0, v1, v2, v3, v4]) rfl ⟨rfl, ⟨i, hr⟩, hb⟩
end Go.Proofs.YticlnijkfclgcaaGreatDoor

namespace Go.Proofs.YticlnijkfclgcaaGreatDoor
open Go.Shelf Go.RowKit

theorem cut_at {s : ByteArray} {i : Nat} : (s.extract i s.size).data.toList = dl s i := by
  rw [ByteArray.data_extract, Array.toList_extract, List.extract_eq_take_drop]
  unfold dl
  rw [List.take_of_length_le]
  rw [List.length_drop, size_list]; exact Nat.le_refl _
theorem prefix_any (s p : ByteArray) (w : World) :
    Calls Tryz.prog 56 #[.string s, .string p] w fun e w' => e = .returned (.bool (Lib.hasPrefix s.data.toList p.data.toList)) ∧ w' = w :=
  Any.strings_HasPrefix Tryz.laysHP s p w
/-- a value of a word's kind, or bad -/
def WordPost (b : Nat) (s : ByteArray) (l : Option (List UInt8)) (x : Value) (w : World) (e : Ending) (w' : World) : Prop :=
  But b w w' ∧ match l with
    | some r => e = .returned x ∧ ∃ j, dl s j = r ∧ RB b s j false w'
    | none => e = .returned (.agg zero5R) ∧ RBad b s w'
set_option maxHeartbeats 4000000 in
set_option maxRecDepth 100000 in
theorem word_any (b : Nat) (s p : ByteArray) (k : Int) (i : Nat) (w : World) (h : RB b s i false w) (hs : s.size ≤ 1000000) (hp : p.size ≤ 10) :
    Calls Tryz.prog 37 #[.pointer (some ⟨b, 0, none⟩), .string p, .int .i64 k] w (WordPost b s (wordL p.data.toList (dl s i)) (.agg #[.int .i64 k, .int .i64 0, .string ⟨#[]⟩, .slice none 0 0, .slice none 0 0]) w) := by
  have HR := Hold.mk h
  have hlt := h.lt
  have hle := h.le
  have x0 := h.c0
  have x1 := h.c1
  have f1 := h.fz 1
  have hpre : ∀ W : World, Calls Tryz.prog 56 #[.string (s.extract i s.size), .string p] W fun e w' => e = .returned (.bool (p.data.toList.isPrefixOf (dl s i))) ∧ w' = W := fun W => by
    have := prefix_any (s.extract i s.size) p W
    rw [cut_at] at this
    exact this
  clear h
  have HN : ∀ n, Hold (RB b s i false ((w.alloc (.cells zero5R 58)).drewN n) ∧ ((w.alloc (.cells zero5R 58)).drewN n).heap[w.heap.size]? = some (.cells zero5R 58 (0, 0)) ∧ But b w ((w.alloc (.cells zero5R 58)).drewN n)) := fun n =>
    ⟨(HR.out.below ((Below.refl _ w).alloc (Nat.le_refl _) _)).drewN n, heap_alloc_new w _, ((But.refl b w).alloc _).drewN n⟩
  cases hp2 : p.data.toList.isPrefixOf (dl s i) with
  | true =>
    have HL : Hold (wordL p.data.toList (dl s i) = some ((dl s i).drop p.size)) := ⟨by unfold wordL; rw [if_pos hp2]; rfl⟩
    have hln : i + p.size ≤ s.size := by
      obtain ⟨t, ht⟩ := List.isPrefixOf_iff_prefix.1 hp2
      have h1 := congrArg List.length ht
      rw [List.length_append, dl_len, size_list] at h1
      omega
    rw [hp2] at hpre
    have HPR := Hold.mk hpre
    clear hp2 hpre
    go_enter Tryz.func37, Tryz.ntmps37
    go_wp2_with fail
    go_quiet ((go_at_call 56; exact Calls.quiet_of_same (HPR.out _)))
    go_wp2_with fail
    obtain ⟨W2, hW2⟩ : ∃ W2, W2 = set5R (((w.alloc (.cells zero5R 58)).drewN nq).setCell ⟨b, 1, none⟩ (.int .i64 ((i : Int) + (p.size : Int)))) w.heap.size (.int .i64 k) (.int .i64 0) (.string ⟨#[]⟩) (.slice none 0 0) (.slice none 0 0) := ⟨_, rfl⟩
    obtain ⟨hr, hv, hb⟩ := (HN nq).out
    have hne : w.heap.size ≠ b := by omega
    have hv2 : W2.heap[w.heap.size]? = some (.cells #[.int .i64 k, .int .i64 0, .string ⟨#[]⟩, .slice none 0 0, .slice none 0 0] 58 (0, 0)) := by
      rw [hW2]; exact set5R_self (by rw [Below.heap_setCell _ _ _ _ hne]; exact hv)
    have hr2 : RB b s (i + p.size) false W2 := by
      rw [hW2]
      have := hr.to hln
      rw [show ((i + p.size : Nat) : Int) = (i : Int) + (p.size : Int) by omega] at this
      exact this.keep (set5R_but _ _ _ _ _ _ _) (by omega)
    have hb2 : But b w W2 := by
      rw [hW2]
      exact But.own (hb.trans (But.set _ _ _)) (Nat.le_refl _) (set5R_but _ _ _ _ _ _ _)
    unfold set5R at hW2
    rw [← hW2]
    clear hW2 hr hv hb
    obtain ⟨v0, v1, v2, v3, v4⟩ := cells5R hv2
    exact bodyPost_ret (v := .agg #[.int .i64 k, .int .i64 0, .string ⟨#[]⟩, .slice none 0 0, .slice none 0 0]) (by simp [results, Tryz.results37, go_sem, v0, v1, v2, v3, v4]) rfl ⟨hb2, by rw [HL.out]; exact ⟨rfl, i + p.size, (dl_drop s i p.size).symm, hr2⟩⟩
  | false =>
    have HL : Hold (wordL p.data.toList (dl s i) = none) := ⟨by unfold wordL; rw [if_neg (by rw [hp2]; simp)]⟩
    rw [hp2] at hpre
    have HPR := Hold.mk hpre
    clear hp2 hpre
    go_enter Tryz.func37, Tryz.ntmps37
    go_wp2_with fail
    go_quiet ((go_at_call 56; exact Calls.quiet_of_same (HPR.out _)))
    go_wp2_with fail
    obtain ⟨hr, hv, hb⟩ := (HN nq).out
    refine (fail_any b s i false _ hr).mono ?_
    rintro e w2 ⟨rfl, hbad, hb2⟩
    have hv2 := hb2.keep hv (by omega)
    have HBAD := Hold.mk hbad
    have HB := Hold.mk (hb.trans hb2)
    clear hr hv hb hbad hb2
    obtain ⟨v0, v1, v2, v3, v4⟩ := cells5R hv2
    have g0 := freeR hv2 0
    have g1 := freeR hv2 1
    have g2 := freeR hv2 2
    have g3 := freeR hv2 3
    have g4 := freeR hv2 4
    go_wp2_with fail
    obtain ⟨W2, hW2⟩ : ∃ W2, W2 = set5R w2 w.heap.size (.int .i64 0) (.int .i64 0) (.string ⟨#[]⟩) (.slice none 0 0) (.slice none 0 0) := ⟨_, rfl⟩
    have hv3 : W2.heap[w.heap.size]? = some (.cells zero5R 58 (0, 0)) := by rw [hW2]; exact set5R_self hv2
    obtain ⟨j, hj⟩ := HBAD.out
    have hr3 : RB b s j true W2 := by rw [hW2]; exact hj.keep (set5R_but _ _ _ _ _ _ _) (by omega)
    have hb3 : But b w W2 := by rw [hW2]; exact But.own HB.out (Nat.le_refl _) (set5R_but _ _ _ _ _ _ _)
    unfold set5R at hW2
    rw [← hW2]
    clear hW2 v0 v1 v2 v3 v4
    obtain ⟨v0, v1, v2, v3, v4⟩ := cells5R hv3
    exact bodyPost_ret (v := .agg zero5R) (by simp [results, Tryz.results37, go_sem, v0, v1, v2, v3, v4]) rfl ⟨hb3, by rw [HL.out]; exact ⟨rfl, j, hr3⟩⟩
end Go.Proofs.YticlnijkfclgcaaGreatDoor

namespace Go.Proofs.YticlnijkfclgcaaGreatDoor
open Go.Shelf Go.RowKit

/-- strconv's two errors, in blocks below b -/
structure Errs (b : Nat) (w : World) : Prop where
  g1 : Tryz.laysPI_ren.g 15 < b
  g2 : Tryz.laysPI_ren.g 16 < b
  syn : ∃ t p, w.cell? ⟨Tryz.laysPI_ren.g 15, 0, none⟩ = some (.iface t p)
  rng : ∃ t p, w.cell? ⟨Tryz.laysPI_ren.g 16, 0, none⟩ = some (.iface t p)
theorem Errs.but {b : Nat} {w w' : World} (h : Errs b w) (k : But b w w') : Errs b w' := by
  obtain ⟨t, p, h1⟩ := h.syn
  obtain ⟨t2, p2, h2⟩ := h.rng
  have g1 := h.g1
  have g2 := h.g2
  exact ⟨g1, g2, ⟨t, p, k.cell h1 (fun e => absurd (Option.some.inj e) (Nat.ne_of_lt g1))⟩, ⟨t2, p2, k.cell h2 (fun e => absurd (Option.some.inj e) (Nat.ne_of_lt g2))⟩⟩
theorem Errs.below {b : Nat} {w w' : World} (h : Errs b w) (k : Below w.heap.size w w') : Errs b w' := h.but (But.of_below k)
def IntPost (r : Lib.NumEnd Int) (w : World) (e : Ending) (w' : World) : Prop :=
  Below w.heap.size w w' ∧ match r with
    | .ok v => e = .returned (.tuple #[.int .i64 v, .nilIface])
    | _ => ∃ n t p, e = .returned (.tuple #[.int .i64 n, .iface t p])
theorem parseInt_any (s : ByteArray) (b : Nat) (w : World) (hs : s.size ≤ 1000000) (hE : Errs b w) :
    Calls Tryz.prog 59 #[.string s, .int .i64 10, .int .i64 64] w (IntPost (Lib.parseIntB 64 s.data.toList) w) := by
  rcases h : Lib.parseIntB 64 s.data.toList with v | _ | _
  · refine (Any.strconv_ParseInt_10_at64_ok Tryz.laysPI s (by omega) v h w).mono ?_
    rintro e w' ⟨rfl, hw⟩
    refine ⟨?_, rfl⟩
    rcases hw with rfl | ⟨t, rfl⟩
    · exact Below.refl _ _
    · exact Go.Joins.below_bytesWorld _ w _ t (Nat.le_refl _)
  · obtain ⟨t, p, h1⟩ := hE.syn
    refine (Any.strconv_ParseInt_10_at64_syntax Tryz.laysPI s (by omega) h _ w h1 (.inr ⟨t, p, rfl⟩)).mono ?_
    rintro e w' ⟨N, rfl, _, _, hb⟩
    exact ⟨hb, _, _, _, rfl⟩
  · obtain ⟨t, p, h1⟩ := hE.rng
    refine (Any.strconv_ParseInt_10_at64_range Tryz.laysPI s (by omega) h _ w h1 (.inr ⟨t, p, rfl⟩)).mono ?_
    rintro e w' ⟨N, rfl, _, _, hb⟩
    exact ⟨hb, _, _, _, rfl⟩
theorem lower_any (c : UInt8) (w : World) : Calls Tryz.prog 137 #[.int .u8 (c.toNat : Int)] w fun e w' => e = .returned (.int .u8 ((c ||| 32).toNat : Int)) ∧ w' = w := by
  have h : ∀ a : Fin 256, bits .or .u8 (((UInt8.ofNat a.val).toNat : Nat) : Int) 32 = (((UInt8.ofNat a.val ||| 32).toNat : Nat) : Int) := by decide +kernel
  obtain ⟨a, rfl⟩ := byte_fin c
  have e := h a
  go_enter Tryz.func137, Tryz.ntmps137
  go_wp2
  go_ret
  exact ⟨by first | rw [e] | (have e2 := e; simp at e2 ⊢; exact e2), rfl⟩
theorem hexV_kind (c : UInt8) : (48 ≤ c.toNat ∧ c.toNat ≤ 57 ∧ hexV c = some (c.toNat - 48)) ∨
    (¬ (48 ≤ c.toNat ∧ c.toNat ≤ 57) ∧ hexV c = some ((c ||| 32).toNat - 87) ∧ 97 ≤ (c ||| 32).toNat ∧ (c ||| 32).toNat ≤ 102) ∨
    (¬ (48 ≤ c.toNat ∧ c.toNat ≤ 57) ∧ hexV c = none ∧ ((c ||| 32).toNat < 97 ∨ 103 ≤ (c ||| 32).toNat)) := by
  have h : ∀ a : Fin 256, decide ((48 ≤ (UInt8.ofNat a.val).toNat ∧ (UInt8.ofNat a.val).toNat ≤ 57 ∧ hexV (UInt8.ofNat a.val) = some ((UInt8.ofNat a.val).toNat - 48)) ∨
    (¬ (48 ≤ (UInt8.ofNat a.val).toNat ∧ (UInt8.ofNat a.val).toNat ≤ 57) ∧ hexV (UInt8.ofNat a.val) = some (((UInt8.ofNat a.val) ||| 32).toNat - 87) ∧ 97 ≤ ((UInt8.ofNat a.val) ||| 32).toNat ∧ ((UInt8.ofNat a.val) ||| 32).toNat ≤ 102) ∨
    (¬ (48 ≤ (UInt8.ofNat a.val).toNat ∧ (UInt8.ofNat a.val).toNat ≤ 57) ∧ hexV (UInt8.ofNat a.val) = none ∧ (((UInt8.ofNat a.val) ||| 32).toNat < 97 ∨ 103 ≤ ((UInt8.ofNat a.val) ||| 32).toNat))) = true := by decide +kernel
  obtain ⟨a, rfl⟩ := byte_fin c
  exact of_decide_eq_true (h a)
theorem byte_eqR {c k : UInt8} (h : (c.toNat : Int) = (k.toNat : Int)) : c = k := UInt8.toNat_inj.1 (by omega)
theorem hexS_some {c : UInt8} {d a : Nat} {r : List UInt8} (h : hexV c = some d) : hexS a (c :: r) = hexS (a * 16 + d) r := by rw [hexS, h]
theorem hexS_none {c : UInt8} {a : Nat} {r : List UInt8} (h : hexV c = none) : hexS a (c :: r) = none := by rw [hexS, h]
/-- four digits, as a number of 64 bits, or the fault of the form -/
def HexPost (l : List UInt8) (w : World) (e : Ending) (w' : World) : Prop :=
  Below w.heap.size w w' ∧ match hexS 0 l with
    | some n => e = .returned (.tuple #[.int .u64 (n : Int), .nilIface])
    | none => e = .returned (.tuple #[.int .u64 0, .iface 170 (.int .i64 2)])
set_option maxHeartbeats 4000000 in
set_option maxRecDepth 100000 in
theorem hexIn_any (t : ByteArray) (w : World) (ht : t.size = 4) :
    Calls Tryz.prog 108 #[.string t, .int .i64 16, .int .i64 16] w (HexPost t.data.toList w) := by
  have hemp : t.toList.isEmpty = false := by
    rw [ByteArray.toList_eq]
    cases e : t.data.toList with
    | nil => rw [← size_list, e] at ht; simp at ht
    | cons c l => rfl
  have hcv := Lib.run_convert_string_bytes (P := Tryz.prog) w 9 29 5 t (u := .string) Tryz.underlying9 Tryz.underlying29 Tryz.underlying5
  have hB : ∀ j, j < t.size → (Lib.bytesWorld w 5 t).cell? ⟨w.heap.size, j, none⟩ = some (.int .u8 (t.data.toList.getD j 0).toNat) := fun j hj => Lib.bytesWorld_cell w 5 t j hj
  have hbel := Go.Joins.below_bytesWorld w.heap.size w 5 t (Nat.le_refl _)
  obtain ⟨W1, hW1⟩ : ∃ W1, W1 = Lib.bytesWorld w 5 t := ⟨_, rfl⟩
  rw [← hW1] at hcv hB hbel
  clear hW1
  obtain ⟨bs, hL⟩ : ∃ bs, bs = t.data.toList := ⟨_, rfl⟩
  have hLn : bs.length = t.size := by rw [hL]; rfl
  rw [← hL] at hB ⊢
  clear hL
  have hmv : IntKind.u64.wrap (IntKind.u64.wrap 65536 - 1) = 65535 := by
    rw [IntKind.wrap_u64, IntKind.wrap_u64]
    decide
  have HB := Hold.mk hbel
  clear hbel
  generalize ht4 : t.size = sz at *
  subst ht
  go_enter Tryz.func108, Tryz.ntmps108
  go_wp2_with fail
  clear hcv
  go_loop [12, 13, 101] (fun vu vn vi => ∃ (k acc : Nat) (a : Int), vu = .bool false ∧ vn = .int .u64 a ∧ vi = .int .i64 k ∧ k ≤ 4 ∧ Hold (a = (acc : Int) ∧ acc < 16 ^ k ∧ hexS 0 bs = hexS acc (bs.drop k)))
    (fun _ _ vi => 4 - (intOf vi).toNat)
  case atStart => exact ⟨0, 0, 0, rfl, rfl, rfl, by omega, ⟨rfl, by decide, rfl⟩⟩
  case round =>
    obtain ⟨k, acc, a, rfl, rfl, rfl, hk, hh⟩ := hrel
    obtain ⟨ha, hacc, hdec⟩ := hh.out
    clear hh
    by_cases hkn : k < 4
    · have h16 : 16 ^ k ≤ 4096 := by
        have : k = 0 ∨ k = 1 ∨ k = 2 ∨ k = 3 := by omega
        rcases this with rfl | rfl | rfl | rfl <;> decide
      have a0 : 0 ≤ a := by omega
      have a1 : a ≤ 4095 := by omega
      have hpow : 16 ^ (k + 1) = 16 ^ k * 16 := Nat.pow_succ 16 k
      have hc := hB k hkn
      have hdrop : bs.drop k = bs[k]'(by omega) :: bs.drop (k + 1) := List.drop_eq_getElem_cons (by omega)
      have hget : bs.getD k 0 = bs[k]'(by omega) := by simp [List.getD, List.getElem?_eq_getElem (show k < bs.length by omega)]
      rw [hdrop] at hdec
      rw [hget] at hc
      generalize bs[k]'(by omega) = c at hc hdec
      have hc256 : c.toNat < 256 := c.toNat_lt
      clear hB hdrop hget
      have hkd := hexV_kind c
      rcases hkd with ⟨hd0, hd1, hv⟩ | ⟨hnd, hv, hl0, hl1⟩ | ⟨hnd, hv, hl⟩
      · have HN : Hold (a * 16 + ((c.toNat : Int) - 48) = ((acc * 16 + (c.toNat - 48) : Nat) : Int) ∧ acc * 16 + (c.toNat - 48) < 16 ^ (k + 1) ∧ hexS 0 bs = hexS (acc * 16 + (c.toNat - 48)) (bs.drop (k + 1))) := ⟨by omega, by omega, hdec.trans (hexS_some hv)⟩
        clear hacc hdec ha hpow h16 hv
        go_wp2_with fail
        exact ⟨⟨k + 1, _, _, rfl, rfl, by go_num, by omega, HN⟩, by simp [intOf]; omega⟩
      · have HLW : ∀ W, Calls Tryz.prog 137 #[.int .u8 (c.toNat : Int)] W fun e w' => e = .returned (.int .u8 ((c ||| 32).toNat : Int)) ∧ w' = W := fun W => lower_any c W
        have hn95 : ¬ ((c.toNat : Int) = 95) := fun e => by
          obtain rfl : c = 95 := byte_eqR (k := 95) e
          revert hl1; decide
        generalize (c ||| 32).toNat = lw at *
        have HN : Hold (a * 16 + ((lw : Int) - 97 + 10) = ((acc * 16 + (lw - 87) : Nat) : Int) ∧ acc * 16 + (lw - 87) < 16 ^ (k + 1) ∧ hexS 0 bs = hexS (acc * 16 + (lw - 87)) (bs.drop (k + 1))) := ⟨by omega, by omega, hdec.trans (hexS_some hv)⟩
        have hn2 : ¬ (48 ≤ (c.toNat : Int) ∧ (c.toNat : Int) ≤ 57) := by omega
        have HL := Hold.mk HLW
        clear hacc hdec ha hpow h16 hv HLW hnd
        go_wp2_with (go_at_call 137; refine (HL.out _).mono ?_; rintro e w' ⟨rfl, rfl⟩)
        all_goals first
          | omega
          | exact ⟨⟨k + 1, _, _, rfl, rfl, by go_num, by omega, HN⟩, by simp [intOf]; omega⟩
      · have HN : Hold (hexS 0 bs = none) := ⟨hdec.trans (hexS_none hv)⟩
        by_cases h95 : c = 95
        · subst h95
          have HL : Hold (∀ W, Calls Tryz.prog 137 #[.int .u8 95] W fun e w' => e = .returned (.int .u8 127) ∧ w' = W) := ⟨fun W => lower_any 95 W⟩
          clear hacc hdec ha hpow h16 hv hnd hl hc256
          go_wp2_with (go_at_call 137; refine (HL.out _).mono ?_; rintro e w' ⟨rfl, rfl⟩)
          all_goals (go_ret2; exact ⟨HB.out, by rw [HN.out]; rfl⟩)
        · have HLW : ∀ W, Calls Tryz.prog 137 #[.int .u8 (c.toNat : Int)] W fun e w' => e = .returned (.int .u8 ((c ||| 32).toNat : Int)) ∧ w' = W := fun W => lower_any c W
          have hlt : (c ||| 32).toNat < 256 := (c ||| 32).toNat_lt
          have hn95 : ¬ ((c.toNat : Int) = 95) := fun e => h95 (byte_eqR (k := 95) e)
          generalize (c ||| 32).toNat = lw at *
          have HL := Hold.mk HLW
          have hn2 : ¬ (48 ≤ (c.toNat : Int) ∧ (c.toNat : Int) ≤ 57) := by omega
          clear hacc hdec ha hpow h16 hv HLW hnd h95
          go_wp2_with (go_at_call 137; refine (HL.out _).mono ?_; rintro e w' ⟨rfl, rfl⟩)
          all_goals first
            | omega
            | (go_ret2; exact ⟨HB.out, by rw [HN.out]; rfl⟩)
    · obtain rfl : k = 4 := by omega
      have HN : Hold (hexS 0 bs = some acc) := ⟨by rw [hdec, List.drop_eq_nil_of_le (by omega)]; rfl⟩
      have HA := Hold.mk ha
      clear hacc hdec ha hB
      go_wp2_with fail
      go_ret2
      exact ⟨HB.out, by rw [HN.out]; first | rfl | (rw [HA.out]; rfl)⟩
end Go.Proofs.YticlnijkfclgcaaGreatDoor

namespace Go.Proofs.YticlnijkfclgcaaGreatDoor
open Go.Shelf Go.RowKit

def UintPost (l : List UInt8) (w : World) (e : Ending) (w' : World) : Prop :=
  Below w.heap.size w w' ∧ match hexS 0 l with
    | some n => e = .returned (.tuple #[.int .u64 (n : Int), .nilIface])
    | none => ∃ t p, e = .returned (.tuple #[.int .u64 0, .iface t p])
set_option maxHeartbeats 4000000 in
set_option maxRecDepth 100000 in
theorem parseUint_any (s : ByteArray) (b : Nat) (w : World) (hs : s.size = 4) (hE : Errs b w) :
    Calls Tryz.prog 107 #[.string s, .int .i64 16, .int .i64 16] w (UintPost s.data.toList w) := by
  have HX := Hold.mk (hexIn_any s w hs)
  have HE := Hold.mk hE
  have hsz : s.size ≤ 281474976710656 := by omega
  clear hE hs
  cases hx : hexS 0 s.data.toList with
  | some n =>
    have HN := Hold.mk hx
    go_enter Tryz.func107, Tryz.ntmps107
    go_wp2_with fail
    refine HX.out.mono ?_
    rintro e w1 ⟨hb, he⟩
    rw [HN.out] at he
    dsimp only at he
    subst he
    have HB := Hold.mk hb
    clear hb HX hx
    go_wp2_with fail
    go_ret2
    exact ⟨HB.out, by rw [HN.out]; rfl⟩
  | none =>
    have HN := Hold.mk hx
    go_enter Tryz.func107, Tryz.ntmps107
    go_wp2_with fail
    refine HX.out.mono ?_
    rintro e w1 ⟨hb, he⟩
    rw [HN.out] at he
    dsimp only at he
    subst he
    have HB := Hold.mk hb
    obtain ⟨t, p, hc⟩ := (HE.out.below hb).syn
    have HC := Hold.mk hc
    clear hb HX hx hc
    go_wp2_with fail
    refine (Any.strconv_toError_syntax { Tryz.laysPI with } ⟨#[80, 97, 114, 115, 101, 85, 105, 110, 116]⟩ s 16 16 _ w1 hsz HC.out (.inr ⟨t, p, rfl⟩)).mono ?_
    rintro e w2 ⟨N, rfl, _, _, hb2⟩
    replace HB := Hold.mk (HB.out.trans (hb2.mono HB.out.size))
    clear hb2
    go_wp2_with fail
    go_ret2
    exact ⟨HB.out, by rw [HN.out]; exact ⟨_, _, rfl⟩⟩
/-- four digits from the place on, as a rune; or it is bad -/
def HexR (b : Nat) (s : ByteArray) (i : Nat) (bad : Bool) (w : World) (e : Ending) (w' : World) : Prop :=
  But b w w' ∧ ∃ n : Nat, n < 65536 ∧ e = .returned (.int .i32 (n : Int)) ∧ ∃ j, match hex4L (dl s i) with
    | some (m, r) => n = m ∧ dl s j = r ∧ RB b s j bad w'
    | none => RB b s j true w'
theorem hexV_lt {c : UInt8} {d : Nat} (h : hexV c = some d) : d < 16 := by
  unfold hexV at h
  split at h
  · cases h; omega
  · split at h
    · cases h; omega
    · split at h
      · cases h; omega
      · cases h
theorem hexS_lt : ∀ (l : List UInt8) (a n k : Nat), hexS a l = some n → a < 16 ^ k → n < 16 ^ (k + l.length)
  | [], a, n, k, h, ha => by rw [hexS] at h; cases h; exact ha
  | c :: l, a, n, k, h, ha => by
    rw [hexS] at h
    split at h
    · rename_i d hd
      have := hexV_lt hd
      have h1 : 16 ^ (k + 1) = 16 ^ k * 16 := Nat.pow_succ 16 k
      have h2 := hexS_lt l (a * 16 + d) n (k + 1) h (by omega)
      rw [List.length_cons, show k + (l.length + 1) = k + 1 + l.length by omega]; exact h2
    · cases h
theorem hex_wrap {n : Nat} (h : n < 65536) : IntKind.i32.wrap (n : Int) = (n : Int) := by
  simp [IntKind.wrap, IntKind.bits, IntKind.signed]; omega
set_option maxHeartbeats 4000000 in
set_option maxRecDepth 100000 in
theorem hex_any (b : Nat) (s : ByteArray) (i : Nat) (bad : Bool) (w : World) (h : RB b s i bad w) (hs : s.size ≤ 1000000) (hE : Errs b w) :
    Calls Tryz.prog 82 #[.pointer (some ⟨b, 0, none⟩)] w (HexR b s i bad w) := by
  have HR := Hold.mk h
  have HE := Hold.mk hE
  have hle := h.le
  have x0 := h.c0
  have x1 := h.c1
  have hw1 : IntKind.i64.wrap ((i : Int) + 4) = (i : Int) + 4 := by rw [IntKind.wrap_i64]; omega
  by_cases h4 : s.size < i + 4
  · have x2 := h.c2
    have f2 := h.fz 2
    have hgt : (s.size : Int) < (i : Int) + 4 := by omega
    have HL : Hold (hex4L (dl s i) = none) := ⟨by unfold hex4L; rw [if_pos (by rw [dl_len]; omega)]⟩
    clear h hE
    go_enter Tryz.func82, Tryz.ntmps82
    go_wp2_with fail
    go_quiet (fail)
    go_wp2_with fail
    go_ret
    exact ⟨((But.refl b w).drewN nq).trans (But.set _ _ _), 0, by omega, rfl, i, by rw [HL.out]; exact (HR.out.drewN nq).worse⟩
  · have hge : ¬ (s.size : Int) < (i : Int) + 4 := by omega
    have hxs : (s.extract i (i + 4)).size = 4 := by rw [ByteArray.size_extract]; omega
    have hxl : (s.extract i (i + 4)).data.toList = (dl s i).take 4 := by rw [dl_take, show i + 4 - i = 4 by omega]
    have hlen : ¬ (dl s i).length < 4 := by rw [dl_len]; omega
    have hn4 : ((i : Int) + 4).toNat = i + 4 := by omega
    have hi4 : 0 ≤ (i : Int) + 4 := by omega
    have HX : Hold (∀ W, Errs b W → Calls Tryz.prog 107 #[.string (s.extract i (i + 4)), .int .i64 16, .int .i64 16] W (UintPost ((dl s i).take 4) W)) := ⟨fun W hW => by
      have := parseUint_any (s.extract i (i + 4)) b W hxs hW
      rw [hxl] at this; exact this⟩
    have HDR : Hold (dl s (i + 4) = (dl s i).drop 4) := ⟨(dl_drop s i 4).symm⟩
    have h4s : i + 4 ≤ s.size := by omega
    have hle4 : (i : Int) ≤ (i : Int) + 4 := by omega
    clear h hE hxs hxl
    go_enter Tryz.func82, Tryz.ntmps82
    go_wp2_with fail
    go_quiet (fail)
    go_wp2_with fail
    obtain ⟨wd, hwd⟩ : ∃ wd, wd = (w.drewN nq).drew := ⟨_, rfl⟩
    refine wp_region_mixC (GrowC wd) 20 rfl (by kernel_rfl) ?_
    rw [← hwd]
    have HR2 : Hold (RB b s i bad wd) := ⟨by rw [hwd]; exact (HR.out.drewN nq).drew⟩
    have HB : Hold (But b w wd) := ⟨by rw [hwd]; exact ((But.refl b w).drewN nq).drew⟩
    have HE2 := Hold.mk (HE.out.but HB.out)
    clear hwd HR HE x0 x1
    have y0 := Grow.cell HR2.out.c0
    have y1 := Grow.cell HR2.out.c1
    refine mixl_seg (by kernel_rfl) (fun _ _ d _ _ h => by cases d <;> exact h) [0, 1, 2, 3, 4, 5, 6, 7, 8, 9, 10, 11, 12, 13] [_, _, _, _, _, _, _, _, _, _, _, _, _, _] 6 20 rfl _ _ _ rfl (by kernel_rfl) (growC (Below.refl _ _)) ?_
    repeat (go_big_quiet_step (fail))
    refine wpQuiet_nil ?_
    refine mixl_act (i := 14) rfl (by kernel_rfl) (growC (Below.refl _ _)) rfl (fun K hK => ?_)
    go_wp2_with fail
    refine (HX.out wd HE2.out).mono ?_
    rintro e w1 ⟨hb1, he⟩
    replace HB := Hold.mk (HB.out.trans (But.of_below hb1))
    replace HR2 := Hold.mk (HR2.out.below hb1)
    have HB1 := Hold.mk hb1
    clear hb1 y0 y1
    have x1 := HR2.out.c1
    have f1 := HR2.out.fz 1
    have x2 := HR2.out.c2
    have f2 := HR2.out.fz 2
    cases hx : hexS 0 ((dl s i).take 4) with
    | some n =>
      rw [hx] at he
      dsimp only at he
      subst he
      have hn : n < 65536 := by
        have h1 := hexS_lt _ 0 n 0 hx (by decide)
        have h2 : ((dl s i).take 4).length = 4 := by rw [List.length_take]; omega
        rw [h2] at h1; exact h1
      have HL : Hold (hex4L (dl s i) = some (n, dl s (i + 4))) := ⟨by unfold hex4L; rw [if_neg hlen, hx, HDR.out]; rfl⟩
      have hwn := hex_wrap hn
      have HN := Hold.mk hn
      clear hx hlen hn
      go_wp2_with fail
      refine mixl_seg (by kernel_rfl) (fun _ _ d _ _ h => by cases d <;> exact h) [15, 16, 17, 18, 19] [_, _, _, _, _] 0 5 rfl _ _ _ rfl (by kernel_rfl) (growC HB1.out) ?_
      repeat (go_big_quiet_step (fail))
      refine wpQuiet_nil ?_
      refine mix_done (by kernel_rfl) (growC HB1.out) ?_
      go_wp2_with fail
      go_ret
      exact ⟨HB.out.trans (But.set _ _ _), n, HN.out, rfl, i + 4, by rw [HL.out]; exact ⟨rfl, rfl, HR2.out.to h4s⟩⟩
    | none =>
      rw [hx] at he
      dsimp only at he
      obtain ⟨tt, pp, rfl⟩ := he
      have HL : Hold (hex4L (dl s i) = none) := ⟨by unfold hex4L; rw [if_neg hlen, hx]; rfl⟩
      clear hx hlen
      go_wp2_with fail
      refine mixl_seg (by kernel_rfl) (fun _ _ d _ _ h => by cases d <;> exact h) [15, 16, 17, 18, 19] [_, _, _, _, _] 0 5 rfl _ _ _ rfl (by kernel_rfl) (growC HB1.out) ?_
      repeat (go_big_quiet_step (fail))
      refine wpQuiet_nil ?_
      refine mix_done (by kernel_rfl) (growC HB1.out) ?_
      go_wp2_with fail
      go_ret
      exact ⟨(HB.out.trans (But.set _ _ _)).trans (But.set _ _ _), 0, by omega, rfl, i + 4, by rw [HL.out]; exact (HR2.out.worse).to h4s⟩
end Go.Proofs.YticlnijkfclgcaaGreatDoor

namespace Go.Proofs.YticlnijkfclgcaaGreatDoor
open Go.Shelf Go.RowKit

def tabS (k : Nat) : UInt8 := ([34, 92, 47, 8, 12, 10, 13, 9] : List UInt8).getD k 0
theorem short_kind (c : UInt8) : (shortL c = none ∧ Lib.indexByte [34, 92, 47, 98, 102, 110, 114, 116] c = -1) ∨ (∃ k : Nat, k < 8 ∧ Lib.indexByte [34, 92, 47, 98, 102, 110, 114, 116] c = (k : Int) ∧ shortL c = some (tabS k)) := by
  have h : ∀ a : Fin 256, decide ((shortL (UInt8.ofNat a.val) = none ∧ Lib.indexByte [34, 92, 47, 98, 102, 110, 114, 116] (UInt8.ofNat a.val) = -1) ∨
    ((Lib.indexByte [34, 92, 47, 98, 102, 110, 114, 116] (UInt8.ofNat a.val)).toNat < 8 ∧ Lib.indexByte [34, 92, 47, 98, 102, 110, 114, 116] (UInt8.ofNat a.val) = ((Lib.indexByte [34, 92, 47, 98, 102, 110, 114, 116] (UInt8.ofNat a.val)).toNat : Int) ∧ shortL (UInt8.ofNat a.val) = some (tabS (Lib.indexByte [34, 92, 47, 98, 102, 110, 114, 116] (UInt8.ofNat a.val)).toNat))) = true := by decide +kernel
  obtain ⟨a, rfl⟩ := byte_fin c
  rcases of_decide_eq_true (h a) with h | h
  · exact .inl h
  · exact .inr ⟨_, h⟩
theorem index_short (c : UInt8) (w : World) :
    Calls Tryz.prog 42 #[.string ⟨#[34, 92, 47, 98, 102, 110, 114, 116]⟩, .int .u8 c.toNat] w fun e w' => e = .returned (.int .i64 (Lib.indexByte [34, 92, 47, 98, 102, 110, 114, 116] c)) ∧ w' = w := by
  have h : Calls Tryz.prog 42 #[.string ⟨#[34, 92, 47, 98, 102, 110, 114, 116]⟩, .int .u8 c.toNat] w fun e w' => e = .returned (.int .i64 (Lib.indexByte [34, 92, 47, 98, 102, 110, 114, 116] (c.toNat : Int).toNat.toUInt8)) ∧ w' = w :=
    Any.strings_IndexByte Tryz.laysIR ⟨#[34, 92, 47, 98, 102, 110, 114, 116]⟩ c.toNat w
  simpa using h
theorem tab_cut {q : Nat} (h : q < 8) : (⟨#[34, 92, 47, 8, 12, 10, 13, 9]⟩ : ByteArray).extract q (q + 1) = ⟨#[tabS q]⟩ := by
  have : ∀ q : Fin 8, (⟨#[34, 92, 47, 8, 12, 10, 13, 9]⟩ : ByteArray).extract q.val (q.val + 1) = ⟨#[tabS q.val]⟩ := by decide +kernel
  exact this ⟨q, h⟩
theorem run_tab {q : Nat} (h : q < 8) (w : World) : (Instr.slice 9 (.string ⟨#[34, 92, 47, 8, 12, 10, 13, 9]⟩) (some (.int .i64 (q : Int))) (some (.int .i64 ((q : Int) + 1))) none).run Tryz.prog w = .ok (.string ⟨#[tabS q]⟩) w := by
  rw [run_slice_string w 9 _ .i64 .i64 _ _ Tryz.underlying9 (by omega) (by omega) (by simp [ByteArray.size]; omega), ← tab_cut h]
  congr 3
/-- a rune as a string -/
theorem conv_any (z : Int) : ∃ u : ByteArray, u.size ≤ 4 ∧ (∀ n : Nat, z = (n : Int) → encL n = u.data.toList) ∧ ∀ W, (convert 21 9 (.int .i32 z)).run Tryz.prog W = .ok (.string u) W :=
  ⟨Utf8.encode z, encode_size_le z, fun n h => by rw [encL_eq, h], fun W => run_convert_int_string W _ _ _ z (by rw [Tryz.underlying21]; rfl) Tryz.underlying9⟩
/-- a rune's place, and whether it is bad -/
theorem HexR.flag {b : Nat} {s : ByteArray} {i : Nat} {bad : Bool} {w w' : World} {e : Ending} (h : HexR b s i bad w e w') : But b w w' ∧ ∃ (n j : Nat) (bd : Bool), n < 65536 ∧ e = .returned (.int .i32 (n : Int)) ∧ RB b s j bd w' ∧ (bd = false → bad = false ∧ hex4L (dl s i) = some (n, dl s j)) ∧ (bd = true → bad = true ∨ hex4L (dl s i) = none) := by
  obtain ⟨hb, n, hn, he, j, hm⟩ := h
  refine ⟨hb, n, j, ?_⟩
  cases hx : hex4L (dl s i) with
  | none =>
    rw [hx] at hm
    exact ⟨true, hn, he, hm, fun h => by simp at h, fun _ => .inr rfl⟩
  | some p =>
    obtain ⟨m, r⟩ := p
    rw [hx] at hm
    obtain ⟨rfl, rfl, hr⟩ := hm
    exact ⟨bad, hn, he, hr, fun h => ⟨h, rfl⟩, fun h => .inl h⟩
theorem uniL_no {l : List UInt8} (h : hex4L l = none) : uniL l = none := by unfold uniL; rw [h]
theorem uniL_sur {l r : List UInt8} {n : Nat} (h : hex4L l = some (n, r)) (hn : 55296 ≤ n ∧ n < 56320) (hp : [92, 117].isPrefixOf r = false) : uniL l = none := by
  unfold uniL; rw [h]; dsimp only; rw [if_pos hn, if_neg (by rw [hp]; simp)]
theorem uniL_sur2 {l r : List UInt8} {n : Nat} (h : hex4L l = some (n, r)) (hn : 55296 ≤ n ∧ n < 56320) (h2 : hex4L (r.drop 2) = none) : uniL l = none := by
  unfold uniL; rw [h]; dsimp only; rw [if_pos hn, h2]; split <;> rfl
theorem uniL_sur3 {l r r2 : List UInt8} {n m : Nat} (h : hex4L l = some (n, r)) (hn : 55296 ≤ n ∧ n < 56320) (h2 : hex4L (r.drop 2) = some (m, r2)) (hm : ¬ (56320 ≤ m ∧ m ≤ 57343)) : uniL l = none := by
  unfold uniL; rw [h]; dsimp only; rw [if_pos hn, h2]; dsimp only; rw [if_neg hm]; split <;> rfl
theorem uniL_sur4 {l r r2 : List UInt8} {n m : Nat} (h : hex4L l = some (n, r)) (hn : 55296 ≤ n ∧ n < 56320) (hp : [92, 117].isPrefixOf r = true) (h2 : hex4L (r.drop 2) = some (m, r2)) (hm : 56320 ≤ m ∧ m ≤ 57343) : uniL l = some (encL (65536 + (n - 55296) * 1024 + (m - 56320)), r2) := by
  unfold uniL; rw [h]; dsimp only; rw [if_pos hn, if_pos hp, h2]; dsimp only; rw [if_pos hm]
theorem uniL_low {l r : List UInt8} {n : Nat} (h : hex4L l = some (n, r)) (hn : ¬ (55296 ≤ n ∧ n < 56320)) (h2 : 56320 ≤ n ∧ n ≤ 57343) : uniL l = none := by
  unfold uniL; rw [h]; dsimp only; rw [if_neg hn, if_pos h2]
theorem uniL_plain {l r : List UInt8} {n : Nat} (h : hex4L l = some (n, r)) (hn : ¬ (55296 ≤ n ∧ n < 56320)) (h2 : ¬ (56320 ≤ n ∧ n ≤ 57343)) : uniL l = some (encL n, r) := by
  unfold uniL; rw [h]; dsimp only; rw [if_neg hn, if_neg h2]
/-- what stands behind a backslash -/
def EscPost (b : Nat) (s : ByteArray) (i : Nat) (w : World) (e : Ending) (w' : World) : Prop :=
  But b w w' ∧ ∃ (bd : Bool) (t : ByteArray) (j : Nat), e = .returned (.string t) ∧ t.size ≤ 4 ∧ RB b s j bd w' ∧ (bd = false → escL (dl s i) = some (t.data.toList, dl s j)) ∧ (bd = true → escL (dl s i) = none)
set_option maxHeartbeats 8000000 in
set_option maxRecDepth 100000 in
theorem escape_any (b : Nat) (s : ByteArray) (i : Nat) (w : World) (h : RB b s i false w) (hs : s.size ≤ 1000000) (hE : Errs b w) :
    Calls Tryz.prog 58 #[.pointer (some ⟨b, 0, none⟩)] w (EscPost b s i w) := by
  have HR := Hold.mk h
  have HE := Hold.mk hE
  have x0 := h.c0
  have x1 := h.c1
  have x2 := h.c2
  have f1 := h.fz 1
  have f2 := h.fz 2
  have hle := h.le
  clear h hE
  by_cases hi : i < s.size
  · obtain ⟨c, hc⟩ : ∃ c, s[i] = c := ⟨_, rfl⟩
    have HDL : Hold (dl s i = c :: dl s (i + 1)) := ⟨by rw [dl_cons hi, hc]⟩
    have hnz : ((i : Int) == (s.size : Int)) = false := by simp; omega
    rcases short_kind c with ⟨hsh, hix⟩ | ⟨k, hk, hix, hsh⟩
    · have HIX : Hold (∀ W, Calls Tryz.prog 42 #[.string ⟨#[34, 92, 47, 98, 102, 110, 114, 116]⟩, .int .u8 c.toNat] W fun e w' => e = .returned (.int .i64 (-1)) ∧ w' = W) := ⟨fun W => by have := index_short c W; rw [hix] at this; exact this⟩
      by_cases h117 : c = 117
      · subst h117
        have HL : Hold (escL (dl s i) = uniL (dl s (i + 1))) := ⟨by rw [HDL.out, escL, hsh]; rfl⟩
        clear hsh hix
        go_enter Tryz.func58, Tryz.ntmps58
        go_wp2_with fail
        go_quiet (fail)
        go_wp2_with fail
        go_quiet (fail)
        go_wp2_with (go_at_call 42; refine (HIX.out _).mono ?_; rintro e w' ⟨rfl, rfl⟩)
        refine (hex_any b s (i + 1) false _ ((HR.out.drewN _).to1 hi) hs (HE.out.but (((But.refl b w).drewN _).trans (But.set _ _ _)))).mono ?_
        rintro e w1 hx
        obtain ⟨hb, n, j, bd, hn, he, hr, hf, ht⟩ := hx.flag
        obtain ⟨z, hz⟩ : ∃ z : Int, z = (n : Int) := ⟨_, rfl⟩
        rw [← hz] at he
        subst he
        clear hx
        have HB : Hold (But b w w1) := ⟨(((But.refl b w).drewN _).trans (But.set _ _ _)).trans hb⟩
        have HF : Hold (bd = false → hex4L (dl s (i + 1)) = some (n, dl s j)) := ⟨fun h => (hf h).2⟩
        have HT : Hold (bd = true → hex4L (dl s (i + 1)) = none) := ⟨fun h => (ht h).elim (fun h => by simp at h) id⟩
        replace HR := Hold.mk hr
        replace HE := Hold.mk (HE.out.but HB.out)
        have hjs := hr.le
        clear hb hf ht hr x0 x1 x2 f1 f2 hc hnz HIX HDL
        by_cases hsur : 55296 ≤ n ∧ n < 56320
        · have k0 : (55296 : Int) ≤ z := by omega
          have k1 : z < 56320 := by omega
          have HZ := Hold.mk hz
          clear hz
          go_wp2_with fail
          obtain ⟨wd, hwd⟩ : ∃ wd, wd = w1.drew := ⟨_, rfl⟩
          refine wp_region_mixC (GrowC wd) 17 rfl (by kernel_rfl) ?_
          rw [← hwd]
          replace HR : Hold (RB b s j bd wd) := ⟨by rw [hwd]; exact HR.out.drew⟩
          replace HB : Hold (But b w wd) := ⟨by rw [hwd]; exact HB.out.drew⟩
          replace HE : Hold (Errs b wd) := ⟨by rw [hwd]; exact HE.out.but (But.refl b w1).drew⟩
          clear hwd
          have y0 := Grow.cell HR.out.c0
          have y1 := Grow.cell HR.out.c1
          refine mixl_seg (by kernel_rfl) (fun _ _ d _ _ h => by cases d <;> exact h) [0, 1, 2, 3, 4, 5, 6, 7, 8, 9, 10, 11, 12, 13, 14] [_, _, _, _, _, _, _, _, _, _, _, _, _, _, _] 2 17 rfl _ _ _ rfl (by kernel_rfl) (growC (Below.refl _ _)) ?_
          repeat (go_big_quiet_step (fail))
          refine wpQuiet_nil ?_
          have hcut : (s.extract j s.size).data.toList = dl s j := cut_at
          have HPF := Hold.mk (fun W => by have := prefix_any (s.extract j s.size) ⟨#[92, 117]⟩ W; rw [hcut] at this; exact this)
          clear hcut
          cases hpf : [92, 117].isPrefixOf (dl s j) with
          | false =>
            have HU : Hold (uniL (dl s (i + 1)) = none) := ⟨by
              cases bd with
              | false => exact uniL_sur (HF.out rfl) hsur hpf
              | true => exact uniL_no (HT.out rfl)⟩
            replace HPF : Hold (∀ W, Calls Tryz.prog 56 #[.string (s.extract j s.size), .string ⟨#[92, 117]⟩] W fun e w' => e = .returned (.bool false) ∧ w' = W) := ⟨fun W => by have := HPF.out W; rw [show Lib.hasPrefix (dl s j) [92, 117] = [92, 117].isPrefixOf (dl s j) from rfl, hpf] at this; exact this⟩
            clear hpf hsur
            refine mixl_act (i := 15) rfl (by kernel_rfl) (growC (Below.refl _ _)) rfl (fun K hK => ?_)
            go_wp2_with fail
            rw [show (min (j : Int) (s.size : Int)).toNat = j by omega]
            refine (HPF.out _).mono ?_
            rintro e w2 ⟨rfl, rfl⟩
            go_wp2_with fail
            refine mixl_seg (by kernel_rfl) (fun _ _ d _ _ h => by cases d <;> exact h) [16] [_] 0 1 rfl _ _ _ rfl (by kernel_rfl) (growC (Below.refl _ _)) ?_
            repeat (go_big_quiet_step (fail))
            refine wpQuiet_nil ?_
            refine mix_done (by kernel_rfl) (growC (Below.refl _ _)) ?_
            clear y0 y1
            have x2 := HR.out.c2
            have f2 := HR.out.fz 2
            go_wp2_with fail
            go_ret
            exact ⟨HB.out.trans (But.set _ _ _), true, ⟨#[]⟩, j, rfl, by decide, HR.out.worse, fun h => by simp at h, fun _ => HL.out.trans HU.out⟩
          | true =>
            have hj2 : j + 2 ≤ s.size := by
              obtain ⟨t, ht⟩ := List.isPrefixOf_iff_prefix.1 hpf
              have h1 := congrArg List.length ht
              rw [List.length_append, dl_len] at h1
              simp at h1; omega
            have HPT := Hold.mk hpf
            replace HPF : Hold (∀ W, Calls Tryz.prog 56 #[.string (s.extract j s.size), .string ⟨#[92, 117]⟩] W fun e w' => e = .returned (.bool true) ∧ w' = W) := ⟨fun W => by have := HPF.out W; rw [show Lib.hasPrefix (dl s j) [92, 117] = [92, 117].isPrefixOf (dl s j) from rfl, hpf] at this; exact this⟩
            have HSUR := Hold.mk hsur
            clear hpf hsur
            refine mixl_act (i := 15) rfl (by kernel_rfl) (growC (Below.refl _ _)) rfl (fun K hK => ?_)
            go_wp2_with fail
            rw [show (min (j : Int) (s.size : Int)).toNat = j by omega]
            refine (HPF.out _).mono ?_
            rintro e w2 ⟨rfl, rfl⟩
            go_wp2_with fail
            refine mixl_seg (by kernel_rfl) (fun _ _ d _ _ h => by cases d <;> exact h) [16] [_] 0 1 rfl _ _ _ rfl (by kernel_rfl) (growC (Below.refl _ _)) ?_
            repeat (go_big_quiet_step (fail))
            refine wpQuiet_nil ?_
            refine mix_done (by kernel_rfl) (growC (Below.refl _ _)) ?_
            clear y0 y1 HPF
            have x1 := HR.out.c1
            have f1 := HR.out.fz 1
            go_wp2_with fail
            have HR2 := HR.out.to hj2
            rw [show ((j + 2 : Nat) : Int) = (j : Int) + 2 by omega] at HR2
            refine (hex_any b s (j + 2) bd _ HR2 hs (HE.out.but (But.set _ _ _))).mono ?_
            clear HR2 x1 f1
            rintro e w3 hx
            obtain ⟨hb, m, j2, bd2, hm, he, hr, hf, ht⟩ := hx.flag
            obtain ⟨y, hy⟩ : ∃ y : Int, y = (m : Int) := ⟨_, rfl⟩
            rw [← hy] at he
            subst he
            have HB3 : Hold (But b w w3) := ⟨(HB.out.trans (But.set _ _ _)).trans hb⟩
            have HF2 : Hold (bd2 = false → bd = false ∧ hex4L ((dl s j).drop 2) = some (m, dl s j2)) := ⟨fun h => by rw [dl_drop]; exact hf h⟩
            have HT2 : Hold (bd2 = true → bd = true ∨ hex4L ((dl s j).drop 2) = none) := ⟨fun h => by rw [dl_drop]; exact ht h⟩
            have HR3 := Hold.mk hr
            clear hb hx hf ht hr HB HE
            have x2 := HR3.out.c2
            have f2 := HR3.out.fz 2
            have hz0 : z = (n : Int) := HZ.out
            by_cases hlow : 56320 ≤ m ∧ m ≤ 57343
            · have k3 : ¬ y < 56320 := by omega
              have k4 : ¬ 57343 < y := by omega
              have k5 : y ≤ 57343 := by omega
              have k6 : 56320 ≤ y := by omega
              have k7 : z ≤ 56319 := by omega
              have HU : Hold ((bd2 = false → uniL (dl s (i + 1)) = some (encL (65536 + (n - 55296) * 1024 + (m - 56320)), dl s j2)) ∧ (bd2 = true → uniL (dl s (i + 1)) = none)) := ⟨fun h => uniL_sur4 (HF.out (HF2.out h).1) HSUR.out HPT.out (HF2.out h).2 hlow, fun h => by
                cases bd with
                | true => exact uniL_no (HT.out rfl)
                | false => exact uniL_sur2 (HF.out rfl) HSUR.out ((HT2.out h).elim (fun h => by simp at h) id)⟩
              have hval : 65536 + (z - 55296) * 1024 + y - 56320 = ((65536 + (n - 55296) * 1024 + (m - 56320) : Nat) : Int) := by
                have := HSUR.out; omega
              obtain ⟨u, hsz, hen, hcv⟩ := conv_any (65536 + (z - 55296) * 1024 + y - 56320)
              have HEN := Hold.mk (hen _ hval)
              have HSZ := Hold.mk hsz
              clear hen hsz hval hy hz0 hlow HZ
              go_wp2_with fail
              go_ret
              exact ⟨HB3.out, bd2, u, j2, rfl, HSZ.out, HR3.out, fun h => HL.out.trans ((HU.out.1 h).trans (by rw [HEN.out])), fun h => HL.out.trans (HU.out.2 h)⟩
            · have HU : Hold (uniL (dl s (i + 1)) = none) := ⟨by
                cases bd with
                | true => exact uniL_no (HT.out rfl)
                | false =>
                  cases bd2 with
                  | true => exact uniL_sur2 (HF.out rfl) HSUR.out ((HT2.out rfl).elim (fun h => by simp at h) id)
                  | false => exact uniL_sur3 (HF.out rfl) HSUR.out (HF2.out rfl).2 hlow⟩
              have k5 : y < 65536 := by omega
              have k6 : 0 ≤ y := by omega
              have k7 : z ≤ 56319 := by omega
              obtain ⟨u, hsz, _, hcv⟩ := conv_any (65536 + (z - 55296) * 1024 + y - 56320)
              have HSZ := Hold.mk hsz
              have hways : y < 56320 ∨ 57343 < y := by omega
              clear hsz hy hz0 hlow HZ
              rcases hways with k3 | k3
              · go_wp2_with fail
                go_ret
                exact ⟨HB3.out.trans (But.set _ _ _), true, u, j2, rfl, HSZ.out, HR3.out.worse, fun h => by simp at h, fun _ => HL.out.trans HU.out⟩
              · have k4 : ¬ y < 56320 := by omega
                go_wp2_with fail
                go_ret
                exact ⟨HB3.out.trans (But.set _ _ _), true, u, j2, rfl, HSZ.out, HR3.out.worse, fun h => by simp at h, fun _ => HL.out.trans HU.out⟩
        · have hns : ¬ ((55296 : Int) ≤ z ∧ z < 56320) := by omega
          by_cases hlow : 56320 ≤ n ∧ n ≤ 57343
          · have HU : Hold (uniL (dl s (i + 1)) = none) := ⟨by
              cases bd with
              | false => exact uniL_low (HF.out rfl) hsur hlow
              | true => exact uniL_no (HT.out rfl)⟩
            have k0 : (55296 : Int) ≤ z := by omega
            have k1 : ¬ z < 56320 := by omega
            have k2 : (56320 : Int) ≤ z := by omega
            have k3 : z ≤ 57343 := by omega
            have x2 := HR.out.c2
            have f2 := HR.out.fz 2
            clear hsur hlow hns
            obtain ⟨u, hsz, hen, hcv⟩ := conv_any z
            have HSZ := Hold.mk hsz
            clear hen hsz
            clear hz
            go_wp2_with fail
            go_ret
            exact ⟨HB.out.trans (But.set _ _ _), true, u, j, rfl, HSZ.out, HR.out.worse, fun h => by simp at h, fun _ => HL.out.trans HU.out⟩
          · have HU : Hold ((bd = false → uniL (dl s (i + 1)) = some (encL n, dl s j)) ∧ (bd = true → uniL (dl s (i + 1)) = none)) := ⟨fun h => uniL_plain (HF.out h) hsur hlow, fun h => uniL_no (HT.out h)⟩
            have hways : n < 55296 ∨ 57343 < n := by omega
            rcases hways with hw | hw
            · have k0 : ¬ (55296 : Int) ≤ z := by omega
              have k2 : ¬ (56320 : Int) ≤ z := by omega
              clear hsur hlow hns hw
              obtain ⟨u, hsz, hen, hcv⟩ := conv_any z
              have HEN := Hold.mk (hen n hz)
              have HSZ := Hold.mk hsz
              clear hen hsz
              clear hz
              go_wp2_with fail
              go_ret
              exact ⟨HB.out, bd, u, j, rfl, HSZ.out, HR.out, fun h => HL.out.trans ((HU.out.1 h).trans (by rw [HEN.out])), fun h => HL.out.trans (HU.out.2 h)⟩
            · have k0 : (55296 : Int) ≤ z := by omega
              have k1 : ¬ z < 56320 := by omega
              have k2 : (56320 : Int) ≤ z := by omega
              have k3 : ¬ z ≤ 57343 := by omega
              clear hsur hlow hns hw
              obtain ⟨u, hsz, hen, hcv⟩ := conv_any z
              have HEN := Hold.mk (hen n hz)
              have HSZ := Hold.mk hsz
              clear hen hsz
              clear hz
              go_wp2_with fail
              go_ret
              exact ⟨HB.out, bd, u, j, rfl, HSZ.out, HR.out, fun h => HL.out.trans ((HU.out.1 h).trans (by rw [HEN.out])), fun h => HL.out.trans (HU.out.2 h)⟩
      · have HL : Hold (escL (dl s i) = none) := ⟨by rw [HDL.out, escL, hsh, if_neg h117]⟩
        have b117 : ((c.toNat : Int) != 117) = true := by rw [bne_iff_ne]; exact fun e => h117 (byte_eqR (k := 117) e)
        clear hsh hix h117
        go_enter Tryz.func58, Tryz.ntmps58
        go_wp2_with fail
        go_quiet (fail)
        go_wp2_with fail
        go_quiet (fail)
        go_wp2_with (go_at_call 42; refine (HIX.out _).mono ?_; rintro e w' ⟨rfl, rfl⟩)
        go_ret
        exact ⟨(((But.refl b w).drewN _).trans (But.set _ _ _)).trans (But.set _ _ _), true, ⟨#[]⟩, i + 1, rfl, by decide, ((HR.out.drewN _).to1 hi).worse, fun h => by simp at h, fun _ => HL.out⟩
    · have HIX : Hold (∀ W, Calls Tryz.prog 42 #[.string ⟨#[34, 92, 47, 98, 102, 110, 114, 116]⟩, .int .u8 c.toNat] W fun e w' => e = .returned (.int .i64 (k : Int)) ∧ w' = W) := ⟨fun W => by have := index_short c W; rw [hix] at this; exact this⟩
      have HL : Hold (escL (dl s i) = some ([tabS k], dl s (i + 1))) := ⟨by rw [HDL.out, escL, hsh]⟩
      have s1 := run_tab hk
      have e1 := IntWalk.i64_in ((k : Int) + 1) (by omega)
      clear hsh hix
      go_enter Tryz.func58, Tryz.ntmps58
      go_wp2_with fail
      go_quiet (fail)
      go_wp2_with fail
      go_quiet (fail)
      go_wp2_with (go_at_call 42; refine (HIX.out _).mono ?_; rintro e w' ⟨rfl, rfl⟩)
      go_ret
      exact ⟨((But.refl b w).drewN _).trans (But.set _ _ _), false, ⟨#[tabS k]⟩, i + 1, rfl, by simp [ByteArray.size], (HR.out.drewN _).to1 hi, fun _ => HL.out, fun h => by simp at h⟩
  · obtain rfl : i = s.size := by omega
    have HL : Hold (escL (dl s s.size) = none) := ⟨by rw [dl_end]; rfl⟩
    clear hi hle
    go_enter Tryz.func58, Tryz.ntmps58
    go_wp2_with fail
    go_quiet (fail)
    go_wp2_with fail
    go_ret
    exact ⟨((But.refl b w).drewN nq).trans (But.set _ _ _), true, ⟨#[]⟩, s.size, rfl, by decide, (HR.out.drewN nq).worse, fun h => by simp at h, fun _ => HL.out⟩
end Go.Proofs.YticlnijkfclgcaaGreatDoor
