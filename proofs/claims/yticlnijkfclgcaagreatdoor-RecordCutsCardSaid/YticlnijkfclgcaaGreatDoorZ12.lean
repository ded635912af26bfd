/- strings.Builder alone: WriteByte, WriteString. The reader of the program: quoted. -/
import Derived.Test.YticlnijkfclgcaaGreatDoorZ01
import Derived.Test.YticlnijkfclgcaaGreatDoorZ11
import Derived.Shelf.Strings.BuilderK
namespace Go.Proofs.YticlnijkfclgcaaGreatDoor
open Go.Shelf Go.RowKit

set_option maxHeartbeats 1000000 in
set_option maxRecDepth 100000 in
theorem sb_copyCheck_used (b : Nat) (w : World) (h0 : w.cell? ⟨b, 0, none⟩ = some (.pointer (some ⟨b, 0, none⟩))) :
    Calls Tryz.prog 79 #[.pointer (some ⟨b, 0, none⟩)] w fun e w' => e = .returned (.tuple #[]) ∧ w' = w := by
  obtain ⟨j, hj, _⟩ := Option.map_eq_some_iff.1 (show (Tryz.prog.info? 91).map (·.size) = some 2 by kernel_rfl)
  go_enter Tryz.func79, Tryz.ntmps79
  go_wp2
  rw [Lib.run_neq_ptr_same w _ Tryz.underlying89 hj]
  go_wp2
  go_end0
  exact ⟨rfl, rfl⟩
set_option maxHeartbeats 1000000 in
set_option maxRecDepth 100000 in
theorem sb_copyCheck_fresh (b : Nat) (w : World) (h0 : w.cell? ⟨b, 0, none⟩ = some (.pointer none)) (hsh : w.shape? b = some (91, 2)) (hfz : w.frozen? ⟨b, 0, none⟩ = false) :
    Calls Tryz.prog 79 #[.pointer (some ⟨b, 0, none⟩)] w fun e w' => e = .returned (.tuple #[]) ∧ w' = w.setCell ⟨b, 0, none⟩ (.pointer (some ⟨b, 0, none⟩)) := by
  obtain ⟨j, hj, hjs⟩ := Option.map_eq_some_iff.1 (show (Tryz.prog.info? 91).map (·.size) = some 2 by kernel_rfl)
  go_enter Tryz.func79, Tryz.ntmps79
  go_wp2
  rw [Lib.run_to_unsafe w ⟨b, 0, none⟩ Tryz.underlying89 Tryz.underlying160 hj (by rw [hjs]; decide) hsh (Nat.zero_lt_succ 1)]
  simp only [Result.andThen]
  rw [Oper.upon_value]
  go_wp2
  rw [run_callFunc_extern Tryz.func102 (by kernel_rfl) (by kernel_rfl) (by kernel_rfl) (e := Extern.AbiNoEscape.same) (by kernel_rfl)]
  rw [Lib.run_noEscape]
  simp only [Result.andThen]
  rw [Oper.upon_value]
  go_wp2
  rw [Lib.run_from_unsafe w ⟨b, 0, none⟩ Tryz.underlying160 Tryz.underlying89 hj hsh (by kernel_rfl)]
  simp only [Result.andThen]
  rw [Oper.upon_value]
  go_wp2
  go_end0
  exact ⟨rfl, rfl⟩
theorem sb_copyCheck (B b : Nat) (bs : List Value) (w : World) (h : Lib.IsBuilderF 91 5 B b bs w) :
    Calls Tryz.prog 79 #[.pointer (some ⟨b, 0, none⟩)] w fun e w' => e = .returned (.tuple #[]) ∧ (Lib.BuilderAtF 91 5 B b (.pointer (some ⟨b, 0, none⟩)) bs w' ∧ Below B w w' ∧ Lib.OthersKept 5 (some b) w w') := by
  rcases h with h | h
  · refine (sb_copyCheck_fresh b w h.cell0 h.shape h.frozen0).mono ?_
    rintro e w' ⟨rfl, rfl⟩
    exact ⟨rfl, h.used _, (Below.refl B w).setCell (p := ⟨b, 0, none⟩) h.1 _, (Lib.OthersKept.refl _ _ w).setCell ⟨b, 0, none⟩ rfl _⟩
  · refine (sb_copyCheck_used b w h.cell0).mono ?_
    rintro e w' ⟨rfl, rfl⟩
    exact ⟨rfl, h, Below.refl B _, Lib.OthersKept.refl _ _ _⟩
theorem sb_infoByte : (Tryz.prog.info? 5).map (fun i => (i.zero, i.size, i.bytes)) = some (some (.int .u8 0), 1, 1) := by kernel_rfl
set_option maxHeartbeats 2000000 in
set_option maxRecDepth 100000 in
theorem sb_WriteByte (B b : Nat) (bs : List Value) (c : Int) (w : World) (h : Lib.IsBuilderF 91 5 B b bs w) (hlen : bs.length + 1 ≤ 140737488355328) (hBw : B ≤ w.heap.size) :
    Calls Tryz.prog 53 #[.pointer (some ⟨b, 0, none⟩), .int .u8 c] w fun e w' => e = .returned .nilIface ∧ (Lib.BuilderAtF 91 5 B b (.pointer (some ⟨b, 0, none⟩)) (bs ++ [.int .u8 c]) w' ∧ Below B w w' ∧ Lib.OthersKept 5 (some b) w w') := by
  obtain ⟨i0, hi, hz0, hz1, hz2⟩ := info_parts sb_infoByte
  go_enter Tryz.func53, Tryz.ntmps53
  go_wp2_with fail
  refine (sb_copyCheck B b bs _ h).mono ?_
  rintro e w1 ⟨rfl, h1, hb1, hk1⟩
  obtain ⟨hB, v, hbk, hown, hne⟩ := h1
  have c0 : w1.cell? ⟨b, 0, none⟩ = some (.pointer (some ⟨b, 0, none⟩)) := by rw [Lib.cell_of_heap hbk]; rfl
  have c1 : w1.cell? ⟨b, 1, none⟩ = some v := by rw [Lib.cell_of_heap hbk]; rfl
  go_wp2_with (at_builtin; refine wpList_append_ownF _ rfl _ _ 29 rfl B 5 i0 (.int .u8 0) 1 1 Tryz.underlying29 hi hz0 hz1 hz2 rfl (by decide) _ _ _ rfl (hown.alloc _) ⟨w1.heap.size, 0, none⟩ 1 1 [.int .u8 c] rfl rfl ?c1 ?c2 ?c3 ?c4 ?c5 ?_)
  case c1 =>
    intro j u hj
    match j, hj with
    | 0, hj => simp at hj; subst hj; simp [Addr.add]
  case c2 => intro u hu; simp at hu; subst hu; rfl
  case c3 => unfold maxLen; omega
  case c4 => omega
  case c5 => have := hb1.size; simp; omega
  intro v' w2 hown' hgrow _
  have hlt : b < w1.heap.size := by
    rcases Nat.lt_or_ge b w1.heap.size with h' | h'
    · exact h'
    · simp [Array.getElem?_eq_none h'] at hbk
  have hb2 : w2.heap[b]? = some (.cells #[.pointer (some ⟨b, 0, none⟩), v] 91 (0, 0)) := by
    rw [hgrow.block b (by simp; omega) (fun e => hne e.symm), Lib.alloc_old w1 _ b hlt]
    exact hbk
  have d0 : w2.cell? ⟨b, 0, none⟩ = some (.pointer (some ⟨b, 0, none⟩)) := by rw [Lib.cell_of_heap hb2]; rfl
  have d1 : w2.cell? ⟨b, 1, none⟩ = some v := by rw [Lib.cell_of_heap hb2]; rfl
  have f1 : w2.frozen? ⟨b, 1, none⟩ = false := Lib.frozen_of_heap hb2 1
  obtain ⟨g, cap, rfl⟩ : ∃ g cap, v' = .slice (some ⟨g, 0, none⟩) (bs.length + 1) cap := by
    rcases hown'.2 with ⟨_, h0⟩ | ⟨g, cap, cur, fz, hv, _⟩
    · omega
    · exact ⟨g, cap, hv⟩
  go_wp2
  go_ret
  refine ⟨rfl, ?_, ?_, ((hk1.alloc _).grown hgrow (Lib.ownsRowF_kind (hown.alloc _))).setCell ⟨b, 1, none⟩ rfl _⟩
  · exact Lib.BuilderAtF.put (T := 91) (e := 5) hB hb2 (bs' := bs ++ [.int .u8 c]) (by simpa using hown') (by decide)
  · exact ((hb1.alloc (by have := hb1.size; omega) _).grown hgrow (by have := hb1.size; simp; omega) (fun k hk => (hown.lt k hk).1)).setCell (p := ⟨b, 1, none⟩) hB _
set_option maxHeartbeats 2000000 in
set_option maxRecDepth 100000 in
theorem sb_WriteString (B b : Nat) (bs : List Value) (s : ByteArray) (w : World) (h : Lib.IsBuilderF 91 5 B b bs w) (hlen : bs.length + s.size ≤ 140737488355328) (hBw : B ≤ w.heap.size) :
    Calls Tryz.prog 50 #[.pointer (some ⟨b, 0, none⟩), .string s] w fun e w' => e = .returned (.tuple #[.int .i64 s.size, .nilIface]) ∧ (Lib.BuilderAtF 91 5 B b (.pointer (some ⟨b, 0, none⟩)) (bs ++ Lib.strCells s) w' ∧ Below B w w' ∧ Lib.OthersKept 5 (some b) w w') := by
  obtain ⟨i0, hi, hz0, hz1, hz2⟩ := info_parts sb_infoByte
  go_enter Tryz.func50, Tryz.ntmps50
  go_wp2_with fail
  refine (sb_copyCheck B b bs _ h).mono ?_
  rintro e w1 ⟨rfl, h1, hb1, hk1⟩
  obtain ⟨hB, v, hbk, hown, hne⟩ := h1
  have c0 : w1.cell? ⟨b, 0, none⟩ = some (.pointer (some ⟨b, 0, none⟩)) := by rw [Lib.cell_of_heap hbk]; rfl
  have c1 : w1.cell? ⟨b, 1, none⟩ = some v := by rw [Lib.cell_of_heap hbk]; rfl
  go_wp2_with (at_builtin; refine Lib.wpList_append_own_stringF _ rfl _ _ 29 9 rfl B 5 i0 Tryz.underlying29 Tryz.underlying9 hi hz0 hz1 hz2 _ _ _ rfl hown s rfl ?c3 ?c4 ?c5 ?_)
  case c3 => unfold maxLen; omega
  case c4 => omega
  case c5 => have := hb1.size; omega
  intro v' w2 hown' hgrow _
  have hlt : b < w1.heap.size := by
    rcases Nat.lt_or_ge b w1.heap.size with h' | h'
    · exact h'
    · simp [Array.getElem?_eq_none h'] at hbk
  have hb2 : w2.heap[b]? = some (.cells #[.pointer (some ⟨b, 0, none⟩), v] 91 (0, 0)) := by
    rw [hgrow.block b hlt (fun e => hne e.symm)]
    exact hbk
  have d0 : w2.cell? ⟨b, 0, none⟩ = some (.pointer (some ⟨b, 0, none⟩)) := by rw [Lib.cell_of_heap hb2]; rfl
  have d1 : w2.cell? ⟨b, 1, none⟩ = some v := by rw [Lib.cell_of_heap hb2]; rfl
  have f1 : w2.frozen? ⟨b, 1, none⟩ = false := Lib.frozen_of_heap hb2 1
  obtain ⟨ao, n', cap, rfl⟩ : ∃ ao n' cap, v' = .slice ao n' cap := by
    rcases hown'.2 with ⟨hv, _⟩ | ⟨g, cap, cur, fz, hv, _⟩
    · exact ⟨_, _, _, hv⟩
    · exact ⟨_, _, _, hv⟩
  go_wp2
  go_ret2
  refine ⟨rfl, ?_, ?_, (hk1.grown hgrow (Lib.ownsRowF_kind hown)).setCell ⟨b, 1, none⟩ rfl _⟩
  · exact Lib.BuilderAtF.put (T := 91) (e := 5) hB hb2 (bs' := bs ++ Lib.strCells s) (by simpa [Lib.strCells_length] using hown') (by decide)
  · exact (hb1.grown hgrow (by have := hb1.size; omega) (fun k hk => (hown.lt k hk).1)).setCell (p := ⟨b, 1, none⟩) hB _
end Go.Proofs.YticlnijkfclgcaaGreatDoor

namespace Go.Proofs.YticlnijkfclgcaaGreatDoor
open Go.Shelf Go.RowKit

theorem bsExtra : Builder.Extra Tryz.prog Tryz.laysBS_ren := {
  sizeBuilder := by kernel_rfl
  liesBuilder := by kernel_rfl
  t5 := Tryz.underlying5
  a5 := Tryz.isAgg5
  z5 := Tryz.sizeOf5
  v5 := Tryz.zeroValue5
  infoByte := by kernel_rfl
  cellsByte := by kernel_rfl
  sizeByte := by kernel_rfl
  neB5 := by decide }
/-- the builder at k holds these bytes -/
def SB (B k : Nat) (l : List UInt8) (w : World) : Prop := Lib.IsBuilderF 91 5 B k (Lib.byteCells l) w
theorem SB.le {B k : Nat} {l : List UInt8} {w : World} (h : SB B k l w) : B ≤ w.heap.size := by
  rcases h with h | h <;> (have := h.lt; have := h.1; omega)
theorem SB.but {B k b : Nat} {l : List UInt8} {w w' : World} (h : SB B k l w) (hb : b < B) (g : But b w w') : SB B k l w' := by
  have key : ∀ p, Lib.BuilderAtF 91 5 B k p (Lib.byteCells l) w → Lib.BuilderAtF 91 5 B k p (Lib.byteCells l) w' := fun p ⟨hB, v, hk, ho, hne⟩ =>
    ⟨hB, v, But.keep g hk (by omega), ho.kept g (by
      cases hv : v.ownBlock with
      | none => exact .inl rfl
      | some q => exact .inr (fun e => by have h1 := (ho.lt q hv).1; have := Option.some.inj e; omega)), hne⟩
  rcases h with h | h
  · exact .inl (key _ h)
  · exact .inr (key _ h)
theorem SB.new {w : World} : SB w.heap.size w.heap.size [] (w.alloc (.cells #[.pointer none, .slice none 0 0] 91)) :=
  .inl ⟨Nat.le_refl _, .slice none 0 0, heap_alloc_new w _, World.ownsRowF_nil _ _ _ _, by simp [Value.ownBlock]⟩
theorem sb_byte {B k : Nat} {l : List UInt8} (c : UInt8) {w : World} (h : SB B k l w) (hl : l.length + 1 ≤ 140737488355328) :
    Calls Tryz.prog 53 #[.pointer (some ⟨k, 0, none⟩), .int .u8 c.toNat] w fun e w' => e = .returned .nilIface ∧ SB B k (l ++ [c]) w' ∧ Below B w w' :=
  (sb_WriteByte B k _ c.toNat w h (by rw [Lib.byteCells_length]; exact hl) h.le).mono fun e w' ⟨he, hb, hk1, _⟩ => ⟨he, .inr (by simpa [Lib.byteCells] using hb), hk1⟩
theorem sb_str {B k : Nat} {l : List UInt8} (s : ByteArray) {w : World} (h : SB B k l w) (hl : l.length + s.size ≤ 140737488355328) :
    Calls Tryz.prog 50 #[.pointer (some ⟨k, 0, none⟩), .string s] w fun e w' => e = .returned (.tuple #[.int .i64 s.size, .nilIface]) ∧ SB B k (l ++ s.data.toList) w' ∧ Below B w w' :=
  (sb_WriteString B k _ s w h (by rw [Lib.byteCells_length]; exact hl) h.le).mono fun e w' ⟨he, hb, hk1, _⟩ => ⟨he, .inr (by simpa [Lib.byteCells, Lib.strCells] using hb), hk1⟩
theorem sb_text {B k : Nat} {l : List UInt8} {w : World} (h : SB B k l w) :
    Calls Tryz.prog 31 #[.pointer (some ⟨k, 0, none⟩)] w fun e w' => e = .returned (.string (ba l)) ∧ Below B w w' :=
  (Any.Builder_String_any_k Tryz.laysBS bsExtra B k l w h h.le).mono fun _ _ ⟨he, _, hk, _⟩ => ⟨he, hk⟩
theorem RB.belowB {b B : Nat} {s : ByteArray} {i : Nat} {bad : Bool} {w w' : World} (h : RB b s i bad w) (k : Below B w w') (hb : b < B) : RB b s i bad w' := ⟨by rw [k.block b hb]; exact h.box, h.le⟩
theorem But.belowB {b B : Nat} {w w1 w2 : World} (h : But b w w1) (k : Below B w1 w2) (hB : w.heap.size ≤ B) : But b w w2 :=
  ⟨k.os.trans h.os, k.tape.trans h.tape, k.output.trans h.output, Nat.le_trans h.size k.size, fun q hq hn => by rw [k.block q (by omega)]; exact h.block q hq hn⟩
theorem Errs.belowB {b B : Nat} {w w' : World} (h : Errs b w) (k : Below B w w') (hb : b ≤ B) : Errs b w' := by
  obtain ⟨t, p, h1⟩ := h.syn
  obtain ⟨t2, p2, h2⟩ := h.rng
  have g1 := h.g1
  have g2 := h.g2
  exact ⟨g1, g2, ⟨t, p, by rw [k.cell (p := ⟨Tryz.laysPI_ren.g 15, 0, none⟩) (Nat.lt_of_lt_of_le g1 hb)]; exact h1⟩, ⟨t2, p2, by rw [k.cell (p := ⟨Tryz.laysPI_ren.g 16, 0, none⟩) (Nat.lt_of_lt_of_le g2 hb)]; exact h2⟩⟩
/-- how much is to be read, if it isn't bad -/
def left (b : Nat) (s : ByteArray) (w : World) : Nat := match w.cell? ⟨b, 2, none⟩ with
  | some (.bool true) => 0
  | _ => s.size - rat b w + 1
theorem RB.leftT {b : Nat} {s : ByteArray} {i : Nat} {w : World} (h : RB b s i true w) : left b s w = 0 := by unfold left; rw [h.c2]
theorem RB.leftF {b : Nat} {s : ByteArray} {i : Nat} {w : World} (h : RB b s i false w) : left b s w = s.size - i + 1 := by unfold left; rw [h.c2, h.rat]
theorem quoL_step {n : Nat} {c : UInt8} {r acc : List UInt8} (h32 : ¬ c.toNat < 32) (h34 : c ≠ 34) (h92 : c ≠ 92) : quoL (n + 1) (c :: r) acc = quoL n r (acc ++ [c]) := by
  rw [quoL, if_neg h32, if_neg h34, if_neg h92]
theorem quoL_end {n : Nat} {r acc : List UInt8} : quoL (n + 1) (34 :: r) acc = some (acc, r) := by rw [quoL, if_neg (by decide), if_pos rfl]
theorem quoL_low {n : Nat} {c : UInt8} {r acc : List UInt8} (h : c.toNat < 32) : quoL (n + 1) (c :: r) acc = none := by rw [quoL, if_pos h]
theorem quoL_esc {n : Nat} {r r2 t acc : List UInt8} (h : escL r = some (t, r2)) : quoL (n + 1) (92 :: r) acc = quoL n r2 (acc ++ t) := by
  rw [quoL, if_neg (by decide), if_neg (by decide), if_pos rfl, h]
theorem quoL_bad {n : Nat} {r acc : List UInt8} (h : escL r = none) : quoL (n + 1) (92 :: r) acc = none := by
  rw [quoL, if_neg (by decide), if_neg (by decide), if_pos rfl, h]
/-- a string's text, or it is bad -/
def QuoPost (b : Nat) (s : ByteArray) (i : Nat) (w : World) (e : Ending) (w' : World) : Prop :=
  But b w w' ∧ ∃ (bd : Bool) (t : ByteArray) (j : Nat), e = .returned (.string t) ∧ t.size ≤ 4 * s.size ∧ RB b s j bd w' ∧ (bd = false → strL (dl s i) = some (t, dl s j)) ∧ (bd = true → strL (dl s i) = none)
/-- the loop: what is still to be read tells the whole -/
def QuoInv (b : Nat) (s : ByteArray) (R : Option (List UInt8 × List UInt8)) (B : Nat) (w wr : World) : Prop :=
  But b w wr ∧ ∃ (bd : Bool) (j n : Nat) (acc : List UInt8), RB b s j bd wr ∧ SB B B acc wr ∧ acc.length ≤ 4 * s.size + 4 ∧ (bd = false → (dl s j).length < n ∧ quoL n (dl s j) acc = R ∧ acc.length + 4 * (s.size - j) ≤ 4 * s.size) ∧ (bd = true → R = none)
set_option maxHeartbeats 8000000 in
set_option maxRecDepth 100000 in
theorem readQuoted_any (b : Nat) (s : ByteArray) (i : Nat) (w : World) (h : RB b s i false w) (hs : s.size ≤ 1000000) (hq : ∃ r, dl s i = 34 :: r) (hE : Errs b w) :
    Calls Tryz.prog 38 #[.pointer (some ⟨b, 0, none⟩)] w (QuoPost b s i w) := by
  obtain ⟨r, hq⟩ := hq
  obtain ⟨hi, hsi, hr⟩ := dl_split hq
  have HST : Hold (strL (dl s i) = (quoL (r.length + 1) r []).map fun p => (ba p.1, p.2)) := ⟨by rw [hq, strL, if_pos rfl]⟩
  have HSK : Hold (skipL (dl s i) = 34 :: r) := ⟨by rw [hq]; exact skipL_no (by decide)⟩
  have HRR := Hold.mk hr
  have HR := Hold.mk h
  have HE := Hold.mk hE
  have hbw := h.lt
  clear h hE hq hsi hr
  go_enter Tryz.func38, Tryz.ntmps38
  go_wp2_with fail
  refine (take_any b s i 34 false w HR.out hs (by decide)).mono ?_
  rintro e w1 ⟨rfl, hb, hk⟩
  have hk2 : ∃ j, dl s j = r ∧ i < j ∧ RB b s j false w1 := by
    rcases hk with ⟨r2, h1, j, h2, h3, h4⟩ | ⟨h1, _⟩
    · have := h1.symm.trans HSK.out
      obtain rfl : r2 = r := (List.cons.inj this).2
      exact ⟨j, h2, h3, h4⟩
    · exact absurd HSK.out (h1 r)
  obtain ⟨j, hj, hij, hr1⟩ := hk2
  have hw1 : w.heap.size ≤ w1.heap.size := hb.size
  have hjs := hr1.le
  have hlr : r.length = s.size - j := by rw [← hj, dl_len]
  have HI : Hold (QuoInv b s (quoL (r.length + 1) r []) w1.heap.size w (w1.alloc (.cells #[.pointer none, .slice none 0 0] 91))) :=
    ⟨hb.alloc _, false, j, r.length + 1, [], hr1.below ((Below.refl _ w1).alloc (Nat.le_refl _) _), SB.new, by simp, fun _ => by rw [hj]; exact ⟨Nat.lt_succ_self _, rfl, by simp; omega⟩, fun h => by simp at h⟩
  replace HE := Hold.mk (HE.out.but hb)
  have hbB : b < w1.heap.size := by omega
  clear hb hk hj hij hr1 HR HSK HRR hjs hlr
  obtain ⟨R, hR⟩ : ∃ R, R = quoL (r.length + 1) r [] := ⟨_, rfl⟩
  rw [← hR] at HI HST
  clear hR
  go_wp2_with fail
  obtain ⟨B, hB⟩ : ∃ B, B = w1.heap.size := ⟨_, rfl⟩
  go_loopw [] (fun wr => QuoInv b s R w1.heap.size w wr ∧ Errs b wr) (fun wr => left b s wr)
  case atStart => exact ⟨HI.out, HE.out.below ((Below.refl _ w1).alloc (Nat.le_refl _) _)⟩
  case round =>
    obtain ⟨⟨hbt, bd, j, n, acc, hr, hsb, hacc, hf, ht⟩, hE⟩ := hrel
    clear HI HE
    have HB := Hold.mk hbt
    have HR := Hold.mk hr
    have HS := Hold.mk hsb
    have HE := Hold.mk hE
    have hjs := hr.le
    have x0 := hr.c0
    have x1 := hr.c1
    have x2 := hr.c2
    have f1 := hr.fz 1
    have f2 := hr.fz 2
    cases bd with
    | true =>
      have HL : Hold (strL (dl s i) = none) := ⟨by rw [HST.out, ht rfl]; rfl⟩
      clear hf ht hbt hr hsb hE hB
      go_wp2_with fail
      go_ret
      exact ⟨HB.out, true, ⟨#[]⟩, j, rfl, Nat.zero_le _, HR.out, fun h => by simp at h, fun _ => HL.out⟩
    | false =>
      obtain ⟨hn, hf, hac2⟩ := hf rfl
      have HF := Hold.mk hf
      clear hf ht hbt hr hsb hE hB
      by_cases hlt : j < s.size
      · obtain ⟨c, hc⟩ : ∃ c, s[j] = c := ⟨_, rfl⟩
        have hdl : dl s j = c :: dl s (j + 1) := by rw [dl_cons hlt, hc]
        obtain ⟨n, rfl⟩ : ∃ m, n = m + 1 := ⟨n - 1, by omega⟩
        rw [hdl] at HF hn
        rw [List.length_cons] at hn
        have HDL := Hold.mk hdl
        have hnz : ((j : Int) == (s.size : Int)) = false := by simp; omega
        clear hdl
        by_cases h32 : c.toNat < 32
        · have HL : Hold (strL (dl s i) = none) := ⟨by rw [HST.out, ← HF.out, quoL_low h32]; rfl⟩
          have k0 : (c.toNat : Int) < 32 := by omega
          clear HF hn
          go_wp2_with fail
          go_quiet (fail)
          go_wp2_with fail
          go_ret
          exact ⟨(HB.out.drewN _).trans (But.set _ _ _), true, ⟨#[]⟩, j, rfl, Nat.zero_le _, (HR.out.drewN _).worse, fun h => by simp at h, fun _ => HL.out⟩
        · have k0 : ¬ (c.toNat : Int) < 32 := by omega
          have HRN : Hold (∀ m, RB b s (j + 1) false ((wr.drewN m).setCell ⟨b, 1, none⟩ (.int .i64 ((j : Int) + 1)))) := ⟨fun m => (HR.out.drewN m).to1 hlt⟩
          have HBN : Hold (∀ m, But b w ((wr.drewN m).setCell ⟨b, 1, none⟩ (.int .i64 ((j : Int) + 1)))) := ⟨fun m => (HB.out.drewN m).trans (But.set _ _ _)⟩
          have HSN : Hold (∀ m, SB w1.heap.size w1.heap.size acc ((wr.drewN m).setCell ⟨b, 1, none⟩ (.int .i64 ((j : Int) + 1)))) := ⟨fun m => HS.out.but hbB (((But.refl b wr).drewN m).trans (But.set _ _ _))⟩
          have HEN : Hold (∀ m, Errs b ((wr.drewN m).setCell ⟨b, 1, none⟩ (.int .i64 ((j : Int) + 1)))) := ⟨fun m => HE.out.but (((But.refl b wr).drewN m).trans (But.set _ _ _))⟩
          have HLW : Hold (left b s wr = s.size - j + 1) := ⟨HR.out.leftF⟩
          by_cases h34 : c = 34
          · subst h34
            have HL : Hold (strL (dl s i) = some (ba acc, dl s (j + 1))) := ⟨by rw [HST.out, ← HF.out, quoL_end]; rfl⟩
            clear HF hn h32
            go_wp2_with fail
            go_quiet (fail)
            go_wp2_with fail
            go_quiet (fail)
            go_wp2_with fail
            refine (sb_text (HSN.out _)).mono ?_
            rintro e w2 ⟨rfl, hb2⟩
            have HP : Hold (QuoPost b s i w (.returned (.string (ba acc))) w2) := ⟨(HBN.out _).belowB hb2 hw1, false, ba acc, j + 1, rfl, by rw [ba_size]; omega, (HRN.out _).belowB hb2 hbB, fun _ => HL.out, fun h => by simp at h⟩
            clear hb2
            go_wp2_with fail
            go_ret
            exact HP.out
          · have b34 : ((c.toNat : Int) == 34) = false := byte_ne (k := 34) h34
            by_cases h92 : c = 92
            · subst h92
              clear h32 h34
              go_wp2_with fail
              go_quiet (fail)
              go_wp2_with fail
              go_quiet (fail)
              go_wp2_with fail
              refine (escape_any b s (j + 1) _ (HRN.out _) hs (HEN.out _)).mono ?_
              rintro e w2 ⟨hb2, bd2, t, j2, rfl, ht4, hr2, hf2, ht2⟩
              have HB2 : Hold (But b w w2) := ⟨(HBN.out _).trans hb2⟩
              have HS2 : Hold (SB w1.heap.size w1.heap.size acc w2) := ⟨(HSN.out _).but hbB hb2⟩
              have HE2 : Hold (Errs b w2) := ⟨(HEN.out _).but hb2⟩
              have HR2 := Hold.mk hr2
              have hj2s := hr2.le
              have HN2 : Hold ((bd2 = false → (dl s j2).length < n ∧ quoL n (dl s j2) (acc ++ t.data.toList) = R ∧ (acc ++ t.data.toList).length + 4 * (s.size - j2) ≤ 4 * s.size) ∧ (bd2 = true → R = none)) := ⟨fun h => by
                have h1 := hf2 h
                have h2 := (escL_len h1).1
                exact ⟨by omega, by rw [← HF.out, quoL_esc h1], by rw [dl_len, dl_len] at h2; rw [List.length_append, size_list]; omega⟩, fun h => by rw [← HF.out, quoL_bad (ht2 h)]⟩
              have HLN : Hold ((bd2 = false → s.size - j2 < s.size - j) ∧ (acc ++ t.data.toList).length ≤ 4 * s.size + 4) := ⟨fun h => by
                have h2 := (escL_len (hf2 h)).1
                rw [dl_len, dl_len] at h2; omega, by rw [List.length_append, size_list]; omega⟩
              clear hb2 hf2 ht2 hr2 HF
              go_wp2_with fail
              refine (sb_str t HS2.out (by omega)).mono ?_
              rintro e w3 ⟨rfl, hs3, hb3⟩
              have HI3 : Hold (QuoInv b s R w1.heap.size w w3 ∧ Errs b w3) := ⟨⟨HB2.out.belowB hb3 hw1, bd2, j2, n, acc ++ t.data.toList, HR2.out.belowB hb3 hbB, hs3, HLN.out.2, HN2.out.1, HN2.out.2⟩, HE2.out.belowB hb3 (Nat.le_of_lt hbB)⟩
              have HR3 : Hold (RB b s j2 bd2 w3) := ⟨HR2.out.belowB hb3 hbB⟩
              clear hs3 hb3
              go_wp2_with fail
              exact ⟨HI3.out, by
                rw [HLW.out]
                cases bd2 with
                | true => rw [HR3.out.leftT]; omega
                | false => rw [HR3.out.leftF]; have := HLN.out.1 rfl; omega⟩
            · have b92 : ((c.toNat : Int) == 92) = false := byte_ne (k := 92) h92
              have HN2 : Hold (quoL n (dl s (j + 1)) (acc ++ [c]) = R) := ⟨by rw [← HF.out, quoL_step h32 h34 h92]⟩
              have hl1 : (acc ++ [c]).length + 4 * (s.size - (j + 1)) ≤ 4 * s.size := by rw [List.length_append, List.length_singleton]; omega
              have hl2 : (acc ++ [c]).length ≤ 4 * s.size + 4 := by rw [List.length_append, List.length_singleton]; omega
              clear h32 h34 h92 HF
              go_wp2_with fail
              go_quiet (fail)
              go_wp2_with fail
              go_quiet (fail)
              go_wp2_with fail
              refine (sb_byte c (HSN.out _) (by omega)).mono ?_
              rintro e w3 ⟨rfl, hs3, hb3⟩
              have HI3 : Hold (QuoInv b s R w1.heap.size w w3 ∧ Errs b w3) := ⟨⟨(HBN.out _).belowB hb3 hw1, false, j + 1, n, acc ++ [c], (HRN.out _).belowB hb3 hbB, hs3, hl2, fun _ => ⟨by omega, HN2.out, hl1⟩, fun h => by simp at h⟩, (HEN.out _).belowB hb3 (Nat.le_of_lt hbB)⟩
              have HR3 : Hold (RB b s (j + 1) false w3) := ⟨(HRN.out _).belowB hb3 hbB⟩
              clear hs3 hb3
              go_wp2_with fail
              exact ⟨HI3.out, by rw [HLW.out, HR3.out.leftF]; omega⟩
      · obtain rfl : j = s.size := by omega
        have HL : Hold (strL (dl s i) = none) := ⟨by
          rw [HST.out, ← HF.out, dl_end]
          cases n <;> rfl⟩
        clear hlt hjs
        go_wp2_with fail
        go_quiet (fail)
        go_wp2_with fail
        go_ret
        exact ⟨(HB.out.drewN nq).trans (But.set _ _ _), true, ⟨#[]⟩, s.size, rfl, Nat.zero_le _, (HR.out.drewN nq).worse, fun h => by simp at h, fun _ => HL.out⟩
end Go.Proofs.YticlnijkfclgcaaGreatDoor
