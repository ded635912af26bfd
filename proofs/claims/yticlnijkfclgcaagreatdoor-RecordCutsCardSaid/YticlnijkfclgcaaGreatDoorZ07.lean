/- strings.Builder inside a json.printer: its methods, at a block of the printer's type. quoted of the printer. value of the printer. value of the printer: arrays and objects. -/
import Derived.Test.YticlnijkfclgcaaGreatDoorZ01
import Derived.Test.YticlnijkfclgcaaGreatDoorZ02
import Derived.Shelf.Strings.BuilderK
import Derived.Test.YticlnijkfclgcaaGreatDoorPLays
import Derived.Shelf.Small.Strs
import Derived.StillTailTactics
import Derived.Shelf.Strconv.Itoa4
import Derived.Deep.RegionWith
namespace Go.Proofs.YticlnijkfclgcaaGreatDoor
open Go.Shelf Go.RowKit

set_option maxHeartbeats 1000000 in
set_option maxRecDepth 100000 in
theorem pb_copyCheck_used (b : Nat) (w : World) (h0 : w.cell? ⟨b, 0, none⟩ = some (.pointer (some ⟨b, 0, none⟩))) :
    Calls Tryz.prog 79 #[.pointer (some ⟨b, 0, none⟩)] w fun e w' => e = .returned (.tuple #[]) ∧ w' = w := by
  obtain ⟨j, hj, _⟩ := Option.map_eq_some_iff.1 (show (Tryz.prog.info? 91).map (·.size) = some 2 by kernel_rfl)
  go_enter Tryz.func79, Tryz.ntmps79
  go_wp2
  rw [Lib.run_neq_ptr_same w _ Tryz.underlying89 hj]
  go_wp2
  go_end0
  exact ⟨rfl, rfl⟩
set_option maxHeartbeats 1000000 in
set_option maxRecDepth 100000 in
theorem pb_copyCheck_fresh (b : Nat) (w : World) (h0 : w.cell? ⟨b, 0, none⟩ = some (.pointer none)) (hsh : w.shape? b = some (93, 2)) (hfz : w.frozen? ⟨b, 0, none⟩ = false) :
    Calls Tryz.prog 79 #[.pointer (some ⟨b, 0, none⟩)] w fun e w' => e = .returned (.tuple #[]) ∧ w' = w.setCell ⟨b, 0, none⟩ (.pointer (some ⟨b, 0, none⟩)) := by
  obtain ⟨j, hj, hjs⟩ := Option.map_eq_some_iff.1 (show (Tryz.prog.info? 91).map (·.size) = some 2 by kernel_rfl)
  go_enter Tryz.func79, Tryz.ntmps79
  go_wp2
  rw [Lib.run_to_unsafe w ⟨b, 0, none⟩ Tryz.underlying89 Tryz.underlying160 hj (by rw [hjs]; decide) hsh (Nat.zero_lt_succ 1)]
  simp only [Result.andThen]
  rw [Oper.upon_value]
  go_wp2
  rw [run_callFunc_extern Tryz.func102 (by kernel_rfl) (by kernel_rfl) (by kernel_rfl) (e := Extern.AbiNoEscape.same) (by kernel_rfl)]
  rw [Lib.run_noEscape]
  simp only [Result.andThen]
  rw [Oper.upon_value]
  go_wp2
  rw [Lib.run_from_unsafe w ⟨b, 0, none⟩ Tryz.underlying160 Tryz.underlying89 hj hsh (by kernel_rfl)]
  simp only [Result.andThen]
  rw [Oper.upon_value]
  go_wp2
  go_end0
  exact ⟨rfl, rfl⟩
theorem pb_copyCheck (B b : Nat) (bs : List Value) (w : World) (h : Lib.IsBuilderF 93 5 B b bs w) :
    Calls Tryz.prog 79 #[.pointer (some ⟨b, 0, none⟩)] w fun e w' => e = .returned (.tuple #[]) ∧ (Lib.BuilderAtF 93 5 B b (.pointer (some ⟨b, 0, none⟩)) bs w' ∧ Below B w w' ∧ Lib.OthersKept 5 (some b) w w') := by
  rcases h with h | h
  · refine (pb_copyCheck_fresh b w h.cell0 h.shape h.frozen0).mono ?_
    rintro e w' ⟨rfl, rfl⟩
    exact ⟨rfl, h.used _, (Below.refl B w).setCell (p := ⟨b, 0, none⟩) h.1 _, (Lib.OthersKept.refl _ _ w).setCell ⟨b, 0, none⟩ rfl _⟩
  · refine (pb_copyCheck_used b w h.cell0).mono ?_
    rintro e w' ⟨rfl, rfl⟩
    exact ⟨rfl, h, Below.refl B _, Lib.OthersKept.refl _ _ _⟩
theorem pb_infoByte : (Tryz.prog.info? 5).map (fun i => (i.zero, i.size, i.bytes)) = some (some (.int .u8 0), 1, 1) := by kernel_rfl
set_option maxHeartbeats 2000000 in
set_option maxRecDepth 100000 in
theorem pb_WriteByte (B b : Nat) (bs : List Value) (c : Int) (w : World) (h : Lib.IsBuilderF 93 5 B b bs w) (hlen : bs.length + 1 ≤ 140737488355328) (hBw : B ≤ w.heap.size) :
    Calls Tryz.prog 53 #[.pointer (some ⟨b, 0, none⟩), .int .u8 c] w fun e w' => e = .returned .nilIface ∧ (Lib.BuilderAtF 93 5 B b (.pointer (some ⟨b, 0, none⟩)) (bs ++ [.int .u8 c]) w' ∧ Below B w w' ∧ Lib.OthersKept 5 (some b) w w') := by
  obtain ⟨i0, hi, hz0, hz1, hz2⟩ := info_parts pb_infoByte
  go_enter Tryz.func53, Tryz.ntmps53
  go_wp2_with fail
  refine (pb_copyCheck B b bs _ h).mono ?_
  rintro e w1 ⟨rfl, h1, hb1, hk1⟩
  obtain ⟨hB, v, hbk, hown, hne⟩ := h1
  have c0 : w1.cell? ⟨b, 0, none⟩ = some (.pointer (some ⟨b, 0, none⟩)) := by rw [Lib.cell_of_heap hbk]; rfl
  have c1 : w1.cell? ⟨b, 1, none⟩ = some v := by rw [Lib.cell_of_heap hbk]; rfl
  go_wp2_with (at_builtin; refine wpList_append_ownF _ rfl _ _ 29 rfl B 5 i0 (.int .u8 0) 1 1 Tryz.underlying29 hi hz0 hz1 hz2 rfl (by decide) _ _ _ rfl (hown.alloc _) ⟨w1.heap.size, 0, none⟩ 1 1 [.int .u8 c] rfl rfl ?c1 ?c2 ?c3 ?c4 ?c5 ?_)
  case c1 =>
    intro j u hj
    match j, hj with
    | 0, hj => simp at hj; subst hj; simp [Addr.add]
  case c2 => intro u hu; simp at hu; subst hu; rfl
  case c3 => unfold maxLen; omega
  case c4 => omega
  case c5 => have := hb1.size; simp; omega
  intro v' w2 hown' hgrow _
  have hlt : b < w1.heap.size := by
    rcases Nat.lt_or_ge b w1.heap.size with h' | h'
    · exact h'
    · simp [Array.getElem?_eq_none h'] at hbk
  have hb2 : w2.heap[b]? = some (.cells #[.pointer (some ⟨b, 0, none⟩), v] 93 (0, 0)) := by
    rw [hgrow.block b (by simp; omega) (fun e => hne e.symm), Lib.alloc_old w1 _ b hlt]
    exact hbk
  have d0 : w2.cell? ⟨b, 0, none⟩ = some (.pointer (some ⟨b, 0, none⟩)) := by rw [Lib.cell_of_heap hb2]; rfl
  have d1 : w2.cell? ⟨b, 1, none⟩ = some v := by rw [Lib.cell_of_heap hb2]; rfl
  have f1 : w2.frozen? ⟨b, 1, none⟩ = false := Lib.frozen_of_heap hb2 1
  obtain ⟨g, cap, rfl⟩ : ∃ g cap, v' = .slice (some ⟨g, 0, none⟩) (bs.length + 1) cap := by
    rcases hown'.2 with ⟨_, h0⟩ | ⟨g, cap, cur, fz, hv, _⟩
    · omega
    · exact ⟨g, cap, hv⟩
  go_wp2
  go_ret
  refine ⟨rfl, ?_, ?_, ((hk1.alloc _).grown hgrow (Lib.ownsRowF_kind (hown.alloc _))).setCell ⟨b, 1, none⟩ rfl _⟩
  · exact Lib.BuilderAtF.put (T := 93) (e := 5) hB hb2 (bs' := bs ++ [.int .u8 c]) (by simpa using hown') (by decide)
  · exact ((hb1.alloc (by have := hb1.size; omega) _).grown hgrow (by have := hb1.size; simp; omega) (fun k hk => (hown.lt k hk).1)).setCell (p := ⟨b, 1, none⟩) hB _
set_option maxHeartbeats 2000000 in
set_option maxRecDepth 100000 in
theorem pb_WriteString (B b : Nat) (bs : List Value) (s : ByteArray) (w : World) (h : Lib.IsBuilderF 93 5 B b bs w) (hlen : bs.length + s.size ≤ 140737488355328) (hBw : B ≤ w.heap.size) :
    Calls Tryz.prog 50 #[.pointer (some ⟨b, 0, none⟩), .string s] w fun e w' => e = .returned (.tuple #[.int .i64 s.size, .nilIface]) ∧ (Lib.BuilderAtF 93 5 B b (.pointer (some ⟨b, 0, none⟩)) (bs ++ Lib.strCells s) w' ∧ Below B w w' ∧ Lib.OthersKept 5 (some b) w w') := by
  obtain ⟨i0, hi, hz0, hz1, hz2⟩ := info_parts pb_infoByte
  go_enter Tryz.func50, Tryz.ntmps50
  go_wp2_with fail
  refine (pb_copyCheck B b bs _ h).mono ?_
  rintro e w1 ⟨rfl, h1, hb1, hk1⟩
  obtain ⟨hB, v, hbk, hown, hne⟩ := h1
  have c0 : w1.cell? ⟨b, 0, none⟩ = some (.pointer (some ⟨b, 0, none⟩)) := by rw [Lib.cell_of_heap hbk]; rfl
  have c1 : w1.cell? ⟨b, 1, none⟩ = some v := by rw [Lib.cell_of_heap hbk]; rfl
  go_wp2_with (at_builtin; refine Lib.wpList_append_own_stringF _ rfl _ _ 29 9 rfl B 5 i0 Tryz.underlying29 Tryz.underlying9 hi hz0 hz1 hz2 _ _ _ rfl hown s rfl ?c3 ?c4 ?c5 ?_)
  case c3 => unfold maxLen; omega
  case c4 => omega
  case c5 => have := hb1.size; omega
  intro v' w2 hown' hgrow _
  have hlt : b < w1.heap.size := by
    rcases Nat.lt_or_ge b w1.heap.size with h' | h'
    · exact h'
    · simp [Array.getElem?_eq_none h'] at hbk
  have hb2 : w2.heap[b]? = some (.cells #[.pointer (some ⟨b, 0, none⟩), v] 93 (0, 0)) := by
    rw [hgrow.block b hlt (fun e => hne e.symm)]
    exact hbk
  have d0 : w2.cell? ⟨b, 0, none⟩ = some (.pointer (some ⟨b, 0, none⟩)) := by rw [Lib.cell_of_heap hb2]; rfl
  have d1 : w2.cell? ⟨b, 1, none⟩ = some v := by rw [Lib.cell_of_heap hb2]; rfl
  have f1 : w2.frozen? ⟨b, 1, none⟩ = false := Lib.frozen_of_heap hb2 1
  obtain ⟨ao, n', cap, rfl⟩ : ∃ ao n' cap, v' = .slice ao n' cap := by
    rcases hown'.2 with ⟨hv, _⟩ | ⟨g, cap, cur, fz, hv, _⟩
    · exact ⟨_, _, _, hv⟩
    · exact ⟨_, _, _, hv⟩
  go_wp2
  go_ret2
  refine ⟨rfl, ?_, ?_, (hk1.grown hgrow (Lib.ownsRowF_kind hown)).setCell ⟨b, 1, none⟩ rfl _⟩
  · exact Lib.BuilderAtF.put (T := 93) (e := 5) hB hb2 (bs' := bs ++ Lib.strCells s) (by simpa [Lib.strCells_length] using hown') (by decide)
  · exact (hb1.grown hgrow (by have := hb1.size; omega) (fun k hk => (hown.lt k hk).1)).setCell (p := ⟨b, 1, none⟩) hB _
set_option maxHeartbeats 1000000 in
set_option maxRecDepth 100000 in
theorem pb_String (B b : Nat) (l : List UInt8) (w : World) (h : Lib.IsBuilderF 93 5 B b (Lib.byteCells l) w) (h0 : l ≠ []) :
    Calls Tryz.prog 31 #[.pointer (some ⟨b, 0, none⟩)] w fun e w' => e = .returned (.string ⟨l.toArray⟩) ∧ (Below B w w' ∧ Lib.OthersKept 5 (some b) w w') := by
  obtain ⟨p, hB, v, hbk, hown, hne⟩ : ∃ p, Lib.BuilderAtF 93 5 B b p (Lib.byteCells l) w := by
    rcases h with h | h
    · exact ⟨_, h⟩
    · exact ⟨_, h⟩
  have hl0 : l.length ≠ 0 := by simpa using h0
  rw [Lib.byteCells_length] at hown
  obtain ⟨g, cap, cur, fz, rfl, hbg, hg, _, hnc, hcm, hcs, _⟩ : ∃ g cap cur fz, v = .slice (some ⟨g, 0, none⟩) l.length cap ∧ B ≤ g ∧ w.heap[g]? = some (.cells cur 5 fz) ∧ fz.2 ≤ l.length * 1 ∧ l.length ≤ cap ∧ cap ≤ maxLen ∧ cur.size = cap * 1 ∧ cur.toList.take (l.length * 1) = Lib.byteCells l := by
    rcases hown.2 with ⟨_, hz⟩ | ⟨g, cap, cur, fz, hv, r⟩
    · exact absurd hz hl0
    · exact ⟨g, cap, cur, fz, hv, r⟩
  have c1 : w.drew.cell? ⟨b, 1, none⟩ = some (.slice (some ⟨g, 0, none⟩) l.length cap) := by
    have : w.drew.heap[b]? = some (.cells #[p, .slice (some ⟨g, 0, none⟩) l.length cap] 93 (0, 0)) := hbk
    rw [Lib.cell_of_heap this]; rfl
  have hSD : (Builtin.unsafeSliceData_ #[29] 124 #[.slice (some ⟨g, 0, none⟩) l.length cap]).run Tryz.prog w.drew = .ok (.pointer (some ⟨g, 0, none⟩)) w.drew :=
    Lib.run_unsafeSliceData_row _ _ _ _ _ _ (by omega)
  have hUS : (Builtin.unsafeString_ #[124, 3] 9 #[.pointer (some ⟨g, 0, none⟩), .int .i64 l.length]).run Tryz.prog w.drew = .ok (.string ⟨l.toArray⟩) (w.drew.freeze ⟨g, 0, none⟩ l.length) := by
    refine Lib.run_unsafeString_row w.drew 124 3 9 5 Tryz.underlying124 (by kernel_rfl) g cur.size (by have hg' : w.drew.heap[g]? = some (.cells cur 5 fz) := hg; simp [World.shape?, hg']) l h0 (by omega) (by unfold maxLen at hcm; omega) ?_
    intro j x hx
    have := hown.cells (g := g) rfl j (.int .u8 x.toNat) (by simp [Lib.byteCells, hx])
    exact this
  have mixed : Tryz.prog.follows .mixedOrders = true := by kernel_rfl
  go_enter Tryz.func31, Tryz.ntmps31
  go_wp2
  go_region_o
  all_goals (go_wp2; go_ret; exact ⟨rfl, Lib.below_freeze (Below.drew (Below.refl B w)) (p := ⟨g, 0, none⟩) hbg _, ((Lib.OthersKept.refl _ _ w).drew).freeze ⟨g, 0, none⟩ _ ⟨cur, fz, hg⟩⟩)
end Go.Proofs.YticlnijkfclgcaaGreatDoor

namespace Go.Proofs.YticlnijkfclgcaaGreatDoor
open Go.Shelf Go.RowKit

/-- the printer at b holds these bytes -/
def PB (B b : Nat) (l : List UInt8) (w : World) : Prop := Lib.IsBuilderF 93 5 B b (Lib.byteCells l) w
/-- what a writing call leaves as it was -/
structure Keep (B b : Nat) (w w' : World) : Prop where
  below : Below B w w'
  others : Lib.OthersKept 5 (some b) w w'
theorem Keep.refl (B b : Nat) (w : World) : Keep B b w w := ⟨Below.refl _ _, Lib.OthersKept.refl _ _ _⟩
theorem Keep.trans {B b : Nat} {a c d : World} (h : Keep B b a c) (k : Keep B b c d) : Keep B b a d := ⟨h.below.trans k.below, h.others.trans k.others⟩
theorem Keep.drew {B b : Nat} {a c : World} (h : Keep B b a c) : Keep B b a c.drew := ⟨h.below.drew, h.others.drew⟩
theorem PB.drew {B b : Nat} {l : List UInt8} {w : World} (h : PB B b l w) : PB B b l w.drew := by
  rcases h with h | h
  · exact .inl h.drew
  · exact .inr h.drew
theorem PB.le {B b : Nat} {l : List UInt8} {w : World} (h : PB B b l w) : B ≤ w.heap.size := by
  have : ∃ p, Lib.BuilderAtF 93 5 B b p (Lib.byteCells l) w := by
    rcases h with h | h
    · exact ⟨_, h⟩
    · exact ⟨_, h⟩
  obtain ⟨p, hB, v, hb, _⟩ := this
  have := (Array.getElem?_eq_some_iff.1 hb).1
  omega
theorem pb_byte {B b : Nat} {l : List UInt8} (c : UInt8) {w : World} (h : PB B b l w) (hl : l.length + 1 ≤ 140737488355328) :
    Calls Tryz.prog 53 #[.pointer (some ⟨b, 0, none⟩), .int .u8 c.toNat] w fun e w' => e = .returned .nilIface ∧ PB B b (l ++ [c]) w' ∧ Keep B b w w' :=
  (pb_WriteByte B b _ c.toNat w h (by rw [Lib.byteCells_length]; exact hl) h.le).mono fun e w' ⟨he, hb, hk1, hk2⟩ => ⟨he, .inr (by simpa [Lib.byteCells] using hb), hk1, hk2⟩
theorem pb_str {B b : Nat} {l : List UInt8} (s : ByteArray) {w : World} (h : PB B b l w) (hl : l.length + s.size ≤ 140737488355328) :
    Calls Tryz.prog 50 #[.pointer (some ⟨b, 0, none⟩), .string s] w fun e w' => e = .returned (.tuple #[.int .i64 s.size, .nilIface]) ∧ PB B b (l ++ s.data.toList) w' ∧ Keep B b w w' :=
  (pb_WriteString B b _ s w h (by rw [Lib.byteCells_length]; exact hl) h.le).mono fun e w' ⟨he, hb, hk1, hk2⟩ => ⟨he, .inr (by simpa [Lib.byteCells, Lib.strCells] using hb), hk1, hk2⟩
theorem index_any (c : UInt8) (w : World) :
    Calls Tryz.prog 42 #[.string ⟨#[8, 9, 10, 12, 13]⟩, .int .u8 c.toNat] w fun e w' => e = .returned (.int .i64 (Lib.indexByte [8, 9, 10, 12, 13] c)) ∧ w' = w := by
  have h : Calls Tryz.prog 42 #[.string ⟨#[8, 9, 10, 12, 13]⟩, .int .u8 c.toNat] w fun e w' => e = .returned (.int .i64 (Lib.indexByte [8, 9, 10, 12, 13] (c.toNat : Int).toNat.toUInt8)) ∧ w' = w :=
    Any.strings_IndexByte Tryz.laysIB ⟨#[8, 9, 10, 12, 13]⟩ c.toNat w
  simpa using h
theorem len6 {n k : Nat} (h : n + 6 ≤ 140737488355328) (hk : k ≤ 6) : n + k ≤ 140737488355328 := by omega
theorem index_none {c : UInt8} (h8 : c ≠ 8) (h9 : c ≠ 9) (h10 : c ≠ 10) (h12 : c ≠ 12) (h13 : c ≠ 13) : Lib.indexByte [8, 9, 10, 12, 13] c = -1 := by
  simp [Lib.indexByte, h8.symm, h9.symm, h10.symm, h12.symm, h13.symm]
theorem quoted_step {B b : Nat} {l : List UInt8} {s : ByteArray} {j : Nat} (hj : j < s.size) {c : UInt8} (hc : s[j]'hj = c) {w : World} (h : PB B b (l ++ (34 :: (s.data.toList.take j).flatMap escF) ++ escF c) w) :
    PB B b (l ++ (34 :: (s.data.toList.take (j + 1)).flatMap escF)) w := by
  have e : s.data.toList[j]? = some c := by
    rw [← hc, Array.getElem?_toList]
    exact Array.getElem?_eq_getElem hj
  rw [take_succ e]
  simpa using h
theorem quoted_len {l : List UInt8} {s : ByteArray} {j : Nat} (hj : j < s.size) (hl : l.length + 6 * s.size + 2 ≤ 140737488355328) : (l ++ (34 :: (s.data.toList.take j).flatMap escF)).length + 6 ≤ 140737488355328 := by
  have h1 := @flatMap_len (s.data.toList.take j)
  have h2 : (s.data.toList.take j).length ≤ j := List.length_take_le _ _
  rw [List.length_append, List.length_cons]
  omega
theorem byte_cases (c : UInt8) : c = 34 ∨ c = 92 ∨ c ∈ ([8, 9, 10, 12, 13] : List UInt8) ∨ (c ≠ 34 ∧ c ≠ 92 ∧ c ≠ 8 ∧ c ≠ 9 ∧ c ≠ 10 ∧ c ≠ 12 ∧ c ≠ 13) := by
  by_cases h1 : c = 34
  · exact .inl h1
  by_cases h2 : c = 92
  · exact .inr (.inl h2)
  by_cases h3 : c ∈ ([8, 9, 10, 12, 13] : List UInt8)
  · exact .inr (.inr (.inl h3))
  simp at h3
  exact .inr (.inr (.inr ⟨h1, h2, h3⟩))
theorem two_cut {q : Nat} (h : q < 2) : (⟨#[48, 49]⟩ : ByteArray).extract q (q + 1) = ⟨#[hexD q]⟩ := by
  have : ∀ q : Fin 2, (⟨#[48, 49]⟩ : ByteArray).extract q.val (q.val + 1) = ⟨#[hexD q.val]⟩ := by decide +kernel
  exact this ⟨q, h⟩
theorem run_two {q : Nat} (h : q < 2) (w : World) : (Instr.slice 9 (.string ⟨#[48, 49]⟩) (some (.int .u8 (q : Int))) (some (.int .u8 ((q : Int) + 1))) none).run Tryz.prog w = .ok (.string ⟨#[hexD q]⟩) w := by
  rw [run_slice_string w 9 _ .u8 .u8 _ _ Tryz.underlying9 (by omega) (by omega) (by simp [ByteArray.size]; omega), ← two_cut h]
  congr 3
def nameB (k : Nat) : UInt8 := ([98, 116, 110, 102, 114] : List UInt8).getD k 0
theorem byte_named {c : UInt8} (h : c ∈ ([8, 9, 10, 12, 13] : List UInt8)) : ∃ k : Nat, k < 5 ∧ Lib.indexByte [8, 9, 10, 12, 13] c = (k : Int) ∧ escF c = [92, nameB k] ∧ ((c.toNat : Int) == 34) = false ∧ ((c.toNat : Int) == 92) = false := by
  have hm2 : c = 8 ∨ c = 9 ∨ c = 10 ∨ c = 12 ∨ c = 13 := by simpa using h
  rcases hm2 with rfl | rfl | rfl | rfl | rfl
  · exact ⟨0, by decide, by decide +kernel, by decide +kernel, by decide +kernel, by decide +kernel⟩
  · exact ⟨1, by decide, by decide +kernel, by decide +kernel, by decide +kernel, by decide +kernel⟩
  · exact ⟨2, by decide, by decide +kernel, by decide +kernel, by decide +kernel, by decide +kernel⟩
  · exact ⟨3, by decide, by decide +kernel, by decide +kernel, by decide +kernel, by decide +kernel⟩
  · exact ⟨4, by decide, by decide +kernel, by decide +kernel, by decide +kernel, by decide +kernel⟩
theorem named_cut {q : Nat} (h : q < 5) : (⟨#[98, 116, 110, 102, 114]⟩ : ByteArray).extract q (q + 1) = ⟨#[nameB q]⟩ := by
  have : ∀ q : Fin 5, (⟨#[98, 116, 110, 102, 114]⟩ : ByteArray).extract q.val (q.val + 1) = ⟨#[nameB q.val]⟩ := by decide +kernel
  exact this ⟨q, h⟩
theorem run_named {q : Nat} (h : q < 5) (w : World) : (Instr.slice 9 (.string ⟨#[98, 116, 110, 102, 114]⟩) (some (.int .i64 (q : Int))) (some (.int .i64 ((q : Int) + 1))) none).run Tryz.prog w = .ok (.string ⟨#[nameB q]⟩) w := by
  rw [run_slice_string w 9 _ .i64 .i64 _ _ Tryz.underlying9 (by omega) (by omega) (by simp [ByteArray.size]; omega), ← named_cut h]
  congr 3
theorem named_data (q : Nat) : ((⟨#[92]⟩ : ByteArray) ++ (⟨#[nameB q]⟩ : ByteArray)).data.toList = [92, nameB q] := by
  simp [ByteArray.data_append]
set_option maxRecDepth 100000 in
set_option maxHeartbeats 4000000 in
theorem quoted_any (B b : Nat) (l : List UInt8) (s : ByteArray) (w : World) (h : PB B b l w) (hs : s.size ≤ 1000000000) (hl : l.length + 6 * s.size + 2 ≤ 140737488355328) :
    Calls Tryz.prog 52 #[.pointer (some ⟨b, 0, none⟩), .string s] w fun e w' => e = .returned (.tuple #[]) ∧ PB B b (l ++ quotedF s.data.toList) w' ∧ Keep B b w w' := by
  have HX := Lib.hid (pb_byte 34 h (by omega))
  go_enter Tryz.func52, Tryz.ntmps52
  go_wp2_with fail
  refine HX.out.mono ?_
  rintro e w1 ⟨rfl, h1, hk1⟩
  have H1 := Lib.hid h1
  have K1 := Lib.hid hk1
  clear h1 hk1 HX h
  go_wp2_with fail
  go_loopw [13] (fun i wr => ∃ j : Nat, i = .int .i64 j ∧ j ≤ s.size ∧ PB B b (l ++ (34 :: (s.data.toList.take j).flatMap escF)) wr ∧ Keep B b w wr) (fun i _ => s.size - (intOf i).toNat)
  case atStart => exact ⟨0, rfl, Nat.zero_le _, by simpa using H1.out, K1.out⟩
  case round =>
    obtain ⟨j, rfl, hj, hpb, hkp⟩ := hrel
    have HPB := Lib.hid hpb
    have HK := Lib.hid hkp
    clear hpb hkp
    by_cases hjl : j < s.size
    · obtain ⟨c, hc⟩ : ∃ c, s[j]'hjl = c := ⟨_, rfl⟩
      have HST := Lib.hid (fun wr' (h : PB B b (l ++ (34 :: (s.data.toList.take j).flatMap escF) ++ escF c) wr') => quoted_step hjl hc h)
      have HLEN : Hid ((l ++ (34 :: (s.data.toList.take j).flatMap escF)).length + 6 ≤ 140737488355328) := quoted_len hjl hl
      have hc34 : c = 34 ∨ c = 92 ∨ c ∈ ([8, 9, 10, 12, 13] : List UInt8) ∨ (c ≠ 34 ∧ c ≠ 92 ∧ c ≠ 8 ∧ c ≠ 9 ∧ c ≠ 10 ∧ c ≠ 12 ∧ c ≠ 13) := byte_cases c
      rcases hc34 with rfl | rfl | hm | hn
      · have HIB := Lib.hid (index_any 34 wr)
        rw [show Lib.indexByte [8, 9, 10, 12, 13] 34 = -1 by kernel_rfl] at HIB
        go_wp2_with fail
        refine HIB.out.mono ?_
        rintro e w2 ⟨rfl, rfl⟩
        clear HIB
        go_wp2_with fail
        refine (pb_str _ HPB.out (len6 HLEN.out (by decide))).mono ?_
        rintro e w3 ⟨rfl, h3, hk3⟩
        have H3 := Lib.hid (HST.out _ h3)
        have HK3 := Lib.hid (HK.out.trans hk3)
        clear h3 hk3
        go_wp2_with fail
        exact ⟨⟨j + 1, by go_num, hjl, H3.out, HK3.out⟩, by simp [intOf]; omega⟩
      · have HIB := Lib.hid (index_any 92 wr)
        rw [show Lib.indexByte [8, 9, 10, 12, 13] 92 = -1 by kernel_rfl] at HIB
        go_wp2_with fail
        refine HIB.out.mono ?_
        rintro e w2 ⟨rfl, rfl⟩
        clear HIB
        go_wp2_with fail
        refine (pb_str _ HPB.out (len6 HLEN.out (by decide))).mono ?_
        rintro e w3 ⟨rfl, h3, hk3⟩
        have H3 := Lib.hid (HST.out _ h3)
        have HK3 := Lib.hid (HK.out.trans hk3)
        clear h3 hk3
        go_wp2_with fail
        exact ⟨⟨j + 1, by go_num, hjl, H3.out, HK3.out⟩, by simp [intOf]; omega⟩
      · obtain ⟨k, hk, hix, hes, b34, b92⟩ := byte_named hm
        have HIB := Lib.hid (index_any c wr)
        rw [hix] at HIB
        have HES := Lib.hid hes
        have s1 := run_named hk
        have e1 := IntWalk.i64_in ((k : Int) + 1) (by omega)
        clear hm hix hes
        go_wp2_with fail
        refine HIB.out.mono ?_
        rintro e w2 ⟨rfl, rfl⟩
        clear HIB
        go_wp2_with fail
        go_still_tail 8, (by kernel_rfl)
        go_wp2_with fail
        refine (pb_str _ HPB.out.drew (len6 HLEN.out (by rw [← size_list, named_data]; exact Nat.le_add_left 2 4))).mono ?_
        rintro e w3 ⟨rfl, h3, hk3⟩
        rw [named_data] at h3
        have H3 := Lib.hid (HST.out _ (by rw [HES.out]; exact h3))
        have HK3 := Lib.hid (HK.out.drew.trans hk3)
        clear h3 hk3
        go_wp2_with fail
        exact ⟨⟨j + 1, by go_num, hjl, H3.out, HK3.out⟩, by simp [intOf]; omega⟩
      · obtain ⟨n34, n92, n8, n9, n10, n12, n13⟩ := hn
        have HIB := Lib.hid (index_any c wr)
        rw [index_none n8 n9 n10 n12 n13] at HIB
        have b34 : ((c.toNat : Int) == 34) = false := byte_ne n34
        have b92 : ((c.toNat : Int) == 92) = false := byte_ne n92
        have HF := Lib.hid (escF_else n34 n92 n8 n9 n10 n12 n13)
        by_cases h32 : c.toNat < 32
        · rw [if_pos h32] at HF
          clear n34 n92 n8 n9 n10 n12 n13
          have hc1 : (c.toNat : Int) < 32 := by omega
          go_wp2_with fail
          refine HIB.out.mono ?_
          rintro e w2 ⟨rfl, rfl⟩
          clear HIB
          go_wp2_with fail
          have e1 := wrap_div c
          have e2 := tmod_byte c
          have hq : c.toNat / 16 < 2 := by omega
          have hr : c.toNat % 16 < 16 := by omega
          have hlow := low_data (c.toNat / 16) (c.toNat % 16)
          generalize c.toNat / 16 = q at *
          generalize c.toNat % 16 = r at *
          have e3 := wrap_add q (by omega)
          have e4 := wrap_add r (by omega)
          have s1 := run_two hq
          have s2 := run_hex hr
          have HLOW := Lib.hid hlow
          clear hq hr hlow
          go_still_tail 17, (by kernel_rfl)
          go_wp2_with fail
          refine (pb_str _ HPB.out.drew (len6 HLEN.out (by rw [← size_list, HLOW.out]; exact Nat.le_refl 6))).mono ?_
          rintro e w3 ⟨rfl, h3, hk3⟩
          have H3 := Lib.hid (HST.out _ (by rw [HF.out, ← HLOW.out]; exact h3))
          have HK3 := Lib.hid (HK.out.drew.trans hk3)
          clear h3 hk3
          go_wp2_with fail
          exact ⟨⟨j + 1, by go_num, hjl, H3.out, HK3.out⟩, by simp [intOf]; omega⟩
        · rw [if_neg h32] at HF
          clear n34 n92 n8 n9 n10 n12 n13
          have hc1 : ¬ (c.toNat : Int) < 32 := by omega
          go_wp2_with fail
          refine HIB.out.mono ?_
          rintro e w2 ⟨rfl, rfl⟩
          clear HIB
          go_wp2_with fail
          refine (pb_byte _ HPB.out (len6 HLEN.out (by decide))).mono ?_
          rintro e w3 ⟨rfl, h3, hk3⟩
          have H3 := Lib.hid (HST.out _ (by rw [HF.out]; exact h3))
          have HK3 := Lib.hid (HK.out.trans hk3)
          clear h3 hk3
          go_wp2_with fail
          exact ⟨⟨j + 1, by go_num, hjl, H3.out, HK3.out⟩, by simp [intOf]; omega⟩
    · have e : s.data.toList.take j = s.data.toList := List.take_of_length_le (by rw [size_list]; omega)
      rw [e] at HPB
      clear e
      have hfl := @flatMap_len s.data.toList
      have hsz := size_list s
      have HL : Hid ((l ++ (34 :: s.data.toList.flatMap escF)).length + 1 ≤ 140737488355328) := by
        show _ ≤ _
        rw [List.length_append, List.length_cons]; omega
      clear hfl hsz
      go_wp2_with fail
      refine (pb_byte 34 HPB.out HL.out).mono ?_
      rintro e w3 ⟨rfl, h3, hk3⟩
      have H3 := Lib.hid h3
      have HK3 := Lib.hid (HK.out.trans hk3)
      clear h3 hk3
      go_wp2_with fail
      go_end0
      exact ⟨rfl, by have := H3.out; simpa [quotedF] using this, HK3.out⟩
end Go.Proofs.YticlnijkfclgcaaGreatDoor

namespace Go.Proofs.YticlnijkfclgcaaGreatDoor
open Go.Shelf Go.RowKit

/-- all that c holds lies below B -/
def Low (B : Nat) (c : CF) : Prop := ∀ b o u, c b o = some u → b < B
theorem Low.keep {B : Nat} {c : CF} {w w' : World} (h : Low B c) (hc : CLe c (cf w)) (hb : Below B w w') : CLe c (cf w') := fun b o u hu => by
  have := hc b o u hu
  unfold cf at *
  rw [hb.cell (p := ⟨b, o, none⟩) (h b o u hu)]; exact this
/-- the table of FormatInt -/
def Pow (B : Nat) (w : World) : Prop := Lib.TabIs Tryz.prog w "internal/strconv.uint64pow10" .u64 Lib.pow10Tab ∧ 3 < B
theorem Pow.keep {B : Nat} {w w' : World} (h : Pow B w) (hb : Below B w w') : Pow B w' := by
  refine ⟨?_, h.2⟩
  have h1 := h.1
  unfold Lib.TabIs World.var? at *
  rw [show Tryz.prog.globalNamed "internal/strconv.uint64pow10" = some 3 by kernel_rfl] at *
  simp only [Option.bind_some] at *
  rw [hb.block _ h.2]
  exact h1
theorem below_grow (w : World) (k : Nat) (os : Array Obj) : Below w.heap.size w (Go.Sort.grow (w.drewN k) os) := by
  refine ⟨rfl, rfl, rfl, ?_, fun i hi => ?_⟩
  · simp
  · rw [Go.Sort.heap_grow_old _ _ (by simpa using hi)]; rfl
theorem PB.grown {B b : Nat} {l : List UInt8} {w w' : World} (h : PB B b l w) (hb : Below w.heap.size w w') : PB B b l w' := by
  have hg : w.grownBy w' none := ⟨hb.os, hb.tape, hb.output, hb.size, fun k hk _ => hb.block k hk⟩
  have key : ∀ p, Lib.BuilderAtF 93 5 B b p (Lib.byteCells l) w → Lib.BuilderAtF 93 5 B b p (Lib.byteCells l) w' := by
    rintro p ⟨hB, v, hbk, hown, hne⟩
    refine ⟨hB, v, ?_, hown.kept hg ?_, hne⟩
    · rw [hb.block b (Array.getElem?_eq_some_iff.1 hbk).1]; exact hbk
    · cases v.ownBlock with
      | none => exact .inl rfl
      | some x => exact .inr (by simp)
  rcases h with h | h
  · exact .inl (key _ h)
  · exact .inr (key _ h)
theorem PB.alloc {B b : Nat} {l : List UInt8} {w : World} (h : PB B b l w) (o : Obj) : PB B b l (w.alloc o) := h.grown ((Below.refl _ w).alloc (Nat.le_refl _) o)
theorem PB.lt {B b : Nat} {l : List UInt8} {w : World} (h : PB B b l w) : b < w.heap.size := by
  have : ∃ p, Lib.BuilderAtF 93 5 B b p (Lib.byteCells l) w := by
    rcases h with h | h
    · exact ⟨_, h⟩
    · exact ⟨_, h⟩
  obtain ⟨p, hB, v, hb, _⟩ := this
  exact (Array.getElem?_eq_some_iff.1 hb).1
theorem Keep.grown {B b : Nat} {w w' : World} (hB : B ≤ w.heap.size) (hb : Below w.heap.size w w') : Keep B b w w' :=
  ⟨hb.mono hB, fun k o hk _ _ => by rw [hb.block k (Array.getElem?_eq_some_iff.1 hk).1]; exact hk⟩
theorem Keep.alloc {B b : Nat} {w : World} (hB : B ≤ w.heap.size) (o : Obj) : Keep B b w (w.alloc o) := Keep.grown hB ((Below.refl _ w).alloc (Nat.le_refl _) o)
/-- a box that is kept -/
theorem Keep.box {B b k : Nat} {w w' : World} {cs : Array Value} (h : Keep B b w w') (hk : w.heap[k]? = some (.cells cs 58 (0, 0))) (hb : k ≠ b) : w'.heap[k]? = some (.cells cs 58 (0, 0)) :=
  h.others k _ hk (by simpa using hb) (fun c fz e => by injection e with _ e2; exact absurd e2 (by decide))
theorem box_cells {w : World} {k : Nat} {c0 c1 c2 c3 c4 : Value} {t : TypeId} {fr : Nat × Nat} (h : w.heap[k]? = some (.cells #[c0, c1, c2, c3, c4] t fr)) :
    w.cell? ⟨k, 0, none⟩ = some c0 ∧ w.cell? ⟨k, 1, none⟩ = some c1 ∧ w.cell? ⟨k, 2, none⟩ = some c2 ∧ w.cell? ⟨k, 3, none⟩ = some c3 ∧ w.cell? ⟨k, 4, none⟩ = some c4 := by
  simp [World.cell?, h]
theorem format_any {B b : Nat} {l : List UInt8} {w : World} (n : Int) (hn : (Lit.int .i64 n).wf = true) (h : PB B b l w) (hp : Pow B w) :
    Calls Tryz.prog 51 #[.int .i64 n, .int .i64 10] w fun e w' => e = .returned (.string ⟨(Lib.itoa n).toArray⟩) ∧ PB B b l w' ∧ Keep B b w w' := by
  have hw := wf_i64 hn
  have H : Calls Tryz.prog 51 #[.int .i64 n, .int .i64 10] w _ := Any.strconv_FormatInt_10 Tryz.laysFmt n hw.1 hw.2 w hp.1
  refine H.mono ?_
  rintro e w' ⟨rfl, k, os, rfl⟩
  have hb := below_grow w k os
  exact ⟨rfl, h.grown hb, Keep.grown h.le hb⟩
theorem itoa_fits {n : Int} {l : List UInt8} (h : -9223372036854775808 ≤ n ∧ n ≤ 9223372036854775807) (hl : l.length + 400 ≤ 140737488355328) : l.length + (⟨(Lib.itoa n).toArray⟩ : ByteArray).size ≤ 140737488355328 := by
  have := Lib.itoa_length_le n h.1 h.2
  simp only [ByteArray.size, List.size_toArray]
  omega
theorem word_fits {l : List UInt8} {s : ByteArray} (hl : l.length + 400 ≤ 140737488355328) (hs : s.size ≤ 5 := by decide) : l.length + s.size ≤ 140737488355328 := by omega
/-- what value of the printer is known to do, going down d -/
def ValueAt (d : Nat) : Prop := ∀ (v : JV) (x : Value) (c : CF) (B b : Nat) (l : List UInt8) (w : World), formedF d v = true → JAt c v x → Low B c → CLe c (cf w) → PB B b l w → Pow B w → l.length + lenB d ≤ 140737488355328 →
  Calls Tryz.prog 30 #[.pointer (some ⟨b, 0, none⟩), x] w fun e w' => e = .returned (.tuple #[]) ∧ PB B b (l ++ showF d v) w' ∧ Keep B b w w'
set_option maxRecDepth 100000 in
set_option maxHeartbeats 4000000 in
theorem value_int (n : Int) (t : ByteArray) (nv iv : Value) (B b : Nat) (l : List UInt8) (w : World) (hn : (Lit.int .i64 n).wf = true) (h : PB B b l w) (hp : Pow B w) (hl : l.length + 400 ≤ 140737488355328) :
    Calls Tryz.prog 30 #[.pointer (some ⟨b, 0, none⟩), .agg #[.int .i64 3, .int .i64 n, .string t, nv, iv]] w fun e w' => e = .returned (.tuple #[]) ∧ PB B b (l ++ Lib.itoa n) w' ∧ Keep B b w w' := by
  have HPB := Lib.hid (h.alloc (.cells #[.int .i64 3, .int .i64 n, .string t, nv, iv] 58))
  have hk0 : Keep B b w (w.alloc (.cells #[.int .i64 3, .int .i64 n, .string t, nv, iv] 58)) := Keep.alloc h.le _
  have HK := Lib.hid hk0
  have HP := Lib.hid (hp.keep hk0.below)
  have HW := Lib.hid (wf_i64 hn)
  have HN := Lib.hid hn
  clear h hp hk0 hn
  go_enter Tryz.func30, Tryz.ntmps30
  go_wp2_with fail
  go_region_with (first
    | (go_at_call 51; refine (format_any n HN.out HPB.out.drew (HP.out.keep (Below.refl _ _).drew)).mono ?_; rintro e w2 ⟨rfl, h2, hk2⟩)
    | (go_at_call 50; refine (pb_str _ h2 (itoa_fits HW.out hl)).mono ?_; rintro e w3 ⟨rfl, h3, hk3⟩))
  all_goals
    go_wp2_with fail
    go_end0
    exact ⟨rfl, h3, (HK.out.drew.trans hk2).trans hk3⟩
set_option maxRecDepth 100000 in
set_option maxHeartbeats 4000000 in
theorem value_string (n : Int) (t : ByteArray) (nv iv : Value) (B b : Nat) (l : List UInt8) (w : World) (ht : t.size ≤ 60) (h : PB B b l w) (hl : l.length + 400 ≤ 140737488355328) :
    Calls Tryz.prog 30 #[.pointer (some ⟨b, 0, none⟩), .agg #[.int .i64 4, .int .i64 n, .string t, nv, iv]] w fun e w' => e = .returned (.tuple #[]) ∧ PB B b (l ++ quotedF t.data.toList) w' ∧ Keep B b w w' := by
  have HPB := Lib.hid (h.alloc (.cells #[.int .i64 4, .int .i64 n, .string t, nv, iv] 58))
  have hk0 : Keep B b w (w.alloc (.cells #[.int .i64 4, .int .i64 n, .string t, nv, iv] 58)) := Keep.alloc h.le _
  have HK := Lib.hid hk0
  clear h hk0
  go_enter Tryz.func30, Tryz.ntmps30
  go_wp2_with fail
  refine (quoted_any B b l t _ HPB.out (by omega) (by omega)).mono ?_
  rintro e w2 ⟨rfl, h2, hk2⟩
  have H2 := Lib.hid h2
  have HK2 := Lib.hid (HK.out.trans hk2)
  clear h2 hk2
  go_wp2_with fail
  go_end0
  exact ⟨rfl, H2.out, HK2.out⟩
set_option maxRecDepth 100000 in
set_option maxHeartbeats 4000000 in
theorem value_word (k n : Int) (hk : k = 0 ∨ k = 1 ∨ k = 2) (t : ByteArray) (nv iv : Value) (B b : Nat) (l : List UInt8) (w : World) (h : PB B b l w) (hl : l.length + 400 ≤ 140737488355328) :
    Calls Tryz.prog 30 #[.pointer (some ⟨b, 0, none⟩), .agg #[.int .i64 k, .int .i64 n, .string t, nv, iv]] w fun e w' => e = .returned (.tuple #[]) ∧ PB B b (l ++ wordF k) w' ∧ Keep B b w w' := by
  have HPB := Lib.hid (h.alloc (.cells #[.int .i64 k, .int .i64 n, .string t, nv, iv] 58))
  have hk0 : Keep B b w (w.alloc (.cells #[.int .i64 k, .int .i64 n, .string t, nv, iv] 58)) := Keep.alloc h.le _
  have HK := Lib.hid hk0
  clear h hk0
  rcases hk with rfl | rfl | rfl
  all_goals
    go_enter Tryz.func30, Tryz.ntmps30
    go_wp2_with fail
    go_region_with (go_at_call 50; refine (pb_str _ (HPB.out.drew.alloc _) (by exact word_fits hl)).mono ?_; rintro e w3 ⟨rfl, h3, hk3⟩)
    all_goals
      go_wp2_with fail
      go_end0
      exact ⟨rfl, h3, (HK.out.drew.trans (Keep.alloc HPB.out.drew.le _)).trans hk3⟩
end Go.Proofs.YticlnijkfclgcaaGreatDoor

namespace Go.Proofs.YticlnijkfclgcaaGreatDoor
open Go.Shelf Go.RowKit

/-- what stands while members are printed: the printer, the value's box -/
structure PV (B b bx : Nat) (box : Array Value) (l : List UInt8) (w wr : World) : Prop where
  pb : PB B b l wr
  keep : Keep B b w wr
  box : wr.heap[bx]? = some (.cells box 58 (0, 0))
  ne : bx ≠ b
theorem PV.next {B b bx : Nat} {box : Array Value} {l l' : List UInt8} {w wr w' : World} (h : PV B b bx box l w wr) (hp : PB B b l' w') (hk : Keep B b wr w') : PV B b bx box l' w w' :=
  ⟨hp, h.keep.trans hk, hk.box h.box h.ne, h.ne⟩
theorem PV.alloc {B b bx : Nat} {box : Array Value} {l : List UInt8} {w wr : World} (h : PV B b bx box l w wr) (o : Obj) : PV B b bx box l w (wr.alloc o) :=
  h.next (h.pb.alloc o) (Keep.alloc h.pb.le o)
theorem PV.drew {B b bx : Nat} {box : Array Value} {l : List UInt8} {w wr : World} (h : PV B b bx box l w wr) : PV B b bx box l w wr.drew :=
  ⟨h.pb.drew, h.keep.drew, h.box, h.ne⟩
/-- the value's box and the member's -/
theorem PV.inner {B b bx : Nat} {box cs : Array Value} {l : List UInt8} {w wr : World} (h : PV B b bx box l w wr) : PV B b wr.heap.size cs l w (wr.alloc (.cells cs 58)) :=
  ⟨h.pb.alloc _, h.keep.trans (Keep.alloc h.pb.le _), heap_alloc_new wr _, by have := h.pb.lt; omega⟩
theorem lenB_succ (d : Nat) : lenB (d + 1) = 400 + 24 * (lenB d + 400) := by rw [lenB]
theorem fits_num {j L p a M Q : Nat} (hj : j < 24) (h1 : p ≤ j * (L + Q)) (hl : a + (400 + 24 * (L + Q)) ≤ M) : a + (1 + p) + (L + Q) + 1 ≤ M := by
  have h2 : (j + 1) * (L + Q) ≤ 24 * (L + Q) := Nat.mul_le_mul_right _ hj
  rw [Nat.add_mul, Nat.one_mul] at h2
  omega
theorem part_fits {M d j n : Nat} {l : List UInt8} {f : JV → List UInt8} {k : Int} {nm : List ByteArray} {it : List JV} (hl : l.length + lenB (d + 1) ≤ M) (hn : ∀ s ∈ nm, textF s = true) (hf : ∀ x ∈ it, (f x).length ≤ lenB d) (hj : j < n) (hn24 : n ≤ 24) (m : UInt8) :
    (l ++ ([m] ++ partF f k nm it j)).length + (lenB d + 400) + 1 ≤ M := by
  have h1 := partF_len (k := k) hn hf j
  rw [lenB_succ] at hl
  rw [List.length_append, List.length_append, List.length_singleton]
  exact fits_num (Nat.lt_of_lt_of_le hj hn24) h1 hl
theorem fits_one {M d : Nat} {l : List UInt8} (hl : l.length + lenB (d + 1) ≤ M) : l.length + 1 ≤ M := by
  rw [lenB_succ] at hl; omega
theorem end_num {p a L M : Nat} (h1 : p ≤ 24 * (L + 400)) (hl : a + (400 + 24 * (L + 400)) ≤ M) : a + (1 + p) + 1 ≤ M := by
  omega
theorem part_end {M d : Nat} {l : List UInt8} {f : JV → List UInt8} {k : Int} {nm : List ByteArray} {it : List JV} (hl : l.length + lenB (d + 1) ≤ M) (hn : ∀ s ∈ nm, textF s = true) (hf : ∀ x ∈ it, (f x).length ≤ lenB d) (hn24 : it.length ≤ 24) (m : UInt8) :
    (l ++ ([m] ++ partF f k nm it it.length)).length + 1 ≤ M := by
  have h1 := Nat.le_trans (partF_len (k := k) hn hf it.length) (Nat.mul_le_mul_right _ hn24)
  rw [lenB_succ] at hl
  rw [List.length_append, List.length_append, List.length_singleton]
  exact end_num h1 hl
section
variable {M L : Nat} {l : List UInt8} {s : ByteArray}
theorem fits_a {Q : Nat} (h : l.length + (L + Q) + 1 ≤ M) : l.length + 1 ≤ M := by omega
theorem fits_b {Q : Nat} (c : UInt8) (h : l.length + (L + Q) + 1 ≤ M) : (l ++ [c]).length + (L + Q) ≤ M := by rw [List.length_append, List.length_singleton]; omega
theorem fits_c {Q : Nat} (h : l.length + (L + Q) + 1 ≤ M) : l.length + (L + Q) ≤ M := by omega
theorem sz_a (h : s.size ≤ 60) : s.size ≤ 1000000000 := Nat.le_trans h (by decide)
theorem fits_d (hs : s.size ≤ 60) (h : l.length + (L + 400) ≤ M) : l.length + 6 * s.size + 2 ≤ M := by omega
theorem fits_e (hs : s.size ≤ 60) (h : l.length + (L + 400) ≤ M) : (l ++ quotedF s.data.toList).length + (L + 1) ≤ M := by
  have := @quotedF_len s
  rw [List.length_append]; omega
theorem fits_f (h : l.length + (L + 1) ≤ M) : l.length + 1 ≤ M := by omega
theorem fits_g (c : UInt8) (h : l.length + (L + 1) ≤ M) : (l ++ [c]).length + (L + 0) ≤ M := by rw [List.length_append, List.length_singleton]; omega
theorem fits_h {q : Nat} (h : l.length + (L + q) ≤ M) : l.length + L ≤ M := by omega
end
theorem part_step {f : JV → List UInt8} {k : Int} {nm : List ByteArray} {it : List JV} {j : Nat} {x : JV} (hx : it[j]? = some x) (l : List UInt8) (m : UInt8) : l ++ ([m] ++ partF f k nm it (j + 1)) = l ++ ([m] ++ partF f k nm it j) ++ headF k nm j ++ f x := by
  rw [partF, hx]
  simp only [Option.map_some, Option.getD_some, List.append_assoc]
set_option maxRecDepth 100000 in
set_option maxHeartbeats 8000000 in
theorem value_array (d : Nat) (IH : ValueAt d) (n : Int) (t : ByteArray) (nm : List ByteArray) (it : List JV) (na : Option Addr) (ncap : Nat) (ia : Option Addr) (icap : Nat) (c : CF) (B b : Nat) (l : List UInt8) (w : World)
    (h24 : it.length ≤ 24) (hnm : ∀ s ∈ nm, textF s = true) (hfi : ∀ x ∈ it, formedF d x = true) (hit : ItemsAt c (.slice ia it.length icap) it) (hlow : Low B c) (hc : CLe c (cf w)) (h : PB B b l w) (hp : Pow B w) (hl : l.length + lenB (d + 1) ≤ 140737488355328) :
    Calls Tryz.prog 30 #[.pointer (some ⟨b, 0, none⟩), .agg #[.int .i64 5, .int .i64 n, .string t, .slice na nm.length ncap, .slice ia it.length icap]] w fun e w' => e = .returned (.tuple #[]) ∧ PB B b (l ++ ([91] ++ partF (showF d) 5 nm it it.length ++ [93])) w' ∧ Keep B b w w' := by
  have HFL := Hold.mk (fun x hx => let ⟨y, hy⟩ := JAt.item hit hx; showF_len d x c y hy (hfi x hx))
  have HV : Hold (PV B b w.heap.size #[.int .i64 5, .int .i64 n, .string t, .slice na nm.length ncap, .slice ia it.length icap] l w (w.alloc (.cells #[.int .i64 5, .int .i64 n, .string t, .slice na nm.length ncap, .slice ia it.length icap] 58))) :=
    ⟨h.alloc _, Keep.alloc h.le _, heap_alloc_new w _, by have := h.lt; omega⟩
  have HL1 := Hold.mk (fits_one hl)
  have HEND := Hold.mk (part_end (k := 5) hl hnm HFL.out h24 91)
  obtain ⟨ia', icap', e, hlen, hel⟩ := hit
  cases e
  have HE := Hold.mk hel
  have HIH := Hold.mk IH
  have HC := Hold.mk hc
  have HP := Hold.mk hp
  have HLO := Hold.mk hlow
  have HFI := Hold.mk hfi
  have HNM := Hold.mk hnm
  have HL := Hold.mk hl
  clear hel IH hc hp hlow hfi hnm h hl
  go_enter Tryz.func30, Tryz.ntmps30
  go_wp2_with fail
  go_still_tail 5, (by kernel_rfl)
  go_wp2_with fail
  refine (pb_byte 91 HV.out.drew.pb HL1.out).mono ?_
  rintro e w1 ⟨rfl, h1, hk1⟩
  have HV1 := Hold.mk (HV.out.drew.next h1 hk1)
  obtain ⟨y0, y1, y2, y3, y4⟩ := box_cells HV1.out.box
  clear h1 hk1 HV HL1
  go_wp2_with fail
  clear y0 y1 y2 y3 y4
  go_loopw [48] (fun i wr => ∃ j : Nat, i = .int .i64 j ∧ j ≤ it.length ∧ PV B b w.heap.size #[.int .i64 5, .int .i64 n, .string t, .slice na nm.length ncap, .slice ia it.length icap] (l ++ ([91] ++ partF (showF d) 5 nm it j)) w wr) (fun i _ => it.length - (intOf i).toNat)
  case atStart => exact ⟨0, rfl, Nat.zero_le _, by simpa [partF] using HV1.out⟩
  case round =>
    obtain ⟨j, rfl, hj, hpv⟩ := hrel
    clear HV1
    have HV := Hold.mk hpv
    obtain ⟨y0, y1, y2, y3, y4⟩ := box_cells hpv.box
    have hlt0 := hpv.pb.lt
    have hwl : w.heap.size < wr.heap.size := (Array.getElem?_eq_some_iff.1 hpv.box).1
    clear hpv
    by_cases hlt : j < it.length
    · obtain ⟨x, hx⟩ : ∃ x, it[j]? = some x := ⟨it[j], List.getElem?_eq_getElem hlt⟩
      obtain ⟨bb, off, k2, n2, t2, nm2, it2, na2, ncap2, ia2, icap2, rfl, hxe, x0, x1, x2, x3, x4, hxj⟩ := HE.out j x hx
      have hcl := HLO.out.keep HC.out HV.out.keep.below
      have z0 := hcl _ _ _ x0
      have z1 := hcl _ _ _ x1
      have z2 := hcl _ _ _ x2
      have z3 := hcl _ _ _ x3
      have z4 := hcl _ _ _ x4
      unfold cf at z0 z1 z2 z3 z4
      have HX := Hold.mk hxj
      have HFX := Hold.mk (HFI.out x (List.mem_of_getElem? hx))
      have HFIT := Hold.mk (part_fits (k := 5) (j := j) HL.out HNM.out HFL.out hlt h24 91)
      have HST := Hold.mk (part_step (f := showF d) (k := 5) (nm := nm) hx l 91)
      have HCL := Hold.mk hcl
      have HVX := Hold.mk (HV.out.alloc (.cells #[.int .i64 k2, .int .i64 n2, .string t2, .slice na2 nm2.length ncap2, .slice ia2 it2.length icap2] 58))
      have HVI : Hold (PV B b wr.heap.size #[.int .i64 k2, .int .i64 n2, .string t2, .slice na2 nm2.length ncap2, .slice ia2 it2.length icap2] (l ++ ([91] ++ partF (showF d) 5 nm it j)) w (wr.alloc (.cells #[.int .i64 k2, .int .i64 n2, .string t2, .slice na2 nm2.length ncap2, .slice ia2 it2.length icap2] 58))) := ⟨HV.out.inner⟩
      clear x0 x1 x2 x3 x4 hx hxe hxj hcl
      generalize l ++ ([91] ++ partF (showF d) 5 nm it j) = l1 at *
      by_cases hj0 : j = 0
      · have hj1 : ¬ 0 < j := by omega
        have HH : Hold (headF 5 nm j = []) := ⟨by simp [headF, hj0]⟩
        clear hj0
        replace HFIT := Hold.mk (fits_c HFIT.out)
        go_wp2_with fail
        refine (HIH.out x _ c B b _ _ HFX.out HX.out HLO.out (HLO.out.keep HC.out HVX.out.keep.below) HVX.out.pb (HP.out.keep HVX.out.keep.below) (fits_h HFIT.out)).mono ?_
        rintro e w3 ⟨rfl, h3, hk3⟩
        have h3b : PB B b (l ++ ([91] ++ partF (showF d) 5 nm it (j + 1))) w3 := by rw [HST.out, HH.out]; simpa only [List.append_assoc, List.append_nil, List.nil_append] using h3
        replace HVX := Hold.mk (HVX.out.next h3b hk3)
        clear h3 hk3 h3b y0 y1 y2 y3 y4
        go_wp2_with fail
        exact ⟨⟨j + 1, by go_num, hlt, HVX.out⟩, by simp [intOf]; omega⟩
      · have hj1 : 0 < j := by omega
        have HH : Hold (headF 5 nm j = [44]) := ⟨by simp [headF, hj0]⟩
        clear hj0
        go_wp2_with fail
        refine (pb_byte 44 HVX.out.pb (fits_a HFIT.out)).mono ?_
        rintro e w2 ⟨rfl, h2, hk2⟩
        replace HVX := Hold.mk (HVX.out.next h2 hk2)
        replace HVI := Hold.mk (HVI.out.next h2 hk2)
        clear y0 y1 y2 y3 y4 h2 hk2
        obtain ⟨y0, y1, y2, y3, y4⟩ := box_cells HVX.out.box
        obtain ⟨u0, u1, u2, u3, u4⟩ := box_cells HVI.out.box
        replace HFIT := Hold.mk (fits_b 44 HFIT.out)
        go_wp2_with fail
        refine (HIH.out x _ c B b _ _ HFX.out HX.out HLO.out (HLO.out.keep HC.out HVX.out.keep.below) HVX.out.pb (HP.out.keep HVX.out.keep.below) (fits_h HFIT.out)).mono ?_
        rintro e w3 ⟨rfl, h3, hk3⟩
        have h3b : PB B b (l ++ ([91] ++ partF (showF d) 5 nm it (j + 1))) w3 := by rw [HST.out, HH.out]; simpa only [List.append_assoc, List.append_nil, List.nil_append] using h3
        replace HVX := Hold.mk (HVX.out.next h3b hk3)
        clear h3 hk3 h3b y0 y1 y2 y3 y4
        go_wp2_with fail
        exact ⟨⟨j + 1, by go_num, hlt, HVX.out⟩, by simp [intOf]; omega⟩
    · have ej : j = it.length := by omega
      have HJ := Hold.mk ej
      clear ej
      go_wp2_with fail
      go_still_tail 5, (by kernel_rfl)
      go_wp2_with fail
      refine (pb_byte 93 HV.out.drew.pb (by rw [HJ.out]; exact HEND.out)).mono ?_
      rintro e w3 ⟨rfl, h3, hk3⟩
      have HV3 := Hold.mk (HV.out.drew.next h3 hk3)
      clear h3 hk3 y0 y1 y2 y3 y4
      go_wp2_with fail
      go_end0
      exact ⟨rfl, by have := HV3.out.pb; rw [HJ.out] at this; simpa using this, HV3.out.keep⟩
set_option maxRecDepth 100000 in
set_option maxHeartbeats 8000000 in
theorem value_object (d : Nat) (IH : ValueAt d) (n : Int) (t : ByteArray) (nm : List ByteArray) (it : List JV) (na : Option Addr) (ncap : Nat) (ia : Option Addr) (icap : Nat) (c : CF) (B b : Nat) (l : List UInt8) (w : World)
    (h24 : it.length ≤ 24) (hnl : nm.length = it.length) (hnm : ∀ s ∈ nm, textF s = true) (hfi : ∀ x ∈ it, formedF d x = true) (hst : StrsAt c (.slice na nm.length ncap) nm) (hit : ItemsAt c (.slice ia it.length icap) it) (hlow : Low B c) (hc : CLe c (cf w)) (h : PB B b l w) (hp : Pow B w) (hl : l.length + lenB (d + 1) ≤ 140737488355328) :
    Calls Tryz.prog 30 #[.pointer (some ⟨b, 0, none⟩), .agg #[.int .i64 6, .int .i64 n, .string t, .slice na nm.length ncap, .slice ia it.length icap]] w fun e w' => e = .returned (.tuple #[]) ∧ PB B b (l ++ ([123] ++ partF (showF d) 6 nm it it.length ++ [125])) w' ∧ Keep B b w w' := by
  have HFL := Hold.mk (fun x hx => let ⟨y, hy⟩ := JAt.item hit hx; showF_len d x c y hy (hfi x hx))
  have HV : Hold (PV B b w.heap.size #[.int .i64 6, .int .i64 n, .string t, .slice na nm.length ncap, .slice ia it.length icap] l w (w.alloc (.cells #[.int .i64 6, .int .i64 n, .string t, .slice na nm.length ncap, .slice ia it.length icap] 58))) :=
    ⟨h.alloc _, Keep.alloc h.le _, heap_alloc_new w _, by have := h.lt; omega⟩
  have HL1 := Hold.mk (fits_one hl)
  have HEND := Hold.mk (part_end (k := 6) hl hnm HFL.out h24 123)
  obtain ⟨ia', icap', e, hlen, hel⟩ := hit
  cases e
  obtain ⟨na', ncap', e, hnlen, hnel⟩ := hst
  cases e
  have HS := Hold.mk hnel
  have HNL := Hold.mk hnl
  clear hnel hnl
  have HE := Hold.mk hel
  have HIH := Hold.mk IH
  have HC := Hold.mk hc
  have HP := Hold.mk hp
  have HLO := Hold.mk hlow
  have HFI := Hold.mk hfi
  have HNM := Hold.mk hnm
  have HL := Hold.mk hl
  clear hel IH hc hp hlow hfi hnm h hl
  go_enter Tryz.func30, Tryz.ntmps30
  go_wp2_with fail
  go_still_tail 5, (by kernel_rfl)
  go_wp2_with fail
  refine (pb_byte 123 HV.out.drew.pb HL1.out).mono ?_
  rintro e w1 ⟨rfl, h1, hk1⟩
  have HV1 := Hold.mk (HV.out.drew.next h1 hk1)
  obtain ⟨y0, y1, y2, y3, y4⟩ := box_cells HV1.out.box
  clear h1 hk1 HV HL1
  go_wp2_with fail
  clear y0 y1 y2 y3 y4
  go_loopw [48] (fun i wr => ∃ j : Nat, i = .int .i64 j ∧ j ≤ it.length ∧ PV B b w.heap.size #[.int .i64 6, .int .i64 n, .string t, .slice na nm.length ncap, .slice ia it.length icap] (l ++ ([123] ++ partF (showF d) 6 nm it j)) w wr) (fun i _ => it.length - (intOf i).toNat)
  case atStart => exact ⟨0, rfl, Nat.zero_le _, by simpa [partF] using HV1.out⟩
  case round =>
    obtain ⟨j, rfl, hj, hpv⟩ := hrel
    clear HV1
    have HV := Hold.mk hpv
    obtain ⟨y0, y1, y2, y3, y4⟩ := box_cells hpv.box
    have hlt0 := hpv.pb.lt
    have hwl : w.heap.size < wr.heap.size := (Array.getElem?_eq_some_iff.1 hpv.box).1
    clear hpv
    by_cases hlt : j < it.length
    · obtain ⟨x, hx⟩ : ∃ x, it[j]? = some x := ⟨it[j], List.getElem?_eq_getElem hlt⟩
      obtain ⟨bb, off, k2, n2, t2, nm2, it2, na2, ncap2, ia2, icap2, rfl, hxe, x0, x1, x2, x3, x4, hxj⟩ := HE.out j x hx
      obtain ⟨s, hs⟩ : ∃ s, nm[j]? = some s := ⟨nm[j]'(by rw [HNL.out]; exact hlt), List.getElem?_eq_getElem (by rw [HNL.out]; exact hlt)⟩
      have hsj : j < nm.length := by rw [HNL.out]; exact hlt
      obtain ⟨hsz, sb, so, rfl, hsc⟩ := HS.out j s hs
      have HSZ := Hold.mk (text_size (HNM.out s (List.mem_of_getElem? hs)))
      have hcl := HLO.out.keep HC.out HV.out.keep.below
      have z0 := hcl _ _ _ x0
      have z1 := hcl _ _ _ x1
      have z2 := hcl _ _ _ x2
      have z3 := hcl _ _ _ x3
      have z4 := hcl _ _ _ x4
      have z5 := hcl _ _ _ hsc
      unfold cf at z0 z1 z2 z3 z4 z5
      have HX := Hold.mk hxj
      have HFX := Hold.mk (HFI.out x (List.mem_of_getElem? hx))
      have HFIT := Hold.mk (part_fits (k := 6) (j := j) HL.out HNM.out HFL.out hlt h24 123)
      have HST := Hold.mk (part_step (f := showF d) (k := 6) (nm := nm) hx l 123)
      have HCL := Hold.mk hcl
      have HSX := Hold.mk hs
      have hsb := lt_of_cell z5
      have HVX := Hold.mk (HV.out.alloc (.cells #[.int .i64 k2, .int .i64 n2, .string t2, .slice na2 nm2.length ncap2, .slice ia2 it2.length icap2] 58))
      have HVI : Hold (PV B b wr.heap.size #[.int .i64 k2, .int .i64 n2, .string t2, .slice na2 nm2.length ncap2, .slice ia2 it2.length icap2] (l ++ ([123] ++ partF (showF d) 6 nm it j)) w (wr.alloc (.cells #[.int .i64 k2, .int .i64 n2, .string t2, .slice na2 nm2.length ncap2, .slice ia2 it2.length icap2] 58))) := ⟨HV.out.inner⟩
      have HSC := Hold.mk hsc
      clear x0 x1 x2 x3 x4 hx hxe hxj hcl hsc hs hsz
      generalize l ++ ([123] ++ partF (showF d) 6 nm it j) = l1 at *
      by_cases hj0 : j = 0
      · have hj1 : ¬ 0 < j := by omega
        have HH : Hold (headF 6 nm j = quotedF s.data.toList ++ [58]) := ⟨by unfold headF; rw [if_pos hj0, if_pos rfl, List.getD_eq_getElem?_getD, HSX.out]; rfl⟩
        clear hj0
        replace HFIT := Hold.mk (fits_c HFIT.out)
        go_wp2_with fail
        refine (quoted_any B b _ s _ HVX.out.pb (sz_a HSZ.out) (fits_d HSZ.out HFIT.out)).mono ?_
        rintro e w4 ⟨rfl, h4, hk4⟩
        replace HVX := Hold.mk (HVX.out.next h4 hk4)
        replace HVI := Hold.mk (HVI.out.next h4 hk4)
        clear y0 y1 y2 y3 y4 h4 hk4 z5
        replace HFIT := Hold.mk (fits_e HSZ.out HFIT.out)
        go_wp2_with fail
        refine (pb_byte 58 HVX.out.pb (fits_f HFIT.out)).mono ?_
        rintro e w5 ⟨rfl, h5, hk5⟩
        replace HVX := Hold.mk (HVX.out.next h5 hk5)
        replace HVI := Hold.mk (HVI.out.next h5 hk5)
        obtain ⟨u0, u1, u2, u3, u4⟩ := box_cells HVI.out.box
        clear h5 hk5
        replace HFIT := Hold.mk (fits_g 58 HFIT.out)
        go_wp2_with fail
        refine (HIH.out x _ c B b _ _ HFX.out HX.out HLO.out (HLO.out.keep HC.out HVX.out.keep.below) HVX.out.pb (HP.out.keep HVX.out.keep.below) (fits_h HFIT.out)).mono ?_
        rintro e w3 ⟨rfl, h3, hk3⟩
        have h3b : PB B b (l ++ ([123] ++ partF (showF d) 6 nm it (j + 1))) w3 := by rw [HST.out, HH.out]; simpa only [List.append_assoc, List.append_nil, List.nil_append] using h3
        replace HVX := Hold.mk (HVX.out.next h3b hk3)
        clear h3 hk3 h3b 
        go_wp2_with fail
        exact ⟨⟨j + 1, by go_num, hlt, HVX.out⟩, by simp [intOf]; omega⟩
      · have hj1 : 0 < j := by omega
        have HH : Hold (headF 6 nm j = [44] ++ quotedF s.data.toList ++ [58]) := ⟨by unfold headF; rw [if_neg hj0, if_pos rfl, List.getD_eq_getElem?_getD, HSX.out]; rfl⟩
        clear hj0
        go_wp2_with fail
        refine (pb_byte 44 HVX.out.pb (fits_a HFIT.out)).mono ?_
        rintro e w2 ⟨rfl, h2, hk2⟩
        replace HVX := Hold.mk (HVX.out.next h2 hk2)
        replace HVI := Hold.mk (HVI.out.next h2 hk2)
        clear y0 y1 y2 y3 y4 h2 hk2 z5
        obtain ⟨y0, y1, y2, y3, y4⟩ := box_cells HVX.out.box
        obtain ⟨u0, u1, u2, u3, u4⟩ := box_cells HVI.out.box
        replace HFIT := Hold.mk (fits_b 44 HFIT.out)
        have z5 := HLO.out.keep HC.out HVX.out.keep.below _ _ _ HSC.out
        unfold cf at z5
        go_wp2_with fail
        refine (quoted_any B b _ s _ HVX.out.pb (sz_a HSZ.out) (fits_d HSZ.out HFIT.out)).mono ?_
        rintro e w4 ⟨rfl, h4, hk4⟩
        replace HVX := Hold.mk (HVX.out.next h4 hk4)
        replace HVI := Hold.mk (HVI.out.next h4 hk4)
        clear y0 y1 y2 y3 y4 h4 hk4 z5 u0 u1 u2 u3 u4
        replace HFIT := Hold.mk (fits_e HSZ.out HFIT.out)
        go_wp2_with fail
        refine (pb_byte 58 HVX.out.pb (fits_f HFIT.out)).mono ?_
        rintro e w5 ⟨rfl, h5, hk5⟩
        replace HVX := Hold.mk (HVX.out.next h5 hk5)
        replace HVI := Hold.mk (HVI.out.next h5 hk5)
        obtain ⟨u0, u1, u2, u3, u4⟩ := box_cells HVI.out.box
        clear h5 hk5
        replace HFIT := Hold.mk (fits_g 58 HFIT.out)
        go_wp2_with fail
        refine (HIH.out x _ c B b _ _ HFX.out HX.out HLO.out (HLO.out.keep HC.out HVX.out.keep.below) HVX.out.pb (HP.out.keep HVX.out.keep.below) (fits_h HFIT.out)).mono ?_
        rintro e w3 ⟨rfl, h3, hk3⟩
        have h3b : PB B b (l ++ ([123] ++ partF (showF d) 6 nm it (j + 1))) w3 := by rw [HST.out, HH.out]; simpa only [List.append_assoc, List.append_nil, List.nil_append] using h3
        replace HVX := Hold.mk (HVX.out.next h3b hk3)
        clear h3 hk3 h3b 
        go_wp2_with fail
        exact ⟨⟨j + 1, by go_num, hlt, HVX.out⟩, by simp [intOf]; omega⟩
    · have ej : j = it.length := by omega
      have HJ := Hold.mk ej
      clear ej
      go_wp2_with fail
      go_still_tail 5, (by kernel_rfl)
      go_wp2_with fail
      refine (pb_byte 125 HV.out.drew.pb (by rw [HJ.out]; exact HEND.out)).mono ?_
      rintro e w3 ⟨rfl, h3, hk3⟩
      have HV3 := Hold.mk (HV.out.drew.next h3 hk3)
      clear h3 hk3 y0 y1 y2 y3 y4
      go_wp2_with fail
      go_end0
      exact ⟨rfl, by have := HV3.out.pb; rw [HJ.out] at this; simpa using this, HV3.out.keep⟩
theorem value_any : ∀ d, ValueAt d
  | 0 => fun v x c B b l w hf => by simp [formedF] at hf
  | d + 1 => fun v x c B b l w hf hv hlow hc h hp hl => by
    have IH := value_any d
    obtain ⟨k, n, t, nm, it, na, ncap, ia, icap, rfl, rfl, _, hn, _, hst, hit⟩ := hv.open
    have h1 := formed_head hf
    have hl4 : l.length + 400 ≤ 140737488355328 := by rw [lenB_succ] at hl; exact Nat.le_trans (Nat.add_le_add_left (Nat.le_add_right _ _) _) hl
    rw [showF]
    by_cases h3 : k = 3
    · subst h3; rw [if_pos rfl]; exact value_int n t _ _ B b l w hn h hp hl4
    rw [if_neg h3]
    by_cases h4 : k = 4
    · subst h4; rw [if_pos rfl]; exact value_string n t _ _ B b l w (text_size h1.2.2.2.2) h hl4
    rw [if_neg h4]
    by_cases h5 : k = 5
    · subst h5
      obtain ⟨h24, _, hnm, hfi, _⟩ := formed_body hf (by decide)
      rw [if_pos rfl]; exact value_array d IH n t nm it na ncap ia icap c B b l w h24 hnm hfi hit hlow hc h hp hl
    rw [if_neg h5]
    by_cases h6 : k = 6
    · subst h6
      obtain ⟨h24, hnl, hnm, hfi, _⟩ := formed_body hf (by decide)
      rw [if_pos rfl]; exact value_object d IH n t nm it na ncap ia icap c B b l w h24 (by simpa using hnl) hnm hfi hst hit hlow hc h hp hl
    rw [if_neg h6]
    have h0 := h1.1
    have h7 := h1.2.1
    exact value_word k n (by omega) t _ _ B b l w h hl4
end Go.Proofs.YticlnijkfclgcaaGreatDoor
