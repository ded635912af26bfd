/- The order of values, plainly. Paths, plainly. -/
import Derived.Test.YticlnijkfclgcaaGreatDoorZ01
import Derived.Test.YticlnijkfclgcaaGreatDoorZ02
import Derived.Test.YticlnijkfclgcaaGreatDoorZ03
import Derived.Test.YticlnijkfclgcaaGreatDoorZ05
import Derived.Test.YticlnijkfclgcaaGreatDoorZ07
import Derived.Test.YticlnijkfclgcaaGreatDoorZ09
import Derived.Test.YticlnijkfclgcaaGreatDoorZ11
import Derived.Test.YticlnijkfclgcaaGreatDoorZ16
import Derived.Test.YticlnijkfclgcaaGreatDoorZ18
import Derived.Test.YticlnijkfclgcaaGreatDoorZ19
import Derived.Test.YticlnijkfclgcaaGreatDoorRows
import Derived.WalkKit
import Derived.WalkLawsBesides
import Derived.Laws.IdiomStrings
import Derived.Laws.Cover4
import Derived.Lib.ValidLaws
import Derived.Lib.MapLaws
import Derived.Lib.TrimUEq
import Derived.Lib.Strings
import Derived.Deep.RegionWith
import Derived.BigQuiet
import Derived.Deep.QuietTactic
import Derived.StillTailTactics
import Derived.ProofKit
import Derived.OpenShut
import Derived.Deep.Slices
import Derived.ChangeOld
import Derived.Test.YticlnijkfclgcaaGreatDoorCards
import Derived.Test.YticlnijkfclgcaaGreatDoorTie
import Derived.Lib.LaidIn
import Derived.Lib.LaidU8T
import Derived.PinnedBridge
import Derived.Deep.DeepHandedRow
import Derived.Deep.DeepWitnessRowRef
import Derived.SizedLaws
import Derived.Stop.LaidErr
import Derived.Lib.LaidTab
import Derived.Lay
namespace Go.Proofs.YticlnijkfclgcaaGreatDoor

/-- the first that isn't 0 -/
def orI (a b : Int) : Int := if a = 0 then b else a
def cmpI (a b : Int) : Int := if a < b then -1 else if b < a then 1 else 0
def cmpS (a b : ByteArray) : Int := if strLt a b = true then -1 else if a = b then 0 else 1
/-! where a loop stands -/
/-! bytes -/
end Go.Proofs.YticlnijkfclgcaaGreatDoor

namespace Go.Proofs.YticlnijkfclgcaaGreatDoor

/-- steps from the place i on, the last one begun at fr -/
def stepsGo (s : ByteArray) : Nat → Nat → Nat → List ByteArray → Option (List ByteArray)
  | 0, _, _, out => some out
  | m + 1, fr, i, out =>
    if i < s.size ∧ s.data.toList[i]? ≠ some 46 then stepsGo s m fr (i + 1) out
    else if i = fr ∨ 60 < i - fr ∨ out.length = 4 ∨ Lib.validD (s.extract fr i).data.toList = false then none
    else stepsGo s m (i + 1) (i + 1) (out ++ [s.extract fr i])
/-- the steps of a path -/
def stepsF (s : ByteArray) : Option (List ByteArray) := stepsGo s (s.size + 1) 0 0 []
/-- digits, from so much on -/
def numGo : List UInt8 → Nat → Int
  | [], n => n
  | c :: l, n => if c.toNat < 48 ∨ 57 < c.toNat then -1 else numGo l (n * 10 + (c.toNat - 48))
/-- the number of a step; -1: it is none -/
def numF (s : ByteArray) : Int := if s.size = 0 ∨ 4 < s.size ∨ 1 < s.size ∧ s.data.toList[0]? = some 48 then -1 else numGo s.data.toList 0
/-- the first place of a name -/
def idxGo (s : ByteArray) : List ByteArray → Nat → Int
  | [], _ => -1
  | n :: l, j => if n = s then j else idxGo s l (j + 1)
/-- the place of a step in a value; -1: there is none -/
def placeF (v : JV) (s : ByteArray) : Int :=
  if v.kind = 5 ∧ numF s < v.items.length then numF s else if v.kind = 6 then idxGo s v.names 0 else -1
/-- going down the steps -/
def walkF : List ByteArray → JV → Option JV
  | [], v => some v
  | s :: l, v => if placeF v s < 0 then none else (v.items[(placeF v s).toNat]?).bind (walkF l)
/-- what lies at a path -/
def getJ (v : JV) (p : ByteArray) : Option JV := (stepsF p).bind fun l => if formedF 6 v = true then walkF l v else none
end Go.Proofs.YticlnijkfclgcaaGreatDoor

/- Plain laws on UTF-8: decoding, encoding, validity. No program. Valid and text of the reference. formed of the reference: what is asked of a value itself. formed of the reference, whole. Depth, of the program and of the reference. formed and Depth of both, whole; the plain law. -/
namespace Go.Proofs.YticlnijkfclgcaaGreatDoor
open Go.Lib

end Go.Proofs.YticlnijkfclgcaaGreatDoor

namespace Go.Proofs.YticlnijkfclgcaaGreatDoor
open Go.RowKit

abbrev one (w : World) (k n : Int) (t : ByteArray) (na : Option Addr) (nl ncap : Nat) (ia : Option Addr) (il icap : Nat) : World :=
  w.alloc (.cells #[.int .i64 k, .int .i64 n, .string t, .slice na nl ncap, .slice ia il icap] 58)
end Go.Proofs.YticlnijkfclgcaaGreatDoor

namespace Go.Proofs.YticlnijkfclgcaaGreatDoor
open Go.RowKit

end Go.Proofs.YticlnijkfclgcaaGreatDoor

namespace Go.Proofs.YticlnijkfclgcaaGreatDoor
open Go.RowKit

end Go.Proofs.YticlnijkfclgcaaGreatDoor

/- Read of the reference. (printed by genXQP.py) JsonReads walked. -/
namespace Go.Proofs.YticlnijkfclgcaaGreatDoor
open Go.Shelf Go.RowKit

end Go.Proofs.YticlnijkfclgcaaGreatDoor

namespace Go.Proofs.YticlnijkfclgcaaGreatDoor
open Go.Shelf Go.RowKit

theorem errs_after {w w' : World} (h : Errs w.heap.size w) (hb : Below w.heap.size w w') : Errs w'.heap.size w' := by
  have h2 := h.below hb
  exact ⟨Nat.lt_of_lt_of_le h2.g1 hb.size, Nat.lt_of_lt_of_le h2.g2 hb.size, h2.syn, h2.rng⟩
end Go.Proofs.YticlnijkfclgcaaGreatDoor

/- Print, of the program and of the reference. the law JsonPrints, walked. -/
namespace Go.Proofs.YticlnijkfclgcaaGreatDoor
open Go.Shelf Go.RowKit

/-- the cells below B -/
def cfB (B : Nat) (w : World) : CF := fun b o => if b < B then w.cell? ⟨b, o, none⟩ else none
theorem cfB_low (B : Nat) (w : World) : Low B (cfB B w) := fun b o u h => by
  unfold cfB at h; split at h
  · assumption
  · cases h
theorem cfB_le (B : Nat) (w : World) : CLe (cfB B w) (cf w) := fun b o u h => by
  unfold cfB at h; split at h
  · exact h
  · cases h
theorem cle_cfB (w : World) : CLe (cf w) (cfB w.heap.size w) := fun b o u h => by
  unfold cfB; rw [if_pos (lt_of_cell h)]; exact h
theorem decDigits_ne (u : Nat) : Lib.decDigits u ≠ [] := by
  rw [Lib.decDigits]; split <;> simp
theorem itoa_ne (n : Int) : Lib.itoa n ≠ [] := by
  unfold Lib.itoa; split
  · simp
  · exact decDigits_ne _
theorem showF_ne (d : Nat) (v : JV) : showF (d + 1) v ≠ [] := by
  obtain ⟨k, n, t, nm, it⟩ := v
  rw [showF]
  repeat' split
  · exact itoa_ne n
  · simp [quotedF]
  · simp
  · simp
  · unfold wordF; repeat' split
    all_goals simp
theorem pb_new {B : Nat} {w : World} (h : B ≤ w.heap.size) : PB B w.heap.size [] (w.alloc (.cells #[.pointer none, .slice none 0 0] 93)) :=
  .inl ⟨h, .slice none 0 0, heap_alloc_new w _, World.ownsRowF_nil _ _ _ _, by simp [Value.ownBlock]⟩
set_option maxHeartbeats 4000000 in
theorem Print_no (v : JV) (x : Value) (w : World) (hx : JAt (cf w) v x) (hT : Tabs w) (hf : formedF 6 v = false) :
    Calls Tryz.prog 20 #[x] w fun e w' => e = .returned (.tuple #[.string ⟨#[]⟩, .int .i64 2]) ∧ Below w.heap.size w w' := by
  obtain ⟨k, n, t, nm, it, na, ncap, ia, icap, hve, rfl, _⟩ := hx.open
  have hb0 := (Below.refl _ w).alloc (Nat.le_refl _) (.cells #[.int .i64 k, .int .i64 n, .string t, .slice na nm.length ncap, .slice ia it.length icap] 58)
  have HX := Hold.mk (Formed_any v _ _ (hx.mono (cle_below hb0)) (hT.below hb0))
  rw [hf] at HX
  have HB0 := Hold.mk hb0
  clear hx hT hve hf hb0
  go_enter Tryz.func20, Tryz.ntmps20
  go_wp2_with fail
  refine HX.out.mono ?_
  rintro e w1 ⟨rfl, hb1⟩
  have HB1 := Hold.mk (HB0.out.trans (hb1.mono HB0.out.size))
  clear HX hb1
  go_wp2_with fail
  go_ret2
  exact ⟨rfl, HB1.out⟩
set_option maxRecDepth 100000 in
set_option maxHeartbeats 4000000 in
theorem Print_yes (v : JV) (x : Value) (w : World) (hx : JAt (cf w) v x) (hT : Tabs w) (hP : Pow w.heap.size w) (hf : formedF 6 v = true) :
    Calls Tryz.prog 20 #[x] w fun e w' => e = .returned (.tuple #[.string ⟨(showF 6 v).toArray⟩, .int .i64 0]) ∧ Below w.heap.size w w' := by
  obtain ⟨k, n, t, nm, it, na, ncap, ia, icap, hve, rfl, _⟩ := hx.open
  have hb0 := (Below.refl _ w).alloc (Nat.le_refl _) (.cells #[.int .i64 k, .int .i64 n, .string t, .slice na nm.length ncap, .slice ia it.length icap] 58)
  have HX := Hold.mk (Formed_any v _ _ (hx.mono (cle_below hb0)) (hT.below hb0))
  rw [hf] at HX
  have HF := Hold.mk hf
  have HJ := Hold.mk (hx.mono (cle_cfB w))
  have HP := Hold.mk hP
  have HBX := Hold.mk (Boxed.refl w (.cells #[.int .i64 k, .int .i64 n, .string t, .slice na nm.length ncap, .slice ia it.length icap] 58))
  clear hx hT hve hf hb0 hP
  go_enter Tryz.func20, Tryz.ntmps20
  go_wp2_with fail
  refine HX.out.mono ?_
  rintro e w1 ⟨rfl, hb1⟩
  replace HBX := Hold.mk (HBX.out.next hb1)
  have y0 := HBX.out.c0
  have y1 := HBX.out.c1
  have y2 := HBX.out.c2
  have y3 := HBX.out.c3
  have y4 := HBX.out.c4
  have hlt : w.heap.size < w1.heap.size := HBX.out.lt
  clear HX hb1
  go_wp2_with fail
  have hbw : Below w.heap.size w (w1.alloc (.cells #[.pointer none, .slice none 0 0] 93)) := HBX.out.below.alloc (Nat.le_of_lt hlt) _
  refine (value_any 6 v _ (cfB w.heap.size w) w.heap.size w1.heap.size [] _ HF.out HJ.out (cfB_low _ _) ((cfB_low _ _).keep (cfB_le _ _) hbw) (pb_new (Nat.le_of_lt hlt)) (HP.out.keep hbw) (by decide)).mono ?_
  rintro e w2 ⟨rfl, h2, hk2⟩
  rw [List.nil_append] at h2
  have H2 := Hold.mk h2
  have HBW := Hold.mk (hbw.trans hk2.below)
  clear hbw hk2 h2 y0 y1 y2 y3 y4
  go_wp2_with fail
  refine (pb_String _ _ (showF 6 v) _ H2.out (showF_ne 5 v)).mono ?_
  rintro e w3 ⟨rfl, hb3, _⟩
  have HB3 := Hold.mk (HBW.out.trans hb3)
  clear hb3
  go_wp2_with fail
  go_ret2
  exact ⟨rfl, HB3.out⟩
end Go.Proofs.YticlnijkfclgcaaGreatDoor

namespace Go.Proofs.YticlnijkfclgcaaGreatDoor
open Go.RowKit

/-- what Print hands back -/
def printS (v : JV) : ByteArray := if formedF 6 v = true then ba (showF 6 v) else ⟨#[]⟩
def printE (v : JV) : Int := if formedF 6 v = true then 0 else 2
theorem Print_any (v : JV) (x : Value) (w : World) (hx : JAt (cf w) v x) (hT : Tabs w) (hP : Pow w.heap.size w) :
    Calls Tryz.prog 20 #[x] w fun e w' => e = .returned (.tuple #[.string (printS v), .int .i64 (printE v)]) ∧ Below w.heap.size w w' := by
  unfold printS printE
  cases hf : formedF 6 v with
  | false => exact Print_no v x w hx hT hf
  | true => exact Print_yes v x w hx hT hP hf
theorem Pow.below {w w' : World} (h : Pow w.heap.size w) (hb : Below w.heap.size w w') : Pow w'.heap.size w' := ⟨(h.keep hb).1, Nat.lt_of_lt_of_le h.2 hb.size⟩
end Go.Proofs.YticlnijkfclgcaaGreatDoor

/- cmp: Compare and Or, walked. compare of order, walked. -/
namespace Go.Proofs.YticlnijkfclgcaaGreatDoor
open Go.RowKit

theorem isNaN_int (a : Int) (w : World) : Calls Tryz.prog 54 #[.int .i64 a] w fun e w' => e = .returned (.bool false) ∧ w' = w := by
  go_enter Tryz.func54, Tryz.ntmps54
  go_wp2_with fail
  go_ret
  exact ⟨by simp, rfl⟩
set_option maxHeartbeats 2000000 in
theorem compare_int (a b : Int) (w : World) : Calls Tryz.prog 34 #[.int .i64 a, .int .i64 b] w fun e w' => e = .returned (.int .i64 (cmpI a b)) ∧ w' = w := by
  have hc : (a < b ∧ cmpI a b = -1) ∨ (¬ a < b ∧ b < a ∧ cmpI a b = 1) ∨ (¬ a < b ∧ ¬ b < a ∧ cmpI a b = 0) := by
    unfold cmpI
    by_cases h1 : a < b
    · exact .inl ⟨h1, by rw [if_pos h1]⟩
    · by_cases h2 : b < a
      · exact .inr (.inl ⟨h1, h2, by rw [if_neg h1, if_pos h2]⟩)
      · exact .inr (.inr ⟨h1, h2, by rw [if_neg h1, if_neg h2]⟩)
  rcases hc with ⟨h1, h2⟩ | ⟨h0, h1, h2⟩ | ⟨h0, h1, h2⟩
  all_goals
    have HC := Hold.mk h2
    clear h2
    go_enter Tryz.func34, Tryz.ntmps34
    go_wp2_with fail
    refine (isNaN_int a w).mono ?_
    rintro e w1 ⟨rfl, hw1⟩
    subst hw1
    go_wp2_with fail
    refine (isNaN_int b _).mono ?_
    rintro e w2 ⟨rfl, hw2⟩
    subst hw2
    go_wp2_with fail
    go_ret
    exact ⟨by rw [HC.out]; rfl, rfl⟩
theorem isNaN_str (a : ByteArray) (w : World) : Calls Tryz.prog 55 #[.string a] w fun e w' => e = .returned (.bool false) ∧ w' = w := by
  go_enter Tryz.func55, Tryz.ntmps55
  go_wp2_with fail
  go_ret
  exact ⟨by simp, rfl⟩
set_option maxHeartbeats 2000000 in
theorem compare_str (a b : ByteArray) (w : World) : Calls Tryz.prog 35 #[.string a, .string b] w fun e w' => e = .returned (.int .i64 (cmpS a b)) ∧ w' = w := by
  have hc : (Op.bytesLess a.toList b.toList = true ∧ cmpS a b = -1) ∨ (Op.bytesLess a.toList b.toList = false ∧ (a.toList == b.toList) = false ∧ cmpS a b = 1) ∨ (Op.bytesLess a.toList b.toList = false ∧ (a.toList == b.toList) = true ∧ cmpS a b = 0) := by
    unfold cmpS strLt
    cases h1 : Op.bytesLess a.toList b.toList with
    | true => exact .inl ⟨rfl, by simp⟩
    | false =>
      by_cases h2 : a = b
      · exact .inr (.inr ⟨rfl, by rw [h2]; simp, by simp [h2]⟩)
      · exact .inr (.inl ⟨rfl, str_ne h2, by simp [h2]⟩)
  rcases hc with ⟨h1, h2⟩ | ⟨h0, h1, h2⟩ | ⟨h0, h1, h2⟩
  all_goals
    have HC := Hold.mk h2
    clear h2
    go_enter Tryz.func35, Tryz.ntmps35
    go_wp2_with fail
    refine (isNaN_str a w).mono ?_
    rintro e w1 ⟨rfl, hw1⟩
    subst hw1
    go_wp2_with fail
    refine (isNaN_str b _).mono ?_
    rintro e w2 ⟨rfl, hw2⟩
    subst hw2
    go_wp2_with fail
    go_ret
    exact ⟨by rw [HC.out]; rfl, rfl⟩
/-- the first that isn't 0, of many -/
def orL : List Int → Int
  | [] => 0
  | x :: l => orI x (orL l)
set_option maxHeartbeats 4000000 in
theorem or_any (l : List Int) (g : Nat) (w : World) (hl : l.length ≤ 1000) (h : ∀ (i : Nat) x, l[i]? = some x → w.cell? ⟨g, i, none⟩ = some (.int .i64 x)) :
    Calls Tryz.prog 33 #[.slice (some ⟨g, 0, none⟩) l.length l.length] w fun e w' => e = .returned (.int .i64 (orL l)) ∧ w = w' := by
  have HC := Hold.mk h
  clear h
  go_enter Tryz.func33, Tryz.ntmps33
  go_wp2_with fail
  go_loop [8] (fun i => ∃ j : Nat, i = .int .i64 j ∧ j ≤ l.length ∧ orL l = orL (l.drop j)) (fun i => l.length - (intOf i).toNat)
  case atStart => exact ⟨0, rfl, Nat.zero_le _, rfl⟩
  case round =>
    obtain ⟨j, rfl, hj, hst⟩ := hrel
    have HST := Hold.mk hst
    clear hst
    by_cases hlt : j < l.length
    · obtain ⟨x, hx⟩ : ∃ x, l[j]? = some x := ⟨l[j], List.getElem?_eq_getElem hlt⟩
      have hcell := HC.out j x hx
      have HD : Hold (orL (l.drop j) = orI x (orL (l.drop (j + 1)))) := ⟨by
        obtain ⟨h1, e1⟩ := List.getElem?_eq_some_iff.1 hx
        rw [List.drop_eq_getElem_cons h1, orL, e1]⟩
      clear hx
      by_cases h0 : x = 0
      · subst h0
        have HR : Hold (orL l = orL (l.drop (j + 1))) := ⟨by rw [HST.out, HD.out]; simp [orI]⟩
        go_wp2_with fail
        exact ⟨⟨j + 1, by go_num, hlt, HR.out⟩, by simp [intOf]; omega⟩
      · have hb : (x != 0) = true := by simpa using h0
        have HR : Hold (orL l = x) := ⟨by rw [HST.out, HD.out]; simp [orI, h0]⟩
        clear h0
        go_wp2_with fail
        go_ret
        exact ⟨by rw [HR.out]; rfl, rfl⟩
    · have HR : Hold (orL l = 0) := ⟨by rw [HST.out, List.drop_eq_nil_of_le (by omega), orL]⟩
      go_wp2_with fail
      go_ret
      exact ⟨by rw [HR.out]; rfl, rfl⟩
end Go.Proofs.YticlnijkfclgcaaGreatDoor

namespace Go.Proofs.YticlnijkfclgcaaGreatDoor
open Go.RowKit

end Go.Proofs.YticlnijkfclgcaaGreatDoor

/- Documents: an id and a value; as the reference has them; whether one is formed; Same of the reference at one list. -/
namespace Go.Proofs.YticlnijkfclgcaaGreatDoor
open Go.Shelf Go.RowKit

/-- an id -/
def idF (s : ByteArray) : Bool := decide (1 ≤ s.size) && decide (s.size ≤ 16) && Lib.validD s.data.toList
theorem validW (s : ByteArray) (w : World) (hs : s.size ≤ 1000000) (hT : Tabs w) :
    Calls Tryz.prog 23 #[.string s] w fun e w' => e = .returned (.bool (Lib.validD s.data.toList)) ∧ Below w.heap.size w w' :=
  Any.utf8_ValidString Tryz.laysValid s w (by omega) hT
structure TwoB (w wr : World) (a b : Array Value) (s t : TypeId) : Prop where
  bel : Below w.heap.size w wr
  one : wr.heap[w.heap.size]? = some (.cells a s (0, 0))
  two : wr.heap[w.heap.size + 1]? = some (.cells b t (0, 0))
theorem TwoB.refl (w : World) (a b : Array Value) (s t : TypeId) : TwoB w ((w.alloc (.cells a s)).alloc (.cells b t)) a b s t := by
  have h1 : Below w.heap.size w (w.alloc (.cells a s)) := (Below.refl _ w).alloc (Nat.le_refl _) _
  have h2 : Below (w.alloc (.cells a s)).heap.size (w.alloc (.cells a s)) ((w.alloc (.cells a s)).alloc (.cells b t)) := (Below.refl _ _).alloc (Nat.le_refl _) _
  refine ⟨h1.trans (h2.mono h1.size), kept (heap_alloc_new w _) h2, ?_⟩
  have := heap_alloc_new (w.alloc (.cells a s)) (.cells b t)
  simpa using this
theorem TwoB.next {w wr w' : World} {a b : Array Value} {s t : TypeId} (h : TwoB w wr a b s t) (hb : Below wr.heap.size wr w') : TwoB w w' a b s t :=
  ⟨h.bel.trans (hb.mono h.bel.size), kept h.one hb, kept h.two hb⟩
theorem take_nextW {α : Type} {l : List α} {j : Nat} {x : α} (h : l[j]? = some x) : l.take (j + 1) = l.take j ++ [x] := by
  rw [List.take_add_one, h]; rfl
/-- it is told whether P holds; yes only if it does -/
def FewPostW (P : Prop) (w : World) (e : Ending) (w' : World) : Prop := ∃ b, e = .returned (.bool b) ∧ (b = true → P) ∧ Below w.heap.size w w'
theorem fewW_no {P : Prop} {w w' : World} (h : Below w.heap.size w w') : FewPostW P w (.returned (.bool false)) w' := ⟨false, rfl, (fun h => by cases h), h⟩
theorem fewW_mk {P : Prop} {w w' : World} {b c : Bool} (hb : b = true → P) (hc : c = b) (h : Below w.heap.size w w') : FewPostW P w (.returned (.bool c)) w' := ⟨b, by rw [hc], hb, h⟩
end Go.Proofs.YticlnijkfclgcaaGreatDoor

/- A value that comes in, opened: what is read is a tree. -/
namespace Go.Proofs.YticlnijkfclgcaaGreatDoor
open Go.ChangeShapes Go.WideShapes Go.ChangeAt Go.RowKit

theorem addr_add (b off k : Nat) : (⟨b, off, none⟩ : Addr).add k = ⟨b, off + k, none⟩ := by
  unfold Addr.add; split <;> simp_all
theorem cell_spot {W : World} {b off : Nat} {spot} (h0 : ∃ u, W.cell? ((⟨b, off, spot⟩ : Addr).add 0) = some u) : spot = none := by
  obtain ⟨u, hu⟩ := h0
  have := World.cell?_spot hu; simpa [Addr.add] using this
instance : Inhabited JV := ⟨.mk 0 0 ⟨#[]⟩ [] []⟩
theorem okWide_agg {P : Program} {w : World} {r : Reach} {base : Nat} {t : TypeId} {v : Value} {fs : Array Field} (ht : P.underlying t = some (.struct fs)) (h : Value.okWide P w r base t v) : ∃ cs, v = .agg cs := by
  obtain ⟨cs, e, _⟩ := okWide_struct ht h
  exact ⟨cs, e⟩
end Go.Proofs.YticlnijkfclgcaaGreatDoor

/- What the cards of the JSON laws share: the world with both tables. -/
namespace Go.Proofs.YticlnijkfclgcaaGreatDoor
open Go.Shelf
open Go.ChangeShapes Go.WideShapes Go.ChangeAt Go.RowKit

theorem Tryz.own : ownKnob Tryz.prog.godebug = none := by kernel_rfl
theorem Tryz.laidOut : laidOutB Tryz.prog = true := by kernel_rfl
theorem accept_eq : (Rows.laid_unicode_utf8_acceptRanges : DataW Unit) = Lib.acceptData := by kernel_rfl
theorem first_eq : Rows.laid_unicode_utf8_first = Lib.firstData := Pinned.utf8First_eq
end Go.Proofs.YticlnijkfclgcaaGreatDoor

/- What the cards of the printing laws share: the world with all five tables. -/
namespace Go.Proofs.YticlnijkfclgcaaGreatDoor
open Go.Shelf
open Go.ChangeShapes Go.WideShapes Go.ChangeAt Go.RowKit

theorem pow_eq : (Rows.laid_internal_strconv_uint64pow10 : DataW Unit) = Lib.tabData .u64 Lib.pow10Tab := by kernel_rfl
end Go.Proofs.YticlnijkfclgcaaGreatDoor

/- What the cards of the reading laws share: the world with all seven variables. -/
namespace Go.Proofs.YticlnijkfclgcaaGreatDoor
open Go.Shelf
open Go.ChangeShapes Go.WideShapes Go.ChangeAt Go.RowKit

theorem lt_of_cell7 {w : World} {b o : Nat} {v : Value} (h : w.cell? ⟨b, o, none⟩ = some v) : b < w.heap.size := by
  rcases Nat.lt_or_ge b w.heap.size with h' | h'
  · exact h'
  · simp [World.cell?, Array.getElem?_eq_none h'] at h
theorem star7 (u : TypeId) (h : Tryz.prog.typeName? 3 u = some "*errors.errorString") : u = 219 :=
  typeName_ptr_named (nm := "errors.errorString") (by kernel_rfl) (by kernel_rfl) (by decide) u h
end Go.Proofs.YticlnijkfclgcaaGreatDoor
