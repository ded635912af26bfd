/- Writes: two writes held against each other; Get of both, Same of the reference. -/
import Derived.Test.YtkhhbckpddkhlaaGreatDoorWH
import Derived.Laws.StructEq
namespace Go.Proofs.YtkhhbckpddkhlaaGreatDoor
open Go.Shelf Go.RowKit

def eqW (a b : WR) : Bool := (a.sp == b.sp) && (a.id.toList == b.id.toList) && (a.gone == b.gone) && (a.text.toList == b.text.toList)
theorem eqW_iff (a b : WR) : eqW a b = true ↔ a = b := by
  unfold eqW
  refine ⟨fun h => ?_, fun h => by rw [h]; simp⟩
  simp only [Bool.and_eq_true, beq_iff_eq] at h
  obtain ⟨⟨⟨h1, h2⟩, h3⟩, h4⟩ := h
  have e2 : a.id = b.id := by
    by_cases e : a.id = b.id
    · exact e
    · have := str_ne e; rw [h2] at this; simp at this
  have e4 : a.text = b.text := by
    by_cases e : a.text = b.text
    · exact e
    · have := str_ne e; rw [h4] at this; simp at this
  obtain ⟨s, i, g, t⟩ := a
  obtain ⟨s2, i2, g2, t2⟩ := b
  simp only at h1 e2 h3 e4
  rw [h1, e2, h3, e4]
theorem eqlR (s s2 : Int) (i i2 : ByteArray) (g g2 : Bool) (t t2 : ByteArray) (w : World) : (binOp .eql 60 (.agg #[.int .i64 s, .string i, .bool g, .string t]) (.agg #[.int .i64 s2, .string i2, .bool g2, .string t2])).run Tryz.prog w = .ok (.bool (eqW ⟨s, i, g, t⟩ ⟨s2, i2, g2, t2⟩)) w := by
  have hS : Tryz.prog.underlying 60 = some (.struct (Tryz.prog.fieldsOf 60)) := by kernel_rfl
  have hp : Tryz.prog.stoodInHeld 60 = false := by kernel_rfl
  rw [run_eql_struct, show (10000 : Nat) = 9999 + 1 from rfl, run_equalIn_agg w 9999 60 _ _ hS hp]
  simp only [Program.fieldsOf, Tryz.underlying60]
  have u1 := Tryz.underlying3
  have u2 := Tryz.underlying9
  have u3 := Tryz.underlying4
  unfold eqW
  go_simp
  by_cases h1 : s = s2 <;> cases h2 : (i.toList == i2.toList) <;> cases h3 : (g == g2) <;> cases h4 : (t.toList == t2.toList) <;> simp_all
theorem eqlP (s s2 : Int) (i i2 : ByteArray) (g g2 : Bool) (t t2 : ByteArray) (w : World) : (binOp .eql 58 (.agg #[.int .i64 s, .string i, .bool g, .string t]) (.agg #[.int .i64 s2, .string i2, .bool g2, .string t2])).run Tryz.prog w = .ok (.bool (eqW ⟨s, i, g, t⟩ ⟨s2, i2, g2, t2⟩)) w := by
  have hS : Tryz.prog.underlying 58 = some (.struct (Tryz.prog.fieldsOf 58)) := by kernel_rfl
  have hp : Tryz.prog.stoodInHeld 58 = false := by kernel_rfl
  rw [run_eql_struct, show (10000 : Nat) = 9999 + 1 from rfl, run_equalIn_agg w 9999 58 _ _ hS hp]
  simp only [Program.fieldsOf, Tryz.underlying58]
  have u1 := Tryz.underlying3
  have u2 := Tryz.underlying9
  have u3 := Tryz.underlying4
  unfold eqW
  go_simp
  by_cases h1 : s = s2 <;> cases h2 : (i.toList == i2.toList) <;> cases h3 : (g == g2) <;> cases h4 : (t.toList == t2.toList) <;> simp_all

theorem neqR (s s2 : Int) (i i2 : ByteArray) (g g2 : Bool) (t t2 : ByteArray) (w : World) : (binOp .neq 60 (.agg #[.int .i64 s, .string i, .bool g, .string t]) (.agg #[.int .i64 s2, .string i2, .bool g2, .string t2])).run Tryz.prog w = .ok (.bool (!(eqW ⟨s, i, g, t⟩ ⟨s2, i2, g2, t2⟩))) w := by
  have h := eqlR s s2 i i2 g g2 t t2 w
  rw [run_eql_struct] at h
  rw [run_neq_struct]
  generalize (Op.equalIn 10000 60 (.agg #[.int .i64 s, .string i, .bool g, .string t]) (.agg #[.int .i64 s2, .string i2, .bool g2, .string t2])).run Tryz.prog w = r at *
  cases r <;> simp_all [Result.andThen]
theorem neqP (s s2 : Int) (i i2 : ByteArray) (g g2 : Bool) (t t2 : ByteArray) (w : World) : (binOp .neq 58 (.agg #[.int .i64 s, .string i, .bool g, .string t]) (.agg #[.int .i64 s2, .string i2, .bool g2, .string t2])).run Tryz.prog w = .ok (.bool (!(eqW ⟨s, i, g, t⟩ ⟨s2, i2, g2, t2⟩))) w := by
  have h := eqlP s s2 i i2 g g2 t t2 w
  rw [run_eql_struct] at h
  rw [run_neq_struct]
  generalize (Op.equalIn 10000 58 (.agg #[.int .i64 s, .string i, .bool g, .string t]) (.agg #[.int .i64 s2, .string i2, .bool g2, .string t2])).run Tryz.prog w = r at *
  cases r <;> simp_all [Result.andThen]

/-! Get -/
abbrev zeroW : Array Value := #[.int .i64 0, .string ⟨#[]⟩, .bool false, .string ⟨#[]⟩]
def hitW (y : WR) (sp : Int) (id : ByteArray) : Bool := decide (y.sp = sp) && decide (y.id = id)
def getF : List WR → Int → ByteArray → Option WR
  | [], _, _ => none
  | y :: l, sp, id => if hitW y sp id = true then some y else getF l sp id
def GetPost (l : List WR) (sp : Int) (id : ByteArray) (w : World) (e : Ending) (w' : World) : Prop :=
  (match getF l sp id with
    | some y => e = .returned (.tuple #[.agg y.cells, .bool true])
    | none => e = .returned (.tuple #[.agg zeroW, .bool false])) ∧ Below w.heap.size w w'
theorem getF_none : ∀ {l : List WR} {sp : Int} {id : ByteArray}, (∀ (q : Nat) a, q < l.length → l[q]? = some a → hitW a sp id = false) → getF l sp id = none
  | [], _, _, _ => rfl
  | y :: l, sp, id, h => by
    rw [getF, h 0 y (by simp) rfl, if_neg (by simp)]
    exact getF_none fun q a hq ha => h (q + 1) a (by simpa using hq) (by simpa using ha)
theorem getF_at : ∀ {l : List WR} {sp : Int} {id : ByteArray} {j : Nat} {y : WR}, (∀ (q : Nat) a, q < j → l[q]? = some a → hitW a sp id = false) → l[j]? = some y → hitW y sp id = true → getF l sp id = some y
  | [], _, _, _, _, _, hy, _ => by simp at hy
  | x :: l, sp, id, 0, y, _, hy, hh => by
    simp at hy; subst hy
    rw [getF, if_pos hh]
  | x :: l, sp, id, j + 1, y, h, hy, hh => by
    rw [getF, h 0 x (by omega) rfl, if_neg (by simp)]
    exact getF_at (j := j) (fun q a hq ha => h (q + 1) a (by omega) (by simpa using ha)) (by simpa using hy) hh
theorem hit_no {s sp : Int} {i id : ByteArray} {g : Bool} {t : ByteArray} (h1 : s = sp) (hh : hitW ⟨s, i, g, t⟩ sp id = false) : (i.toList == id.toList) = false := by
  unfold hitW at hh
  simp only [h1, decide_true, Bool.true_and, decide_eq_false_iff_not] at hh
  exact str_ne hh
theorem hit_yes {s sp : Int} {i id : ByteArray} {g : Bool} {t : ByteArray} (hh : hitW ⟨s, i, g, t⟩ sp id = true) : s = sp ∧ (i.toList == id.toList) = true := by
  unfold hitW at hh
  simp only [Bool.and_eq_true, decide_eq_true_eq] at hh
  exact ⟨hh.1, by rw [hh.2]; simp⟩
def set4Z (w : World) (k : Nat) (c0 c1 c2 c3 : Value) : World := (((w.setCell ⟨k, 0, none⟩ c0).setCell ⟨k, 1, none⟩ c1).setCell ⟨k, 2, none⟩ c2).setCell ⟨k, 3, none⟩ c3
theorem set4Z_self {w : World} {k : Nat} {a0 a1 a2 a3 c0 c1 c2 c3 : Value} {t : TypeId} (h : w.heap[k]? = some (.cells #[a0, a1, a2, a3] t (0, 0))) : (set4Z w k c0 c1 c2 c3).heap[k]? = some (.cells #[c0, c1, c2, c3] t (0, 0)) := by
  unfold set4Z
  have h1 := heap_setCell_same w k 0 _ _ c0 h
  have h2 := heap_setCell_same _ k 1 _ _ c1 h1
  have h3 := heap_setCell_same _ k 2 _ _ c2 h2
  have h4 := heap_setCell_same _ k 3 _ _ c3 h3
  simpa using h4
theorem set4Z_below {B : Nat} {w0 w : World} {k : Nat} {c0 c1 c2 c3 : Value} (h : Below B w0 w) (hk : B ≤ k) : Below B w0 (set4Z w k c0 c1 c2 c3) :=
  (((h.setCell (p := ⟨k, 0, none⟩) hk c0).setCell (p := ⟨k, 1, none⟩) hk c1).setCell (p := ⟨k, 2, none⟩) hk c2).setCell (p := ⟨k, 3, none⟩) hk c3
theorem get_end {l : List WR} {sp : Int} {id : ByteArray} {w wr : World} {T : TypeId} {x : WR} {k : Nat} (hk : k = w.heap.size) (h : wr.heap[k]? = some (.cells zeroW T (0, 0))) (hb : Below w.heap.size w wr) (hg : getF l sp id = some x) :
    ∃ W5, set4Z wr k (.int .i64 x.sp) (.string x.id) (.bool x.gone) (.string x.text) = W5 ∧ W5.heap[k]? = some (.cells #[.int .i64 x.sp, .string x.id, .bool x.gone, .string x.text] T (0, 0)) ∧ GetPost l sp id w (.returned (.tuple #[.agg #[.int .i64 x.sp, .string x.id, .bool x.gone, .string x.text], .bool true])) W5 :=
  ⟨_, rfl, set4Z_self h, by unfold GetPost; rw [hg]; exact ⟨rfl, set4Z_below hb (by omega)⟩⟩
theorem get_endN {l : List WR} {sp : Int} {id : ByteArray} {w wr : World} {T : TypeId} {k : Nat} (hk : k = w.heap.size) (h : wr.heap[k]? = some (.cells zeroW T (0, 0))) (hb : Below w.heap.size w wr) (hg : getF l sp id = none) :
    ∃ W5, set4Z wr k (.int .i64 0) (.string ⟨#[]⟩) (.bool false) (.string ⟨#[]⟩) = W5 ∧ W5.heap[k]? = some (.cells zeroW T (0, 0)) ∧ GetPost l sp id w (.returned (.tuple #[.agg zeroW, .bool false])) W5 :=
  ⟨_, rfl, set4Z_self h, by unfold GetPost; rw [hg]; exact ⟨rfl, set4Z_below hb (by omega)⟩⟩

set_option maxRecDepth 100000 in
set_option maxHeartbeats 16000000 in
theorem wGet_any (l : List WR) (lv : Value) (sp : Int) (id : ByteArray) (w : World) (hl : SAt 4 RW (cf w) lv l) :
    Calls Tryz.prog 33 #[lv, .int .i64 sp, .string id] w (GetPost l sp id w) := by
  obtain ⟨la, lcap, rfl, hle, hcap, hel⟩ := hl
  have hle2 : l.length ≤ 9223372036854775807 := by omega
  have HE := Hold.mk hel
  obtain ⟨W, hW⟩ : ∃ W, W = w.alloc (.cells zeroW 58) := ⟨_, rfl⟩
  have hb : Below w.heap.size w W := by rw [hW]; exact (Below.refl _ w).alloc (Nat.le_refl _) _
  have HZ : Hold (W.heap[w.heap.size]? = some (.cells zeroW 58 (0, 0))) := ⟨by rw [hW]; exact heap_alloc_new w _⟩
  have HB := Hold.mk hb
  clear hb hel
  go_enter Tryz.func33, Tryz.ntmps33
  go_upto_region 1 with (fail)
  rw [← hW]
  clear hW
  go_wp2_with fail
  go_loopw [12] (fun i' wr => ∃ j : Nat, i' = .int .i64 j ∧ j ≤ l.length ∧ (∀ (q : Nat) a, q < j → l[q]? = some a → hitW a sp id = false) ∧ Below w.heap.size w wr ∧ wr.heap[w.heap.size]? = some (.cells zeroW 58 (0, 0))) (fun i' _ => l.length - (intOf i').toNat)
  case atStart => exact ⟨0, rfl, Nat.zero_le _, fun q a h => by omega, HB.out, HZ.out⟩
  case round =>
    obtain ⟨j, rfl, hj, hall, hbl, hbx⟩ := hrel
    clear HB HZ
    have HB := Hold.mk hbl
    have HZ := Hold.mk hbx
    have HALL := Hold.mk hall
    clear hbl hbx hall
    by_cases hlt : j < l.length
    · obtain ⟨y, hy⟩ : ∃ y, l[j]? = some y := ⟨l[j], List.getElem?_eq_getElem hlt⟩
      obtain ⟨b, off, d, rfl, hd, hc, hyi⟩ := HE.out j y hy
      obtain ⟨rfl, _, _, _⟩ := hyi
      have HY0 := Hold.mk hy
      obtain ⟨s, i, g, t⟩ := y
      have hcl := cle_below HB.out
      have z0 := hcl _ _ _ (hc 0 _ rfl)
      have z1 := hcl _ _ _ (hc 1 _ rfl)
      have z2 := hcl _ _ _ (hc 2 _ rfl)
      have z3 := hcl _ _ _ (hc 3 _ rfl)
      unfold cf at z0 z1 z2 z3
      rw [Nat.add_zero] at z0
      clear hy hd hc hcl
      obtain ⟨W2, hW2⟩ : ∃ W2, W2 = wr.alloc (.cells #[.int .i64 s, .string i, .bool g, .string t] 58) := ⟨_, rfl⟩
      have hb2 : Below wr.heap.size wr W2 := by rw [hW2]; exact (Below.refl _ wr).alloc (Nat.le_refl _) _
      have HY : Hold (W2.heap[wr.heap.size]? = some (.cells #[.int .i64 s, .string i, .bool g, .string t] 58 (0, 0))) := ⟨by rw [hW2]; exact heap_alloc_new wr _⟩
      replace HB := Hold.mk (HB.out.trans (hb2.mono HB.out.size))
      replace HZ := Hold.mk (keptR HZ.out hb2)
      clear hb2
      go_upto_region 4 with (fail)
      rw [← hW2]
      clear hW2
      obtain ⟨y0, y1, y2, y3⟩ := cells4W HY.out
      cases hh : hitW ⟨s, i, g, t⟩ sp id with
      | false =>
        have HN : Hold (∀ (q : Nat) a, q < j + 1 → l[q]? = some a → hitW a sp id = false) := ⟨fun q a hq ha => by
          by_cases e : q = j
          · subst e; rw [HY0.out] at ha; cases ha; exact hh
          · exact HALL.out q a (by omega) ha⟩
        by_cases h1 : s = sp
        · have h2 : (i.toList == id.toList) = false := hit_no h1 hh
          have h1b : (s == sp) = true := by simpa using h1
          subst h1
          clear hh h1b
          go_wp2_with fail
          exact ⟨⟨j + 1, by go_num, hlt, HN.out, HB.out, HZ.out⟩, by simp [intOf]; omega⟩
        · have h1b : (s == sp) = false := by simpa using h1
          clear hh h1
          go_wp2_with fail
          exact ⟨⟨j + 1, by go_num, hlt, HN.out, HB.out, HZ.out⟩, by simp [intOf]; omega⟩
      | true =>
        obtain ⟨h1, h2⟩ := hit_yes hh
        subst h1
        have HG : Hold (getF l s id = some ⟨s, i, g, t⟩) := ⟨getF_at HALL.out HY0.out hh⟩
        have HP := Hold.mk (get_end (x := ⟨s, i, g, t⟩) rfl HZ.out HB.out HG.out)
        clear hh
        obtain ⟨v0, v1, v2, v3⟩ := cells4W HZ.out
        have f0 := freeR HZ.out 0
        have f1 := freeR HZ.out 1
        have f2 := freeR HZ.out 2
        have f3 := freeR HZ.out 3
        go_wp2_with fail
        clear v0 v1 v2 v3 f0 f1 f2 f3
        obtain ⟨W5, hW5, hv3, hp⟩ := HP.out
        unfold set4Z at hW5
        rw [hW5]
        clear hW5
        obtain ⟨v0, v1, v2, v3⟩ := cells4W hv3
        exact bodyPost_ret (v := .tuple #[.agg #[.int .i64 s, .string i, .bool g, .string t], .bool true]) (by simp [results, Tryz.results33, go_sem, v0, v1, v2, v3]) rfl hp
    · obtain rfl : j = l.length := by omega
      have HG : Hold (getF l sp id = none) := ⟨getF_none HALL.out⟩
      have HP := Hold.mk (get_endN rfl HZ.out HB.out HG.out)
      obtain ⟨v0, v1, v2, v3⟩ := cells4W HZ.out
      have f0 := freeR HZ.out 0
      have f1 := freeR HZ.out 1
      have f2 := freeR HZ.out 2
      have f3 := freeR HZ.out 3
      go_wp2_with fail
      clear v0 v1 v2 v3 f0 f1 f2 f3
      obtain ⟨W5, hW5, hv3, hp⟩ := HP.out
      unfold set4Z at hW5
      rw [hW5]
      clear hW5
      obtain ⟨v0, v1, v2, v3⟩ := cells4W hv3
      exact bodyPost_ret (v := .tuple #[.agg zeroW, .bool false]) (by simp [results, Tryz.results33, go_sem, v0, v1, v2, v3]) rfl hp

set_option maxRecDepth 100000 in
set_option maxHeartbeats 16000000 in
theorem wrGet_any (l : List WR) (lv : Value) (sp : Int) (id : ByteArray) (w : World) (hl : SAt 4 RW (cf w) lv l) :
    Calls Tryz.prog 34 #[lv, .int .i64 sp, .string id] w (GetPost l sp id w) := by
  obtain ⟨la, lcap, rfl, hle, hcap, hel⟩ := hl
  have hle2 : l.length ≤ 9223372036854775807 := by omega
  have HE := Hold.mk hel
  obtain ⟨W, hW⟩ : ∃ W, W = w.alloc (.cells zeroW 60) := ⟨_, rfl⟩
  have hb : Below w.heap.size w W := by rw [hW]; exact (Below.refl _ w).alloc (Nat.le_refl _) _
  have HZ : Hold (W.heap[w.heap.size]? = some (.cells zeroW 60 (0, 0))) := ⟨by rw [hW]; exact heap_alloc_new w _⟩
  have HB := Hold.mk hb
  clear hb hel
  go_enter Tryz.func34, Tryz.ntmps34
  go_upto_region 1 with (fail)
  rw [← hW]
  clear hW
  go_wp2_with fail
  go_loopw [8] (fun i' wr => ∃ j : Nat, i' = .int .i64 j ∧ j ≤ l.length ∧ (∀ (q : Nat) a, q < j → l[q]? = some a → hitW a sp id = false) ∧ Below w.heap.size w wr ∧ wr.heap[w.heap.size]? = some (.cells zeroW 60 (0, 0))) (fun i' _ => l.length - (intOf i').toNat)
  case atStart => exact ⟨0, rfl, Nat.zero_le _, fun q a h => by omega, HB.out, HZ.out⟩
  case round =>
    obtain ⟨j, rfl, hj, hall, hbl, hbx⟩ := hrel
    clear HB HZ
    have HB := Hold.mk hbl
    have HZ := Hold.mk hbx
    have HALL := Hold.mk hall
    clear hbl hbx hall
    by_cases hlt : j < l.length
    · obtain ⟨y, hy⟩ : ∃ y, l[j]? = some y := ⟨l[j], List.getElem?_eq_getElem hlt⟩
      obtain ⟨b, off, d, rfl, hd, hc, hyi⟩ := HE.out j y hy
      obtain ⟨rfl, _, _, _⟩ := hyi
      have HY0 := Hold.mk hy
      obtain ⟨s, i, g, t⟩ := y
      have hcl := cle_below HB.out
      have z0 := hcl _ _ _ (hc 0 _ rfl)
      have z1 := hcl _ _ _ (hc 1 _ rfl)
      have z2 := hcl _ _ _ (hc 2 _ rfl)
      have z3 := hcl _ _ _ (hc 3 _ rfl)
      unfold cf at z0 z1 z2 z3
      rw [Nat.add_zero] at z0
      clear hy hd hc hcl
      obtain ⟨W2, hW2⟩ : ∃ W2, W2 = wr := ⟨_, rfl⟩
      subst hW2
      go_upto_region 4 with (fail)
      cases hh : hitW ⟨s, i, g, t⟩ sp id with
      | false =>
        have HN : Hold (∀ (q : Nat) a, q < j + 1 → l[q]? = some a → hitW a sp id = false) := ⟨fun q a hq ha => by
          by_cases e : q = j
          · subst e; rw [HY0.out] at ha; cases ha; exact hh
          · exact HALL.out q a (by omega) ha⟩
        by_cases h1 : s = sp
        · have h2 : (i.toList == id.toList) = false := hit_no h1 hh
          have h1b : (s == sp) = true := by simpa using h1
          subst h1
          clear hh h1b
          go_wp2_with fail
          exact ⟨⟨j + 1, by go_num, hlt, HN.out, HB.out, HZ.out⟩, by simp [intOf]; omega⟩
        · have h1b : (s == sp) = false := by simpa using h1
          clear hh h1
          go_wp2_with fail
          exact ⟨⟨j + 1, by go_num, hlt, HN.out, HB.out, HZ.out⟩, by simp [intOf]; omega⟩
      | true =>
        obtain ⟨h1, h2⟩ := hit_yes hh
        subst h1
        have HG : Hold (getF l s id = some ⟨s, i, g, t⟩) := ⟨getF_at HALL.out HY0.out hh⟩
        have HP := Hold.mk (get_end (x := ⟨s, i, g, t⟩) rfl HZ.out HB.out HG.out)
        clear hh
        obtain ⟨v0, v1, v2, v3⟩ := cells4W HZ.out
        have f0 := freeR HZ.out 0
        have f1 := freeR HZ.out 1
        have f2 := freeR HZ.out 2
        have f3 := freeR HZ.out 3
        go_wp2_with fail
        clear v0 v1 v2 v3 f0 f1 f2 f3
        obtain ⟨W5, hW5, hv3, hp⟩ := HP.out
        unfold set4Z at hW5
        rw [hW5]
        clear hW5
        obtain ⟨v0, v1, v2, v3⟩ := cells4W hv3
        exact bodyPost_ret (v := .tuple #[.agg #[.int .i64 s, .string i, .bool g, .string t], .bool true]) (by simp [results, Tryz.results34, go_sem, v0, v1, v2, v3]) rfl hp
    · obtain rfl : j = l.length := by omega
      have HG : Hold (getF l sp id = none) := ⟨getF_none HALL.out⟩
      have HP := Hold.mk (get_endN rfl HZ.out HB.out HG.out)
      obtain ⟨v0, v1, v2, v3⟩ := cells4W HZ.out
      have f0 := freeR HZ.out 0
      have f1 := freeR HZ.out 1
      have f2 := freeR HZ.out 2
      have f3 := freeR HZ.out 3
      go_wp2_with fail
      clear v0 v1 v2 v3 f0 f1 f2 f3
      obtain ⟨W5, hW5, hv3, hp⟩ := HP.out
      unfold set4Z at hW5
      rw [hW5]
      clear hW5
      obtain ⟨v0, v1, v2, v3⟩ := cells4W hv3
      exact bodyPost_ret (v := .tuple #[.agg zeroW, .bool false]) (by simp [results, Tryz.results34, go_sem, v0, v1, v2, v3]) rfl hp

set_option maxRecDepth 100000 in
set_option maxHeartbeats 8000000 in
theorem wrSame_eq (l : List WR) (lv mv : Value) (w : World) (hl : SAt 4 RW (cf w) lv l) (hm : SAt 4 RW (cf w) mv l) :
    Calls Tryz.prog 35 #[lv, mv] w fun e w' => e = .returned (.bool true) ∧ Below w.heap.size w w' := by
  obtain ⟨la, lcap, rfl, hle, hcap, hel⟩ := hl
  obtain ⟨ma, mcap, rfl, hle2, hcap2, hem⟩ := hm
  have hle3 : l.length ≤ 9223372036854775807 := by omega
  have HE := Hold.mk hel
  have HM := Hold.mk hem
  clear hel hem
  go_enter Tryz.func35, Tryz.ntmps35
  go_wp2_with fail
  go_loopw [5] (fun i' wr => ∃ j : Nat, i' = .int .i64 j ∧ j ≤ l.length ∧ Below w.heap.size w wr) (fun i' _ => l.length - (intOf i').toNat)
  case atStart => exact ⟨0, rfl, Nat.zero_le _, Below.refl _ _⟩
  case round =>
    obtain ⟨j, rfl, hj, hbl⟩ := hrel
    have HB := Hold.mk hbl
    clear hbl
    by_cases hlt : j < l.length
    · obtain ⟨y, hy⟩ : ∃ y, l[j]? = some y := ⟨l[j], List.getElem?_eq_getElem hlt⟩
      obtain ⟨b, off, d, rfl, hd, hc, hyi⟩ := HE.out j y hy
      obtain ⟨b2, off2, d2, rfl, hd2, hc2, hyi2⟩ := HM.out j y hy
      obtain ⟨rfl, _, _, _⟩ := hyi
      obtain ⟨rfl, _, _, _⟩ := hyi2
      obtain ⟨s, i, g, t⟩ := y
      have hcl := cle_below HB.out
      have z0 := hcl _ _ _ (hc 0 _ rfl)
      have z1 := hcl _ _ _ (hc 1 _ rfl)
      have z2 := hcl _ _ _ (hc 2 _ rfl)
      have z3 := hcl _ _ _ (hc 3 _ rfl)
      have v0 := hcl _ _ _ (hc2 0 _ rfl)
      have v1 := hcl _ _ _ (hc2 1 _ rfl)
      have v2 := hcl _ _ _ (hc2 2 _ rfl)
      have v3 := hcl _ _ _ (hc2 3 _ rfl)
      unfold cf at z0 z1 z2 z3 v0 v1 v2 v3
      rw [Nat.add_zero] at z0 v0
      replace z0 := Grow.cell z0
      replace z1 := Grow.cell z1
      replace z2 := Grow.cell z2
      replace z3 := Grow.cell z3
      replace v0 := Grow.cell v0
      replace v1 := Grow.cell v1
      replace v2 := Grow.cell v2
      replace v3 := Grow.cell v3
      have hn : ∀ w, (binOp .neq 60 (.agg #[.int .i64 s, .string i, .bool g, .string t]) (.agg #[.int .i64 s, .string i, .bool g, .string t])).run Tryz.prog w = .ok (.bool false) w := fun w => by
        rw [neqR, (eqW_iff _ _).2 rfl]; rfl
      clear hy hd hc hd2 hc2 hcl
      go_upto_region 6 with (fail)
      refine wp_region_grow (by kernel_rfl) (by kernel_rfl) ?_
      repeat (go_big_quiet_step (fail))
      refine wpQuiet_nil ?_
      rintro ⟨w3, hb3⟩
      have HBF := Hold.mk (HB.out.trans (hb3.mono HB.out.size))
      simp only
      clear hb3
      go_wp2_with fail
      exact ⟨⟨j + 1, by go_num, hlt, HBF.out⟩, by simp [intOf]; omega⟩
    · obtain rfl : j = l.length := by omega
      have HBF := HB.out
      go_wp2_with fail
      go_ret
      exact ⟨rfl, HBF⟩

end Go.Proofs.YtkhhbckpddkhlaaGreatDoor
