/- Writes: two writes held against each other; Get of both, Same of the reference. Writes: WritesPut walked. (printed by genXWJ.py) Writes, plainly: what is put is got, all else stays; Meet walked. -/
import Derived.Test.YtkhhbckpddkhlaaGreatDoorWE
import Derived.Laws.StructEq
import Derived.Deep.DeepCutAuto
namespace Go.Proofs.YtkhhbckpddkhlaaGreatDoor
open Go.Shelf Go.RowKit

def eqW (a b : WR) : Bool := (a.sp == b.sp) && (a.id.toList == b.id.toList) && (a.gone == b.gone) && (a.text.toList == b.text.toList)
theorem eqW_iff (a b : WR) : eqW a b = true ↔ a = b := by
  unfold eqW
  refine ⟨fun h => ?_, fun h => by rw [h]; simp⟩
  simp only [Bool.and_eq_true, beq_iff_eq] at h
  obtain ⟨⟨⟨h1, h2⟩, h3⟩, h4⟩ := h
  have e2 : a.id = b.id := by
    by_cases e : a.id = b.id
    · exact e
    · have := str_ne e; rw [h2] at this; simp at this
  have e4 : a.text = b.text := by
    by_cases e : a.text = b.text
    · exact e
    · have := str_ne e; rw [h4] at this; simp at this
  obtain ⟨s, i, g, t⟩ := a
  obtain ⟨s2, i2, g2, t2⟩ := b
  simp only at h1 e2 h3 e4
  rw [h1, e2, h3, e4]
theorem eqlR (s s2 : Int) (i i2 : ByteArray) (g g2 : Bool) (t t2 : ByteArray) (w : World) : (binOp .eql 60 (.agg #[.int .i64 s, .string i, .bool g, .string t]) (.agg #[.int .i64 s2, .string i2, .bool g2, .string t2])).run Tryz.prog w = .ok (.bool (eqW ⟨s, i, g, t⟩ ⟨s2, i2, g2, t2⟩)) w := by
  have hS : Tryz.prog.underlying 60 = some (.struct (Tryz.prog.fieldsOf 60)) := by kernel_rfl
  have hp : Tryz.prog.stoodInHeld 60 = false := by kernel_rfl
  rw [run_eql_struct, show (10000 : Nat) = 9999 + 1 from rfl, run_equalIn_agg w 9999 60 _ _ hS hp]
  simp only [Program.fieldsOf, Tryz.underlying60]
  have u1 := Tryz.underlying3
  have u2 := Tryz.underlying9
  have u3 := Tryz.underlying4
  unfold eqW
  go_simp
  by_cases h1 : s = s2 <;> cases h2 : (i.toList == i2.toList) <;> cases h3 : (g == g2) <;> cases h4 : (t.toList == t2.toList) <;> simp_all
theorem eqlP (s s2 : Int) (i i2 : ByteArray) (g g2 : Bool) (t t2 : ByteArray) (w : World) : (binOp .eql 58 (.agg #[.int .i64 s, .string i, .bool g, .string t]) (.agg #[.int .i64 s2, .string i2, .bool g2, .string t2])).run Tryz.prog w = .ok (.bool (eqW ⟨s, i, g, t⟩ ⟨s2, i2, g2, t2⟩)) w := by
  have hS : Tryz.prog.underlying 58 = some (.struct (Tryz.prog.fieldsOf 58)) := by kernel_rfl
  have hp : Tryz.prog.stoodInHeld 58 = false := by kernel_rfl
  rw [run_eql_struct, show (10000 : Nat) = 9999 + 1 from rfl, run_equalIn_agg w 9999 58 _ _ hS hp]
  simp only [Program.fieldsOf, Tryz.underlying58]
  have u1 := Tryz.underlying3
  have u2 := Tryz.underlying9
  have u3 := Tryz.underlying4
  unfold eqW
  go_simp
  by_cases h1 : s = s2 <;> cases h2 : (i.toList == i2.toList) <;> cases h3 : (g == g2) <;> cases h4 : (t.toList == t2.toList) <;> simp_all

theorem neqR (s s2 : Int) (i i2 : ByteArray) (g g2 : Bool) (t t2 : ByteArray) (w : World) : (binOp .neq 60 (.agg #[.int .i64 s, .string i, .bool g, .string t]) (.agg #[.int .i64 s2, .string i2, .bool g2, .string t2])).run Tryz.prog w = .ok (.bool (!(eqW ⟨s, i, g, t⟩ ⟨s2, i2, g2, t2⟩))) w := by
  have h := eqlR s s2 i i2 g g2 t t2 w
  rw [run_eql_struct] at h
  rw [run_neq_struct]
  generalize (Op.equalIn 10000 60 (.agg #[.int .i64 s, .string i, .bool g, .string t]) (.agg #[.int .i64 s2, .string i2, .bool g2, .string t2])).run Tryz.prog w = r at *
  cases r <;> simp_all [Result.andThen]
theorem neqP (s s2 : Int) (i i2 : ByteArray) (g g2 : Bool) (t t2 : ByteArray) (w : World) : (binOp .neq 58 (.agg #[.int .i64 s, .string i, .bool g, .string t]) (.agg #[.int .i64 s2, .string i2, .bool g2, .string t2])).run Tryz.prog w = .ok (.bool (!(eqW ⟨s, i, g, t⟩ ⟨s2, i2, g2, t2⟩))) w := by
  have h := eqlP s s2 i i2 g g2 t t2 w
  rw [run_eql_struct] at h
  rw [run_neq_struct]
  generalize (Op.equalIn 10000 58 (.agg #[.int .i64 s, .string i, .bool g, .string t]) (.agg #[.int .i64 s2, .string i2, .bool g2, .string t2])).run Tryz.prog w = r at *
  cases r <;> simp_all [Result.andThen]

/-! Get -/
abbrev zeroW : Array Value := #[.int .i64 0, .string ⟨#[]⟩, .bool false, .string ⟨#[]⟩]
def hitW (y : WR) (sp : Int) (id : ByteArray) : Bool := decide (y.sp = sp) && decide (y.id = id)
def getF : List WR → Int → ByteArray → Option WR
  | [], _, _ => none
  | y :: l, sp, id => if hitW y sp id = true then some y else getF l sp id
def GetPost (l : List WR) (sp : Int) (id : ByteArray) (w : World) (e : Ending) (w' : World) : Prop :=
  (match getF l sp id with
    | some y => e = .returned (.tuple #[.agg y.cells, .bool true])
    | none => e = .returned (.tuple #[.agg zeroW, .bool false])) ∧ Below w.heap.size w w'
theorem getF_none : ∀ {l : List WR} {sp : Int} {id : ByteArray}, (∀ (q : Nat) a, q < l.length → l[q]? = some a → hitW a sp id = false) → getF l sp id = none
  | [], _, _, _ => rfl
  | y :: l, sp, id, h => by
    rw [getF, h 0 y (by simp) rfl, if_neg (by simp)]
    exact getF_none fun q a hq ha => h (q + 1) a (by simpa using hq) (by simpa using ha)
theorem getF_at : ∀ {l : List WR} {sp : Int} {id : ByteArray} {j : Nat} {y : WR}, (∀ (q : Nat) a, q < j → l[q]? = some a → hitW a sp id = false) → l[j]? = some y → hitW y sp id = true → getF l sp id = some y
  | [], _, _, _, _, _, hy, _ => by simp at hy
  | x :: l, sp, id, 0, y, _, hy, hh => by
    simp at hy; subst hy
    rw [getF, if_pos hh]
  | x :: l, sp, id, j + 1, y, h, hy, hh => by
    rw [getF, h 0 x (by omega) rfl, if_neg (by simp)]
    exact getF_at (j := j) (fun q a hq ha => h (q + 1) a (by omega) (by simpa using ha)) (by simpa using hy) hh
theorem hit_no {s sp : Int} {i id : ByteArray} {g : Bool} {t : ByteArray} (h1 : s = sp) (hh : hitW ⟨s, i, g, t⟩ sp id = false) : (i.toList == id.toList) = false := by
  unfold hitW at hh
  simp only [h1, decide_true, Bool.true_and, decide_eq_false_iff_not] at hh
  exact str_ne hh
theorem hit_yes {s sp : Int} {i id : ByteArray} {g : Bool} {t : ByteArray} (hh : hitW ⟨s, i, g, t⟩ sp id = true) : s = sp ∧ (i.toList == id.toList) = true := by
  unfold hitW at hh
  simp only [Bool.and_eq_true, decide_eq_true_eq] at hh
  exact ⟨hh.1, by rw [hh.2]; simp⟩
def set4Z (w : World) (k : Nat) (c0 c1 c2 c3 : Value) : World := (((w.setCell ⟨k, 0, none⟩ c0).setCell ⟨k, 1, none⟩ c1).setCell ⟨k, 2, none⟩ c2).setCell ⟨k, 3, none⟩ c3
theorem set4Z_self {w : World} {k : Nat} {a0 a1 a2 a3 c0 c1 c2 c3 : Value} {t : TypeId} (h : w.heap[k]? = some (.cells #[a0, a1, a2, a3] t (0, 0))) : (set4Z w k c0 c1 c2 c3).heap[k]? = some (.cells #[c0, c1, c2, c3] t (0, 0)) := by
  unfold set4Z
  have h1 := heap_setCell_same w k 0 _ _ c0 h
  have h2 := heap_setCell_same _ k 1 _ _ c1 h1
  have h3 := heap_setCell_same _ k 2 _ _ c2 h2
  have h4 := heap_setCell_same _ k 3 _ _ c3 h3
  simpa using h4
theorem set4Z_below {B : Nat} {w0 w : World} {k : Nat} {c0 c1 c2 c3 : Value} (h : Below B w0 w) (hk : B ≤ k) : Below B w0 (set4Z w k c0 c1 c2 c3) :=
  (((h.setCell (p := ⟨k, 0, none⟩) hk c0).setCell (p := ⟨k, 1, none⟩) hk c1).setCell (p := ⟨k, 2, none⟩) hk c2).setCell (p := ⟨k, 3, none⟩) hk c3
theorem get_end {l : List WR} {sp : Int} {id : ByteArray} {w wr : World} {T : TypeId} {x : WR} {k : Nat} (hk : k = w.heap.size) (h : wr.heap[k]? = some (.cells zeroW T (0, 0))) (hb : Below w.heap.size w wr) (hg : getF l sp id = some x) :
    ∃ W5, set4Z wr k (.int .i64 x.sp) (.string x.id) (.bool x.gone) (.string x.text) = W5 ∧ W5.heap[k]? = some (.cells #[.int .i64 x.sp, .string x.id, .bool x.gone, .string x.text] T (0, 0)) ∧ GetPost l sp id w (.returned (.tuple #[.agg #[.int .i64 x.sp, .string x.id, .bool x.gone, .string x.text], .bool true])) W5 :=
  ⟨_, rfl, set4Z_self h, by unfold GetPost; rw [hg]; exact ⟨rfl, set4Z_below hb (by omega)⟩⟩
theorem get_endN {l : List WR} {sp : Int} {id : ByteArray} {w wr : World} {T : TypeId} {k : Nat} (hk : k = w.heap.size) (h : wr.heap[k]? = some (.cells zeroW T (0, 0))) (hb : Below w.heap.size w wr) (hg : getF l sp id = none) :
    ∃ W5, set4Z wr k (.int .i64 0) (.string ⟨#[]⟩) (.bool false) (.string ⟨#[]⟩) = W5 ∧ W5.heap[k]? = some (.cells zeroW T (0, 0)) ∧ GetPost l sp id w (.returned (.tuple #[.agg zeroW, .bool false])) W5 :=
  ⟨_, rfl, set4Z_self h, by unfold GetPost; rw [hg]; exact ⟨rfl, set4Z_below hb (by omega)⟩⟩

set_option maxRecDepth 100000 in
set_option maxHeartbeats 16000000 in
theorem wGet_any (l : List WR) (lv : Value) (sp : Int) (id : ByteArray) (w : World) (hl : SAt 4 RW (cf w) lv l) :
    Calls Tryz.prog 33 #[lv, .int .i64 sp, .string id] w (GetPost l sp id w) := by
  obtain ⟨la, lcap, rfl, hle, hcap, hel⟩ := hl
  have hle2 : l.length ≤ 9223372036854775807 := by omega
  have HE := Hold.mk hel
  obtain ⟨W, hW⟩ : ∃ W, W = w.alloc (.cells zeroW 58) := ⟨_, rfl⟩
  have hb : Below w.heap.size w W := by rw [hW]; exact (Below.refl _ w).alloc (Nat.le_refl _) _
  have HZ : Hold (W.heap[w.heap.size]? = some (.cells zeroW 58 (0, 0))) := ⟨by rw [hW]; exact heap_alloc_new w _⟩
  have HB := Hold.mk hb
  clear hb hel
  go_enter Tryz.func33, Tryz.ntmps33
  go_upto_region 1 with (fail)
  rw [← hW]
  clear hW
  go_wp2_with fail
  go_loopw [12] (fun i' wr => ∃ j : Nat, i' = .int .i64 j ∧ j ≤ l.length ∧ (∀ (q : Nat) a, q < j → l[q]? = some a → hitW a sp id = false) ∧ Below w.heap.size w wr ∧ wr.heap[w.heap.size]? = some (.cells zeroW 58 (0, 0))) (fun i' _ => l.length - (intOf i').toNat)
  case atStart => exact ⟨0, rfl, Nat.zero_le _, fun q a h => by omega, HB.out, HZ.out⟩
  case round =>
    obtain ⟨j, rfl, hj, hall, hbl, hbx⟩ := hrel
    clear HB HZ
    have HB := Hold.mk hbl
    have HZ := Hold.mk hbx
    have HALL := Hold.mk hall
    clear hbl hbx hall
    by_cases hlt : j < l.length
    · obtain ⟨y, hy⟩ : ∃ y, l[j]? = some y := ⟨l[j], List.getElem?_eq_getElem hlt⟩
      obtain ⟨b, off, d, rfl, hd, hc, hyi⟩ := HE.out j y hy
      obtain ⟨rfl, _, _, _⟩ := hyi
      have HY0 := Hold.mk hy
      obtain ⟨s, i, g, t⟩ := y
      have hcl := cle_below HB.out
      have z0 := hcl _ _ _ (hc 0 _ rfl)
      have z1 := hcl _ _ _ (hc 1 _ rfl)
      have z2 := hcl _ _ _ (hc 2 _ rfl)
      have z3 := hcl _ _ _ (hc 3 _ rfl)
      unfold cf at z0 z1 z2 z3
      rw [Nat.add_zero] at z0
      clear hy hd hc hcl
      obtain ⟨W2, hW2⟩ : ∃ W2, W2 = wr.alloc (.cells #[.int .i64 s, .string i, .bool g, .string t] 58) := ⟨_, rfl⟩
      have hb2 : Below wr.heap.size wr W2 := by rw [hW2]; exact (Below.refl _ wr).alloc (Nat.le_refl _) _
      have HY : Hold (W2.heap[wr.heap.size]? = some (.cells #[.int .i64 s, .string i, .bool g, .string t] 58 (0, 0))) := ⟨by rw [hW2]; exact heap_alloc_new wr _⟩
      replace HB := Hold.mk (HB.out.trans (hb2.mono HB.out.size))
      replace HZ := Hold.mk (keptR HZ.out hb2)
      clear hb2
      go_upto_region 4 with (fail)
      rw [← hW2]
      clear hW2
      obtain ⟨y0, y1, y2, y3⟩ := cells4W HY.out
      cases hh : hitW ⟨s, i, g, t⟩ sp id with
      | false =>
        have HN : Hold (∀ (q : Nat) a, q < j + 1 → l[q]? = some a → hitW a sp id = false) := ⟨fun q a hq ha => by
          by_cases e : q = j
          · subst e; rw [HY0.out] at ha; cases ha; exact hh
          · exact HALL.out q a (by omega) ha⟩
        by_cases h1 : s = sp
        · have h2 : (i.toList == id.toList) = false := hit_no h1 hh
          have h1b : (s == sp) = true := by simpa using h1
          subst h1
          clear hh h1b
          go_wp2_with fail
          exact ⟨⟨j + 1, by go_num, hlt, HN.out, HB.out, HZ.out⟩, by simp [intOf]; omega⟩
        · have h1b : (s == sp) = false := by simpa using h1
          clear hh h1
          go_wp2_with fail
          exact ⟨⟨j + 1, by go_num, hlt, HN.out, HB.out, HZ.out⟩, by simp [intOf]; omega⟩
      | true =>
        obtain ⟨h1, h2⟩ := hit_yes hh
        subst h1
        have HG : Hold (getF l s id = some ⟨s, i, g, t⟩) := ⟨getF_at HALL.out HY0.out hh⟩
        have HP := Hold.mk (get_end (x := ⟨s, i, g, t⟩) rfl HZ.out HB.out HG.out)
        clear hh
        obtain ⟨v0, v1, v2, v3⟩ := cells4W HZ.out
        have f0 := freeR HZ.out 0
        have f1 := freeR HZ.out 1
        have f2 := freeR HZ.out 2
        have f3 := freeR HZ.out 3
        go_wp2_with fail
        clear v0 v1 v2 v3 f0 f1 f2 f3
        obtain ⟨W5, hW5, hv3, hp⟩ := HP.out
        unfold set4Z at hW5
        rw [hW5]
        clear hW5
        obtain ⟨v0, v1, v2, v3⟩ := cells4W hv3
        exact bodyPost_ret (v := .tuple #[.agg #[.int .i64 s, .string i, .bool g, .string t], .bool true]) (by simp [results, Tryz.results33, go_sem, v0, v1, v2, v3]) rfl hp
    · obtain rfl : j = l.length := by omega
      have HG : Hold (getF l sp id = none) := ⟨getF_none HALL.out⟩
      have HP := Hold.mk (get_endN rfl HZ.out HB.out HG.out)
      obtain ⟨v0, v1, v2, v3⟩ := cells4W HZ.out
      have f0 := freeR HZ.out 0
      have f1 := freeR HZ.out 1
      have f2 := freeR HZ.out 2
      have f3 := freeR HZ.out 3
      go_wp2_with fail
      clear v0 v1 v2 v3 f0 f1 f2 f3
      obtain ⟨W5, hW5, hv3, hp⟩ := HP.out
      unfold set4Z at hW5
      rw [hW5]
      clear hW5
      obtain ⟨v0, v1, v2, v3⟩ := cells4W hv3
      exact bodyPost_ret (v := .tuple #[.agg zeroW, .bool false]) (by simp [results, Tryz.results33, go_sem, v0, v1, v2, v3]) rfl hp

set_option maxRecDepth 100000 in
set_option maxHeartbeats 16000000 in
theorem wrGet_any (l : List WR) (lv : Value) (sp : Int) (id : ByteArray) (w : World) (hl : SAt 4 RW (cf w) lv l) :
    Calls Tryz.prog 34 #[lv, .int .i64 sp, .string id] w (GetPost l sp id w) := by
  obtain ⟨la, lcap, rfl, hle, hcap, hel⟩ := hl
  have hle2 : l.length ≤ 9223372036854775807 := by omega
  have HE := Hold.mk hel
  obtain ⟨W, hW⟩ : ∃ W, W = w.alloc (.cells zeroW 60) := ⟨_, rfl⟩
  have hb : Below w.heap.size w W := by rw [hW]; exact (Below.refl _ w).alloc (Nat.le_refl _) _
  have HZ : Hold (W.heap[w.heap.size]? = some (.cells zeroW 60 (0, 0))) := ⟨by rw [hW]; exact heap_alloc_new w _⟩
  have HB := Hold.mk hb
  clear hb hel
  go_enter Tryz.func34, Tryz.ntmps34
  go_upto_region 1 with (fail)
  rw [← hW]
  clear hW
  go_wp2_with fail
  go_loopw [8] (fun i' wr => ∃ j : Nat, i' = .int .i64 j ∧ j ≤ l.length ∧ (∀ (q : Nat) a, q < j → l[q]? = some a → hitW a sp id = false) ∧ Below w.heap.size w wr ∧ wr.heap[w.heap.size]? = some (.cells zeroW 60 (0, 0))) (fun i' _ => l.length - (intOf i').toNat)
  case atStart => exact ⟨0, rfl, Nat.zero_le _, fun q a h => by omega, HB.out, HZ.out⟩
  case round =>
    obtain ⟨j, rfl, hj, hall, hbl, hbx⟩ := hrel
    clear HB HZ
    have HB := Hold.mk hbl
    have HZ := Hold.mk hbx
    have HALL := Hold.mk hall
    clear hbl hbx hall
    by_cases hlt : j < l.length
    · obtain ⟨y, hy⟩ : ∃ y, l[j]? = some y := ⟨l[j], List.getElem?_eq_getElem hlt⟩
      obtain ⟨b, off, d, rfl, hd, hc, hyi⟩ := HE.out j y hy
      obtain ⟨rfl, _, _, _⟩ := hyi
      have HY0 := Hold.mk hy
      obtain ⟨s, i, g, t⟩ := y
      have hcl := cle_below HB.out
      have z0 := hcl _ _ _ (hc 0 _ rfl)
      have z1 := hcl _ _ _ (hc 1 _ rfl)
      have z2 := hcl _ _ _ (hc 2 _ rfl)
      have z3 := hcl _ _ _ (hc 3 _ rfl)
      unfold cf at z0 z1 z2 z3
      rw [Nat.add_zero] at z0
      clear hy hd hc hcl
      obtain ⟨W2, hW2⟩ : ∃ W2, W2 = wr := ⟨_, rfl⟩
      subst hW2
      go_upto_region 4 with (fail)
      cases hh : hitW ⟨s, i, g, t⟩ sp id with
      | false =>
        have HN : Hold (∀ (q : Nat) a, q < j + 1 → l[q]? = some a → hitW a sp id = false) := ⟨fun q a hq ha => by
          by_cases e : q = j
          · subst e; rw [HY0.out] at ha; cases ha; exact hh
          · exact HALL.out q a (by omega) ha⟩
        by_cases h1 : s = sp
        · have h2 : (i.toList == id.toList) = false := hit_no h1 hh
          have h1b : (s == sp) = true := by simpa using h1
          subst h1
          clear hh h1b
          go_wp2_with fail
          exact ⟨⟨j + 1, by go_num, hlt, HN.out, HB.out, HZ.out⟩, by simp [intOf]; omega⟩
        · have h1b : (s == sp) = false := by simpa using h1
          clear hh h1
          go_wp2_with fail
          exact ⟨⟨j + 1, by go_num, hlt, HN.out, HB.out, HZ.out⟩, by simp [intOf]; omega⟩
      | true =>
        obtain ⟨h1, h2⟩ := hit_yes hh
        subst h1
        have HG : Hold (getF l s id = some ⟨s, i, g, t⟩) := ⟨getF_at HALL.out HY0.out hh⟩
        have HP := Hold.mk (get_end (x := ⟨s, i, g, t⟩) rfl HZ.out HB.out HG.out)
        clear hh
        obtain ⟨v0, v1, v2, v3⟩ := cells4W HZ.out
        have f0 := freeR HZ.out 0
        have f1 := freeR HZ.out 1
        have f2 := freeR HZ.out 2
        have f3 := freeR HZ.out 3
        go_wp2_with fail
        clear v0 v1 v2 v3 f0 f1 f2 f3
        obtain ⟨W5, hW5, hv3, hp⟩ := HP.out
        unfold set4Z at hW5
        rw [hW5]
        clear hW5
        obtain ⟨v0, v1, v2, v3⟩ := cells4W hv3
        exact bodyPost_ret (v := .tuple #[.agg #[.int .i64 s, .string i, .bool g, .string t], .bool true]) (by simp [results, Tryz.results34, go_sem, v0, v1, v2, v3]) rfl hp
    · obtain rfl : j = l.length := by omega
      have HG : Hold (getF l sp id = none) := ⟨getF_none HALL.out⟩
      have HP := Hold.mk (get_endN rfl HZ.out HB.out HG.out)
      obtain ⟨v0, v1, v2, v3⟩ := cells4W HZ.out
      have f0 := freeR HZ.out 0
      have f1 := freeR HZ.out 1
      have f2 := freeR HZ.out 2
      have f3 := freeR HZ.out 3
      go_wp2_with fail
      clear v0 v1 v2 v3 f0 f1 f2 f3
      obtain ⟨W5, hW5, hv3, hp⟩ := HP.out
      unfold set4Z at hW5
      rw [hW5]
      clear hW5
      obtain ⟨v0, v1, v2, v3⟩ := cells4W hv3
      exact bodyPost_ret (v := .tuple #[.agg zeroW, .bool false]) (by simp [results, Tryz.results34, go_sem, v0, v1, v2, v3]) rfl hp

set_option maxRecDepth 100000 in
set_option maxHeartbeats 8000000 in
theorem wrSame_eq (l : List WR) (lv mv : Value) (w : World) (hl : SAt 4 RW (cf w) lv l) (hm : SAt 4 RW (cf w) mv l) :
    Calls Tryz.prog 35 #[lv, mv] w fun e w' => e = .returned (.bool true) ∧ Below w.heap.size w w' := by
  obtain ⟨la, lcap, rfl, hle, hcap, hel⟩ := hl
  obtain ⟨ma, mcap, rfl, hle2, hcap2, hem⟩ := hm
  have hle3 : l.length ≤ 9223372036854775807 := by omega
  have HE := Hold.mk hel
  have HM := Hold.mk hem
  clear hel hem
  go_enter Tryz.func35, Tryz.ntmps35
  go_wp2_with fail
  go_loopw [5] (fun i' wr => ∃ j : Nat, i' = .int .i64 j ∧ j ≤ l.length ∧ Below w.heap.size w wr) (fun i' _ => l.length - (intOf i').toNat)
  case atStart => exact ⟨0, rfl, Nat.zero_le _, Below.refl _ _⟩
  case round =>
    obtain ⟨j, rfl, hj, hbl⟩ := hrel
    have HB := Hold.mk hbl
    clear hbl
    by_cases hlt : j < l.length
    · obtain ⟨y, hy⟩ : ∃ y, l[j]? = some y := ⟨l[j], List.getElem?_eq_getElem hlt⟩
      obtain ⟨b, off, d, rfl, hd, hc, hyi⟩ := HE.out j y hy
      obtain ⟨b2, off2, d2, rfl, hd2, hc2, hyi2⟩ := HM.out j y hy
      obtain ⟨rfl, _, _, _⟩ := hyi
      obtain ⟨rfl, _, _, _⟩ := hyi2
      obtain ⟨s, i, g, t⟩ := y
      have hcl := cle_below HB.out
      have z0 := hcl _ _ _ (hc 0 _ rfl)
      have z1 := hcl _ _ _ (hc 1 _ rfl)
      have z2 := hcl _ _ _ (hc 2 _ rfl)
      have z3 := hcl _ _ _ (hc 3 _ rfl)
      have v0 := hcl _ _ _ (hc2 0 _ rfl)
      have v1 := hcl _ _ _ (hc2 1 _ rfl)
      have v2 := hcl _ _ _ (hc2 2 _ rfl)
      have v3 := hcl _ _ _ (hc2 3 _ rfl)
      unfold cf at z0 z1 z2 z3 v0 v1 v2 v3
      rw [Nat.add_zero] at z0 v0
      replace z0 := Grow.cell z0
      replace z1 := Grow.cell z1
      replace z2 := Grow.cell z2
      replace z3 := Grow.cell z3
      replace v0 := Grow.cell v0
      replace v1 := Grow.cell v1
      replace v2 := Grow.cell v2
      replace v3 := Grow.cell v3
      have hn : ∀ w, (binOp .neq 60 (.agg #[.int .i64 s, .string i, .bool g, .string t]) (.agg #[.int .i64 s, .string i, .bool g, .string t])).run Tryz.prog w = .ok (.bool false) w := fun w => by
        rw [neqR, (eqW_iff _ _).2 rfl]; rfl
      clear hy hd hc hd2 hc2 hcl
      go_upto_region 6 with (fail)
      refine wp_region_grow (by kernel_rfl) (by kernel_rfl) ?_
      repeat (go_big_quiet_step (fail))
      refine wpQuiet_nil ?_
      rintro ⟨w3, hb3⟩
      have HBF := Hold.mk (HB.out.trans (hb3.mono HB.out.size))
      simp only
      clear hb3
      go_wp2_with fail
      exact ⟨⟨j + 1, by go_num, hlt, HBF.out⟩, by simp [intOf]; omega⟩
    · obtain rfl : j = l.length := by omega
      have HBF := HB.out
      go_wp2_with fail
      go_ret
      exact ⟨rfl, HBF⟩

end Go.Proofs.YtkhhbckpddkhlaaGreatDoor

namespace Go.Proofs.YtkhhbckpddkhlaaGreatDoor
open Go.Shelf Go.RowKit

theorem satW_one (w : World) (x : WR) (T : TypeId) (hx : ∀ c, RW c x x.cells.toList) : SAt 4 RW (cf (w.alloc (.cells x.cells T))) (.slice (some ⟨w.heap.size, 0, none⟩) 1 1) [x] := by
  have h := heap_alloc_new w (.cells x.cells T)
  refine ⟨_, 1, rfl, Nat.le_refl _, by decide, fun i y hy => ?_⟩
  obtain ⟨rfl, rfl⟩ : i = 0 ∧ x = y := by
    match i, hy with
    | 0, hy => exact ⟨rfl, by simpa using hy⟩
  refine ⟨_, 0, x.cells.toList, rfl, rfl, fun j u hu => ?_, hx _⟩
  unfold cf
  have hj : x.cells[j]? = some u := by simpa using hu
  simp only [World.cell?]
  rw [h]
  simpa using hj
/-- what Get answers, by itself -/
def getV (l : List WR) (sp : Int) (id : ByteArray) : WR := (getF l sp id).getD ⟨0, ⟨#[]⟩, false, ⟨#[]⟩⟩
def getB (l : List WR) (sp : Int) (id : ByteArray) : Bool := (getF l sp id).isSome
theorem get_post {l : List WR} {sp : Int} {id : ByteArray} {w w' : World} {e : Ending} (h : GetPost l sp id w e w') : e = .returned (.tuple #[.agg (getV l sp id).cells, .bool (getB l sp id)]) ∧ Below w.heap.size w w' := by
  refine ⟨?_, h.2⟩
  have h1 := h.1
  unfold getV getB
  cases hg : getF l sp id with
  | none => rw [hg] at h1; exact h1
  | some y => rw [hg] at h1; exact h1
open Classical in
theorem putWR_len {l : List WR} {x : WR} {n : Nat} (h : l.length < n) : (putWR l x).length ≤ n := by
  unfold putWR
  split
  · rw [putWL_len]; split <;> omega
  · simp
/-- a box of a write that a call made -/
def GBox (w : World) (T : TypeId) (y : WR) (b : Bool) (p q : Value) (wx : World) : Prop := ∃ zb, p = .pointer (some ⟨zb, 0, none⟩) ∧ q = .bool b ∧ wx.heap[zb]? = some (.cells #[.int .i64 y.sp, .string y.id, .bool y.gone, .string y.text] T (0, 0)) ∧ Below w.heap.size w wx

set_option maxRecDepth 100000 in
set_option maxHeartbeats 16000000 in
theorem writesPut_walk (l : List WR) (lv : Value) (x : WR) (w : World) (hl : SAt 4 RW (cf w) lv l) (hx : x.id.size ≤ 9223372036854775807 ∧ x.text.size ≤ 9223372036854775807 ∧ (Lit.int .i64 x.sp).wf = true) (hT : Tabs w) (hP : Pow w.heap.size w) (hE : Errs w.heap.size w) :
    Calls Tryz.prog 6 #[lv, .agg x.cells] w fun e w' => e = .returned (.bool true) ∧ Below w.heap.size w w' := by
  have HRX : Hold (∀ c, RW c x x.cells.toList) := ⟨fun c => ⟨rfl, hx⟩⟩
  have HLV := Hold.mk hl
  have hwf := hx.2.2
  have HWF := Hold.mk hwf
  obtain ⟨la, lcap, rfl, hle, hcap, _⟩ := hl
  obtain ⟨s, i, g, t⟩ := x
  have HT := Hold.mk hT
  have HP := Hold.mk hP
  have HER := Hold.mk hE
  have HONE := Hold.mk (fun w => satW_one w ⟨s, i, g, t⟩ 58 HRX.out)
  unfold WR.cells at HONE ⊢
  simp only at HONE HWF ⊢
  obtain ⟨W, hW⟩ : ∃ W, W = w.alloc (.cells #[.int .i64 s, .string i, .bool g, .string t] 58) := ⟨_, rfl⟩
  have hb : Below w.heap.size w W := by rw [hW]; exact (Below.refl _ w).alloc (Nat.le_refl _) _
  have HX : Hold (W.heap[w.heap.size]? = some (.cells #[.int .i64 s, .string i, .bool g, .string t] 58 (0, 0))) := ⟨by rw [hW]; exact heap_alloc_new w _⟩
  have HB := Hold.mk hb
  clear hb hT hP hE hx hwf
  go_enter Tryz.func6, Tryz.ntmps6
  go_upto_region 1 with (fail)
  rw [← hW]
  clear hW
  go_wp2_with fail
  refine (wawake_any W (HT.out.below HB.out) (Pow.below HP.out HB.out) (errs_after HER.out HB.out)).mono ?_
  rintro e w2 ⟨rfl, hb2⟩
  replace HB := Hold.mk (HB.out.trans (hb2.mono HB.out.size))
  replace HX := Hold.mk (keptR HX.out hb2)
  clear hb2
  go_wp2_with fail
  refine (wfew_any l _ w2 (HLV.out.mono RW_mono (cle_below HB.out))).mono ?_
  rintro e w3 ⟨b, rfl, hbb, hb3⟩
  replace HB := Hold.mk (HB.out.trans (hb3.mono HB.out.size))
  replace HX := Hold.mk (keptR HX.out hb3)
  have HBB := Hold.mk hbb
  clear hb3 hbb
  cases b with
  | false =>
    go_wp2_with fail
    refine (wawake_any w3 (HT.out.below HB.out) (Pow.below HP.out HB.out) (errs_after HER.out HB.out)).mono ?_
    rintro e w9 ⟨rfl, hb9⟩
    have HBF := HB.out.trans (hb9.mono HB.out.size)
    clear hb9
    go_wp2_with fail
    go_ret
    exact ⟨rfl, HBF⟩
  | true =>
  obtain ⟨h30, hsm⟩ := HBB.out rfl
  have HS := Hold.mk hsm
  clear HBB hsm
  obtain ⟨y0, y1, y2, y3⟩ := cells4W HX.out
  go_wp2_with fail
  clear y0 y1 y2 y3
  refine (wfew_any [⟨s, i, g, t⟩] _ _ (HONE.out w3)).mono ?_
  rintro e w4 ⟨b, rfl, hbb, hb4⟩
  have hb34 := ((Below.refl _ w3).alloc (Nat.le_refl _) (.cells #[.int .i64 s, .string i, .bool g, .string t] 58)).trans (hb4.mono (by simp))
  replace HB := Hold.mk (HB.out.trans (hb34.mono HB.out.size))
  replace HX := Hold.mk (keptR HX.out hb34)
  have HBB := Hold.mk hbb
  clear hb4 hbb hb34
  cases b with
  | false =>
    go_wp2_with fail
    refine (wawake_any w4 (HT.out.below HB.out) (Pow.below HP.out HB.out) (errs_after HER.out HB.out)).mono ?_
    rintro e w9 ⟨rfl, hb9⟩
    have HBF := HB.out.trans (hb9.mono HB.out.size)
    clear hb9
    go_wp2_with fail
    go_ret
    exact ⟨rfl, HBF⟩
  | true =>
  obtain ⟨hx1, hx2⟩ := (HBB.out rfl).2 _ (List.mem_singleton.2 rfl)
  simp only at hx1 hx2
  clear HBB
  have HSP : Hold (∀ x ∈ l, x.id.size ≤ 1000000 ∧ x.text.size ≤ 1000000) := ⟨fun x hx => by have := HS.out x hx; omega⟩
  have HSR : Hold (∀ x ∈ l, x.id.size ≤ 1000000 ∧ x.text.size ≤ 20000) := ⟨fun x hx => by have := HS.out x hx; omega⟩
  obtain ⟨pr, hpr⟩ : ∃ pr, pr = putWR l ⟨s, i, g, t⟩ := ⟨_, rfl⟩
  obtain ⟨pe, hpe⟩ : ∃ pe, pe = putWE l ⟨s, i, g, t⟩ := ⟨_, rfl⟩
  have HPU := Hold.mk (wPut_any l _ ⟨s, i, g, t⟩ w4 (HLV.out.mono RW_mono (cle_below HB.out)) HSP.out (by simp only; omega) (by simp only; omega) HWF.out (HT.out.below HB.out) (Pow.below HP.out HB.out) (errs_after HER.out HB.out))
  unfold PutPost at HPU
  rw [← hpr, ← hpe] at HPU
  obtain ⟨y0, y1, y2, y3⟩ := cells4W HX.out
  go_wp2_with fail
  clear y0 y1 y2 y3
  refine HPU.out.mono ?_
  rintro e w5 ⟨pv, rfl, hpv, hb5⟩
  obtain ⟨pa, pcap, rfl⟩ := hpv.form
  replace HB := Hold.mk (HB.out.trans (hb5.mono HB.out.size))
  replace HX := Hold.mk (keptR HX.out hb5)
  have HPV := Hold.mk hpv
  have HL := Hold.mk (HLV.out.mono RW_mono (cle_below HB.out))
  have HRP := Hold.mk (fun (v : Value) (w6 : World) (hv : SAt 4 RW (cf w6) v l) => wrPut_any l v ⟨s, i, g, t⟩ w6 hv HSR.out (by simp only; omega) (by simp only; omega) HWF.out)
  unfold PutPost at HRP
  rw [← hpr, ← hpe] at HRP
  have HPR := Hold.mk hpr
  clear hb5 hpv HPU hpr hpe
  obtain ⟨pn, hpn⟩ : ∃ pn, pn = pr.length := ⟨_, rfl⟩
  have HPN := Hold.mk hpn
  rw [← hpn] at HPV ⊢
  clear hpn
  obtain ⟨y0, y1, y2, y3⟩ := cells4W HX.out
  have g0 := Grow.cell y0
  have g1 := Grow.cell y1
  have g2 := Grow.cell y2
  have g3 := Grow.cell y3
  go_upto_region 4 with (fail)
  clear y0 y1 y2 y3
  refine wp_region_mix 9 rfl (by kernel_rfl) ?_
  rintro w6 hb6
  have HG := Hold.mk hb6
  clear hb6
  refine mixl_seg (by kernel_rfl) (fun _ _ d _ _ h => by cases d <;> exact h) [0, 2] [_, _] 7 9 rfl _ _ _ rfl (by kernel_rfl) (growC HG.out) ?_
  repeat (go_big_quiet_step (fail))
  refine wpQuiet_nil ?_
  clear g0 g1 g2 g3
  refine mixl_act (i := 1) rfl (by kernel_rfl) (growC HG.out) rfl (fun K hK => ?_)
  go_wp2_with fail
  refine (wplain_any l _ w6 (HL.out.mono RW_mono (cle_below HG.out)) (by omega)).mono ?_
  rintro e w7 ⟨sv, rfl, hsv, hbq⟩
  obtain ⟨sa, scap, rfl⟩ := hsv.form
  have HSV := Hold.mk hsv
  replace HG := Hold.mk (HG.out.trans (hbq.mono HG.out.size))
  clear hbq hsv
  go_wp2_with fail
  refine mixl_act (i := 3) rfl (by kernel_rfl) (growC HG.out) rfl (fun K hK => ?_)
  go_wp2_with fail
  refine (HRP.out _ w7 HSV.out).mono ?_
  rintro e w8 ⟨qv, rfl, hqv, hb8⟩
  obtain ⟨qa, qcap, rfl⟩ := hqv.form
  have HQV := Hold.mk hqv
  replace HG := Hold.mk (HG.out.trans (hb8.mono HG.out.size))
  rw [← HPN.out] at HQV ⊢
  clear hb8 hqv HRP HSV
  go_wp2_with fail
  refine mixl_seg (by kernel_rfl) (fun _ _ d _ _ h => by cases d <;> exact h) [4, 5, 6, 7, 8] [_, _, _, _, _] 0 5 rfl _ _ _ rfl (by kernel_rfl) (growC HG.out) ?_
  repeat (go_big_quiet_step (fail))
  refine wpQuiet_nil ?_
  refine mix_done (by kernel_rfl) (growC HG.out) ?_
  replace HB := Hold.mk (HB.out.trans (HG.out.mono HB.out.size))
  replace HX := Hold.mk (keptR HX.out HG.out)
  replace HL := Hold.mk (HL.out.mono RW_mono (cle_below HG.out))
  replace HPV := Hold.mk (HPV.out.mono RW_mono (cle_below HG.out))
  clear HG
  obtain ⟨gv, hgv⟩ : ∃ gv, getV l s i = gv := ⟨_, rfl⟩
  obtain ⟨gb, hgb⟩ : ∃ gb, getB l s i = gb := ⟨_, rfl⟩
  have HGV := Hold.mk hgv
  have HGB := Hold.mk hgb
  clear hgv hgb
  obtain ⟨gs, gi, gg, gt⟩ := gv
  obtain ⟨y0, y1, y2, y3⟩ := cells4W HX.out
  go_wp2_with fail
  clear y0 y1 y2 y3
  refine (wGet_any l _ s i w8 HL.out).mono ?_
  rintro e w10 hgp
  obtain ⟨he, hbr⟩ := get_post hgp
  rw [HGV.out, HGB.out] at he
  unfold WR.cells at he
  simp only at he
  subst he
  obtain ⟨W11, hW11⟩ : ∃ W11, W11 = w10.alloc (.cells #[.int .i64 gs, .string gi, .bool gg, .string gt] 58) := ⟨_, rfl⟩
  have hb11 : Below w10.heap.size w10 W11 := by rw [hW11]; exact (Below.refl _ w10).alloc (Nat.le_refl _) _
  have HY : Hold (W11.heap[w10.heap.size]? = some (.cells #[.int .i64 gs, .string gi, .bool gg, .string gt] 58 (0, 0))) := ⟨by rw [hW11]; exact heap_alloc_new w10 _⟩
  have hbr2 := hbr.trans (hb11.mono hbr.size)
  replace HB := Hold.mk (HB.out.trans (hbr2.mono HB.out.size))
  replace HX := Hold.mk (keptR HX.out hbr2)
  replace HL := Hold.mk (HL.out.mono RW_mono (cle_below hbr2))
  replace HPV := Hold.mk (HPV.out.mono RW_mono (cle_below hbr2))
  replace HQV := Hold.mk (HQV.out.mono RW_mono (cle_below hbr2))
  clear hbr hbr2 hb11 hgp
  go_upto_region 6 with (fail)
  rw [← hW11]
  clear hW11
  go_cut [11, 12] (fun s11 s12 wx => GBox W11 60 ⟨gs, gi, gg, gt⟩ gb s11 s12 wx)
  case first =>
    have HL11 := Hold.mk (HL.out)
    obtain ⟨y0, y1, y2, y3⟩ := cells4W HX.out
    have g0 := Grow.cell y0
    have g1 := Grow.cell y1
    clear y0 y1 y2 y3
    refine wp_region_mix 13 rfl (by kernel_rfl) ?_
    rintro w12 hb12
    have HG := Hold.mk hb12
    clear hb12
    refine mixl_seg (by kernel_rfl) (fun _ _ d _ _ h => by cases d <;> exact h) [0, 2, 3, 4, 5] [_, _, _, _, _] 8 13 rfl _ _ _ rfl (by kernel_rfl) (growC HG.out) ?_
    repeat (go_big_quiet_step (fail))
    refine wpQuiet_nil ?_
    clear g0 g1
    refine mixl_two (i := 1) (j := 10) rfl rfl (by kernel_rfl) (growC HG.out) rfl rfl (fun K hK => ?_) (fun K hK => ?_)
    · go_wp2_with fail
      refine (wplain_any l _ w12 (HL11.out.mono RW_mono (cle_below HG.out)) (by omega)).mono ?_
      rintro e w13 ⟨sv, rfl, hsv, hbq⟩
      obtain ⟨sa, scap, rfl⟩ := hsv.form
      have HSV := Hold.mk hsv
      replace HG := Hold.mk (HG.out.trans (hbq.mono HG.out.size))
      clear hbq hsv
      go_wp2_with fail
      refine mixl_two (i := 6) (j := 10) rfl rfl (by kernel_rfl) (growC HG.out) rfl rfl (fun K hK => ?_) (fun K hK => ?_)
      · go_wp2_with fail
        refine (wrGet_any l _ s i w13 HSV.out).mono ?_
        rintro e w14 hgp
        obtain ⟨he, hbr⟩ := get_post hgp
        rw [HGV.out, HGB.out] at he
        unfold WR.cells at he
        simp only at he
        subst he
        replace HG := Hold.mk (HG.out.trans (hbr.mono HG.out.size))
        clear hgp
        clear hbr
        go_wp2_with fail
        refine mixl_seg (by kernel_rfl) (fun _ _ d _ _ h => by cases d <;> exact h) [7, 8, 9] [_, _, _] 3 6 rfl _ _ _ rfl (by kernel_rfl) (growC HG.out) ?_
        repeat (go_big_quiet_step (fail))
        refine wpQuiet_nil ?_
        refine mixl_act (i := 10) rfl (by kernel_rfl) (growC HG.out) rfl (fun K hK => ?_)
        have HWS : Hold (W11.heap.size ≤ w14.heap.size) := ⟨HG.out.size⟩
        go_wp2_with fail
        have HZB := Hold.mk (heap_alloc_new w14 (.cells zeroW 60))
        replace HG := Hold.mk (HG.out.alloc HG.out.size (.cells zeroW 60))
        have HWL : Hold (W11.heap.size ≤ w14.heap.size) := ⟨HWS.out⟩
        generalize hzb : w14.heap.size = zb at HZB HWL ⊢
        generalize w14.alloc (.cells zeroW 60) = w15 at HG HZB ⊢
        refine mixl_act (i := 11) rfl (by kernel_rfl) (growC HG.out) rfl (fun K hK => ?_)
        obtain ⟨v0, v1, v2, v3⟩ := cells4W HZB.out
        have q0 := freeR HZB.out 0
        have q1 := freeR HZB.out 1
        have q2 := freeR HZB.out 2
        have q3 := freeR HZB.out 3
        go_wp2_with fail
        clear v0 v1 v2 v3 q0 q1 q2 q3
        have HZ6 := Hold.mk (set4Z_self (c0 := .int .i64 gs) (c1 := .string gi) (c2 := .bool gg) (c3 := .string gt) HZB.out)
        replace HG := Hold.mk (set4Z_below (k := zb) (c0 := .int .i64 gs) (c1 := .string gi) (c2 := .bool gg) (c3 := .string gt) HG.out HWL.out)
        unfold set4Z at HZ6 HG
        generalize hw8 : (((w15.setCell ⟨zb, 0, none⟩ (.int .i64 gs)).setCell ⟨zb, 1, none⟩ (.string gi)).setCell ⟨zb, 2, none⟩ (.bool gg)).setCell ⟨zb, 3, none⟩ (.string gt) = w88 at HZ6 HG ⊢
        clear hw8
        refine mixl_seg (by kernel_rfl) (fun _ _ d _ _ h => by cases d <;> exact h) [12] [_] 0 1 rfl _ _ _ rfl (by kernel_rfl) (growC HG.out) ?_
        repeat (go_big_quiet_step (fail))
        refine wpQuiet_nil ?_
        refine mix_done (by kernel_rfl) (growC HG.out) ?_
        have HVX : Hold (GBox W11 60 ⟨gs, gi, gg, gt⟩ gb (.pointer (some ⟨zb, 0, none⟩)) (.bool gb) w88) := ⟨_, rfl, rfl, HZ6.out, HG.out⟩
        go_wp2_with fail
        go_meet
        case rel => exact HVX.out
      · have HWS : Hold (W11.heap.size ≤ w13.heap.size) := ⟨HG.out.size⟩
        have hbz := (Below.refl _ w13).alloc (Nat.le_refl _) (.cells zeroW 60)
        replace HSV := Hold.mk (HSV.out.mono RW_mono (cle_below hbz))
        clear hbz
        go_wp2_with fail
        have HZB := Hold.mk (heap_alloc_new w13 (.cells zeroW 60))
        replace HG := Hold.mk (HG.out.alloc HG.out.size (.cells zeroW 60))
        have HWL : Hold (W11.heap.size ≤ w13.heap.size) := ⟨HWS.out⟩
        generalize hzb : w13.heap.size = zb at HZB HWL ⊢
        generalize w13.alloc (.cells zeroW 60) = w14 at HG HZB HSV ⊢
        refine mixl_act (i := 6) rfl (by kernel_rfl) (growC HG.out) rfl (fun K hK => ?_)
        go_wp2_with fail
        refine (wrGet_any l _ s i w14 HSV.out).mono ?_
        rintro e w15 hgp
        obtain ⟨he, hbr⟩ := get_post hgp
        rw [HGV.out, HGB.out] at he
        unfold WR.cells at he
        simp only at he
        subst he
        replace HG := Hold.mk (HG.out.trans (hbr.mono HG.out.size))
        clear hgp
        replace HZB := Hold.mk (keptR HZB.out hbr)
        clear hbr
        go_wp2_with fail
        refine mixl_seg (by kernel_rfl) (fun _ _ d _ _ h => by cases d <;> exact h) [7, 8, 9] [_, _, _] 2 5 rfl _ _ _ rfl (by kernel_rfl) (growC HG.out) ?_
        repeat (go_big_quiet_step (fail))
        refine wpQuiet_nil ?_
        refine mixl_act (i := 11) rfl (by kernel_rfl) (growC HG.out) rfl (fun K hK => ?_)
        obtain ⟨v0, v1, v2, v3⟩ := cells4W HZB.out
        have q0 := freeR HZB.out 0
        have q1 := freeR HZB.out 1
        have q2 := freeR HZB.out 2
        have q3 := freeR HZB.out 3
        go_wp2_with fail
        clear v0 v1 v2 v3 q0 q1 q2 q3
        have HZ6 := Hold.mk (set4Z_self (c0 := .int .i64 gs) (c1 := .string gi) (c2 := .bool gg) (c3 := .string gt) HZB.out)
        replace HG := Hold.mk (set4Z_below (k := zb) (c0 := .int .i64 gs) (c1 := .string gi) (c2 := .bool gg) (c3 := .string gt) HG.out HWL.out)
        unfold set4Z at HZ6 HG
        generalize hw8 : (((w15.setCell ⟨zb, 0, none⟩ (.int .i64 gs)).setCell ⟨zb, 1, none⟩ (.string gi)).setCell ⟨zb, 2, none⟩ (.bool gg)).setCell ⟨zb, 3, none⟩ (.string gt) = w88 at HZ6 HG ⊢
        clear hw8
        refine mixl_seg (by kernel_rfl) (fun _ _ d _ _ h => by cases d <;> exact h) [12] [_] 0 1 rfl _ _ _ rfl (by kernel_rfl) (growC HG.out) ?_
        repeat (go_big_quiet_step (fail))
        refine wpQuiet_nil ?_
        refine mix_done (by kernel_rfl) (growC HG.out) ?_
        have HVX : Hold (GBox W11 60 ⟨gs, gi, gg, gt⟩ gb (.pointer (some ⟨zb, 0, none⟩)) (.bool gb) w88) := ⟨_, rfl, rfl, HZ6.out, HG.out⟩
        go_wp2_with fail
        go_meet
        case rel => exact HVX.out
    · have HWS : Hold (W11.heap.size ≤ w12.heap.size) := ⟨HG.out.size⟩
      go_wp2_with fail
      have HZB := Hold.mk (heap_alloc_new w12 (.cells zeroW 60))
      replace HG := Hold.mk (HG.out.alloc HG.out.size (.cells zeroW 60))
      have HWL : Hold (W11.heap.size ≤ w12.heap.size) := ⟨HWS.out⟩
      generalize hzb : w12.heap.size = zb at HZB HWL ⊢
      generalize w12.alloc (.cells zeroW 60) = w13 at HG HZB ⊢
      refine mixl_act (i := 1) rfl (by kernel_rfl) (growC HG.out) rfl (fun K hK => ?_)
      go_wp2_with fail
      refine (wplain_any l _ w13 (HL11.out.mono RW_mono (cle_below HG.out)) (by omega)).mono ?_
      rintro e w14 ⟨sv, rfl, hsv, hbq⟩
      obtain ⟨sa, scap, rfl⟩ := hsv.form
      have HSV := Hold.mk hsv
      replace HG := Hold.mk (HG.out.trans (hbq.mono HG.out.size))
      replace HZB := Hold.mk (keptR HZB.out hbq)
      clear hbq hsv
      go_wp2_with fail
      refine mixl_act (i := 6) rfl (by kernel_rfl) (growC HG.out) rfl (fun K hK => ?_)
      go_wp2_with fail
      refine (wrGet_any l _ s i w14 HSV.out).mono ?_
      rintro e w15 hgp
      obtain ⟨he, hbr⟩ := get_post hgp
      rw [HGV.out, HGB.out] at he
      unfold WR.cells at he
      simp only at he
      subst he
      replace HG := Hold.mk (HG.out.trans (hbr.mono HG.out.size))
      clear hgp
      replace HZB := Hold.mk (keptR HZB.out hbr)
      clear hbr
      go_wp2_with fail
      refine mixl_seg (by kernel_rfl) (fun _ _ d _ _ h => by cases d <;> exact h) [7, 8, 9] [_, _, _] 2 5 rfl _ _ _ rfl (by kernel_rfl) (growC HG.out) ?_
      repeat (go_big_quiet_step (fail))
      refine wpQuiet_nil ?_
      refine mixl_act (i := 11) rfl (by kernel_rfl) (growC HG.out) rfl (fun K hK => ?_)
      obtain ⟨v0, v1, v2, v3⟩ := cells4W HZB.out
      have q0 := freeR HZB.out 0
      have q1 := freeR HZB.out 1
      have q2 := freeR HZB.out 2
      have q3 := freeR HZB.out 3
      go_wp2_with fail
      clear v0 v1 v2 v3 q0 q1 q2 q3
      have HZ6 := Hold.mk (set4Z_self (c0 := .int .i64 gs) (c1 := .string gi) (c2 := .bool gg) (c3 := .string gt) HZB.out)
      replace HG := Hold.mk (set4Z_below (k := zb) (c0 := .int .i64 gs) (c1 := .string gi) (c2 := .bool gg) (c3 := .string gt) HG.out HWL.out)
      unfold set4Z at HZ6 HG
      generalize hw8 : (((w15.setCell ⟨zb, 0, none⟩ (.int .i64 gs)).setCell ⟨zb, 1, none⟩ (.string gi)).setCell ⟨zb, 2, none⟩ (.bool gg)).setCell ⟨zb, 3, none⟩ (.string gt) = w88 at HZ6 HG ⊢
      clear hw8
      refine mixl_seg (by kernel_rfl) (fun _ _ d _ _ h => by cases d <;> exact h) [12] [_] 0 1 rfl _ _ _ rfl (by kernel_rfl) (growC HG.out) ?_
      repeat (go_big_quiet_step (fail))
      refine wpQuiet_nil ?_
      refine mix_done (by kernel_rfl) (growC HG.out) ?_
      have HVX : Hold (GBox W11 60 ⟨gs, gi, gg, gt⟩ gb (.pointer (some ⟨zb, 0, none⟩)) (.bool gb) w88) := ⟨_, rfl, rfl, HZ6.out, HG.out⟩
      go_wp2_with fail
      go_meet
      case rel => exact HVX.out
  case rest =>
    obtain ⟨zb, rfl, rfl, hzb, hwx⟩ := hcut
    simp only at hzb
    have HZ := Hold.mk hzb
    replace HB := Hold.mk (HB.out.trans (hwx.mono HB.out.size))
    replace HY := Hold.mk (keptR HY.out hwx)
    replace HPV := Hold.mk (HPV.out.mono RW_mono (cle_below hwx))
    replace HQV := Hold.mk (HQV.out.mono RW_mono (cle_below hwx))
    clear hzb hwx
    generalize wc = wa at *
    have hpl : pr.length ≤ 1000000 := by rw [HPR.out]; exact putWR_len (by omega)
    have hpn2 : pn ≤ 1000000 := by rw [HPN.out]; exact hpl
    rw [HPN.out] at HPV HQV ⊢
    go_wp2_with fail
    refine (wplain_any pr _ wa HPV.out hpl).mono ?_
    rintro e w20 ⟨sv, rfl, hsv, hbq⟩
    obtain ⟨sa, scap, rfl⟩ := hsv.form
    have HSV := Hold.mk hsv
    replace HB := Hold.mk (HB.out.trans (hbq.mono HB.out.size))
    replace HY := Hold.mk (keptR HY.out hbq)
    replace HZ := Hold.mk (keptR HZ.out hbq)
    replace HQV := Hold.mk (HQV.out.mono RW_mono (cle_below hbq))
    clear hbq hsv HPV
    go_wp2_with fail
    refine (wrSame_eq pr _ _ w20 HSV.out HQV.out).mono ?_
    rintro e w21 ⟨rfl, hb21⟩
    have HBF := Hold.mk (HB.out.trans (hb21.mono HB.out.size))
    replace HY := Hold.mk (keptR HY.out hb21)
    replace HZ := Hold.mk (keptR HZ.out hb21)
    clear hb21 HSV HQV
    have hq : ∀ w, (binOp .eql 60 (.agg #[.int .i64 gs, .string gi, .bool gg, .string gt]) (.agg #[.int .i64 gs, .string gi, .bool gg, .string gt])).run Tryz.prog w = .ok (.bool true) w := fun w => by
      rw [eqlR, (eqW_iff _ _).2 rfl]
    obtain ⟨y0, y1, y2, y3⟩ := cells4W HY.out
    obtain ⟨z0, z1, z2, z3⟩ := cells4W HZ.out
    go_wp2_with fail
    go_ret
    exact ⟨by simp, HBF.out⟩

end Go.Proofs.YtkhhbckpddkhlaaGreatDoor

namespace Go.Proofs.YtkhhbckpddkhlaaGreatDoor
open Go.Shelf Go.RowKit

theorem up_iff (l : List WR) : upW l ↔ l.Pairwise (fun a b => ltW a b = true) := by
  rw [List.pairwise_iff_getElem]
  refine ⟨fun h i j hi hj hij => h i j _ _ hij (List.getElem?_eq_getElem hi) (List.getElem?_eq_getElem hj), fun h i j a b hij ha hb => ?_⟩
  obtain ⟨hi, rfl⟩ := List.getElem?_eq_some_iff.1 ha
  obtain ⟨hj, rfl⟩ := List.getElem?_eq_some_iff.1 hb
  exact h i j hi hj hij
open Classical in
theorem formedW_iff (l : List WR) : formedW l = true ↔ (∀ y ∈ l, oneF y = true) ∧ upW l ∧ l.length ≤ 12 := by
  unfold formedW
  rw [decide_eq_true_iff]
  refine ⟨fun ⟨h, h12⟩ => ⟨fun y hy => ?_, up_of_formed h, h12⟩, fun ⟨h1, h2, h12⟩ => ⟨⟨fun i y _ hy => h1 y (List.mem_of_getElem? hy), fun i a b _ ha hb => h2 i (i + 1) a b (by omega) ha hb⟩, h12⟩⟩
  obtain ⟨i, hi, rfl⟩ := List.getElem_of_mem hy
  exact h.1 i _ hi (List.getElem?_eq_getElem hi)
theorem sameW_ltR {a b c : WR} (h : sameW a b = true) : ltW a c = ltW b c := by
  unfold sameW at h; unfold ltW
  simp only [Bool.and_eq_true, decide_eq_true_eq] at h
  rw [h.1, h.2]
theorem lt_of_ge {a b : WR} (h : ltW a b = false) (k : sameW a b = false) : ltW b a = true := by
  cases hb : ltW b a with
  | true => rfl
  | false => rw [sameW_of h hb] at k; cases k
/-- what lies behind a write that is put -/
def restW (x : WR) (l : List WR) : List WR := l.drop (if foundW x l = true then placeW x l + 1 else placeW x l)
theorem putWL_eq (x : WR) (l : List WR) : putWL x l = l.take (placeW x l) ++ x :: restW x l := by
  unfold restW
  cases h : foundW x l with
  | true => rw [putWL_set2 h]; simp
  | false => rw [putWL_ins h]; simp
theorem rest_mem {x y : WR} {l : List WR} (h : y ∈ restW x l) : y ∈ l.drop (placeW x l) := by
  unfold restW at h
  split at h
  · rw [← List.drop_drop] at h; exact List.mem_of_mem_drop h
  · exact h
theorem rest_gt {x y : WR} {l : List WR} (hu : upW l) (h : y ∈ restW x l) : ltW x y = true := by
  unfold restW at h
  split at h
  · rename_i hf
    have hl := foundW_lt hf
    obtain ⟨i, hi, rfl⟩ := List.getElem_of_mem h
    obtain ⟨z, hz⟩ : ∃ z, l[placeW x l]? = some z := ⟨_, List.getElem?_eq_getElem hl⟩
    have hs : sameW z x = true := by unfold foundW at hf; rw [hz] at hf; exact hf
    rw [← sameW_ltR hs]
    refine hu (placeW x l) (placeW x l + 1 + i) z _ (by omega) hz ?_
    rw [List.getElem_drop, List.getElem?_eq_getElem]
  · rename_i hf
    obtain ⟨i, hi, rfl⟩ := List.getElem_of_mem h
    rw [List.length_drop] at hi
    have hl : placeW x l < l.length := by omega
    obtain ⟨z, hz⟩ : ∃ z, l[placeW x l]? = some z := ⟨_, List.getElem?_eq_getElem hl⟩
    have hs : sameW z x = false := by
      unfold foundW at hf; rw [hz] at hf; simpa using hf
    have h1 := lt_of_ge (placeW_at hz) hs
    rw [List.getElem_drop]
    by_cases h0 : i = 0
    · subst h0
      obtain ⟨_, e⟩ := List.getElem?_eq_some_iff.1 hz
      simp only [Nat.add_zero]
      rw [e]; exact h1
    · exact ltW_trans h1 (hu (placeW x l) (placeW x l + i) z _ (by omega) hz (List.getElem?_eq_getElem (by omega)))
theorem up_put {x : WR} {l : List WR} (hu : upW l) : upW (putWL x l) := by
  have hp := (up_iff l).1 hu
  rw [up_iff, putWL_eq, List.pairwise_append, List.pairwise_cons]
  refine ⟨hp.sublist (List.take_sublist _ _), ⟨fun y hy => rest_gt hu hy, hp.sublist (List.drop_sublist _ _)⟩, fun a ha b hb => ?_⟩
  have hax : ltW a x = true := by
    obtain ⟨i, hi, rfl⟩ := List.getElem_of_mem ha
    rw [List.length_take] at hi
    refine placeW_lt (w := x) (l := l) (t := i) (by omega) ?_
    rw [List.getElem_take, List.getElem?_eq_getElem (by omega)]
  rcases List.mem_cons.1 hb with rfl | hb
  · exact hax
  · exact ltW_trans hax (rest_gt hu hb)
theorem put_mem {x y : WR} {l : List WR} (h : y ∈ putWL x l) : y = x ∨ y ∈ l := by
  rw [putWL_eq] at h
  rcases List.mem_append.1 h with h | h
  · exact .inr (List.mem_of_mem_take h)
  · rcases List.mem_cons.1 h with h | h
    · exact .inl h
    · exact .inr (List.mem_of_mem_drop (rest_mem h))
theorem put_len {x : WR} {l : List WR} (h12 : l.length ≤ 12) (he : putWE l x = 0) : (putWL x l).length ≤ 12 := by
  rw [putWL_len]
  unfold putWE at he
  split at he
  · cases he
  · cases hf : foundW x l with
    | true => simp; omega
    | false =>
      rw [hf] at he
      simp only at he
      split at he
      · cases he
      · simp; omega
theorem put_parts {x : WR} {l : List WR} (he : putWE l x = 0) : formedW l = true ∧ oneF x = true := by
  unfold putWE at he
  split at he
  · cases he
  · rename_i h; rw [Bool.and_eq_true] at h; exact h
theorem put_formed {x : WR} {l : List WR} (he : putWE l x = 0) : formedW (putWL x l) = true := by
  obtain ⟨h1, h2⟩ := put_parts he
  obtain ⟨ha, hu, h12⟩ := (formedW_iff l).1 h1
  refine (formedW_iff _).2 ⟨fun y hy => ?_, up_put hu, put_len h12 he⟩
  rcases put_mem hy with rfl | hy
  · exact h2
  · exact ha y hy
theorem put_place {x : WR} {l : List WR} : placeW x (putWL x l) = placeW x l ∧ (putWL x l)[placeW x l]? = some x := by
  have hle := placeW_le x l
  have hat : (putWL x l)[placeW x l]? = some x := by
    rw [putWL_eq, List.getElem?_append_right (by rw [List.length_take]; omega), List.length_take, Nat.min_eq_left hle, Nat.sub_self]; rfl
  refine ⟨placeW_eq (by rw [putWL_len]; split <;> omega) (fun t y ht hy => ?_) (fun y hy => ?_), hat⟩
  · rw [putWL_eq, List.getElem?_append_left (by rw [List.length_take]; omega), List.getElem?_take, if_pos ht] at hy
    exact placeW_lt ht hy
  · rw [hat] at hy; cases hy; exact ltW_self x
theorem sameW_self (x : WR) : sameW x x = true := by simp [sameW]
theorem put_found2 {x : WR} {l : List WR} : foundW x (putWL x l) = true := by
  unfold foundW; rw [put_place.1, put_place.2]; exact sameW_self x
theorem put_twice {x : WR} {l : List WR} : putWL x (putWL x l) = putWL x l := by
  rw [putWL_set put_found2, put_place.1]
  have h := put_place (x := x) (l := l)
  obtain ⟨h1, h2⟩ := List.getElem?_eq_some_iff.1 h.2
  conv => lhs; arg 3; rw [← h2]
  exact List.set_getElem_self h1
theorem put_again {x : WR} {l : List WR} (he : putWE l x = 0) : putWE (putWL x l) x = 0 ∧ putWR (putWL x l) x = putWL x l := by
  have h0 : putWE (putWL x l) x = 0 := put_found (put_formed he) (put_parts he).2 put_found2
  exact ⟨h0, by unfold putWR; rw [if_pos h0, put_twice]⟩
theorem getF_append (a b : List WR) (sp : Int) (id : ByteArray) : getF (a ++ b) sp id = match getF a sp id with
    | some y => some y
    | none => getF b sp id := by
  induction a with
  | nil => rfl
  | cons y a ih =>
    rw [List.cons_append, getF, getF]
    split
    · rfl
    · exact ih
theorem put_got {x : WR} {l : List WR} : getF (putWL x l) x.sp x.id = some x := by
  refine getF_at (j := placeW x l) (fun q a hq ha => ?_) put_place.2 (by simp [hitW])
  have hle := placeW_le x l
  rw [putWL_eq, List.getElem?_append_left (by rw [List.length_take]; omega), List.getElem?_take, if_pos hq] at ha
  have := placeW_lt hq ha
  cases hh : hitW a x.sp x.id with
  | false => rfl
  | true =>
    have hs : sameW a x = true := hh
    rw [(sameW_lt hs).1] at this; cases this
theorem put_other {x : WR} {l : List WR} {sp : Int} {id : ByteArray} (h : hitW x sp id = false) : getF (putWL x l) sp id = getF l sp id := by
  have e : l = l.take (placeW x l) ++ l.drop (placeW x l) := (List.take_append_drop _ _).symm
  rw [putWL_eq]
  conv => rhs; rw [e]
  rw [getF_append, getF_append]
  have hr : getF (x :: restW x l) sp id = getF (l.drop (placeW x l)) sp id := by
    rw [getF, h, if_neg (by simp)]
    unfold restW
    split
    · rename_i hf
      have hl := foundW_lt hf
      rw [List.drop_eq_getElem_cons hl, getF]
      have hs : sameW l[placeW x l] x = true := by unfold foundW at hf; rw [List.getElem?_eq_getElem hl] at hf; exact hf
      have hn : hitW l[placeW x l] sp id = false := by
        unfold sameW at hs
        simp only [Bool.and_eq_true, decide_eq_true_eq] at hs
        unfold hitW at h ⊢
        rw [hs.1, hs.2]; exact h
      rw [hn, if_neg (by simp)]
    · rfl
  rw [hr]
theorem put_meets {x : WR} {l : List WR} : (putWL x l).any (fun y => getB [x] y.sp y.id) = true := by
  rw [List.any_eq_true]
  refine ⟨x, by rw [putWL_eq]; simp, ?_⟩
  unfold getB getF
  simp [hitW]

/-! Meet -/
def IdxW (b : Bool) (w : World) (e : Ending) (w' : World) : Prop := ∃ r : Int, e = .returned (.int .i64 r) ∧ decide (0 ≤ r) = b ∧ Below w.heap.size w w'
theorem anyW_true {l : List WR} {p : WR → Bool} {i : Nat} {x : WR} (hx : l[i]? = some x) (h : p x = true) : l.any p = true :=
  List.any_eq_true.2 ⟨x, List.mem_of_getElem? hx, h⟩
theorem anyW_false {l : List WR} {p : WR → Bool} (h : ∀ (i : Nat) x, i < l.length → l[i]? = some x → p x = false) : l.any p = false := by
  rw [← Bool.not_eq_true, List.any_eq_true]
  rintro ⟨x, hx, hp⟩
  obtain ⟨i, hil, e⟩ := List.getElem_of_mem hx
  rw [h i x hil (by rw [← e]; exact List.getElem?_eq_getElem hil)] at hp
  cases hp
theorem meet1_enters (args : Array Value) (w : World) : (callFunc 79 args).run Tryz.prog w = .ok (.enter 79 args) w := enters_of Tryz.func79 (by kernel_rfl) rfl args w

set_option maxRecDepth 100000 in
set_option maxHeartbeats 8000000 in
theorem meet1_any (m : List WR) (mv : Value) (x : WR) (k : Nat) (w : World) (hm : SAt 4 RW (cf w) mv m) (hk : w.heap[k]? = some (.cells #[mv] 54 (0, 0))) :
    Calls Tryz.prog 79 #[.agg x.cells, .pointer (some ⟨k, 0, none⟩)] w fun e w' => e = .returned (.bool (getB m x.sp x.id)) ∧ Below w.heap.size w w' := by
  obtain ⟨ma, mcap, rfl⟩ := hm.slice
  have HM := Hold.mk hm
  have hkl := ltR hk
  have hkc : w.cell? ⟨k, 0, none⟩ = some (.slice ma m.length mcap) := by simp [World.cell?, hk]
  obtain ⟨s, i, g, t⟩ := x
  obtain ⟨gv, hgv⟩ : ∃ gv, getV m s i = gv := ⟨_, rfl⟩
  obtain ⟨gb, hgb⟩ : ∃ gb, getB m s i = gb := ⟨_, rfl⟩
  have HGV := Hold.mk hgv
  have HGB := Hold.mk hgb
  unfold WR.cells
  simp only
  rw [hgb]
  obtain ⟨gs, gi, gg, gt⟩ := gv
  obtain ⟨W, hW⟩ : ∃ W, W = w.alloc (.cells #[.int .i64 s, .string i, .bool g, .string t] 58) := ⟨_, rfl⟩
  have hb : Below w.heap.size w W := by rw [hW]; exact (Below.refl _ w).alloc (Nat.le_refl _) _
  have HX : Hold (W.heap[w.heap.size]? = some (.cells #[.int .i64 s, .string i, .bool g, .string t] 58 (0, 0))) := ⟨by rw [hW]; exact heap_alloc_new w _⟩
  have c0 : W.cell? ⟨k, 0, none⟩ = some (.slice ma m.length mcap) := by rw [hb.cell (p := ⟨k, 0, none⟩) hkl]; exact hkc
  have HB := Hold.mk hb
  have HM2 := Hold.mk (HM.out.mono RW_mono (cle_below hb))
  clear hb hm hk hkl hkc hgv hgb
  go_enter Tryz.func79, Tryz.ntmps79
  go_upto_region 1 with (fail)
  rw [← hW]
  clear hW
  obtain ⟨y0, y1, y2, y3⟩ := cells4W HX.out
  go_wp2_with fail
  refine (wGet_any m _ s i W HM2.out).mono ?_
  rintro e w3 hgp
  obtain ⟨he, hbr⟩ := get_post hgp
  rw [HGV.out, HGB.out] at he
  unfold WR.cells at he
  simp only at he
  subst he
  have HBF := Hold.mk ((HB.out.trans (hbr.mono HB.out.size)).alloc (Nat.le_trans HB.out.size hbr.size) (.cells #[.int .i64 gs, .string gi, .bool gg, .string gt] 58))
  clear hbr hgp y0 y1 y2 y3 c0
  go_wp2_with fail
  go_ret
  exact ⟨rfl, HBF.out⟩

set_option maxRecDepth 100000 in
set_option maxHeartbeats 8000000 in
theorem widx_any (l m : List WR) (lv mv : Value) (k : Nat) (w : World) (hl : SAt 4 RW (cf w) lv l) (hm : SAt 4 RW (cf w) mv m) (hk : w.heap[k]? = some (.cells #[mv] 54 (0, 0))) :
    Calls Tryz.prog 122 #[lv, .func (.func 79) #[] #[.pointer (some ⟨k, 0, none⟩)]] w (IdxW (l.any fun y => getB m y.sp y.id) w) := by
  obtain ⟨a, cap, rfl, hlen, hcap, hel⟩ := hl
  have hle2 : l.length ≤ 9223372036854775807 := by omega
  have HE := Hold.mk hel
  have HM := Hold.mk hm
  have HK := Hold.mk hk
  have hF := meet1_enters
  clear hel hm hk
  go_enter Tryz.func122, Tryz.ntmps122
  go_wp2_with fail
  go_loopw [8] (fun i wr => ∃ j : Nat, i = .int .i64 j ∧ j ≤ l.length ∧ (∀ (q : Nat) x, q < j → l[q]? = some x → getB m x.sp x.id = false) ∧ Below w.heap.size w wr) (fun i _ => l.length - (intOf i).toNat)
  case atStart => exact ⟨0, rfl, Nat.zero_le _, fun q x h => by omega, Below.refl _ _⟩
  case round =>
    obtain ⟨j, rfl, hj, hall, hbl⟩ := hrel
    have HA := Hold.mk hall
    have HB := Hold.mk hbl
    clear hall hbl
    by_cases hlt : j < l.length
    · obtain ⟨x, hx⟩ : ∃ x, l[j]? = some x := ⟨l[j], List.getElem?_eq_getElem hlt⟩
      obtain ⟨b, off, d, rfl, hd, hc, hyi⟩ := HE.out j x hx
      obtain ⟨rfl, _, _, _⟩ := hyi
      have HXE := Hold.mk hx
      have HX := Hold.mk (meet1_any m _ x k wr (HM.out.mono RW_mono (cle_below HB.out)) (keptR HK.out HB.out))
      obtain ⟨s, i, g, t⟩ := x
      unfold WR.cells at HX
      simp only at HX
      have hcl := cle_below HB.out
      have z0 := hcl _ _ _ (hc 0 _ rfl)
      have z1 := hcl _ _ _ (hc 1 _ rfl)
      have z2 := hcl _ _ _ (hc 2 _ rfl)
      have z3 := hcl _ _ _ (hc 3 _ rfl)
      unfold cf at z0 z1 z2 z3
      rw [Nat.add_zero] at z0
      clear hx hd hc hcl
      obtain ⟨gb, hgb⟩ : ∃ gb, getB m s i = gb := ⟨_, rfl⟩
      rw [hgb] at HX
      have HF := Hold.mk hgb
      clear hgb
      cases gb with
      | false =>
        go_wp2_with fail
        refine HX.out.mono ?_
        rintro e w3 ⟨rfl, hb3⟩
        replace HB := Hold.mk (HB.out.trans (hb3.mono HB.out.size))
        clear hb3 HX z0 z1 z2 z3
        go_wp2_with fail
        refine ⟨⟨j + 1, by go_num, hlt, fun q s' hq hs' => ?_, HB.out⟩, by simp [intOf]; omega⟩
        by_cases e : q = j
        · subst e; rw [HXE.out] at hs'; cases hs'; exact HF.out
        · exact HA.out q s' (by omega) hs'
      | true =>
        go_wp2_with fail
        refine HX.out.mono ?_
        rintro e w3 ⟨rfl, hb3⟩
        replace HB := Hold.mk (HB.out.trans (hb3.mono HB.out.size))
        clear hb3 HX z0 z1 z2 z3
        go_wp2_with fail
        go_ret
        exact ⟨(j : Int), rfl, by rw [anyW_true (p := fun y => getB m y.sp y.id) HXE.out HF.out]; simp, HB.out⟩
    · have HAll : Hold (l.any (fun y => getB m y.sp y.id) = false) := ⟨anyW_false (fun q x hq => HA.out q x (by omega))⟩
      go_wp2_with fail
      go_ret
      exact ⟨-1, rfl, by rw [HAll.out]; rfl, HB.out⟩

set_option maxRecDepth 100000 in
set_option maxHeartbeats 8000000 in
theorem wMeet_any (l m : List WR) (lv mv : Value) (w : World) (hl : SAt 4 RW (cf w) lv l) (hm : SAt 4 RW (cf w) mv m) :
    Calls Tryz.prog 36 #[lv, mv] w fun e w' => e = .returned (.bool (l.any fun y => getB m y.sp y.id)) ∧ Below w.heap.size w w' := by
  have HL := Hold.mk hl
  have HM := Hold.mk hm
  obtain ⟨la, lcap, rfl⟩ := hl.slice
  obtain ⟨ma, mcap, rfl⟩ := hm.slice
  obtain ⟨W, hW⟩ : ∃ W, W = w.alloc (.cells #[.slice ma m.length mcap] 54) := ⟨_, rfl⟩
  have hb : Below w.heap.size w W := by rw [hW]; exact (Below.refl _ w).alloc (Nat.le_refl _) _
  have HK : Hold (W.heap[w.heap.size]? = some (.cells #[.slice ma m.length mcap] 54 (0, 0))) := ⟨by rw [hW]; exact heap_alloc_new w _⟩
  have HB := Hold.mk hb
  have HX := Hold.mk (widx_any l m _ _ w.heap.size W (HL.out.mono RW_mono (cle_below hb)) (HM.out.mono RW_mono (cle_below hb)) HK.out)
  generalize (l.any fun y => getB m y.sp y.id) = r at HX ⊢
  have HCF : Hold (Calls Tryz.prog 78 #[.slice la l.length lcap, .func (.func 79) #[] #[.pointer (some ⟨w.heap.size, 0, none⟩)]] W fun e w' => e = .returned (.bool r) ∧ Below W.heap.size W w') := ⟨by
    clear hb hW HB HK HL HM hl hm
    go_enter Tryz.func78, Tryz.ntmps78
    go_wp2_with fail
    refine HX.out.mono ?_
    rintro e w1 ⟨q, rfl, hr, hb1⟩
    have HR := Hold.mk hr
    have HB := Hold.mk hb1
    clear hr hb1 HX
    go_wp2_with fail
    go_ret
    exact ⟨by rw [← HR.out] <;> rfl, HB.out⟩⟩
  clear hb hl hm HX
  go_enter Tryz.func36, Tryz.ntmps36
  go_upto_region 1 with (fail)
  rw [← hW]
  clear hW
  go_wp2_with fail
  refine HCF.out.mono ?_
  rintro e w3 ⟨rfl, hb3⟩
  have HBF := HB.out.trans (hb3.mono HB.out.size)
  clear hb3 HCF
  go_wp2_with fail
  go_ret
  exact ⟨rfl, HBF⟩

end Go.Proofs.YtkhhbckpddkhlaaGreatDoor
