/- Records: Read of the program: what is read are a record's bytes, or it is an error. -/
import Derived.Test.YticlnijkfclgcaaGreatDoorZ43
import Derived.Test.YticlnijkfclgcaaGreatDoorZ45
import Derived.Laws.IdiomStrings
import Derived.Laws.BytesString
namespace Go.Proofs.YticlnijkfclgcaaGreatDoor
open Go.Shelf Go.RowKit

theorem run_bytes_str (w : World) (a : Option Addr) (len cap : Nat) (l : List UInt8) (h : BytesC (cf w) a len cap l) : (convert 29 9 (.slice a len cap)).run Tryz.prog w = .ok (.string ⟨l.toArray⟩) w := by
  obtain ⟨rfl, h2, h3, h4, h5⟩ := h
  cases a with
  | none =>
    have e := h4 rfl
    subst e
    rw [run_convert_bytes_string w _ _ 5 none _ _ Tryz.underlying29 Tryz.underlying5 Tryz.underlying9]
    simp [Conv.bytesToString]
    rfl
  | some p =>
    obtain ⟨b, off, tl⟩ := p
    obtain ⟨rfl, h6⟩ := h5 b off tl rfl
    refine run_convert_bytes_back w _ _ 5 ⟨b, off, none⟩ cap l Tryz.underlying29 Tryz.underlying5 Tryz.underlying9 (fun j hj => ?_)
    have := h6 j l[j] (List.getElem?_eq_getElem hj)
    unfold cf at this
    rw [← this]
    congr 1
    unfold Addr.add; split
    · simp_all
    · rfl
theorem bEqual_any (a a2 : Option Addr) (n c n2 c2 : Nat) (l m : List UInt8) (w : World) (h1 : BytesC (cf w) a n c l) (h2 : BytesC (cf w) a2 n2 c2 m) :
    Calls Tryz.prog 15 #[.slice a n c, .slice a2 n2 c2] w fun e w' => e = .returned (.bool (decide (l = m))) ∧ w' = w := by
  have e1 := run_bytes_str w a n c l h1
  have e2 := run_bytes_str w a2 n2 c2 m h2
  by_cases h : l = m
  · subst h
    go_enter Tryz.func15, Tryz.ntmps15
    go_wp2_with fail
    go_ret
    exact ⟨by simp, rfl⟩
  · have hne : (l == m) = false := by rw [beq_eq_false_iff_ne]; exact h
    have HD : Hold (decide (l = m) = false) := ⟨decide_eq_false h⟩
    clear h
    go_enter Tryz.func15, Tryz.ntmps15
    go_wp2_with fail
    go_ret
    exact ⟨by rw [HD.out] <;> rfl, rfl⟩
theorem set3V_self {w : World} {k : Nat} {a b c x y z : Value} {T : TypeId} (h : w.heap[k]? = some (.cells #[a, b, c] T (0, 0))) : (((w.setCell ⟨k, 0, none⟩ x).setCell ⟨k, 1, none⟩ y).setCell ⟨k, 2, none⟩ z).heap[k]? = some (.cells #[x, y, z] T (0, 0)) := by
  have h1 := set_self (o := 0) (c := x) h
  have h2 := set_self (o := 1) (c := y) h1
  have h3 := set_self (o := 2) (c := z) h2
  simpa using h3
theorem set3V_below {B k : Nat} {w w' : World} {x y z : Value} (h : Below B w w') (hk : B ≤ k) : Below B w (((w'.setCell ⟨k, 0, none⟩ x).setCell ⟨k, 1, none⟩ y).setCell ⟨k, 2, none⟩ z) :=
  ((h.setCell (p := ⟨k, 0, none⟩) hk _).setCell (p := ⟨k, 1, none⟩) hk _).setCell (p := ⟨k, 2, none⟩) hk _
theorem infoWV : (Tryz.prog.info? 37).map (fun i => (i.zero, i.size, i.bytes)) = some (some (.agg #[.int .i64 0, .string ⟨#[]⟩, .bool false, .string ⟨#[]⟩]), 4, 48) := by kernel_rfl
def zeroRc : Array Value := #[.int .u64 0, .string ⟨#[]⟩, .slice none 0 0]
theorem rws_keep {B k : Nat} {w w' : World} {sl : Value} {p : Nat} {xs : List WR} {cs : List Value} {T : TypeId} (h : OwnS 4 RW T B w sl p xs cs) (hg : w.grownBy w' (some k)) (hne : ∀ g, sl.ownBlock = some g → g ≠ k) : OwnS 4 RW T B w' sl p xs cs :=
  ⟨h.own.kept hg (by
    cases e : sl.ownBlock with
    | none => exact .inl rfl
    | some g => exact .inr (fun e2 => hne g e (Option.some.inj e2))), h.len, ⟨h.row.1, h.row.2⟩, Nat.le_trans h.le hg.size⟩
/-- only block k has turned -/
def Turned (k : Nat) (w w' : World) : Prop := w'.heap.size = w.heap.size ∧ w.grownBy w' (some k)
theorem turned_set (w : World) (k o : Nat) (c : Value) : Turned k w (w.setCell ⟨k, o, none⟩ c) := by
  refine ⟨by simp, ?_⟩
  refine ⟨rfl, rfl, rfl, by simp, fun q _ hne => ?_⟩
  exact Below.heap_setCell _ _ _ _ (fun e => hne (by rw [e]))
/-- where Read stands: the reader's box, the record's box with a row of writes of the call's own -/
structure RSV (w wr : World) (z : Nat) (ct : ByteArray) (sl : Value) (j : Nat) (xs : List WR) (cs : List Value) : Prop where
  bel : Below w.heap.size w wr
  res : wr.heap[w.heap.size]? = some (.cells zeroRc 25 (0, 0))
  rd : ∃ a n c l, wr.heap[w.heap.size + 1]? = some (.cells #[.slice a n c] 47 (0, 0)) ∧ BytesC (cfU w.heap.size w) a n c l
  rcd : wr.heap[w.heap.size + 2]? = some (.cells #[.int .u64 (z : Int), .string ct, sl] 25 (0, 0))
  row : OwnS 4 RW 37 (w.heap.size + 3) wr sl j xs cs
theorem RSV.quiet {w wr wn : World} {z : Nat} {ct : ByteArray} {sl : Value} {j : Nat} {xs : List WR} {cs : List Value} (h : RSV w wr z ct sl j xs cs) (hb : Below wr.heap.size wr wn) : RSV w wn z ct sl j xs cs := by
  obtain ⟨a, n, c, l, h1, h2⟩ := h.rd
  exact ⟨h.bel.trans (hb.mono h.bel.size), kept h.res hb, ⟨a, n, c, l, kept h1 hb, h2⟩, kept h.rcd hb, h.row.quiet RW_mono hb⟩
/-- the reader's box has turned -/
theorem RSV.read {w wr : World} {z : Nat} {ct : ByteArray} {sl : Value} {j : Nat} {xs : List WR} {cs : List Value} (h : RSV w wr z ct sl j xs cs) {a2 : Option Addr} {n2 c2 : Nat} {l2 : List UInt8} (hc : BytesC (cfU w.heap.size w) a2 n2 c2 l2) : RSV w (wr.setCell ⟨w.heap.size + 1, 0, none⟩ (.slice a2 n2 c2)) z ct sl j xs cs := by
  obtain ⟨a, n, c, l, h1, h2⟩ := h.rd
  have hk := turned_set wr (w.heap.size + 1) 0 (.slice a2 n2 c2)
  refine ⟨h.bel.setCell (p := ⟨w.heap.size + 1, 0, none⟩) (Nat.le_succ _) _, ?_, ⟨a2, n2, c2, l2, ?_, hc⟩, ?_, rws_keep h.row hk.2 fun g hg => by have := (h.row.low g hg).1; omega⟩
  · rw [Below.heap_setCell _ _ _ _ (by show w.heap.size ≠ w.heap.size + 1; omega)]; exact h.res
  · have := set_self (o := 0) (c := .slice a2 n2 c2) h1
    simpa using this
  · rw [Below.heap_setCell _ _ _ _ (by show w.heap.size + 2 ≠ w.heap.size + 1; omega)]; exact h.rcd
theorem rd_lt {w wr : World} {z : Nat} {ct : ByteArray} {sl : Value} {j : Nat} {xs : List WR} {cs : List Value} (h : RSV w wr z ct sl j xs cs) : w.heap.size + 3 ≤ wr.heap.size := heap_lt h.rcd
/-- number, where Read stands -/
theorem RSV.num {w wr : World} {z : Nat} {ct : ByteArray} {sl : Value} {j : Nat} {xs : List WR} {cs : List Value} (h : RSV w wr z ct sl j xs cs) (n : Nat) (hn : n ≤ 8) (i : Int) (hi : i = (n : Int)) :
    Calls Tryz.prog 13 #[.pointer (some ⟨w.heap.size + 1, 0, none⟩), .int .i64 i] wr fun e w' => ∃ q : Nat, e = .returned (.int .u64 (q : Int)) ∧ q < 256 ^ n ∧ RSV w w' z ct sl j xs cs ∧ Turned (w.heap.size + 1) wr w' := by
  subst hi
  obtain ⟨a, m, c, l, h1, h2⟩ := h.rd
  refine (number21_any w.heap.size w (w.heap.size + 1) n m c a l wr h.bel (Nat.le_succ _) h1 h2 hn).mono ?_
  rintro e w' ⟨q, l2, a2, n2, c2, rfl, hq, hc, rfl⟩
  exact ⟨q, rfl, hq, h.read hc, turned_set _ _ _ _⟩
/-- take, where Read stands -/
theorem RSV.take {w wr : World} {z : Nat} {ct : ByteArray} {sl : Value} {j : Nat} {xs : List WR} {cs : List Value} (h : RSV w wr z ct sl j xs cs) (n : Nat) (hn : n ≤ 65535) :
    Calls Tryz.prog 14 #[.pointer (some ⟨w.heap.size + 1, 0, none⟩), .int .i64 (n : Int)] wr fun e w' => ∃ (s : ByteArray), ∃ a1 n1 c1, e = .returned (.slice a1 n1 c1) ∧ s.size ≤ n ∧ (∀ wn, Below w.heap.size w wn → (convert 29 9 (.slice a1 n1 c1)).run Tryz.prog wn = .ok (.string s) wn) ∧ RSV w w' z ct sl j xs cs ∧ Turned (w.heap.size + 1) wr w' := by
  obtain ⟨a, m, c, l, h1, h2⟩ := h.rd
  refine (take21_any (cfU w.heap.size w) (w.heap.size + 1) n m c a l wr h1 h2 hn).mono ?_
  rintro e w' ⟨a1, c1, a2, n2, c2, rfl, hc1, hc2, rfl⟩
  refine ⟨⟨(l.take n).toArray⟩, _, _, _, rfl, ?_, fun wn hb => run_bytes_str wn _ _ _ _ (hc1.mono (cfU_keep hb)), h.read hc2, turned_set _ _ _ _⟩
  show (l.take n).toArray.size ≤ n
  simp only [List.size_toArray, List.length_take]; omega
/-- the catalog's text is stored -/
theorem RSV.text {w wr : World} {z : Nat} {ct ct2 : ByteArray} {sl : Value} {j : Nat} {xs : List WR} {cs : List Value} (h : RSV w wr z ct sl j xs cs) : RSV w (wr.setCell ⟨w.heap.size + 2, 1, none⟩ (.string ct2)) z ct2 sl j xs cs := by
  obtain ⟨a, n, c, l, h1, h2⟩ := h.rd
  have hk := turned_set wr (w.heap.size + 2) 1 (.string ct2)
  refine ⟨h.bel.setCell (p := ⟨w.heap.size + 2, 1, none⟩) (by show w.heap.size ≤ w.heap.size + 2; omega) _, ?_, ⟨a, n, c, l, ?_, h2⟩, ?_, rws_keep h.row hk.2 fun g hg => by have := (h.row.low g hg).1; omega⟩
  · rw [Below.heap_setCell _ _ _ _ (by show w.heap.size ≠ w.heap.size + 2; omega)]; exact h.res
  · rw [Below.heap_setCell _ _ _ _ (by show w.heap.size + 1 ≠ w.heap.size + 2; omega)]; exact h1
  · have := set_self (o := 1) (c := .string ct2) h.rcd
    simpa using this
/-- another box than these has turned -/
theorem RSV.other {w wr wn : World} {z k : Nat} {ct : ByteArray} {sl : Value} {j : Nat} {xs : List WR} {cs : List Value} (h : RSV w wr z ct sl j xs cs) (ht : Turned k wr wn) (hk : w.heap.size + 3 ≤ k) (hr : ∀ g, sl.ownBlock = some g → g ≠ k) : RSV w wn z ct sl j xs cs := by
  obtain ⟨a, n, c, l, h1, h2⟩ := h.rd
  have hs := rd_lt h
  have hb : ∀ b, b < w.heap.size + 3 → wn.heap[b]? = wr.heap[b]? := fun b hb => ht.2.block b (by omega) (fun e => by have := Option.some.inj e; omega)
  exact ⟨h.bel.grown ht.2 h.bel.size (fun g e => by have := Option.some.inj e; omega), by rw [hb _ (by omega)]; exact h.res, ⟨a, n, c, l, by rw [hb _ (by omega)]; exact h1, h2⟩, by rw [hb _ (by omega)]; exact h.rcd, rws_keep h.row ht.2 hr⟩
/-- a further write -/
theorem RSV.push {w wr wA : World} {z j j2 : Nat} {ct : ByteArray} {sl sl2 : Value} {xs xs2 : List WR} {cs cs2 : List Value} (h : RSV w wr z ct sl j xs cs) (ho : OwnS 4 RW 37 (w.heap.size + 3) wA sl2 j2 xs2 cs2) (hg : Grew wr wA sl sl2) :
    RSV w (wA.setCell ⟨w.heap.size + 2, 2, none⟩ sl2) z ct sl2 j2 xs2 cs2 := by
  obtain ⟨a, n, c, l, h1, h2⟩ := h.rd
  have hb : ∀ b o, wr.heap[b]? = some o → b < w.heap.size + 3 → wA.heap[b]? = some o := fun b o hk hb => hg.kept hk fun g e => by have := (h.row.low g e).1; omega
  have hk := turned_set wA (w.heap.size + 2) 2 sl2
  have hA := h.bel.trans ((h.row.below hg).mono (show w.heap.size ≤ w.heap.size + 3 by omega))
  refine ⟨hA.setCell (p := ⟨w.heap.size + 2, 2, none⟩) (by show w.heap.size ≤ w.heap.size + 2; omega) _, ?_, ⟨a, n, c, l, ?_, h2⟩, ?_, rws_keep ho hk.2 fun g hg => by have := (ho.low g hg).1; omega⟩
  · rw [Below.heap_setCell _ _ _ _ (by show w.heap.size ≠ w.heap.size + 2; omega)]; exact hb _ _ h.res (by omega)
  · rw [Below.heap_setCell _ _ _ _ (by show w.heap.size + 1 ≠ w.heap.size + 2; omega)]; exact hb _ _ h1 (by omega)
  · have := set_self (o := 2) (c := sl2) (hb _ _ h.rcd (by omega))
    simpa using this
/-- how many writes lie in the record's box -/
def writesAt (kb : Nat) (w : World) : Nat := match w.cell? ⟨kb, 2, none⟩ with
  | some (.slice _ n _) => n
  | _ => 0
/-- what Read answers -/
def ReadPostV (bs : List UInt8) (w : World) (e : Ending) (w' : World) : Prop := (∃ (z : Int) (c : ByteArray), ∃ a n q, e = .returned (.tuple #[.agg #[.int .u64 z, .string c, .slice a n q], .int .i64 11]) ∨ (e = .returned (.tuple #[.agg #[.int .u64 z, .string c, .slice a n q], .int .i64 0]) ∧ ∃ r, SizeR r ∧ bs = encR r)) ∧ Below w.heap.size w w'
set_option maxRecDepth 100000 in
set_option maxHeartbeats 32000000 in
theorem Read21_any (a : Option Addr) (len cap : Nat) (bs : List UInt8) (w : World) (hc : BytesC (cf w) a len cap bs) (hlt : ∀ b off, a = some ⟨b, off, none⟩ → b < w.heap.size) (hT : Tabs w) (hP : Pow w.heap.size w) (hE : Errs w.heap.size w) :
    Calls Tryz.prog 7 #[.slice a len cap] w (ReadPostV bs w) := by
  have HC : Hold (BytesC (cfU w.heap.size w) a len cap bs) := ⟨by
    obtain ⟨h1, h2, h3, h4, h5⟩ := hc
    refine ⟨h1, h2, h3, h4, fun b off tl e => ?_⟩
    obtain ⟨rfl, h6⟩ := h5 b off tl e
    exact ⟨rfl, fun i x hx => by unfold cfU; rw [if_pos (hlt b off e)]; exact h6 i x hx⟩⟩
  have HT := Hold.mk hT
  have HP := Hold.mk hP
  have HE := Hold.mk hE
  clear hT hP hE hc hlt
  obtain ⟨W0, hW0, hb0, e0, e1⟩ := twoEM w (.cells zeroRc 25) (.cells #[.slice a len cap] 47)
  have HB0 := Hold.mk hb0
  have HE0 := Hold.mk e0
  have HZ0 : Hold (W0.heap.size = w.heap.size + 2) := ⟨by rw [hW0]; simp⟩
  have HNM := Hold.mk (number21_any w.heap.size w (w.heap.size + 1) 8 len cap a bs W0 hb0 (Nat.le_succ _) e1 HC.out (by decide))
  have HE1 := Hold.mk e1
  clear hb0 e0 e1
  go_enter Tryz.func7, Tryz.ntmps7
  go_upto_region 2 with (fail)
  rw [show (#[Value.int .u64 0, .string ⟨#[]⟩, .slice none 0 0] : Array Value) = zeroRc from rfl, ← hW0]
  clear hW0
  go_wp2_with fail
  refine HNM.out.mono ?_
  rintro e w1 ⟨z, l2, a2, n2, c2, rfl, hz, hc2, hw1⟩
  have hk := turned_set W0 (w.heap.size + 1) 0 (.slice a2 n2 c2)
  rw [← hw1] at hk
  obtain ⟨W2, hW2⟩ : ∃ W2, W2 = w1.alloc (.cells #[.int .u64 (z : Int), .string ⟨#[]⟩, .slice none 0 0] 25) := ⟨_, rfl⟩
  have hz1 : w1.heap.size = w.heap.size + 2 := by rw [hk.1, HZ0.out]
  have HS2 : Hold (RSV w W2 z ⟨#[]⟩ (.slice none 0 0) 0 [] []) := ⟨by
    have hb2 : Below w1.heap.size w1 W2 := by rw [hW2]; exact (Below.refl _ w1).alloc (Nat.le_refl _) _
    have hbw : Below w.heap.size w w1 := by rw [hw1]; exact HB0.out.setCell (p := ⟨w.heap.size + 1, 0, none⟩) (Nat.le_succ _) _
    refine ⟨hbw.trans (hb2.mono hbw.size), kept ?_ hb2, ⟨a2, n2, c2, l2, kept ?_ hb2, hc2⟩, ?_, OwnS.start _ _ _ (by rw [hW2]; simp; omega)⟩
    · rw [hk.2.block _ (by have := HZ0.out; omega) (fun e => by have := Option.some.inj e; omega)]; exact HE0.out
    · rw [hw1]
      have := set_self (o := 0) (c := .slice a2 n2 c2) HE1.out
      simpa using this
    · rw [hW2, ← hz1]; exact heap_alloc_new w1 _⟩
  have HZ : Hold (z < 18446744073709551616) := ⟨hz⟩
  clear hz hc2 hk HNM hw1 HE0 HE1 HB0
  go_upto_region 3 with (fail)
  rw [← hW2]
  clear hW2 hz1 HZ0
  have HN3 := Hold.mk (HS2.out.num 2 (by decide) 2 rfl)
  go_wp2_with fail
  refine HN3.out.mono ?_
  rintro e w3 ⟨q3, rfl, hq3, hs3, _⟩
  have hq3' : (q3 : Int) < 65536 := by have : q3 < 65536 := hq3; omega
  have HS3 := Hold.mk hs3
  have HQ3 : Hold (q3 < 65536) := ⟨hq3⟩
  have HT3 := Hold.mk (hs3.take q3 (by have : q3 < 65536 := hq3; omega))
  clear hq3 hs3 HN3 HS2
  go_wp2_with fail
  refine HT3.out.mono ?_
  rintro e w4 ⟨ct, a1, n1, c1, rfl, hct, hcv, hs4, _⟩
  have hcv4 := hcv w4 hs4.bel
  obtain ⟨y0, y1, y2⟩ := cells_three hs4.rcd
  have f1 := free_box hs4.rcd 1
  have HCT : Hold (ct.size < 65536) := ⟨by have := HQ3.out; omega⟩
  have HS4 := Hold.mk hs4
  clear hct hcv hs4 HT3 HS3 hq3' HQ3
  go_upto_region 4 with (fail)
  clear hcv4 y0 y1 y2 f1
  obtain ⟨W5, hW5⟩ : ∃ W5, W5 = w4.setCell ⟨w.heap.size + 2, 1, none⟩ (.string ct) := ⟨_, rfl⟩
  rw [← hW5]
  have HS5 : Hold (RSV w W5 z ct (.slice none 0 0) 0 [] []) := ⟨by rw [hW5]; exact HS4.out.text⟩
  clear hW5 HS4
  have HN5 := Hold.mk (HS5.out.num 1 (by decide) 1 rfl)
  go_wp2_with fail
  refine HN5.out.mono ?_
  rintro e w6 ⟨nn, rfl, hnn, hs6, _⟩
  have HS6 := Hold.mk hs6
  have HNN : Hold (nn < 256) := ⟨hnn⟩
  clear hnn hs6 HN5 HS5
  go_wp2_with fail
  go_loopw [] (fun wr => ∃ (j : Nat) (sl : Value) (xs : List WR) (cs : List Value), RSV w wr z ct sl j xs cs ∧ j ≤ 13 ∧ (∀ x ∈ xs, 0 ≤ x.sp ∧ x.id.size ≤ 1000000 ∧ x.text.size ≤ 1000000)) (fun wr => 13 - writesAt (w.heap.size + 2) wr)
  case atStart => exact ⟨0, _, _, _, HS6.out, by decide, fun x hx => by simp at hx⟩
  case round =>
    clear HS6
    obtain ⟨j, sl, xs, cs, hs, hj, hxs⟩ := hrel
    obtain ⟨sla, slc, rfl⟩ := hs.row.shape
    have HS := Hold.mk hs
    have HXS := Hold.mk hxs
    obtain ⟨y0, y1, y2⟩ := cells_three hs.rcd
    have HWA : Hold (writesAt (w.heap.size + 2) wr = j) := ⟨by unfold writesAt; rw [y2]⟩
    clear hs hxs
    by_cases hgo : j < nn ∧ j ≤ 12
    · obtain ⟨hg1, hg2⟩ := hgo
      have hg1' : ((j : Int) < (nn : Int)) := by omega
      clear y0 y1
      go_upto_region 6 with (fail)
      clear y2
      have HM1 := Hold.mk (HS.out.num 1 (by decide) 1 rfl)
      go_wp2_with fail
      refine HM1.out.mono ?_
      rintro e wa ⟨q1, rfl, hq1, hsa, _⟩
      have hq1' : (q1 : Int) < 256 := by have : q1 < 256 := hq1; omega
      have HSA := Hold.mk hsa
      have HM2 := Hold.mk (hsa.num 1 (by decide) 1 rfl)
      clear hq1 hsa HM1
      go_wp2_with fail
      refine HM2.out.mono ?_
      rintro e wb ⟨q2, rfl, _, hsb, _⟩
      have HSB := Hold.mk hsb
      obtain ⟨gb, hgb⟩ : ∃ gb, gb = ((q2 : Int) == 1) := ⟨_, rfl⟩
      obtain ⟨W8, hW8⟩ : ∃ W8, W8 = wb.alloc (.cells #[.int .i64 (q1 : Int), .string ⟨#[]⟩, .bool gb, .string ⟨#[]⟩] 37) := ⟨_, rfl⟩
      have hb8 : Below wb.heap.size wb W8 := by rw [hW8]; exact (Below.refl _ wb).alloc (Nat.le_refl _) _
      obtain ⟨yb, hyb⟩ : ∃ yb, yb = wb.heap.size := ⟨_, rfl⟩
      have HY8 : Hold (W8.heap[yb]? = some (.cells #[.int .i64 (q1 : Int), .string ⟨#[]⟩, .bool gb, .string ⟨#[]⟩] 37 (0, 0))) := ⟨by rw [hW8, hyb]; exact heap_alloc_new wb _⟩
      have HS8 := Hold.mk (hsb.quiet hb8)
      have HYB : Hold (w.heap.size + 3 ≤ yb ∧ ∀ g, (Value.slice sla j slc).ownBlock = some g → g ≠ yb) := ⟨⟨by rw [hyb]; exact rd_lt hsb, fun g hg => by have := (hsb.row.low g hg).2; omega⟩⟩
      clear hsb hb8 HM2 HSA HSB HS
      go_upto_region 7 with (fail)
      rw [← hgb, ← hW8, ← hyb]
      clear hgb hW8 hyb
      have HM3 := Hold.mk (HS8.out.num 1 (by decide) 1 rfl)
      go_wp2_with fail
      refine HM3.out.mono ?_
      rintro e wc ⟨q3, rfl, hq3, hsc, htc⟩
      have hq3' : (q3 : Int) < 256 := by have : q3 < 256 := hq3; omega
      have HM4 := Hold.mk (hsc.take q3 (by have : q3 < 256 := hq3; omega))
      have HYC : Hold (wc.heap[yb]? = some (.cells #[.int .i64 (q1 : Int), .string ⟨#[]⟩, .bool gb, .string ⟨#[]⟩] 37 (0, 0))) := ⟨by rw [htc.2.block _ (heap_lt HY8.out) (fun e => by have := Option.some.inj e; have := HYB.out.1; omega)]; exact HY8.out⟩
      clear hq3 hsc htc HM3 HY8 HS8
      go_wp2_with fail
      refine HM4.out.mono ?_
      rintro e wd ⟨id, a1, n1, c1, rfl, hid, hcv, hsd, htd⟩
      have hcvd := hcv wd hsd.bel
      have HYD : Hold (wd.heap[yb]? = some (.cells #[.int .i64 (q1 : Int), .string ⟨#[]⟩, .bool gb, .string ⟨#[]⟩] 37 (0, 0))) := ⟨by rw [htd.2.block _ (heap_lt HYC.out) (fun e => by have := Option.some.inj e; have := HYB.out.1; omega)]; exact HYC.out⟩
      have HID : Hold (id.size ≤ 256) := ⟨by have : (q3 : Int) < 256 := hq3'; omega⟩
      obtain ⟨z0, z1, z2, z3⟩ := cells4W HYD.out
      have f1 := free_box HYD.out 1
      have HSD := Hold.mk hsd
      clear hid hcv hsd htd HM4 HYC hq3'
      go_upto_region 8 with (fail)
      clear hcvd z0 z1 z2 z3 f1
      obtain ⟨We, hWe⟩ : ∃ We, We = wd.setCell ⟨yb, 1, none⟩ (.string id) := ⟨_, rfl⟩
      rw [← hWe]
      have HSE : Hold (RSV w We z ct (.slice sla j slc) j xs cs) := ⟨by rw [hWe]; exact HSD.out.other (turned_set _ _ _ _) HYB.out.1 HYB.out.2⟩
      have HYE : Hold (We.heap[yb]? = some (.cells #[.int .i64 (q1 : Int), .string id, .bool gb, .string ⟨#[]⟩] 37 (0, 0))) := ⟨by
        rw [hWe]
        have := set_self (o := 1) (c := .string id) HYD.out
        simpa using this⟩
      clear hWe HSD HYD
      have HM5 := Hold.mk (HSE.out.num 2 (by decide) 2 rfl)
      go_wp2_with fail
      refine HM5.out.mono ?_
      rintro e wf ⟨q5, rfl, hq5, hsf, htf⟩
      have hq5' : (q5 : Int) < 65536 := by have : q5 < 65536 := hq5; omega
      have HM6 := Hold.mk (hsf.take q5 (by have : q5 < 65536 := hq5; omega))
      have HYF : Hold (wf.heap[yb]? = some (.cells #[.int .i64 (q1 : Int), .string id, .bool gb, .string ⟨#[]⟩] 37 (0, 0))) := ⟨by rw [htf.2.block _ (heap_lt HYE.out) (fun e => by have := Option.some.inj e; have := HYB.out.1; omega)]; exact HYE.out⟩
      clear hq5 hsf htf HM5 HYE HSE
      go_wp2_with fail
      refine HM6.out.mono ?_
      rintro e wg ⟨tx, a2, n2, c2, rfl, htx, hcv, hsg, htg⟩
      have hcvg := hcv wg hsg.bel
      have HYG : Hold (wg.heap[yb]? = some (.cells #[.int .i64 (q1 : Int), .string id, .bool gb, .string ⟨#[]⟩] 37 (0, 0))) := ⟨by rw [htg.2.block _ (heap_lt HYF.out) (fun e => by have := Option.some.inj e; have := HYB.out.1; omega)]; exact HYF.out⟩
      have HTX : Hold (tx.size ≤ 65536) := ⟨by have : (q5 : Int) < 65536 := hq5'; omega⟩
      obtain ⟨z0, z1, z2, z3⟩ := cells4W HYG.out
      have f1 := free_box HYG.out 3
      have HSG := Hold.mk hsg
      clear htx hcv hsg htg HM6 HYF hq5'
      go_upto_region 9 with (fail)
      clear hcvg z0 z1 z2 z3 f1
      obtain ⟨Wh, hWh⟩ : ∃ Wh, Wh = wg.setCell ⟨yb, 3, none⟩ (.string tx) := ⟨_, rfl⟩
      rw [← hWh]
      have HSH : Hold (RSV w Wh z ct (.slice sla j slc) j xs cs) := ⟨by rw [hWh]; exact HSG.out.other (turned_set _ _ _ _) HYB.out.1 HYB.out.2⟩
      have HYH : Hold (Wh.heap[yb]? = some (.cells #[.int .i64 (q1 : Int), .string id, .bool gb, .string tx] 37 (0, 0))) := ⟨by
        rw [hWh]
        have := set_self (o := 3) (c := .string tx) HYG.out
        simpa using this⟩
      clear hWh HSG HYG
      obtain ⟨z0, z1, z2, z3⟩ := cells4W HYH.out
      obtain ⟨y0, y1, y2⟩ := cells_three HSH.out.rcd
      have HRI : Hold (RW (cfN (.slice sla j slc) Wh) ⟨(q1 : Int), id, gb, tx⟩ [.int .i64 (q1 : Int), .string id, .bool gb, .string tx]) := ⟨⟨rfl, by have := HID.out; simp only; omega, by have := HTX.out; simp only; omega, by
        have : (q1 : Int) < 256 := hq1'
        have e1 : IntKind.i64.min ≤ 0 := by decide
        have e2 : (256 : Int) ≤ IntKind.i64.max := by decide
        simp [Lit.wf]
        omega⟩⟩
      go_wp2_with (at_builtin; refine push_new RW_mono rfl _ _ rfl infoWV Tryz.underlying23 rfl (by decide) _ _ _ j _ _ HSH.out.row rfl _ [_, _, _, _] rfl rfl (by simp [Value.oneCell']) ⟨(q1 : Int), id, gb, tx⟩ HRI.out _ rfl rfl (by omega) (by decide) ?_)
      intro sl2 wi ho hg
      obtain ⟨s2a, s2c, rfl⟩ := ho.shape
      have HN := Hold.mk (HSH.out.push ho hg)
      have HKI : Hold (wi.heap[w.heap.size + 2]? = some (.cells #[.int .u64 (z : Int), .string ct, .slice sla j slc] 25 (0, 0))) := ⟨hg.kept HSH.out.rcd fun g e => by have := (HSH.out.row.low g e).1; omega⟩
      clear z0 z1 z2 z3 y0 y1 y2 ho hg
      obtain ⟨y0, y1, y2⟩ := cells_three HKI.out
      have f2 := free_box HKI.out 2
      have HWN : Hold (writesAt (w.heap.size + 2) (wi.setCell ⟨w.heap.size + 2, 2, none⟩ (.slice s2a (j + 1) s2c)) = j + 1) := ⟨by
        unfold writesAt
        rw [(cells_three HN.out.rcd).2.2]⟩
      have HXN : Hold (∀ x ∈ xs ++ [⟨(q1 : Int), id, gb, tx⟩], 0 ≤ x.sp ∧ x.id.size ≤ 1000000 ∧ x.text.size ≤ 1000000) := ⟨fun x hx => by
        rcases List.mem_append.1 hx with hx | hx
        · exact HXS.out x hx
        · rw [List.mem_singleton.1 hx]
          exact ⟨by simp only; omega, by have := HID.out; simp only; omega, by have := HTX.out; simp only; omega⟩⟩
      go_wp2_with fail
      exact ⟨⟨j + 1, _, _, _, HN.out, by omega, HXN.out⟩, by rw [HWN.out, HWA.out]; omega⟩
    · obtain rfl : j = xs.length := HS.out.row.len.symm
      have HSM : Hold (SmallR ⟨z, ct, xs⟩) := ⟨⟨by have := HCT.out; simp only; omega, by simp only; omega, fun x hx => (HXS.out x hx).2⟩⟩
      have HWR := Hold.mk (Write21_any ⟨z, ct, xs⟩ (.agg #[.int .u64 (z : Int), .string ct, .slice sla xs.length slc]) wr ⟨_, rfl, HS.out.row.at_ RW_mono⟩ HSM.out (HT.out.below HS.out.bel) (Pow.below HP.out HS.out.bel) (errs_after HE.out HS.out.bel))
      have hcase : (¬ ((xs.length : Int) < (nn : Int))) ∨ (((xs.length : Int) < (nn : Int)) ∧ ¬ ((xs.length : Int) ≤ 12)) := by omega
      have hjb : (xs.length : Int) ≤ 13 := by omega
      clear hgo hj
      rcases hcase with hg1' | ⟨hg1', hg2'⟩
      all_goals
        go_upto_region 10 with (fail)
        clear hg1'
        try clear hg2'
        clear hjb
        go_wp2_with fail
        refine HWR.out.mono ?_
        rintro e wk ⟨hpo, hbk⟩
        have HSK := Hold.mk (HS.out.quiet hbk)
        have HBK := Hold.mk hbk
        clear hbk HWR y0 y1 y2
        obtain ⟨r0, r1, r2⟩ := cells_three HSK.out.res
        obtain ⟨y0, y1, y2⟩ := cells_three HSK.out.rcd
        have f0 := free_box HSK.out.res 0
        have f1 := free_box HSK.out.res 1
        have f2 := free_box HSK.out.res 2
        have HRET : Hold (∀ wn, Below w.heap.size w wn → ReadPostV bs w (.returned (.tuple #[.agg #[.int .u64 0, .string ⟨#[]⟩, .slice none 0 0], .int .i64 11])) wn) := ⟨fun wn hb => ⟨⟨_, _, _, _, _, .inl rfl⟩, hb⟩⟩
        cases hf : formedR ⟨z, ct, xs⟩ with
        | false =>
          rw [if_neg (by rw [hf]; decide)] at hpo
          subst hpo
          clear hf
          go_wp2_with fail
          obtain ⟨W8, hW8⟩ : ∃ W8, W8 = (((wk.setCell ⟨w.heap.size, 0, none⟩ (.int .u64 0)).setCell ⟨w.heap.size, 1, none⟩ (.string ⟨#[]⟩)).setCell ⟨w.heap.size, 2, none⟩ (.slice none 0 0)) := ⟨_, rfl⟩
          rw [← hW8]
          have hk8 : W8.heap[w.heap.size]? = some (.cells #[.int .u64 0, .string ⟨#[]⟩, .slice none 0 0] 25 (0, 0)) := by rw [hW8]; exact set3V_self HSK.out.res
          have hb8 : Below w.heap.size w W8 := by rw [hW8]; exact set3V_below HSK.out.bel (Nat.le_refl _)
          obtain ⟨v0, v1, v2⟩ := cells_three hk8
          refine bodyPost_ret (v := .tuple #[.agg #[.int .u64 0, .string ⟨#[]⟩, .slice none 0 0], .int .i64 11]) (by simp [results, Tryz.results7, go_sem, v0, v1, v2]) rfl ?_
          exact HRET.out W8 hb8
        | true =>
          rw [if_pos hf] at hpo
          obtain ⟨sv, rfl, hbr⟩ := hpo
          obtain ⟨sa, sc, rfl, hsb⟩ := hbr.bytesC
          have HSZ := Hold.mk (formedR_size hf HCT.out)
          have HEQ := Hold.mk (bEqual_any a sa len cap _ sc bs _ wk (HC.out.mono (cfU_keep HSK.out.bel)) (hsb.mono (cfA_le _ _)))
          clear hf hbr hsb
          by_cases hbs : bs = encR ⟨z, ct, xs⟩
          · rw [decide_eq_true hbs] at HEQ
            have HBS := Hold.mk hbs
            clear hbs
            go_wp2_with fail
            refine HEQ.out.mono ?_
            rintro e wl ⟨rfl, hwl⟩
            subst hwl
            clear HEQ
            go_wp2_with fail
            obtain ⟨W8, hW8⟩ : ∃ W8, W8 = (((wl.setCell ⟨w.heap.size, 0, none⟩ (.int .u64 (z : Int))).setCell ⟨w.heap.size, 1, none⟩ (.string ct)).setCell ⟨w.heap.size, 2, none⟩ (.slice sla xs.length slc)) := ⟨_, rfl⟩
            rw [← hW8]
            have hk8 : W8.heap[w.heap.size]? = some (.cells #[.int .u64 (z : Int), .string ct, .slice sla xs.length slc] 25 (0, 0)) := by rw [hW8]; exact set3V_self HSK.out.res
            have hb8 : Below w.heap.size w W8 := by rw [hW8]; exact set3V_below HSK.out.bel (Nat.le_refl _)
            obtain ⟨v0, v1, v2⟩ := cells_three hk8
            refine bodyPost_ret (v := .tuple #[.agg #[.int .u64 (z : Int), .string ct, .slice sla xs.length slc], .int .i64 0]) (by simp [results, Tryz.results7, go_sem, v0, v1, v2]) rfl ?_
            exact ⟨⟨_, _, _, _, _, .inr ⟨rfl, _, HSZ.out, HBS.out⟩⟩, hb8⟩
          · rw [decide_eq_false hbs] at HEQ
            clear hbs
            go_wp2_with fail
            refine HEQ.out.mono ?_
            rintro e wl ⟨rfl, hwl⟩
            subst hwl
            clear HEQ
            go_wp2_with fail
            obtain ⟨W8, hW8⟩ : ∃ W8, W8 = (((wl.setCell ⟨w.heap.size, 0, none⟩ (.int .u64 0)).setCell ⟨w.heap.size, 1, none⟩ (.string ⟨#[]⟩)).setCell ⟨w.heap.size, 2, none⟩ (.slice none 0 0)) := ⟨_, rfl⟩
            rw [← hW8]
            have hk8 : W8.heap[w.heap.size]? = some (.cells #[.int .u64 0, .string ⟨#[]⟩, .slice none 0 0] 25 (0, 0)) := by rw [hW8]; exact set3V_self HSK.out.res
            have hb8 : Below w.heap.size w W8 := by rw [hW8]; exact set3V_below HSK.out.bel (Nat.le_refl _)
            obtain ⟨v0, v1, v2⟩ := cells_three hk8
            refine bodyPost_ret (v := .tuple #[.agg #[.int .u64 0, .string ⟨#[]⟩, .slice none 0 0], .int .i64 11]) (by simp [results, Tryz.results7, go_sem, v0, v1, v2]) rfl ?_
            exact HRET.out W8 hb8
end Go.Proofs.YticlnijkfclgcaaGreatDoor
