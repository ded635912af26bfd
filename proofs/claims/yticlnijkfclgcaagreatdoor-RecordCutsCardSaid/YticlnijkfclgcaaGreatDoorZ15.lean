/- Members of a list, as the reader's rows hold them. -/
import Derived.Test.YticlnijkfclgcaaGreatDoorZ04
import Derived.Test.YticlnijkfclgcaaGreatDoorZ14
namespace Go.Proofs.YticlnijkfclgcaaGreatDoor
open Go.Shelf Go.RowKit

/-- the cells from a block on, outside two rows -/
def cfX (B : Nat) (o1 o2 : Option Nat) (w : World) : CF := fun q o => if B ≤ q ∧ some q ≠ o1 ∧ some q ≠ o2 then w.cell? ⟨q, o, none⟩ else none
theorem cfX_cf {B C : Nat} {o1 o2 : Option Nat} (w : World) (h : C ≤ B) : CLe (cfX B o1 o2 w) (cfF C w) := fun q o v hv => by
  unfold cfX at hv; unfold cfF; split at hv
  · rename_i hq
    rw [if_pos (by omega)]; exact hv
  · cases hv
/-- all stands but a block that the row of values is in, which may be a new one -/
theorem cfX_grown {B : Nat} {o1 o2 p1 p2 : Option Nat} {w w' : World} {g : Option Nat} (h : w.grownBy w' g) (hg : g = o1 ∨ g = o2 ∨ ∀ q, g = some q → q < B) (h1 : ∀ q, p1 = some q → o1 = some q ∨ w.heap.size ≤ q) (h2 : ∀ q, p2 = some q → o2 = some q ∨ w.heap.size ≤ q) : CLe (cfX B o1 o2 w) (cfX B p1 p2 w') := fun q o v hv => by
  unfold cfX at *; split at hv
  · rename_i hq
    have hlt := lt_of_cell hv
    rw [if_pos ⟨hq.1, fun e => by
      rcases h1 q e.symm with h | h
      · exact hq.2.1 h.symm
      · omega, fun e => by
      rcases h2 q e.symm with h | h
      · exact hq.2.2 h.symm
      · omega⟩]
    exact h.cell hv (fun e => by
      rcases hg with rfl | rfl | hg
      · exact hq.2.1 e
      · exact hq.2.2 e
      · have := hg q e.symm; omega)
  · cases hv
/-- what is made behind a world lies outside the rows -/
theorem cfX_new {B : Nat} {o1 o2 : Option Nat} {w w' : World} (hB : B ≤ w.heap.size) (h1 : ∀ q, o1 = some q → q < w.heap.size) (h2 : ∀ q, o2 = some q → q < w.heap.size) : CLe (cfF w.heap.size w') (cfX B o1 o2 w') := fun q o v hv => by
  unfold cfF at hv; unfold cfX; split at hv
  · rename_i hq
    rw [if_pos ⟨by omega, fun e => by have := h1 q e.symm; omega, fun e => by have := h2 q e.symm; omega⟩]; exact hv
  · cases hv
/-- values and the cells that they lie in -/
abbrev PVl := List (JV × List Value)
def PVs (c : CF) (ps : PVl) : Prop := ∀ p ∈ ps, p.2.length = 5 ∧ (∀ u ∈ p.2, u.oneCell' = true) ∧ JAt c p.1 (.agg p.2.toArray)
def itsOf (ps : PVl) : List JV := ps.map (·.1)
def rowOf (ps : PVl) : List Value := ps.flatMap (·.2)
theorem PVs.mono {c d : CF} {ps : PVl} (h : PVs c ps) (hl : CLe c d) : PVs d ps := fun p hp => ⟨(h p hp).1, (h p hp).2.1, (h p hp).2.2.mono hl⟩
theorem insA_mem {α : Type} {k : Nat} {x y : α} {l : List α} (h : y ∈ insA k x l) : y = x ∨ y ∈ l := by
  unfold insA at h
  rcases List.mem_append.1 h with h | h
  · exact .inr (List.mem_of_mem_take h)
  · rcases List.mem_cons.1 h with h | h
    · exact .inl h
    · exact .inr (List.mem_of_mem_drop h)
theorem PVs.ins {c : CF} {ps : PVl} (h : PVs c ps) {p : JV × List Value} (hp : p.2.length = 5 ∧ (∀ u ∈ p.2, u.oneCell' = true) ∧ JAt c p.1 (.agg p.2.toArray)) (k : Nat) : PVs c (insA k p ps) := fun q hq => by
  rcases insA_mem hq with rfl | hq
  · exact hp
  · exact h q hq
theorem PVs.add {c : CF} {ps : PVl} (h : PVs c ps) {p : JV × List Value} (hp : p.2.length = 5 ∧ (∀ u ∈ p.2, u.oneCell' = true) ∧ JAt c p.1 (.agg p.2.toArray)) : PVs c (ps ++ [p]) := fun q hq => by
  rcases List.mem_append.1 hq with hq | hq
  · exact h q hq
  · obtain rfl := List.mem_singleton.1 hq
    exact hp
theorem its_ins (k : Nat) (p : JV × List Value) (ps : PVl) : itsOf (insA k p ps) = insA k p.1 (itsOf ps) := by
  unfold itsOf insA
  rw [List.map_append, List.map_cons, List.map_take, List.map_drop]
theorem row_len {ps : PVl} : ∀ {c : CF}, PVs c ps → (rowOf ps).length = ps.length * 5 := by
  induction ps with
  | nil => intro c _; rfl
  | cons p ps ih =>
    intro c h
    have h1 := (h p (List.mem_cons_self ..)).1
    have h2 := ih (fun q hq => h q (List.mem_cons_of_mem _ hq))
    unfold rowOf at *
    rw [List.flatMap_cons, List.length_append, h1, h2, List.length_cons]; omega
theorem row_one {ps : PVl} {c : CF} (h : PVs c ps) : ∀ u ∈ rowOf ps, u.oneCell' = true := fun u hu => by
  obtain ⟨p, hp, hu⟩ := List.mem_flatMap.1 hu
  exact (h p hp).2.1 u hu
theorem row_app (a b : PVl) : rowOf (a ++ b) = rowOf a ++ rowOf b := List.flatMap_append
theorem PVs.take {c : CF} {ps : PVl} (h : PVs c ps) (k : Nat) : PVs c (ps.take k) := fun q hq => h q (List.mem_of_mem_take hq)
theorem row_cut {ps : PVl} {c : CF} (h : PVs c ps) {k : Nat} (hk : k ≤ ps.length) : (rowOf ps).take (k * 5) = rowOf (ps.take k) ∧ (rowOf ps).drop (k * 5) = rowOf (ps.drop k) := by
  have h1 := row_len (h.take k)
  rw [List.length_take, Nat.min_eq_left hk] at h1
  have h2 : rowOf ps = rowOf (ps.take k) ++ rowOf (ps.drop k) := by rw [← row_app, List.take_append_drop]
  constructor
  · rw [h2, List.take_append_of_le_length (by omega), List.take_of_length_le (by omega)]
  · rw [h2, List.drop_append_of_le_length (by omega), List.drop_eq_nil_iff.2 (by omega), List.nil_append]
theorem row_ins {ps : PVl} {c : CF} (h : PVs c ps) {k : Nat} (hk : k ≤ ps.length) (p : JV × List Value) : (rowOf ps).take (k * 5) ++ p.2 ++ (rowOf ps).drop (k * 5) = rowOf (insA k p ps) := by
  rw [(row_cut h hk).1, (row_cut h hk).2]
  unfold insA
  rw [row_app]
  show _ = _ ++ rowOf ([p] ++ ps.drop k)
  rw [row_app, List.append_assoc]
  simp [rowOf]
theorem row_at {ps : PVl} : ∀ {c : CF}, PVs c ps → ∀ (i : Nat) (p : JV × List Value), ps[i]? = some p → ∀ t, t < 5 → (rowOf ps)[i * 5 + t]? = p.2[t]? := by
  induction ps with
  | nil => intro c _ i p h; simp at h
  | cons q ps ih =>
    intro c h i p hi t ht
    have h1 := (h q (List.mem_cons_self ..)).1
    unfold rowOf at *
    rw [List.flatMap_cons]
    cases i with
    | zero =>
      obtain rfl : q = p := by simpa using hi
      rw [List.getElem?_append_left (by omega)]; simp
    | succ i =>
      rw [List.getElem?_append_right (by omega), show (i + 1) * 5 + t - q.2.length = i * 5 + t by omega]
      exact ih (fun q hq => h q (List.mem_cons_of_mem _ hq)) i p (by simpa using hi) t ht
/-- the list under way: its box, the rows, what they hold -/
structure LV (B : Nat) (k : Int) (nv iv : Value) (nm : List ByteArray) (ps : PVl) (q : Bool) (w : World) : Prop where
  box : w.heap[B]? = some (.cells #[.int .i64 k, .int .i64 0, .string ⟨#[]⟩, nv, iv] 58 (0, 0))
  res : w.heap[B + 1]? = some (.cells zero5R 58 (0, 0))
  names : w.ownsRow (B + 2) 9 1 nv nm.length (nm.map .string)
  items : w.ownsRow (B + 2) 58 5 iv ps.length (rowOf ps)
  vals : q = true → PVs (cfX (B + 2) nv.ownBlock iv.ownBlock w) ps
  apart : ∀ g, nv.ownBlock = some g → iv.ownBlock ≠ some g
  small : ∀ x ∈ nm, x.size ≤ 4000000
theorem own_lt {w : World} {B : Nat} {T : TypeId} {n : Nat} {v : Value} {p : Nat} {cs : List Value} (h : w.ownsRow B T n v p cs) {g : Nat} (hg : v.ownBlock = some g) : B ≤ g ∧ g < w.heap.size := by
  rcases h.2 with ⟨rfl, _⟩ | ⟨q, cap, cur, rfl, hB, hq, _⟩
  · cases hg
  · obtain rfl : q = g := by simpa [Value.ownBlock] using hg
    exact ⟨hB, ltR hq⟩
theorem own_keep {w w' : World} {B : Nat} {T : TypeId} {n : Nat} {v : Value} {p : Nat} {cs : List Value} (h : w.ownsRow B T n v p cs) {g : Option Nat} (hg : w.grownBy w' g) (hne : ∀ q, v.ownBlock = some q → g ≠ some q) : w'.ownsRow B T n v p cs := by
  obtain ⟨h1, h2⟩ := h
  refine ⟨h1, ?_⟩
  rcases h2 with h2 | ⟨q, cap, cur, rfl, hB, hq, h3⟩
  · exact .inl h2
  · exact .inr ⟨q, cap, cur, rfl, hB, by rw [hg.block q (ltR hq) (fun e => hne q rfl e.symm)]; exact hq, h3⟩
/-- what writes one block below the list's own keeps it -/
theorem LV.but {B : Nat} {k : Int} {nv iv : Value} {nm : List ByteArray} {ps : PVl} {q : Bool} {w w' : World} (h : LV B k nv iv nm ps q w) {b : Nat} (hb : But b w w') (hbB : b < B) : LV B k nv iv nm ps q w' where
  box := But.keep hb h.box (by omega)
  res := But.keep hb h.res (by omega)
  names := own_keep h.names hb (fun q hq e => by have := (own_lt h.names hq).1; have := Option.some.inj e; omega)
  items := own_keep h.items hb (fun q hq e => by have := (own_lt h.items hq).1; have := Option.some.inj e; omega)
  vals := fun hq => (h.vals hq).mono (cfX_grown hb (.inr (.inr fun q e => by have := Option.some.inj e; omega)) (fun _ h => .inl h) (fun _ h => .inl h))
  apart := h.apart
  small := h.small
/-- the row of names grew, and the box holds it -/
theorem LV.name {B : Nat} {k : Int} {nv iv nv' : Value} {nm nm' : List ByteArray} {ps : PVl} {q : Bool} {w w' : World} (h : LV B k nv iv nm ps q w) (hg : w.grownBy w' nv.ownBlock) (ho : w'.ownsRow (B + 2) 9 1 nv' nm'.length (nm'.map .string)) (hn : ∀ g, nv'.ownBlock = some g → nv.ownBlock = some g ∨ w.heap.size ≤ g) (hs : ∀ x ∈ nm', x.size ≤ 4000000) :
    LV B k nv' iv nm' ps q (w'.setCell ⟨B, 3, none⟩ nv') := by
  have hBn : ∀ q, nv.ownBlock = some q → B + 2 ≤ q ∧ q < w.heap.size := fun q hq => own_lt h.names hq
  have hBi : ∀ q, iv.ownBlock = some q → B + 2 ≤ q ∧ q < w.heap.size := fun q hq => own_lt h.items hq
  have k1 : ∀ {q o}, w.heap[q]? = some o → q < B + 2 → w'.heap[q]? = some o := fun {q o} hq hl => by
    rw [hg.block q (ltR hq) (fun e => by have := (hBn q e.symm).1; omega)]; exact hq
  have hset := But.set (b := B) w' 3 nv'
  have hap : ∀ g, nv'.ownBlock = some g → iv.ownBlock ≠ some g := fun g hg hi => by
    rcases hn g hg with h1 | h1
    · exact h.apart g h1 hi
    · have := (hBi g hi).2; omega
  refine ⟨?_, ?_, own_keep ho hset (fun q hq e => by have := (own_lt ho hq).1; have := Option.some.inj e; omega), own_keep (own_keep h.items hg (fun q hq e => h.apart q e hq)) hset (fun q hq e => by have := (hBi q hq).1; have := Option.some.inj e; omega), ?_, hap, hs⟩
  · rw [set_at (k1 h.box (by omega))]; rfl
  · exact But.keep hset (k1 h.res (by omega)) (by omega)
  · refine fun hq => ((h.vals hq).mono (cfX_grown hg (.inl rfl) hn (fun _ h => .inl h))).mono ?_
    exact cfX_grown hset (.inr (.inr fun q e => by have := Option.some.inj e; omega)) (fun _ h => .inl h) (fun _ h => .inl h)
/-- the row of values grew, and the box holds it -/
theorem LV.item {B : Nat} {k : Int} {nv iv iv' : Value} {nm : List ByteArray} {ps ps' : PVl} {q : Bool} {w w' : World} (h : LV B k nv iv nm ps q w) (hg : w.grownBy w' iv.ownBlock) (ho : w'.ownsRow (B + 2) 58 5 iv' ps'.length (rowOf ps')) (hn : ∀ g, iv'.ownBlock = some g → iv.ownBlock = some g ∨ w.heap.size ≤ g) (q' : Bool) (hs : q' = true → PVs (cfX (B + 2) nv.ownBlock iv.ownBlock w) ps') :
    LV B k nv iv' nm ps' q' (w'.setCell ⟨B, 4, none⟩ iv') := by
  have hBn : ∀ q, nv.ownBlock = some q → B + 2 ≤ q ∧ q < w.heap.size := fun q hq => own_lt h.names hq
  have hBi : ∀ q, iv.ownBlock = some q → B + 2 ≤ q ∧ q < w.heap.size := fun q hq => own_lt h.items hq
  have k1 : ∀ {q o}, w.heap[q]? = some o → q < B + 2 → w'.heap[q]? = some o := fun {q o} hq hl => by
    rw [hg.block q (ltR hq) (fun e => by have := (hBi q e.symm).1; omega)]; exact hq
  have hset := But.set (b := B) w' 4 iv'
  have hap : ∀ g, nv.ownBlock = some g → iv'.ownBlock ≠ some g := fun g hg hi => by
    rcases hn g hi with h1 | h1
    · exact h.apart g hg h1
    · have := (hBn g hg).2; omega
  refine ⟨?_, ?_, own_keep (own_keep h.names hg (fun q hq e => h.apart q hq e)) hset (fun q hq e => by have := (hBn q hq).1; have := Option.some.inj e; omega), own_keep ho hset (fun q hq e => by have := (own_lt ho hq).1; have := Option.some.inj e; omega), ?_, hap, h.small⟩
  · rw [set_at (k1 h.box (by omega))]; rfl
  · exact But.keep hset (k1 h.res (by omega)) (by omega)
  · refine fun hq => ((hs hq).mono (cfX_grown hg (.inr (.inl rfl)) (fun _ h => .inl h) hn)).mono ?_
    exact cfX_grown hset (.inr (.inr fun q e => by have := Option.some.inj e; omega)) (fun _ h => .inl h) (fun _ h => .inl h)
/-- the whole -/
theorem row_cell {w : World} {B : Nat} {T : TypeId} {n p : Nat} {v : Value} {cs : List Value} (h : w.ownsRow B T n v p cs) : ∃ a cap, v = .slice a p cap ∧ p ≤ 9223372036854775807 ∧ ∀ t u, cs[t]? = some u → ∃ g, a = some ⟨g, 0, none⟩ ∧ B ≤ g ∧ w.cell? ⟨g, t, none⟩ = some u := by
  obtain ⟨h1, h2⟩ := h
  rcases h2 with ⟨rfl, rfl⟩ | ⟨g, cap, cur, rfl, hB, hg, h3, h4, h5, h6⟩
  · refine ⟨none, 0, rfl, by omega, fun t u ht => ?_⟩
    have := (List.getElem?_eq_some_iff.1 ht).1
    omega
  · refine ⟨_, cap, rfl, by unfold maxLen at h4; omega, fun t u ht => ⟨g, rfl, hB, ?_⟩⟩
    rw [← h6, List.getElem?_take] at ht
    split at ht
    · simp only [World.cell?, hg]; simpa using ht
    · cases ht
theorem LV.done {B : Nat} {k : Int} {nv iv : Value} {nm : List ByteArray} {ps : PVl} {w : World} (h : LV B k nv iv nm ps true w) (hk : (Lit.int .i64 k).wf = true) : JAt (cfF (B + 2) w) (.mk k 0 ⟨#[]⟩ nm (itsOf ps)) (.agg #[.int .i64 k, .int .i64 0, .string ⟨#[]⟩, nv, iv]) := by
  have hv := (h.vals rfl).mono (cfX_cf w (Nat.le_refl _))
  obtain ⟨a, cap, rfl, hn, hc⟩ := row_cell h.names
  obtain ⟨ia, icap, rfl, hin, hic⟩ := row_cell h.items
  have hl : (itsOf ps).length = ps.length := by unfold itsOf; rw [List.length_map]
  have key : ∀ (i : Nat) v, (itsOf ps)[i]? = some v → ∃ p, ps[i]? = some p ∧ p.1 = v := fun i v hi => by
    unfold itsOf at hi
    rw [List.getElem?_map] at hi
    cases e : ps[i]? with
    | none => rw [e] at hi; cases hi
    | some p => rw [e] at hi; exact ⟨p, rfl, Option.some.inj hi⟩
  have key2 : ∀ (i : Nat) p, ps[i]? = some p → ((ps[i]?).map fun p => Value.agg p.2.toArray).getD (.bool true) = .agg p.2.toArray := fun i p e => by rw [e]; rfl
  rw [← hl]
  refine .mk k 0 ⟨#[]⟩ nm (itsOf ps) _ ia icap (fun i => ((ps[i]?).map fun p => Value.agg p.2.toArray).getD (.bool true)) hk (by kernel_rfl) (by decide) ⟨a, cap, rfl, hn, fun i s hi => ?_⟩ (by omega) (fun i v hi => ?_) (fun i v hi => ?_)
  · obtain ⟨g, rfl, hB, hcell⟩ := hc i (.string s) (by rw [List.getElem?_map, hi]; rfl)
    refine ⟨by have := h.small s (List.mem_of_getElem? hi); omega, g, 0, rfl, ?_⟩
    unfold cfF
    rw [if_pos hB, Nat.zero_add]; exact hcell
  · obtain ⟨p, hp, rfl⟩ := key i v hi
    have h5 := (hv p (List.mem_of_getElem? hp)).1
    simp only [key2 i p hp]
    obtain ⟨pv, pl⟩ := p
    match pl, h5 with
    | [c0, c1, c2, c3, c4], _ =>
      have hr := row_at (h.vals rfl) i _ hp
      obtain ⟨g, rfl, hB, k0⟩ := hic (i * 5 + 0) c0 (hr 0 (by omega))
      have kk : ∀ t u, (rowOf ps)[i * 5 + t]? = some u → cfF (B + 2) w g (0 + i * 5 + t) = some u := fun t u ht => by
        obtain ⟨g2, e, _, kt⟩ := hic (i * 5 + t) u ht
        obtain rfl : g = g2 := by simpa using e
        unfold cfF
        rw [if_pos hB, Nat.zero_add]; exact kt
      exact ⟨g, 0, rfl, c0, c1, c2, c3, c4, rfl, kk 0 c0 (hr 0 (by omega)), kk 1 c1 (hr 1 (by omega)), kk 2 c2 (hr 2 (by omega)), kk 3 c3 (hr 3 (by omega)), kk 4 c4 (hr 4 (by omega))⟩
  · obtain ⟨p, hp, rfl⟩ := key i v hi
    simp only [key2 i p hp]
    exact (hv p (List.mem_of_getElem? hp)).2.2
end Go.Proofs.YticlnijkfclgcaaGreatDoor
