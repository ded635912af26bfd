/- Entries: what Key hands back, plainly; two rows that grow side by side. -/
import Derived.Test.YtfllnlmanopfaaaDoorKE
import Derived.Test.YtfllnlmanopfaaaDoorKI
import Derived.Test.YtfllnlmanopfaaaDoorEG
namespace Go.Proofs.YtfllnlmanopfaaaDoor
open Go.RowKit

theorem infoBool : (Tryd.prog.info? 4).map (fun i => (i.zero, i.size, i.bytes)) = some (some (.bool false), 1, 1) := by kernel_rfl

abbrev nilJ : JV := .mk 0 0 ⟨#[]⟩ [] []
/-- a field's value -/
def valK (v : JV) (f : Fd) : JV := (getF v f.1).getD nilJ
def hasK (v : JV) (f : Fd) : Bool := (getF v f.1).isSome
/-- an entry's bytes -/
def entB (x : IX) (v : JV) : List UInt8 := compF (x.fields.map (valK v)) (x.fields.map (·.2))
def askK (x : IX) (v : JV) : Bool := formI x && (decide (v.kind = 6) && formedF 6 v)
/-- what Key answers: the bytes, whether there is an entry, the error -/
def keyB3 (x : IX) (v : JV) : List UInt8 := if askK x v = true ∧ x.fields.all (hasK v) = true ∧ (entB x v).length ≤ 90 then entB x v else []
def keyE (x : IX) (v : JV) : Int := if askK x v = true then (if x.fields.all (hasK v) = true then (if (entB x v).length ≤ 90 then 0 else 3) else 0) else 2
def keyO (x : IX) (v : JV) : Bool := askK x v && (x.fields.all (hasK v) && decide ((entB x v).length ≤ 90))
def EKPost (x : IX) (v : JV) (w : World) (e : Ending) (w' : World) : Prop := ∃ sv, e = .returned (.tuple #[sv, .bool (keyO x v), .int .i64 (keyE x v)]) ∧ BytesAt (cfA w.heap.size w') sv (keyB3 x v) ∧ Below w.heap.size w w'
theorem EK_bad {x : IX} {v : JV} {w w' : World} (h : askK x v = false) (hb : Below w.heap.size w w') : EKPost x v w (.returned (.tuple #[.slice none 0 0, .bool false, .int .i64 2])) w' :=
  ⟨_, by unfold keyO keyE; rw [h]; rfl, by unfold keyB3; rw [h, if_neg (by simp)]; exact bytes_no _, hb⟩
theorem EK_none {x : IX} {v : JV} {w w' : World} (h : askK x v = true) (h2 : x.fields.all (hasK v) = false) (hb : Below w.heap.size w w') : EKPost x v w (.returned (.tuple #[.slice none 0 0, .bool false, .int .i64 0])) w' :=
  ⟨_, by unfold keyO keyE; rw [h, h2]; rfl, by unfold keyB3; rw [h, h2, if_neg (by simp)]; exact bytes_no _, hb⟩
theorem EK_long {x : IX} {v : JV} {w w' : World} (h : askK x v = true) (h2 : x.fields.all (hasK v) = true) (h3 : ¬ (entB x v).length ≤ 90) (hb : Below w.heap.size w w') : EKPost x v w (.returned (.tuple #[.slice none 0 0, .bool false, .int .i64 3])) w' :=
  ⟨.slice none 0 0, by unfold keyO keyE; rw [h, h2]; simp [h3], by unfold keyB3; rw [if_neg (fun q => h3 q.2.2)]; exact bytes_no _, hb⟩
theorem EK_ok {x : IX} {v : JV} {w w' : World} {sv : Value} (h : askK x v = true) (h2 : x.fields.all (hasK v) = true) (h3 : (entB x v).length ≤ 90) (hs : BytesAt (cfA w.heap.size w') sv (entB x v)) (hb : Below w.heap.size w w') : EKPost x v w (.returned (.tuple #[sv, .bool true, .int .i64 0])) w' :=
  ⟨sv, by unfold keyO keyE; rw [h, h2]; simp [h3], by unfold keyB3; rw [if_pos ⟨h, h2, h3⟩]; exact hs, hb⟩

theorem walkK_formed : ∀ (l : List ByteArray) (d : Nat) (v u : JV), formedF d v = true → walkF l v = some u → ∃ e, e ≤ d ∧ formedF e u = true
  | [], d, v, u, hf, h => by rw [walkF] at h; cases h; exact ⟨d, Nat.le_refl _, hf⟩
  | s :: l, 0, v, u, hf, h => by simp [formedF] at hf
  | s :: l, d + 1, v, u, hf, h => by
    rw [walkF] at h
    split at h
    · cases h
    · obtain ⟨y, hy, hw⟩ := Option.bind_eq_some_iff.1 h
      cases v with
      | mk k n t nm it =>
        obtain ⟨e, he, h2⟩ := walkK_formed l d y u (item_formed hf (List.mem_of_getElem? hy)) hw
        exact ⟨e, by omega, h2⟩
theorem formedK_six {d : Nat} {v : JV} (h : formedF d v = true) (hd : d ≤ 6) : formedF 6 v = true := formed_up h hd
theorem getK_formed {v u : JV} {p : ByteArray} (h : getF v p = some u) : formedF 6 u = true := by
  unfold getF at h
  obtain ⟨l, _, h2⟩ := Option.bind_eq_some_iff.1 h
  split at h2
  · obtain ⟨e, he, h3⟩ := walkK_formed l 6 v u (by assumption) h2
    exact formedK_six h3 he
  · cases h2
theorem zeroK_formed : formedF 6 nilJ = true := by
  rw [formedF, Bool.and_eq_true]
  refine ⟨decide_eq_true ⟨by decide, by decide, .inr rfl, .inr (by rw [ByteArray.toList_eq]), ?_⟩, ?_⟩
  · unfold textF; simp [ByteArray.size]; decide +kernel
  · rfl
theorem valK_formed (v : JV) (f : Fd) : formedF 6 (valK v f) = true := by
  unfold valK
  cases h : getF v f.1 with
  | none => exact zeroK_formed
  | some u => exact getK_formed h

/-! two rows -/
/-- all but two rows' blocks stands -/
structure KeptX (w w' : World) (s t : Value) : Prop where
  os : w'.os = w.os
  tape : w'.tape = w.tape
  output : w'.output = w.output
  size : w.heap.size ≤ w'.heap.size
  block : ∀ k, k < w.heap.size → some k ≠ s.ownBlock → some k ≠ t.ownBlock → w'.heap[k]? = w.heap[k]?
theorem KeptX.refl (w : World) (s t : Value) : KeptX w w s t := ⟨rfl, rfl, rfl, Nat.le_refl _, fun _ _ _ _ => rfl⟩
theorem KeptX.alloc {w w' : World} {s t : Value} (h : KeptX w w' s t) (o : Obj) : KeptX w (w'.alloc o) s t :=
  ⟨h.os, h.tape, h.output, by have := h.size; simp; omega, fun k hk h1 h2 => by rw [heap_alloc_old w' o (Nat.lt_of_lt_of_le hk h.size)]; exact h.block k hk h1 h2⟩
theorem KeptX.growS {w w1 w2 : World} {s t : Value} (h : KeptX w w1 s t) (k : w1.grownBy w2 s.ownBlock) : KeptX w w2 s t :=
  ⟨k.os.trans h.os, k.tape.trans h.tape, k.output.trans h.output, Nat.le_trans h.size k.size, fun q hq h1 h2 => by rw [k.block q (Nat.lt_of_lt_of_le hq h.size) h1]; exact h.block q hq h1 h2⟩
theorem KeptX.growT {w w1 w2 : World} {s t : Value} (h : KeptX w w1 s t) (k : w1.grownBy w2 t.ownBlock) : KeptX w w2 s t :=
  ⟨k.os.trans h.os, k.tape.trans h.tape, k.output.trans h.output, Nat.le_trans h.size k.size, fun q hq h1 h2 => by rw [k.block q (Nat.lt_of_lt_of_le hq h.size) h2]; exact h.block q hq h1 h2⟩
def GrewX (w : World) (s t : Value) : Type := { w' : World // KeptX w w' s t }
instance (w : World) (s t : Value) : Nonempty (GrewX w s t) := ⟨⟨w, KeptX.refl w s t⟩⟩
theorem GrewX.cell {w : World} {s t : Value} {b o : Nat} {v : Value} (h : w.cell? ⟨b, o, none⟩ = some v) (h1 : some b ≠ s.ownBlock) (h2 : some b ≠ t.ownBlock) (e : GrewX w s t) : e.val.cell? ⟨b, o, none⟩ = some v := by
  rw [World.cell?_of_block (w := w) (e.property.block b (lt_of_cell h) h1 h2)]; exact h
abbrev GrewXC (w : World) (s t : Value) : World → Prop := fun w' => ∃ e : GrewX w s t, w' = e.val
theorem grewXC {w w' : World} {s t : Value} (h : KeptX w w' s t) : GrewXC w s t w' := ⟨⟨w', h⟩, rfl⟩
theorem wp_region_mixX {P : Program} {id : Nat} {Q : Exit → Act → World → Prop} {a : Act} {w : World} {l : List Oper} (s t : Value) (n : Nat) (hn : l.length = n) (hm : P.follows .mixedOrders = true)
    (h : ∀ w1, w1 = w.drew → wpAnyC P .any l.toArray (fun w' => ∃ e : GrewX w s t, w' = e.val) Q n (Array.replicate n false) a w1) : (Code.region id l.toArray true).wp P Q a w := by
  subst hn
  refine wp_region_any hm ?_
  have := wpAny_of_C _ _ _ _ (h { w with drawn := w.drawn + 1 } rfl)
  simpa using this

/-- cells of truths -/
def tv (l : List Fd) : List Value := l.map fun f => .bool f.2
/-- where Key stands: the values and the directions of the first fields, in rows of its own -/
structure KL (W wr : World) (c : CF) (sl sd : Value) (p : Nat) (vals : List JV) (q : Nat) (fs : List Fd) (cs : List Value) : Prop where
  v : wr.ownsRow W.heap.size 25 5 sl p cs
  pl : vals.length = p
  b : wr.ownsRow W.heap.size 4 1 sd q (tv fs)
  ql : fs.length = q
  row : VRow c vals cs
  bel : Below W.heap.size W wr
theorem KL.start (W : World) (c : CF) : KL W W c (.slice none 0 0) (.slice none 0 0) 0 [] 0 [] [] := ⟨World.ownsRow_nil _ _ _ _, rfl, World.ownsRow_nil _ _ _ _, rfl, VRow.nil c, Below.refl _ _⟩
theorem KL.alloc {W wr : World} {c : CF} {sl sd : Value} {p q : Nat} {vals : List JV} {fs : List Fd} {cs : List Value} (h : KL W wr c sl sd p vals q fs cs) (o : Obj) : KL W (wr.alloc o) c sl sd p vals q fs cs := ⟨h.v.alloc o, h.pl, h.b.alloc o, h.ql, h.row, h.bel.alloc h.bel.size o⟩
theorem KL.drew {W wr : World} {c : CF} {sl sd : Value} {p q : Nat} {vals : List JV} {fs : List Fd} {cs : List Value} (h : KL W wr c sl sd p vals q fs cs) : KL W wr.drew c sl sd p vals q fs cs := ⟨h.v, h.pl, h.b, h.ql, h.row, h.bel.drew⟩
theorem KL.quiet {W wr w2 : World} {c : CF} {sl sd : Value} {p q : Nat} {vals : List JV} {fs : List Fd} {cs : List Value} (h : KL W wr c sl sd p vals q fs cs) (k : Below wr.heap.size wr w2) : KL W w2 c sl sd p vals q fs cs := by
  have hg : wr.grownBy w2 none := ⟨k.os, k.tape, k.output, k.size, fun q hq _ => k.block q hq⟩
  exact ⟨h.v.kept hg (by cases sl.ownBlock <;> simp), h.pl, h.b.kept hg (by cases sd.ownBlock <;> simp), h.ql, h.row, h.bel.trans (k.mono h.bel.size)⟩
theorem KL.ne {W wr : World} {c : CF} {sl sd : Value} {p q : Nat} {vals : List JV} {fs : List Fd} {cs : List Value} (h : KL W wr c sl sd p vals q fs cs) : ∀ g, sl.ownBlock = some g → sd.ownBlock ≠ some g := by
  intro g h1 h2
  rcases h.v.2 with ⟨hv, _⟩ | ⟨g1, cap, cur, hv, _, hc, _⟩
  · rw [hv] at h1; simp [Value.ownBlock] at h1
  · rcases h.b.2 with ⟨hv2, _⟩ | ⟨g2, cap2, cur2, hv2, _, hc2, _⟩
    · rw [hv2] at h2; simp [Value.ownBlock] at h2
    · rw [hv] at h1; rw [hv2] at h2
      simp [Value.ownBlock] at h1 h2
      subst h1; subst h2
      rw [hc] at hc2
      simp at hc2
theorem KL.pushV {W wr w2 : World} {c : CF} {sl sd s2 : Value} {p q : Nat} {vals : List JV} {fs : List Fd} {cs : List Value} {x : JV} {c0 c1 c2 c3 c4 : Value} (h : KL W wr c sl sd p vals q fs cs) (hg : wr.grownBy w2 sl.ownBlock) (ho : w2.ownsRow W.heap.size 25 5 s2 (p + 1) (cs ++ [c0, c1, c2, c3, c4])) (hx : JAt c x (.agg #[c0, c1, c2, c3, c4])) : KL W w2 c s2 sd (p + 1) (vals ++ [x]) q fs (cs ++ [c0, c1, c2, c3, c4]) := by
  refine ⟨ho, by rw [List.length_append, h.pl]; rfl, h.b.kept hg ?_, h.ql, h.row.snoc hx, h.bel.grown hg h.bel.size (fun k hk => (h.v.lt k hk).1)⟩
  cases hd : sd.ownBlock with
  | none => exact .inl rfl
  | some g => exact .inr (fun e => h.ne g e.symm hd)
theorem KL.pushB {W wr w2 : World} {c : CF} {sl sd s2 : Value} {p q : Nat} {vals : List JV} {fs : List Fd} {cs : List Value} {f : Fd} (h : KL W wr c sl sd p vals q fs cs) (hg : wr.grownBy w2 sd.ownBlock) (ho : w2.ownsRow W.heap.size 4 1 s2 (q + 1) (tv fs ++ [.bool f.2])) : KL W w2 c sl s2 p vals (q + 1) (fs ++ [f]) cs := by
  have e : tv (fs ++ [f]) = tv fs ++ [.bool f.2] := by simp [tv]
  rw [← e] at ho
  refine ⟨h.v.kept hg ?_, h.pl, ho, by rw [List.length_append, h.ql]; rfl, h.row, h.bel.grown hg h.bel.size (fun k hk => (h.b.lt k hk).1)⟩
  cases hd : sl.ownBlock with
  | none => exact .inl rfl
  | some g => exact .inr (fun e => h.ne g hd e.symm)
theorem KL.bools {W wr : World} {c : CF} {sl sd : Value} {p q : Nat} {vals : List JV} {fs : List Fd} {cs : List Value} (h : KL W wr c sl sd p vals q fs cs) : BoolsAt (cf wr) sd (fs.map (·.2)) := by
  have hql := h.ql
  rcases id h.b.2 with ⟨hv, hn⟩ | ⟨g, cap, cur, hv, hb, hh, hle, hcap, _⟩
  · obtain rfl : fs = [] := List.length_eq_zero_iff.1 (by omega)
    exact ⟨none, 0, hv, by simp, fun i s h => by simp at h⟩
  · refine ⟨some ⟨g, 0, none⟩, cap, by rw [hv, List.length_map, hql], by rw [List.length_map]; unfold maxLen at hcap; omega, fun i d hi => ⟨g, 0, rfl, ?_⟩⟩
    have hc : (tv fs)[i]? = some (.bool d) := by
      rw [List.getElem?_map] at hi
      obtain ⟨f, hf, rfl⟩ := Option.map_eq_some_iff.1 hi
      unfold tv; rw [List.getElem?_map, hf]; rfl
    have := h.b.cells (g := g) (by rw [hv]; rfl) i _ hc
    rw [addr_at] at this
    unfold cf; rw [Nat.zero_add]; exact this
theorem KL.items {W wr : World} {c : CF} {sl sd : Value} {p q : Nat} {vals : List JV} {fs : List Fd} {cs : List Value} (h : KL W wr c sl sd p vals q fs cs) (hc : CLe c (cf wr)) : ItemsAt (cf wr) sl vals := by
  have hv := h.v
  rw [← h.pl] at hv
  exact items_of_own hv (h.row.mono hc)
theorem KL.low {W wr : World} {c : CF} {sl sd : Value} {p q : Nat} {vals : List JV} {fs : List Fd} {cs : List Value} (h : KL W wr c sl sd p vals q fs cs) {k : Nat} (hk : wr.heap.size ≤ k) : some k ≠ sl.ownBlock ∧ some k ≠ sd.ownBlock :=
  ⟨fun e => by have := (h.v.lt k e.symm).2; omega, fun e => by have := (h.b.lt k e.symm).2; omega⟩
theorem KeptX.drew {w w' : World} {s t : Value} (h : KeptX w w' s t) : KeptX w w'.drew s t := ⟨h.os, h.tape, h.output, h.size, h.block⟩

end Go.Proofs.YtfllnlmanopfaaaDoor
