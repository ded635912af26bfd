/- Indexes: what is read of a value, plainly; a box of an index whose Fields grow by append. -/
import Derived.Test.YticlnijkfclgcaaGreatDoorZ34
namespace Go.Proofs.YticlnijkfclgcaaGreatDoor
open Go.RowKit

/-- a box of an index whose Fields are a row of the call's own -/
structure AI (tI tF : TypeId) (wr : World) (k : Nat) (c0 c2 : Value) (sv : Value) (n : Nat) (cs : List Value) : Prop where
  box : wr.heap[k]? = some (.cells #[c0, sv, c2] tI (0, 0))
  own : wr.ownsRow (k + 1) tF 2 sv n cs
section
variable {tI tF : TypeId} {wr w2 : World} {k : Nat} {c0 c2 : Value} {sv : Value} {n m g cap : Nat} {cs news : List Value}
theorem AI.alloc (h : AI tI tF wr k c0 c2 sv n cs) (o : Obj) : AI tI tF (wr.alloc o) k c0 c2 sv n cs :=
  ⟨kept h.box ((Below.refl _ wr).alloc (Nat.le_refl _) o), h.own.alloc o⟩
theorem AI.mid (h : AI tI tF wr k c0 c2 sv n cs) (hg : wr.grownBy w2 sv.ownBlock) : w2.heap[k]? = some (.cells #[c0, sv, c2] tI (0, 0)) := by
  rw [hg.block k (heap_lt h.box) (fun e => by have := (h.own.lt k e.symm).1; omega)]; exact h.box
theorem AI.push (h : AI tI tF wr k c0 c2 sv n cs) (hg : wr.grownBy w2 sv.ownBlock)
    (hown : w2.ownsRow (k + 1) tF 2 (.slice (some ⟨g, 0, none⟩) m cap) m (cs ++ news)) :
    AI tI tF (w2.setCell ⟨k, 1, none⟩ (.slice (some ⟨g, 0, none⟩) m cap)) k c0 c2 (.slice (some ⟨g, 0, none⟩) m cap) m (cs ++ news) ∧ Below k wr (w2.setCell ⟨k, 1, none⟩ (.slice (some ⟨g, 0, none⟩) m cap)) := by
  have hb := h.mid hg
  have hlt := heap_lt h.box
  refine ⟨⟨?_, own_set hown (by omega)⟩, ?_⟩
  · have := set_self (o := 1) (c := .slice (some ⟨g, 0, none⟩) m cap) hb
    simpa using this
  · have h2 : Below k wr w2 := (Below.refl k wr).grown hg (by omega) (fun q hq => by have := (h.own.lt q hq).1; omega)
    exact h2.setCell (p := ⟨k, 1, none⟩) (Nat.le_refl _) _
end
theorem infoFe : (Tryz.prog.info? 112).map (fun i => (i.zero, i.size, i.bytes)) = some (some (.agg #[.string ⟨#[]⟩, .bool false]), 2, 24) := by kernel_rfl
/-- a text as a field -/
def cutF (s : ByteArray) : Fd := (⟨(Lib.trimPrefix s.data.toList [45]).toArray⟩, Lib.hasPrefix s.data.toList [45])
theorem cut_size (s : ByteArray) : (cutF s).1.size ≤ s.size := by
  show (Lib.trimPrefix s.data.toList [45]).toArray.size ≤ s.size
  unfold Lib.trimPrefix
  have := size_list s
  split
  · rw [List.size_toArray, List.length_drop]; omega
  · rw [List.size_toArray]; omega
/-- the index that three items show -/
def readI (i0 i1 i2 : JV) : IX := ⟨i1.text, i0.items.map fun j => cutF j.text, decide (i2.kind = 2)⟩
open Classical in
/-- what Parse answers -/
noncomputable def parseF (v : JV) : Option IX := match v.items with
  | [i0, i1, i2] => if formI (readI i0 i1 i2) = true ∧ v = showJ (readI i0 i1 i2) then some (readI i0 i1 i2) else none
  | _ => none
theorem parse_some {v i0 i1 i2 : JV} (hv : v.items = [i0, i1, i2]) (h1 : formI (readI i0 i1 i2) = true) (h2 : v = showJ (readI i0 i1 i2)) : parseF v = some (readI i0 i1 i2) := by
  unfold parseF; rw [hv]; simp only; rw [if_pos ⟨h1, h2⟩]
theorem parse_bad {v i0 i1 i2 : JV} (hv : v.items = [i0, i1, i2]) (h : ¬ (formI (readI i0 i1 i2) = true ∧ v = showJ (readI i0 i1 i2))) : parseF v = none := by
  unfold parseF; rw [hv]; simp only; rw [if_neg h]
theorem parse_len {v : JV} (h : v.items.length ≠ 3) : parseF v = none := by
  unfold parseF
  split
  · rename_i heq; rw [heq] at h; simp at h
  · rfl
theorem parse_kind {v : JV} (h : v.kind ≠ 6) : parseF v = none := by
  unfold parseF
  split
  · rw [if_neg]; rintro ⟨_, e⟩; rw [e] at h; exact h rfl
  · rfl
theorem parse_names {v : JV} (h : v.names ≠ [wFields, wName, wUnique]) : parseF v = none := by
  unfold parseF
  split
  · rw [if_neg]; rintro ⟨_, e⟩; rw [e] at h; exact h rfl
  · rfl
theorem own_lowE {B B' n p : Nat} {T : TypeId} {w : World} {sl : Value} {cs : List Value} (h : w.ownsRow B T n sl p cs) (hb : B' ≤ B) : w.ownsRow B' T n sl p cs := by
  obtain ⟨h1, h2 | ⟨g, cap, cur, h3, h4, h5⟩⟩ := h
  · exact ⟨h1, .inl h2⟩
  · exact ⟨h1, .inr ⟨g, cap, cur, h3, Nat.le_trans hb h4, h5⟩⟩
/-- what Parse hands back: its fields are a row of its own -/
def ParsePostO (TF : TypeId) (v : JV) (w : World) (e : Ending) (w' : World) : Prop := (match parseF v with
    | some x => ∃ sa cap, e = .returned (.tuple #[.agg #[.string x.name, .slice sa x.fields.length cap, .bool x.uniq], .int .i64 0]) ∧ x.name.size ≤ 9223372036854775807 ∧ (∀ p ∈ x.fields, p.1.size ≤ 1000000) ∧ w'.ownsRow w.heap.size TF 2 (.slice sa x.fields.length cap) x.fields.length (fcells x.fields)
    | none => e = .returned (.tuple #[.agg zeroI, .int .i64 2])) ∧ Below w.heap.size w w'
/-- the end: nothing is read -/
theorem parse_err {TF : TypeId} {v : JV} {w W : World} (hv : parseF v = none) (hb : Below w.heap.size w W) : ParsePostO TF v w (.returned (.tuple #[.agg zeroI, .int .i64 2])) W := by
  unfold ParsePostO; rw [hv]; exact ⟨rfl, hb⟩
theorem parse_done {TF : TypeId} {v : JV} {w W : World} {x : IX} {t1 : ByteArray} {l : List Fd} {bu : Bool} {N n : Nat} {sa : Option Addr} {cap : Nat} {cs : List Value} (hv : parseF v = some x) (hx : x = ⟨t1, l, bu⟩) (hn : l.length = n) (hs : t1.size ≤ 9223372036854775807) (hf : ∀ p ∈ x.fields, p.1.size ≤ 1000000) (hB : w.heap.size ≤ N) (ho : W.ownsRow N TF 2 (.slice sa n cap) n cs) (hc : fcells l = cs) (hb : Below w.heap.size w W) : ParsePostO TF v w (.returned (.tuple #[.agg #[.string t1, .slice sa n cap, .bool bu], .int .i64 0])) W := by
  unfold ParsePostO
  rw [hv, hx]
  rw [hx] at hf
  subst hn hc
  exact ⟨⟨sa, cap, rfl, hs, hf, own_lowE ho hB⟩, hb⟩
/-- a value of a size that Parse takes -/
def parsable (v : JV) : Prop := ∀ i0 ∈ v.items, i0.items.length ≤ 1000 ∧ ∀ j ∈ i0.items, j.text.size ≤ 1000000
theorem set3_self {w : World} {k : Nat} {a0 a1 a2 c0 c1 c2 : Value} {t : TypeId} {fr : Nat × Nat} (h : w.heap[k]? = some (.cells #[a0, a1, a2] t fr)) : (((w.setCell ⟨k, 0, none⟩ c0).setCell ⟨k, 1, none⟩ c1).setCell ⟨k, 2, none⟩ c2).heap[k]? = some (.cells #[c0, c1, c2] t fr) := by
  have := set_self (o := 2) (c := c2) (set_self (o := 1) (c := c1) (set_self (o := 0) (c := c0) h))
  simpa using this
theorem set3_below {w a : World} {B k : Nat} {c0 c1 c2 : Value} (hb : Below B a w) (hB : B ≤ k) : Below B a (((w.setCell ⟨k, 0, none⟩ c0).setCell ⟨k, 1, none⟩ c1).setCell ⟨k, 2, none⟩ c2) :=
  ((hb.setCell (p := ⟨k, 0, none⟩) hB _).setCell (p := ⟨k, 1, none⟩) hB _).setCell (p := ⟨k, 2, none⟩) hB _
end Go.Proofs.YticlnijkfclgcaaGreatDoor
