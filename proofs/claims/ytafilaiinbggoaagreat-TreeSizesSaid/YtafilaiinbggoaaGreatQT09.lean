import Derived.Test.YtafilaiinbggoaaGreatQT05
import Derived.WalkKit
import Derived.WalkSpells
import Derived.WalkLawsBesides
import Derived.Maps.Own
import Derived.Maps.OwnSet
import Derived.Maps.RangeWalk
namespace Go.Proofs.YtafilaiinbggoaaGreat
open Go.RowKit
abbrev Frag := Nat -> Option Obj
def Frag.In (H : Frag) (w : World) : Prop := ∀ b o, H b = some o -> w.heap[b]? = some o
def Frag.put (H : Frag) (b : Nat) (o : Obj) : Frag := fun q => if q = b then some o else H q
theorem Frag.In.lt {H : Frag} {w : World} (h : H.In w) {b : Nat} {o : Obj} (hb : H b = some o) : b < w.heap.size := heap_lt (h b o hb)
theorem Frag.In.below {H : Frag} {w w' : World} (h : H.In w) (hb : Below w.heap.size w w') : H.In w' := fun b o e => kept (h b o e) hb
structure Turn (H : Frag) (w : World) (H' : Frag) (w' : World) : Prop where
 os : w'.os = w.os
 tape : w'.tape = w.tape
 output : w'.output = w.output
 size : w.heap.size <= w'.heap.size
 out : ∀ b, b < w.heap.size -> H b = none -> w'.heap[b]? = w.heap[b]? /\ H' b = none
theorem Turn.refl (H : Frag) (w : World) : Turn H w H w := ⟨rfl, rfl, rfl, Nat.le_refl _, fun _ _ h => ⟨rfl, h⟩⟩
theorem Turn.trans {H H1 H2 : Frag} {w w1 w2 : World} (h : Turn H w H1 w1) (k : Turn H1 w1 H2 w2) : Turn H w H2 w2 :=
 ⟨k.os.trans h.os, k.tape.trans h.tape, k.output.trans h.output, Nat.le_trans h.size k.size, fun b hb hn => by
  obtain ⟨h1, h2⟩ := h.out b hb hn
  obtain ⟨k1, k2⟩ := k.out b (Nat.lt_of_lt_of_le hb h.size) h2
  exact ⟨k1.trans h1, k2⟩⟩
theorem Turn.quiet {H : Frag} {w w' : World} (hb : Below w.heap.size w w') : Turn H w H w' := ⟨hb.os, hb.tape, hb.output, hb.size, fun b h hn => ⟨hb.block b h, hn⟩⟩
theorem Turn.below {H H' : Frag} {w w' : World} {B : Nat} (h : Turn H w H' w') (hB : ∀ b o, H b = some o -> B <= b) (hle : B <= w.heap.size) : Below B w w' :=
 ⟨h.os, h.tape, h.output, h.size, fun b hb => (h.out b (Nat.lt_of_lt_of_le hb hle) (by
  cases e : H b with
  | none => rfl
  | some o => have := hB b o e; omega)).1⟩
theorem Turn.kept {H H' : Frag} {w w' : World} (h : Turn H w H' w') {b : Nat} {o : Obj} (hk : w.heap[b]? = some o) (hn : H b = none) : w'.heap[b]? = some o /\ H' b = none := by
 obtain ⟨h1, h2⟩ := h.out b (heap_lt hk) hn
 exact ⟨h1.trans hk, h2⟩
end Go.Proofs.YtafilaiinbggoaaGreat
namespace Go.Proofs.YtafilaiinbggoaaGreat
open Go.RowKit Go.Maps Go.WideMaps
theorem mapKeyedI : Keyed Tryz.prog 3 := int_keyed Tryz.underlying3
def heldI : Value -> Option (DataW Value × List MemPlace) := fun v => some (.held v, [])
theorem heldI_inv {v : Value} {d : DataW Value} {ps : List MemPlace} (h : heldI v = some (d, ps)) : d = .held v := by
 unfold heldI at h
 simp only [Option.some.injEq, Prod.mk.injEq] at h
 exact h.1.symm
def WfI (k : Int) : Prop := (Lit.int .i64 k).wf = true
def IntMap (D : DataW Value) (f : Int -> Option Value) : Prop :=
 ∃ es, D = .map es /\ es.Pairwise (fun p q => p.1 ≠ q.1) /\ (∀ p ∈ es, ∃ i, p.1 = .int .i64 i) /\ ∀ (k : Int) (zd : DataW Value), D.atKey (.int .i64 k) zd = match f k with | some v => .held v | none => zd
theorem IntMap.tidy {D : DataW Value} {f : Int -> Option Value} (h : IntMap D f) : Tidy D := by obtain ⟨es, e, h2, _⟩ := h; exact ⟨es, e, h2⟩
theorem IntMap.has {D : DataW Value} {f : Int -> Option Value} (h : IntMap D f) (k : Int) : Maps.has D (.int .i64 k) = (f k).isSome := by
 obtain ⟨es, _, _, _, h4⟩ := h
 cases hf : f k with
 | none => exact Maps.has_false_of_atKey fun zd => by rw [h4, hf]
 | some v => exact Maps.has_true_of_atKey fun zd => by rw [h4, hf]
theorem nodup_le : ∀ {l m : List Int}, l.Nodup -> (∀ x ∈ l, x ∈ m) -> l.length <= m.length
 | [], _, _, _ => Nat.zero_le _
 | x :: l, m, h, hs => by
  obtain ⟨h1, h2⟩ := List.nodup_cons.1 h
  have hx := hs x (List.mem_cons_self ..)
  have := nodup_le (l := l) (m := m.erase x) h2 fun y hy => (List.mem_erase_of_ne (fun (e : y = x) => h1 (by rw [<- e]; exact hy))).2 (hs y (List.mem_cons_of_mem _ hy))
  rw [List.length_erase_of_mem hx] at this
  have := List.length_pos_of_mem hx
  rw [List.length_cons]
  omega
def litI : Lit -> Int
 | .int _ i => i
 | _ => 0
theorem IntMap.ints {D : DataW Value} {f : Int -> Option Value} (h : IntMap D f) : ∃ l : List Int, l.Nodup /\ l.length = Maps.size D /\ ∀ k, k ∈ l ↔ (f k).isSome = true := by
 have hhas := h.has
 obtain ⟨es, rfl, h2, h3, _⟩ := h
 refine ⟨es.map fun p => litI p.1, ?_, by rw [List.length_map]; rfl, fun k => ?_⟩
 ·refine List.pairwise_map.2 (List.Pairwise.imp_of_mem (fun {p q} hp hq hne e => hne ?_) h2)
  obtain ⟨i, hi⟩ := h3 p hp
  obtain ⟨j, hj⟩ := h3 q hq
  rw [hi, hj] at e |-
  exact congrArg (Lit.int .i64) e
 ·rw [<- hhas k]
  show _ ↔ es.any (fun p => p.1.sameKey (.int .i64 k)) = true
  rw [List.any_eq_true, List.mem_map]
  refine ⟨fun ⟨p, hp, e⟩ => ⟨p, hp, ?_⟩, fun ⟨p, hp, e⟩ => ⟨p, hp, ?_⟩⟩
  ·obtain ⟨i, hi⟩ := h3 p hp
   rw [hi] at e |-
   obtain rfl : i = k := e
   exact WideAt.sameKey_self (show WideAt.IsKeyLit (.int .i64 i) from trivial)
  ·obtain ⟨i, hi⟩ := h3 p hp
   rw [hi] at e |-
   show i = k
   simpa [Lit.sameKey] using e
theorem IntMap.count {D : DataW Value} {f : Int -> Option Value} (h : IntMap D f) {l : List Int} (hl : l.Nodup) (hm : ∀ k, k ∈ l ↔ (f k).isSome = true) : Maps.size D = l.length := by
 obtain ⟨m, m1, m2, m3⟩ := h.ints
 rw [<- m2]
 exact Nat.le_antisymm (nodup_le m1 fun x hx => (hm x).2 ((m3 x).1 hx)) (nodup_le hl fun x hx => (m3 x).2 ((hm x).1 hx))
theorem IntMap.most {D : DataW Value} {f : Int -> Option Value} (h : IntMap D f) {l : List Int} (hm : ∀ k, (f k).isSome = true -> k ∈ l) : Maps.size D <= l.length := by
 obtain ⟨m, m1, m2, m3⟩ := h.ints
 rw [<- m2]
 exact nodup_le m1 fun x hx => hm x ((m3 x).1 hx)
theorem IntMap.put {D : DataW Value} {f : Int -> Option Value} (h : IntMap D f) (k : Int) (v : Value) : IntMap (D.put (.int .i64 k) (.held v)) (fun j => if j = k then some v else f j) := by
 have hk : WideAt.IsKeyLit (.int .i64 k) := trivial
 obtain ⟨fs, hfs, hp⟩ := h.tidy.put hk (.held v)
 obtain ⟨es, rfl, h2, h3, h4⟩ := h
 refine ⟨fs, hfs, hp, fun p hpm => ?_, fun j zd => ?_⟩
 ·have e : DataW.map fs = .map (DataW.insert (.int .i64 k, .held v) (es.filter fun p => !p.1.sameKey (.int .i64 k))) := hfs.symm
  cases e
  rcases List.mem_cons.1 ((WideShapes.insert_perm _ _).mem_iff.1 hpm) with rfl | hm
  ·exact ⟨k, rfl⟩
  ·exact h3 p (List.mem_filter.1 hm).1
 ·by_cases e : j = k
  ·subst e
   rw [atKey_put_same ⟨es, rfl⟩ (show WideAt.IsKeyLit (.int .i64 j) from trivial)]
   simp only [if_true]
  ·rw [atKey_put_other (fun e2 => e (by cases e2; rfl)), h4 j]
   simp only [if_neg e]
theorem IntMap.del {D : DataW Value} {f : Int -> Option Value} (h : IntMap D f) (k : Int) : IntMap (D.del (.int .i64 k)) (fun j => if j = k then none else f j) := by
 obtain ⟨es, rfl, h2, h3, h4⟩ := h
 refine ⟨_, rfl, h2.filter _, fun p hp => h3 p (List.mem_filter.1 hp).1, fun j zd => ?_⟩
 by_cases e : j = k
 ·subst e
  rw [atKey_del_same]
  simp only [if_true]
 ·rw [atKey_del_other (fun e2 => e (by cases e2; rfl)), h4 j]
  simp only [if_neg e]
def MapI (b : Nat) (f : Int -> Option Value) (w : World) : Prop := ∃ D : DataW Value, w.ownsMap Tryz.prog 3 heldI b (Maps.size D) D /\ IntMap D f
theorem MapI.start (w : World) : MapI w.heap.size (fun _ => none) (w.alloc (.map #[] 0)) := ⟨.map [], World.ownsMap_made _ _ _ _, [], rfl, List.Pairwise.nil, fun p hp => by simp at hp, fun _ _ => rfl⟩
theorem MapI.lt {b : Nat} {f : Int -> Option Value} {w : World} (h : MapI b f w) : b < w.heap.size := by obtain ⟨D, h1, _⟩ := h; exact h1.lt
theorem MapI.same {b : Nat} {f : Int -> Option Value} {w w' : World} (h : MapI b f w) (k : w'.heap[b]? = w.heap[b]?) : MapI b f w' := by
 obtain ⟨D, ⟨es, c, hb, r⟩, h2⟩ := h
 exact ⟨D, ⟨es, c, k.trans hb, r⟩, h2⟩
theorem owns_tight {w : World} {k : TypeId} {b n : Nat} {D : DataW Value} (h : w.ownsMap Tryz.prog k heldI b n D) : w.ownsMap Tryz.prog k heldI b (Maps.size D) D := by
 have hs : ∀ es c, w.heap[b]? = some (.map es c) -> True := fun _ _ _ => trivial
 obtain ⟨es, c, hb, F, _, rfl⟩ := h
 refine ⟨es, c, hb, F, ?_, rfl⟩
 simp [Maps.size, length_sorted]
theorem MapI.look {b : Nat} {f : Int -> Option Value} {w : World} {t e : TypeId} {z : Value} (h : MapI b f w) (ht : Tryz.prog.underlying t = some (.map 3 e)) (hz : (zeroValue e).run Tryz.prog w = .ok z w) {k : Int} (hk : WfI k) :
  (Instr.lookup t (.map (some b)) (.int .i64 k) false).run Tryz.prog w = .ok ((f k).getD z) w := by
 obtain ⟨D, h1, _, _, _, _, h3⟩ := h
 obtain ⟨v, ps, hrun, hv⟩ := h1.lookup mapKeyedI ht hz (zd := .held z) (zp := []) rfl (keyOf_int_mk Tryz.underlying3 hk)
 have e1 := heldI_inv hv
 rw [h3] at e1
 rw [hrun]
 cases hf : f k with
 | none => rw [hf] at e1; cases e1; rfl
 | some u => rw [hf] at e1; cases e1; rfl
theorem MapI.look_ok {b : Nat} {f : Int -> Option Value} {w : World} {t e : TypeId} {z : Value} (h : MapI b f w) (ht : Tryz.prog.underlying t = some (.map 3 e)) (hz : (zeroValue e).run Tryz.prog w = .ok z w) {k : Int} (hk : WfI k) :
  (Instr.lookup t (.map (some b)) (.int .i64 k) true).run Tryz.prog w = .ok (.tuple #[(f k).getD z, .bool (f k).isSome]) w := by
 obtain ⟨D, h1, hD⟩ := h
 obtain ⟨v, ps, hrun, hv⟩ := h1.look_ok mapKeyedI ht hz (zd := .held z) (zp := []) rfl (keyOf_int_mk Tryz.underlying3 hk)
 have e1 := heldI_inv hv
 have hh := hD.has k
 obtain ⟨_, _, _, _, h3⟩ := hD
 rw [h3] at e1
 rw [hrun, hh]
 cases hf : f k with
 | none => rw [hf] at e1; cases e1; rfl
 | some u => rw [hf] at e1; cases e1; rfl
theorem MapI.put {b : Nat} {f : Int -> Option Value} {w : World} {t e : TypeId} (h : MapI b f w) (ht : Tryz.prog.underlying t = some (.map 3 e)) {k : Int} (hk : WfI k) (v : Value) {l : List Int} (hl : ∀ k, (f k).isSome = true -> k ∈ l) (hn : l.length <= 1000000) :
  ∃ w', (Instr.mapUpdate t (.map (some b)) (.int .i64 k) v).run Tryz.prog w = .ok () w' /\ MapI b (fun j => if j = k then some v else f j) w' /\ w.mapTurned w' b := by
 obtain ⟨D, h1, hD⟩ := h
 have hsz := hD.most hl
 obtain ⟨w', hrun, hown, hg⟩ := h1.store mapKeyedI ht (by unfold maxLen; omega) (keyOf_int_mk Tryz.underlying3 hk) (show heldI v = some (.held v, []) from rfl)
 exact ⟨w', hrun, ⟨_, owns_tight hown, hD.put k v⟩, hg⟩
theorem MapI.drop {b : Nat} {f : Int -> Option Value} {w : World} {t e : TypeId} (h : MapI b f w) (ht : Tryz.prog.underlying t = some (.map 3 e)) {k : Int} (hk : WfI k) (ty : TypeId) :
  ∃ w', (Builtin.delete_ #[t, 3] ty #[.map (some b), .int .i64 k]).run Tryz.prog w = .ok (.tuple #[]) w' /\ MapI b (fun j => if j = k then none else f j) w' /\ w.mapTurned w' b := by
 obtain ⟨D, h1, hD⟩ := h
 obtain ⟨w', hrun, hown, hg⟩ := h1.drop mapKeyedI ht (keyOf_int_mk Tryz.underlying3 hk) ty
 exact ⟨w', hrun, ⟨_, owns_tight hown, hD.del k⟩, hg⟩
theorem MapI.len {b : Nat} {f : Int -> Option Value} {w : World} {t e : TypeId} (h : MapI b f w) (ht : Tryz.prog.underlying t = some (.map 3 e)) (ty : TypeId) {l : List Int} (hl : l.Nodup) (hm : ∀ k, k ∈ l ↔ (f k).isSome = true) :
  (Builtin.len_ #[t] ty #[.map (some b)]).run Tryz.prog w = .ok (.int .i64 l.length) w := by
 obtain ⟨D, h1, hD⟩ := h
 rw [h1.len ht ty, hD.count hl hm]
end Go.Proofs.YtafilaiinbggoaaGreat
