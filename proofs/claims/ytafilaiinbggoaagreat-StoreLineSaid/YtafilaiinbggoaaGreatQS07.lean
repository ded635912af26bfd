import Derived.Test.YtafilaiinbggoaaGreatQS01
import Derived.Test.YtafilaiinbggoaaGreatQS03
import Derived.Test.YtafilaiinbggoaaGreatQS06
import Derived.WalkKit
import Derived.WalkSpells
import Derived.WalkLawsBesides
import Derived.Maps.Own
import Derived.Maps.OwnSet
import Derived.Maps.RangeWalk
import Derived.Lib.Hide
import Derived.StillTailTactics
import Derived.Laws.LoneSync
import Derived.Lib.Bytealg
import Derived.Lib.BytesEntry
namespace Go.Proofs.YtafilaiinbggoaaGreat
open Go.RowKit
abbrev Frag := Nat -> Option Obj
def Frag.In (H : Frag) (w : World) : Prop := ∀ b o, H b = some o -> w.heap[b]? = some o
def Frag.put (H : Frag) (b : Nat) (o : Obj) : Frag := fun q => if q = b then some o else H q
theorem Frag.In.lt {H : Frag} {w : World} (h : H.In w) {b : Nat} {o : Obj} (hb : H b = some o) : b < w.heap.size := heap_lt (h b o hb)
theorem Frag.In.below {H : Frag} {w w' : World} (h : H.In w) (hb : Below w.heap.size w w') : H.In w' := fun b o e => kept (h b o e) hb
structure Turn (H : Frag) (w : World) (H' : Frag) (w' : World) : Prop where
 os : w'.os = w.os
 tape : w'.tape = w.tape
 output : w'.output = w.output
 size : w.heap.size <= w'.heap.size
 out : ∀ b, b < w.heap.size -> H b = none -> w'.heap[b]? = w.heap[b]? /\ H' b = none
theorem Turn.refl (H : Frag) (w : World) : Turn H w H w := ⟨rfl, rfl, rfl, Nat.le_refl _, fun _ _ h => ⟨rfl, h⟩⟩
theorem Turn.trans {H H1 H2 : Frag} {w w1 w2 : World} (h : Turn H w H1 w1) (k : Turn H1 w1 H2 w2) : Turn H w H2 w2 :=
 ⟨k.os.trans h.os, k.tape.trans h.tape, k.output.trans h.output, Nat.le_trans h.size k.size, fun b hb hn => by
  obtain ⟨h1, h2⟩ := h.out b hb hn
  obtain ⟨k1, k2⟩ := k.out b (Nat.lt_of_lt_of_le hb h.size) h2
  exact ⟨k1.trans h1, k2⟩⟩
theorem Turn.quiet {H : Frag} {w w' : World} (hb : Below w.heap.size w w') : Turn H w H w' := ⟨hb.os, hb.tape, hb.output, hb.size, fun b h hn => ⟨hb.block b h, hn⟩⟩
theorem Turn.below {H H' : Frag} {w w' : World} {B : Nat} (h : Turn H w H' w') (hB : ∀ b o, H b = some o -> B <= b) (hle : B <= w.heap.size) : Below B w w' :=
 ⟨h.os, h.tape, h.output, h.size, fun b hb => (h.out b (Nat.lt_of_lt_of_le hb hle) (by
  cases e : H b with
  | none => rfl
  | some o => have := hB b o e; omega)).1⟩
theorem Turn.kept {H H' : Frag} {w w' : World} (h : Turn H w H' w') {b : Nat} {o : Obj} (hk : w.heap[b]? = some o) (hn : H b = none) : w'.heap[b]? = some o /\ H' b = none := by
 obtain ⟨h1, h2⟩ := h.out b (heap_lt hk) hn
 exact ⟨h1.trans hk, h2⟩
end Go.Proofs.YtafilaiinbggoaaGreat
namespace Go.Proofs.YtafilaiinbggoaaGreat
open Go.RowKit Go.Maps Go.WideMaps
theorem mapKeyedI : Keyed Tryz.prog 3 := int_keyed Tryz.underlying3
def heldI : Value -> Option (DataW Value × List MemPlace) := fun v => some (.held v, [])
theorem heldI_inv {v : Value} {d : DataW Value} {ps : List MemPlace} (h : heldI v = some (d, ps)) : d = .held v := by
 unfold heldI at h
 simp only [Option.some.injEq, Prod.mk.injEq] at h
 exact h.1.symm
def WfI (k : Int) : Prop := (Lit.int .i64 k).wf = true
def IntMap (D : DataW Value) (f : Int -> Option Value) : Prop :=
 ∃ es, D = .map es /\ es.Pairwise (fun p q => p.1 ≠ q.1) /\ (∀ p ∈ es, ∃ i, p.1 = .int .i64 i) /\ ∀ (k : Int) (zd : DataW Value), D.atKey (.int .i64 k) zd = match f k with | some v => .held v | none => zd
theorem IntMap.tidy {D : DataW Value} {f : Int -> Option Value} (h : IntMap D f) : Tidy D := by obtain ⟨es, e, h2, _⟩ := h; exact ⟨es, e, h2⟩
theorem IntMap.has {D : DataW Value} {f : Int -> Option Value} (h : IntMap D f) (k : Int) : Maps.has D (.int .i64 k) = (f k).isSome := by
 obtain ⟨es, _, _, _, h4⟩ := h
 cases hf : f k with
 | none => exact Maps.has_false_of_atKey fun zd => by rw [h4, hf]
 | some v => exact Maps.has_true_of_atKey fun zd => by rw [h4, hf]
theorem nodup_le : ∀ {l m : List Int}, l.Nodup -> (∀ x ∈ l, x ∈ m) -> l.length <= m.length
 | [], _, _, _ => Nat.zero_le _
 | x :: l, m, h, hs => by
  obtain ⟨h1, h2⟩ := List.nodup_cons.1 h
  have hx := hs x (List.mem_cons_self ..)
  have := nodup_le (l := l) (m := m.erase x) h2 fun y hy => (List.mem_erase_of_ne (fun (e : y = x) => h1 (by rw [<- e]; exact hy))).2 (hs y (List.mem_cons_of_mem _ hy))
  rw [List.length_erase_of_mem hx] at this
  have := List.length_pos_of_mem hx
  rw [List.length_cons]
  omega
def litI : Lit -> Int
 | .int _ i => i
 | _ => 0
theorem IntMap.ints {D : DataW Value} {f : Int -> Option Value} (h : IntMap D f) : ∃ l : List Int, l.Nodup /\ l.length = Maps.size D /\ ∀ k, k ∈ l ↔ (f k).isSome = true := by
 have hhas := h.has
 obtain ⟨es, rfl, h2, h3, _⟩ := h
 refine ⟨es.map fun p => litI p.1, ?_, by rw [List.length_map]; rfl, fun k => ?_⟩
 ·refine List.pairwise_map.2 (List.Pairwise.imp_of_mem (fun {p q} hp hq hne e => hne ?_) h2)
  obtain ⟨i, hi⟩ := h3 p hp
  obtain ⟨j, hj⟩ := h3 q hq
  rw [hi, hj] at e |-
  exact congrArg (Lit.int .i64) e
 ·rw [<- hhas k]
  show _ ↔ es.any (fun p => p.1.sameKey (.int .i64 k)) = true
  rw [List.any_eq_true, List.mem_map]
  refine ⟨fun ⟨p, hp, e⟩ => ⟨p, hp, ?_⟩, fun ⟨p, hp, e⟩ => ⟨p, hp, ?_⟩⟩
  ·obtain ⟨i, hi⟩ := h3 p hp
   rw [hi] at e |-
   obtain rfl : i = k := e
   exact WideAt.sameKey_self (show WideAt.IsKeyLit (.int .i64 i) from trivial)
  ·obtain ⟨i, hi⟩ := h3 p hp
   rw [hi] at e |-
   show i = k
   simpa [Lit.sameKey] using e
theorem IntMap.count {D : DataW Value} {f : Int -> Option Value} (h : IntMap D f) {l : List Int} (hl : l.Nodup) (hm : ∀ k, k ∈ l ↔ (f k).isSome = true) : Maps.size D = l.length := by
 obtain ⟨m, m1, m2, m3⟩ := h.ints
 rw [<- m2]
 exact Nat.le_antisymm (nodup_le m1 fun x hx => (hm x).2 ((m3 x).1 hx)) (nodup_le hl fun x hx => (m3 x).2 ((hm x).1 hx))
theorem IntMap.most {D : DataW Value} {f : Int -> Option Value} (h : IntMap D f) {l : List Int} (hm : ∀ k, (f k).isSome = true -> k ∈ l) : Maps.size D <= l.length := by
 obtain ⟨m, m1, m2, m3⟩ := h.ints
 rw [<- m2]
 exact nodup_le m1 fun x hx => hm x ((m3 x).1 hx)
theorem IntMap.put {D : DataW Value} {f : Int -> Option Value} (h : IntMap D f) (k : Int) (v : Value) : IntMap (D.put (.int .i64 k) (.held v)) (fun j => if j = k then some v else f j) := by
 have hk : WideAt.IsKeyLit (.int .i64 k) := trivial
 obtain ⟨fs, hfs, hp⟩ := h.tidy.put hk (.held v)
 obtain ⟨es, rfl, h2, h3, h4⟩ := h
 refine ⟨fs, hfs, hp, fun p hpm => ?_, fun j zd => ?_⟩
 ·have e : DataW.map fs = .map (DataW.insert (.int .i64 k, .held v) (es.filter fun p => !p.1.sameKey (.int .i64 k))) := hfs.symm
  cases e
  rcases List.mem_cons.1 ((WideShapes.insert_perm _ _).mem_iff.1 hpm) with rfl | hm
  ·exact ⟨k, rfl⟩
  ·exact h3 p (List.mem_filter.1 hm).1
 ·by_cases e : j = k
  ·subst e
   rw [atKey_put_same ⟨es, rfl⟩ (show WideAt.IsKeyLit (.int .i64 j) from trivial)]
   simp only [if_true]
  ·rw [atKey_put_other (fun e2 => e (by cases e2; rfl)), h4 j]
   simp only [if_neg e]
theorem IntMap.del {D : DataW Value} {f : Int -> Option Value} (h : IntMap D f) (k : Int) : IntMap (D.del (.int .i64 k)) (fun j => if j = k then none else f j) := by
 obtain ⟨es, rfl, h2, h3, h4⟩ := h
 refine ⟨_, rfl, h2.filter _, fun p hp => h3 p (List.mem_filter.1 hp).1, fun j zd => ?_⟩
 by_cases e : j = k
 ·subst e
  rw [atKey_del_same]
  simp only [if_true]
 ·rw [atKey_del_other (fun e2 => e (by cases e2; rfl)), h4 j]
  simp only [if_neg e]
def MapI (b : Nat) (f : Int -> Option Value) (w : World) : Prop := ∃ D : DataW Value, w.ownsMap Tryz.prog 3 heldI b (Maps.size D) D /\ IntMap D f
theorem MapI.start (w : World) : MapI w.heap.size (fun _ => none) (w.alloc (.map #[] 0)) := ⟨.map [], World.ownsMap_made _ _ _ _, [], rfl, List.Pairwise.nil, fun p hp => by simp at hp, fun _ _ => rfl⟩
theorem MapI.lt {b : Nat} {f : Int -> Option Value} {w : World} (h : MapI b f w) : b < w.heap.size := by obtain ⟨D, h1, _⟩ := h; exact h1.lt
theorem MapI.same {b : Nat} {f : Int -> Option Value} {w w' : World} (h : MapI b f w) (k : w'.heap[b]? = w.heap[b]?) : MapI b f w' := by
 obtain ⟨D, ⟨es, c, hb, r⟩, h2⟩ := h
 exact ⟨D, ⟨es, c, k.trans hb, r⟩, h2⟩
theorem owns_tight {w : World} {k : TypeId} {b n : Nat} {D : DataW Value} (h : w.ownsMap Tryz.prog k heldI b n D) : w.ownsMap Tryz.prog k heldI b (Maps.size D) D := by
 have hs : ∀ es c, w.heap[b]? = some (.map es c) -> True := fun _ _ _ => trivial
 obtain ⟨es, c, hb, F, _, rfl⟩ := h
 refine ⟨es, c, hb, F, ?_, rfl⟩
 simp [Maps.size, length_sorted]
theorem MapI.look {b : Nat} {f : Int -> Option Value} {w : World} {t e : TypeId} {z : Value} (h : MapI b f w) (ht : Tryz.prog.underlying t = some (.map 3 e)) (hz : (zeroValue e).run Tryz.prog w = .ok z w) {k : Int} (hk : WfI k) :
  (Instr.lookup t (.map (some b)) (.int .i64 k) false).run Tryz.prog w = .ok ((f k).getD z) w := by
 obtain ⟨D, h1, _, _, _, _, h3⟩ := h
 obtain ⟨v, ps, hrun, hv⟩ := h1.lookup mapKeyedI ht hz (zd := .held z) (zp := []) rfl (keyOf_int_mk Tryz.underlying3 hk)
 have e1 := heldI_inv hv
 rw [h3] at e1
 rw [hrun]
 cases hf : f k with
 | none => rw [hf] at e1; cases e1; rfl
 | some u => rw [hf] at e1; cases e1; rfl
theorem MapI.look_ok {b : Nat} {f : Int -> Option Value} {w : World} {t e : TypeId} {z : Value} (h : MapI b f w) (ht : Tryz.prog.underlying t = some (.map 3 e)) (hz : (zeroValue e).run Tryz.prog w = .ok z w) {k : Int} (hk : WfI k) :
  (Instr.lookup t (.map (some b)) (.int .i64 k) true).run Tryz.prog w = .ok (.tuple #[(f k).getD z, .bool (f k).isSome]) w := by
 obtain ⟨D, h1, hD⟩ := h
 obtain ⟨v, ps, hrun, hv⟩ := h1.look_ok mapKeyedI ht hz (zd := .held z) (zp := []) rfl (keyOf_int_mk Tryz.underlying3 hk)
 have e1 := heldI_inv hv
 have hh := hD.has k
 obtain ⟨_, _, _, _, h3⟩ := hD
 rw [h3] at e1
 rw [hrun, hh]
 cases hf : f k with
 | none => rw [hf] at e1; cases e1; rfl
 | some u => rw [hf] at e1; cases e1; rfl
theorem MapI.put {b : Nat} {f : Int -> Option Value} {w : World} {t e : TypeId} (h : MapI b f w) (ht : Tryz.prog.underlying t = some (.map 3 e)) {k : Int} (hk : WfI k) (v : Value) {l : List Int} (hl : ∀ k, (f k).isSome = true -> k ∈ l) (hn : l.length <= 1000000) :
  ∃ w', (Instr.mapUpdate t (.map (some b)) (.int .i64 k) v).run Tryz.prog w = .ok () w' /\ MapI b (fun j => if j = k then some v else f j) w' /\ w.mapTurned w' b := by
 obtain ⟨D, h1, hD⟩ := h
 have hsz := hD.most hl
 obtain ⟨w', hrun, hown, hg⟩ := h1.store mapKeyedI ht (by unfold maxLen; omega) (keyOf_int_mk Tryz.underlying3 hk) (show heldI v = some (.held v, []) from rfl)
 exact ⟨w', hrun, ⟨_, owns_tight hown, hD.put k v⟩, hg⟩
theorem MapI.drop {b : Nat} {f : Int -> Option Value} {w : World} {t e : TypeId} (h : MapI b f w) (ht : Tryz.prog.underlying t = some (.map 3 e)) {k : Int} (hk : WfI k) (ty : TypeId) :
  ∃ w', (Builtin.delete_ #[t, 3] ty #[.map (some b), .int .i64 k]).run Tryz.prog w = .ok (.tuple #[]) w' /\ MapI b (fun j => if j = k then none else f j) w' /\ w.mapTurned w' b := by
 obtain ⟨D, h1, hD⟩ := h
 obtain ⟨w', hrun, hown, hg⟩ := h1.drop mapKeyedI ht (keyOf_int_mk Tryz.underlying3 hk) ty
 exact ⟨w', hrun, ⟨_, owns_tight hown, hD.del k⟩, hg⟩
theorem MapI.len {b : Nat} {f : Int -> Option Value} {w : World} {t e : TypeId} (h : MapI b f w) (ht : Tryz.prog.underlying t = some (.map 3 e)) (ty : TypeId) {l : List Int} (hl : l.Nodup) (hm : ∀ k, k ∈ l ↔ (f k).isSome = true) :
  (Builtin.len_ #[t] ty #[.map (some b)]).run Tryz.prog w = .ok (.int .i64 l.length) w := by
 obtain ⟨D, h1, hD⟩ := h
 rw [h1.len ht ty, hD.count hl hm]
end Go.Proofs.YtafilaiinbggoaaGreat
namespace Go.Proofs.YtafilaiinbggoaaGreat
open Go.RowKit Go.Maps Go.WideMaps
set_option maxHeartbeats 400000 in
theorem disk_new (n : Int) (w : World) (h0 : 0 <= n) (h1 : n <= 60000) :
  Calls Tryz.prog 11 #[.int .i64 n] w fun e w' => e = .returned (.pointer (some ⟨w.heap.size+2, 0, none⟩)) /\
   w' = ((w.alloc (.map #[] 0)).alloc (.map #[] 0)).alloc (.cells #[.int .i64 n, .map (some w.heap.size), .map (some (w.heap.size + 1)), .slice none 0 0, .int .i64 (-1), .bool false, .int .i64 0, .int .i64 0, .int .i64 0] 90) := by
 have hmm := @run_makeMap Tryz.prog
 have e1 : (if n < 0 then (0 : Int) else n) = n := if_neg (by omega)
 have e2 : min (max n 0) 65536 = n := by omega
 go_enter Tryz.func11, Tryz.ntmps11
 go_wp2
 go_ret
 exact ⟨rfl, rfl⟩
def DBox (w : World) (db : Nat) (size : Int) (nb lb : Nat) (pend : Value) (a0 a1 a2 : Int) : Prop :=
 w.heap[db]? = some (.cells #[.int .i64 size, .map (some nb), .map (some lb), pend, .int .i64 (-1), .bool false, .int .i64 a0, .int .i64 a1, .int .i64 a2] 90 (0, 0))
theorem DBox.cell {w : World} {db : Nat} {size : Int} {nb lb : Nat} {pend : Value} {a0 a1 a2 : Int} (h : DBox w db size nb lb pend a0 a1 a2) :
  w.cell? ⟨db, 0, none⟩ = some (.int .i64 size) /\ w.cell? ⟨db, 1, none⟩ = some (.map (some nb)) /\ w.cell? ⟨db, 3, none⟩ = some pend /\ w.cell? ⟨db, 4, none⟩ = some (.int .i64 (-1)) /\ w.cell? ⟨db, 5, none⟩ = some (.bool false) /\ w.cell? ⟨db, 6, none⟩ = some (.int .i64 a0) /\ w.cell? ⟨db, 7, none⟩ = some (.int .i64 a1) /\ w.cell? ⟨db, 8, none⟩ = some (.int .i64 a2) := by
 unfold DBox at h
 refine ⟨?_, ?_, ?_, ?_, ?_, ?_, ?_, ?_⟩ <;> simp [World.cell?, h]
theorem DBox.free {w : World} {db : Nat} {size : Int} {nb lb : Nat} {pend : Value} {a0 a1 a2 : Int} (h : DBox w db size nb lb pend a0 a1 a2) (i : Nat) : w.frozen? ⟨db, i, none⟩ = false := by
 unfold DBox at h
 simp [World.frozen?, h]
set_option maxHeartbeats 400000 in
theorem disk_size {w : World} {db : Nat} {size : Int} {nb lb : Nat} {pend : Value} {a0 a1 a2 : Int} (h : DBox w db size nb lb pend a0 a1 a2) :
  Calls Tryz.prog 27 #[.pointer (some ⟨db, 0, none⟩)] w fun e w' => e = .returned (.int .i64 size) /\ w = w' := by
 have hc := h.cell.1
 clear h
 go_enter Tryz.func27, Tryz.ntmps27
 go_wp2
 go_ret
 exact ⟨rfl, rfl⟩
set_option maxHeartbeats 400000 in
theorem disk_down {w : World} {db : Nat} {size : Int} {nb lb : Nat} {pend : Value} {a0 a1 a2 : Int} (h : DBox w db size nb lb pend a0 a1 a2) :
  Calls Tryz.prog 105 #[.pointer (some ⟨db, 0, none⟩)] w fun e w' => e = .returned (.bool false) /\ w = w' := by
 have hc := h.cell.2.2.2.2.1
 clear h
 go_enter Tryz.func105, Tryz.ntmps105
 go_wp2
 go_ret
 exact ⟨rfl, rfl⟩
set_option maxHeartbeats 400000 in
theorem disk_burn {w : World} {db : Nat} {size : Int} {nb lb : Nat} {pend : Value} {a0 a1 a2 : Int} (h : DBox w db size nb lb pend a0 a1 a2) :
  Calls Tryz.prog 132 #[.pointer (some ⟨db, 0, none⟩)] w fun e w' => e = .returned (.bool true) /\ w = w' := by
 have hc := h.cell.2.2.2.1
 clear h
 go_enter Tryz.func132, Tryz.ntmps132
 go_wp2
 go_ret
 exact ⟨rfl, rfl⟩
end Go.Proofs.YtafilaiinbggoaaGreat
namespace Go.Proofs.YtafilaiinbggoaaGreat
open Go.RowKit
set_option maxHeartbeats 1000000 in
set_option maxRecDepth 100000 in
theorem counter_add {w : World} {b i : Nat} {x : Int} (hc : w.cell? ⟨b, i, none⟩ = some (.int .i64 x)) (hz : w.frozen? ⟨b, i, none⟩ = false) :
  Calls Tryz.prog 106 #[.pointer (some ⟨b, i, none⟩), .int .i64 1] w fun e w' => ∃ y, e = .returned (.int .i64 y) /\ w' = w.setCell ⟨b, i, none⟩ (.int .i64 y) := by
 have HC := Lib.hid hc
 have HZ := Lib.hid hz
 clear hc hz
 go_enter Tryz.func106, Tryz.ntmps106
 go_wp2
 rw [run_call_add Tryz.func125 (by kernel_rfl) (by kernel_rfl) (by kernel_rfl) .i64 (by kernel_rfl) HC.out HZ.out (s := IntKind.i64.wrap (x + 1)) rfl]
 rw [Oper.upon_value]
 go_wp2
 go_ret
 exact ⟨_, rfl, rfl⟩
end Go.Proofs.YtafilaiinbggoaaGreat
namespace Go.Proofs.YtafilaiinbggoaaGreat
open Go.RowKit
def BytesAt (c : CF) (v : Value) (l : List UInt8) : Prop :=
 ∃ a cap, v = .slice a l.length cap /\ l.length <= 9223372036854775807 /\ ∀ (i : Nat) x, l[i]? = some x -> ∃ b off, a = some ⟨b, off, none⟩ /\ c b (off + i) = some (.int .u8 (x.toNat : Int))
theorem BytesAt.mono {c d : CF} {v : Value} {l : List UInt8} (h : BytesAt c v l) (hl : CLe c d) : BytesAt d v l := by
 obtain ⟨a, cap, hv, hm, hs⟩ := h
 refine ⟨a, cap, hv, hm, fun i s hi => ?_⟩
 obtain ⟨b, off, h2, h3⟩ := hs i s hi
 exact ⟨b, off, h2, hl _ _ _ h3⟩
theorem compareB_lex : ∀ l m : List UInt8, Lib.compareBytes l m = lexC l m
 | [], [] => rfl
 | [], _ :: _ => rfl
 | _ :: _, [] => rfl
 | a :: l, b :: m => by
  rw [Lib.compareBytes, lexC, compareB_lex l m]
  simp only [UInt8.lt_iff_toNat_lt]
theorem run_bytesB {P : Program} {w : World} {v : Value} {l : List UInt8} (h : BytesAt (cf w) v l) : (Extern.Bytes.bytesOf v).run P w = .ok ⟨l.toArray⟩ w := by
 obtain ⟨a, cap, rfl, _, hc⟩ := h
 have hxs : Lib.bytesOf (l.map fun x => (x.toNat : Int)) = l := by
  unfold Lib.bytesOf
  rw [List.map_map]
  conv => rhs; rw [<- List.map_id l]
  exact List.map_congr_left fun x _ => by simp
 cases a with
 | none =>
  have : l = [] := by
   cases l with
   | nil => rfl
   | cons x l => obtain ⟨b, off, e, _⟩ := hc 0 x rfl; cases e
  subst this
  rfl
 | some a =>
  have hl := Lib.run_loadBytesX (P := P) w (l.map fun x => (x.toNat : Int)) a .empty (fun j x hj => by
   rw [List.getElem?_map] at hj
   cases hx : l[j]? with
   | none => rw [hx] at hj; cases hj
   | some y =>
    rw [hx] at hj
    cases hj
    obtain ⟨b, off, e, hcell⟩ := hc j y hx
    cases e
    have e : (⟨b, off, Option.none⟩ : Addr).add j = ⟨b, off + j, Option.none⟩ := by unfold Addr.add; split <;> simp_all
    rw [e]
    exact hcell)
  rw [List.length_map, hxs] at hl
  show (Extern.Bytes.loadBytes a l.length .empty).run P w = _
  rw [hl]
  congr 1
  apply ByteArray.ext
  show (#[] : Array UInt8) ++ l.toArray = l.toArray
  simp
theorem run_compareB {P : Program} {w : World} {u v : Value} {l m : List UInt8} (hu : BytesAt (cf w) u l) (hv : BytesAt (cf w) v m) : (Extern.BytealgCompare.compare #[u, v]).run P w = .ok (.int .i64 (lexC l m)) w := by
 change Sem.run P (do pure (goInt (Extern.BytealgCompare.cmp (<- Extern.Bytes.bytesOf u) (<- Extern.Bytes.bytesOf v)))) w = _
 simp only [Sem.run_bind, run_bytesB hu, run_bytesB hv, Sem.run_pure, Result.andThen]
 rw [Lib.cmp_eq, compareB_lex]
 rfl
set_option maxHeartbeats 1000000 in
set_option maxRecDepth 100000 in
theorem CompareB_any (l m : List UInt8) (u v : Value) (w : World) (hu : BytesAt (cf w) u l) (hv : BytesAt (cf w) v m) :
  Calls Tryz.prog 60 #[u, v] w fun e w' => e = .returned (.int .i64 (lexC l m)) /\ w' = w := by
 have HU := Lib.hid hu
 have HV := Lib.hid hv
 clear hu hv
 go_enter Tryz.func60, Tryz.ntmps60
 go_wp2
 rw [run_callFunc_extern Tryz.func89 (by kernel_rfl) (by kernel_rfl) (by kernel_rfl) (e := Extern.BytealgCompare.compare) (by kernel_rfl), run_compareB HU.out HV.out]
 simp only [Result.andThen]
 rw [Oper.upon_value]
 go_wp2
 go_ret
 exact ⟨rfl, rfl⟩
end Go.Proofs.YtafilaiinbggoaaGreat
namespace Go.Proofs.YtafilaiinbggoaaGreat
open Go.RowKit
structure HoldT (p : Prop) : Prop where
 out : p
def RY : Rep UInt8 := fun _ x d => d = [.int .u8 (x.toNat : Int)]
theorem RY_mono : Mono RY := fun _ _ _ _ _ h => h
theorem RY_one : ∀ (c : CF) (x : UInt8) (d : List Value), RY c x d -> ∀ u ∈ d, u.oneCell' = true := fun _ _ _ h u hu => by rw [h] at hu; simp at hu; rw [hu]; rfl
def RI : Rep Int := fun _ x d => d = [.int .i64 x]
theorem RI_mono : Mono RI := fun _ _ _ _ _ h => h
theorem RI_one : ∀ (c : CF) (x : Int) (d : List Value), RI c x d -> ∀ u ∈ d, u.oneCell' = true := fun _ _ _ h u hu => by rw [h] at hu; simp at hu; rw [hu]; rfl
def ClonePost {α : Type} (n : Nat) (R : Rep α) (T : TypeId) (c : CF) (xs : List α) (w : World) (e : Ending) (w' : World) : Prop := ∃ sv cs, e = .returned sv /\ w'.ownsRow w.heap.size T n sv xs.length cs /\ GRow n R c xs cs /\ Below w.heap.size w w'
theorem clone_post {α : Type} {n : Nat} {R : Rep α} {T : TypeId} {c : CF} {xs : List α} {w w' : World} {sv : Value} {cs : List Value} (hown : w'.ownsRow w.heap.size T n sv xs.length cs) (hg : GRow n R c xs cs) (hb : Below w.heap.size w w') : ClonePost n R T c xs w (.returned sv) w' :=
 ⟨sv, cs, rfl, hown, hg, hb⟩
theorem infoY : (Tryz.prog.info? 5).map (fun i => (i.zero, i.size, i.bytes)) = some (some (.int .u8 0), 1, 1) := by kernel_rfl
set_option maxRecDepth 100000 in
set_option maxHeartbeats 8000000 in
theorem cloneY_any (xs : List UInt8) (sv : Value) (c : CF) (w : World) (hcl : CLe c (cf w)) (hl : SAt 1 RY c sv xs) (hlen : xs.length <= 1000000) :
  Calls Tryz.prog 29 #[sv] w (ClonePost 1 RY 5 c xs w) := by
 obtain ⟨i0, hi, hz0, hz1, hz2⟩ := info_parts infoY
 have HI := HoldT.mk (And.intro hi (And.intro hz0 (And.intro hz1 hz2)))
 have HLEN := HoldT.mk hlen
 have q22 : ∀ (w : World) (a : Option Addr) (n c n' c' : Nat), (binOp .eql 23 (.slice a n c) (.slice none n' c')).run Tryz.prog w = .ok (.bool a.isNone) w := fun w a n c n' c' => Lib.run_eql_slice_nil w _ _ a n c n' c' Tryz.underlying23
 clear hi hz0 hz1 hz2 hlen
 by_cases h0 : 0 < xs.length
 ·obtain ⟨b, off, cap, news, rfl, hg, hc, ho⟩ := sat_cells RY_one hl h0
  have HG := HoldT.mk hg
  have HGL := HoldT.mk hg.1
  have HC : HoldT (∀ (j : Nat) u, news[j]? = some u -> (w.alloc (.cells #[] 5)).cell? (Addr.add ⟨b, off, none⟩ j) = some u) := ⟨fun j u hu => by
   have h := hcl _ _ _ (hc j u hu)
   unfold cf at h
   have e : Addr.add ⟨b, off, none⟩ j = ⟨b, off + j, none⟩ := by unfold Addr.add; split <;> simp_all
   rw [e]; exact Lib.cell?_alloc_some _ h⟩
  have H1 := HoldT.mk ho
  clear hg hc ho hl
  go_enter Tryz.func29, Tryz.ntmps29
  go_wp2_with (at_builtin; refine wpList_append_own _ rfl _ _ 23 rfl w.heap.size 5 i0 (.int .u8 0) 1 1 Tryz.underlying23 HI.out.1 HI.out.2.1 HI.out.2.2.1 HI.out.2.2.2 rfl (by decide) _ _ _ rfl (World.ownsRow_made w #[] 0 (Nat.le_refl _) (Nat.zero_le _) (by simp)) ⟨b, off, none⟩ xs.length cap news rfl ?qc1 ?qc2 ?qc3 ?qc4 ?qc5 ?qc6 ?_)
  case qc1 => exact HGL.out
  case qc2 => exact HC.out
  case qc3 => exact H1.out
  case qc4 => have := HLEN.out; unfold maxLen; omega
  case qc5 => have := HLEN.out; omega
  case qc6 => simp
  intro v' w1 hown hgrow hnil
  have hb := ((Below.refl _ w).alloc (Nat.le_refl _) (.cells #[] 5)).grown hgrow (by simp) (by intro k hk; simp [Value.ownBlock] at hk; omega)
  have HP : HoldT (ClonePost 1 RY 5 c xs w (.returned v') w1) := ⟨clone_post (by simpa using hown) HG.out hb⟩
  clear hown hgrow hb
  go_wp2_with fail
  go_ret
  exact HP.out
 ·obtain rfl : xs = [] := List.length_eq_zero_iff.1 (by omega)
  obtain ⟨a, cap, rfl, hle, _⟩ := hl
  have HP0 : HoldT (ClonePost 1 RY 5 c ([] : List UInt8) w (.returned (.slice none 0 0)) w) := ⟨clone_post (World.ownsRow_nil _ _ _ _) (GRow.nil _ _ _) (Below.refl _ _)⟩
  cases a with
  | none =>
   go_enter Tryz.func29, Tryz.ntmps29
   go_wp2_with fail
   go_ret
   exact HP0.out
  | some a =>
   go_enter Tryz.func29, Tryz.ntmps29
   go_wp2_with (at_builtin; refine wpList_append_own _ rfl _ _ 23 rfl w.heap.size 5 i0 (.int .u8 0) 1 1 Tryz.underlying23 HI.out.1 HI.out.2.1 HI.out.2.2.1 HI.out.2.2.2 rfl (by decide) _ _ _ rfl (World.ownsRow_made w #[] 0 (Nat.le_refl _) (Nat.zero_le _) (by simp)) a 0 cap [] rfl ?qc1 ?qc2 ?qc3 ?qc4 ?qc5 ?qc6 ?_)
   case qc1 => rfl
   case qc2 => intro j u hj; simp at hj
   case qc3 => intro u hu; simp at hu
   case qc4 => unfold maxLen; omega
   case qc5 => omega
   case qc6 => simp
   intro v' w1 hown hgrow hnil
   have hb := ((Below.refl _ w).alloc (Nat.le_refl _) (.cells #[] 5)).grown hgrow (by simp) (by intro k hk; simp [Value.ownBlock] at hk; omega)
   have HP : HoldT (ClonePost 1 RY 5 c ([] : List UInt8) w (.returned v') w1) := ⟨clone_post (by simpa using hown) (GRow.nil _ _ _) hb⟩
   clear hown hgrow hb
   go_wp2_with fail
   go_ret
   exact HP.out
theorem infoI : (Tryz.prog.info? 3).map (fun i => (i.zero, i.size, i.bytes)) = some (some (.int .i64 0), 1, 8) := by kernel_rfl
set_option maxRecDepth 100000 in
set_option maxHeartbeats 8000000 in
theorem cloneI_any (xs : List Int) (sv : Value) (c : CF) (w : World) (hcl : CLe c (cf w)) (hl : SAt 1 RI c sv xs) (hlen : xs.length <= 1000000) :
  Calls Tryz.prog 99 #[sv] w (ClonePost 1 RI 3 c xs w) := by
 obtain ⟨i0, hi, hz0, hz1, hz2⟩ := info_parts infoI
 have HI := HoldT.mk (And.intro hi (And.intro hz0 (And.intro hz1 hz2)))
 have HLEN := HoldT.mk hlen
 have q22 : ∀ (w : World) (a : Option Addr) (n c n' c' : Nat), (binOp .eql 91 (.slice a n c) (.slice none n' c')).run Tryz.prog w = .ok (.bool a.isNone) w := fun w a n c n' c' => Lib.run_eql_slice_nil w _ _ a n c n' c' Tryz.underlying91
 clear hi hz0 hz1 hz2 hlen
 by_cases h0 : 0 < xs.length
 ·obtain ⟨b, off, cap, news, rfl, hg, hc, ho⟩ := sat_cells RI_one hl h0
  have HG := HoldT.mk hg
  have HGL := HoldT.mk hg.1
  have HC : HoldT (∀ (j : Nat) u, news[j]? = some u -> (w.alloc (.cells #[] 3)).cell? (Addr.add ⟨b, off, none⟩ j) = some u) := ⟨fun j u hu => by
   have h := hcl _ _ _ (hc j u hu)
   unfold cf at h
   have e : Addr.add ⟨b, off, none⟩ j = ⟨b, off + j, none⟩ := by unfold Addr.add; split <;> simp_all
   rw [e]; exact Lib.cell?_alloc_some _ h⟩
  have H1 := HoldT.mk ho
  clear hg hc ho hl
  go_enter Tryz.func99, Tryz.ntmps99
  go_wp2_with (at_builtin; refine wpList_append_own _ rfl _ _ 91 rfl w.heap.size 3 i0 (.int .i64 0) 1 8 Tryz.underlying91 HI.out.1 HI.out.2.1 HI.out.2.2.1 HI.out.2.2.2 rfl (by decide) _ _ _ rfl (World.ownsRow_made w #[] 0 (Nat.le_refl _) (Nat.zero_le _) (by simp)) ⟨b, off, none⟩ xs.length cap news rfl ?qc1 ?qc2 ?qc3 ?qc4 ?qc5 ?qc6 ?_)
  case qc1 => exact HGL.out
  case qc2 => exact HC.out
  case qc3 => exact H1.out
  case qc4 => have := HLEN.out; unfold maxLen; omega
  case qc5 => have := HLEN.out; omega
  case qc6 => simp
  intro v' w1 hown hgrow hnil
  have hb := ((Below.refl _ w).alloc (Nat.le_refl _) (.cells #[] 3)).grown hgrow (by simp) (by intro k hk; simp [Value.ownBlock] at hk; omega)
  have HP : HoldT (ClonePost 1 RI 3 c xs w (.returned v') w1) := ⟨clone_post (by simpa using hown) HG.out hb⟩
  clear hown hgrow hb
  go_wp2_with fail
  go_ret
  exact HP.out
 ·obtain rfl : xs = [] := List.length_eq_zero_iff.1 (by omega)
  obtain ⟨a, cap, rfl, hle, _⟩ := hl
  have HP0 : HoldT (ClonePost 1 RI 3 c ([] : List Int) w (.returned (.slice none 0 0)) w) := ⟨clone_post (World.ownsRow_nil _ _ _ _) (GRow.nil _ _ _) (Below.refl _ _)⟩
  cases a with
  | none =>
   go_enter Tryz.func99, Tryz.ntmps99
   go_wp2_with fail
   go_ret
   exact HP0.out
  | some a =>
   go_enter Tryz.func99, Tryz.ntmps99
   go_wp2_with (at_builtin; refine wpList_append_own _ rfl _ _ 91 rfl w.heap.size 3 i0 (.int .i64 0) 1 8 Tryz.underlying91 HI.out.1 HI.out.2.1 HI.out.2.2.1 HI.out.2.2.2 rfl (by decide) _ _ _ rfl (World.ownsRow_made w #[] 0 (Nat.le_refl _) (Nat.zero_le _) (by simp)) a 0 cap [] rfl ?qc1 ?qc2 ?qc3 ?qc4 ?qc5 ?qc6 ?_)
   case qc1 => rfl
   case qc2 => intro j u hj; simp at hj
   case qc3 => intro u hu; simp at hu
   case qc4 => unfold maxLen; omega
   case qc5 => omega
   case qc6 => simp
   intro v' w1 hown hgrow hnil
   have hb := ((Below.refl _ w).alloc (Nat.le_refl _) (.cells #[] 3)).grown hgrow (by simp) (by intro k hk; simp [Value.ownBlock] at hk; omega)
   have HP : HoldT (ClonePost 1 RI 3 c ([] : List Int) w (.returned v') w1) := ⟨clone_post (by simpa using hown) (GRow.nil _ _ _) hb⟩
   clear hown hgrow hb
   go_wp2_with fail
   go_ret
   exact HP.out
end Go.Proofs.YtafilaiinbggoaaGreat
