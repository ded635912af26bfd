/- Keys, plainly: the bytes of a formed value, and how many they may be. Keys of the program: bytes appended to a row of a call's own; append64, text. Keys of the program: put. -/
import Derived.Test.YticlnijkfclgcaaGreatDoorZ02
import Derived.Test.YticlnijkfclgcaaGreatDoorZ05
import Derived.Test.YticlnijkfclgcaaGreatDoorZ21
import Derived.Laws.Bits64
import Derived.Deep.AppendLies
namespace Go.Proofs.YticlnijkfclgcaaGreatDoor
open Go.RowKit

/-- eight bytes of a number, the highest ahead -/
def be64 (x : Nat) : List UInt8 := [(x / 72057594037927936).toUInt8, (x / 281474976710656).toUInt8, (x / 1099511627776).toUInt8, (x / 4294967296).toUInt8, (x / 16777216).toUInt8, (x / 65536).toUInt8, (x / 256).toUInt8, x.toUInt8]
theorem be64_len (x : Nat) : (be64 x).length = 8 := rfl
/-- bytes as cells -/
def bv (l : List UInt8) : List Value := l.map fun c => Value.int .u8 (c.toNat : Int)
theorem bv_len (l : List UInt8) : (bv l).length = l.length := by simp [bv]
theorem bv_app (l m : List UInt8) : bv (l ++ m) = bv l ++ bv m := by simp [bv]
theorem bv_get {l : List UInt8} {i : Nat} {c : UInt8} (h : l[i]? = some c) : (bv l)[i]? = some (.int .u8 (c.toNat : Int)) := by simp [bv, h]
theorem bv_one (l : List UInt8) : ∀ u ∈ bv l, u.oneCell' = true := fun u hu => by
  obtain ⟨c, _, rfl⟩ := List.mem_map.1 hu; rfl
/-- a row of bytes that a call owns, in a block from B on -/
structure BRow (B : Nat) (w : World) (sv : Value) (l : List UInt8) : Prop where
  own : w.ownsRow B 5 1 sv l.length (bv l)
  le : B ≤ w.heap.size
theorem BRow.alloc {B : Nat} {w : World} {sv : Value} {l : List UInt8} (h : BRow B w sv l) (o : Obj) : BRow B (w.alloc o) sv l := ⟨h.own.alloc o, by have := h.le; simp; omega⟩
theorem BRow.low {B : Nat} {w : World} {sv : Value} {l : List UInt8} (h : BRow B w sv l) : ∀ g, sv.ownBlock = some g → B ≤ g ∧ g < w.heap.size := h.own.lt
theorem BRow.empty (w : World) : BRow w.heap.size w (.slice none 0 0) [] := ⟨World.ownsRow_nil _ _ _ _, Nat.le_refl _⟩
theorem BRow.shape {B : Nat} {w : World} {sv : Value} {l : List UInt8} (h : BRow B w sv l) : ∃ a cap, sv = .slice a l.length cap ∧ l.length ≤ 9223372036854775807 := by
  rcases h.own.2 with ⟨hv, hn⟩ | ⟨g, cap, cur, hv, _, _, h1, h2, _⟩
  · exact ⟨_, _, by rw [hv, hn], by rw [hn]; omega⟩
  · exact ⟨_, _, hv, by unfold maxLen at h2; omega⟩
theorem BRow.below {B : Nat} {w w' : World} {sv s1 : Value} {l : List UInt8} (h : BRow B w sv l) (k : Grew w w' sv s1) : Below B w w' := k.below h.le fun g hg => (h.low g hg).1
theorem BRow.quiet {B : Nat} {w w' : World} {sv : Value} {l : List UInt8} (h : BRow B w sv l) (k : Below w.heap.size w w') : BRow B w' sv l :=
  ⟨h.own.kept (row := Option.none) ⟨k.os, k.tape, k.output, k.size, fun q hq _ => k.block q hq⟩ (by cases hv : sv.ownBlock <;> simp), Nat.le_trans h.le k.size⟩
end Go.Proofs.YticlnijkfclgcaaGreatDoor

namespace Go.Proofs.YticlnijkfclgcaaGreatDoor
open Go.RowKit

theorem infoB : (Tryz.prog.info? 5).map (fun i => (i.zero, i.size, i.bytes)) = some (some (.int .u8 0), 1, 1) := by kernel_rfl
/-- bytes that lie in the last block are appended -/
theorem wp_app_new {o : Oper} {a : Act} {K : Act → World → Prop} {Q : Exit → Act → World → Prop} (s x : Operand) (ho : o.op = .call { callee := .builtin .append, args := #[s, x], argTypes := #[29, 29] })
    (B : Nat) (w : World) (sv : Value) (l : List UInt8) (hb : BRow B w sv l) (hs : a.eval s = sv) (vs : Array Value) (m : List UInt8) (hvs : vs.toList = bv m) (H : Nat) (hx : a.eval x = .slice (some ⟨H, 0, none⟩) m.length m.length) (hH : w.heap.size = H) (hm : 0 < m.length) (hlen : l.length + m.length ≤ 140737488355328)
    (h : ∀ sv' w', BRow B w' sv' (l ++ m) → Grew w w' sv sv' → K (a.put o.dst sv') w') : o.wp Tryz.prog a (w.alloc (.cells vs 5)) K Q := by
  subst hH
  obtain ⟨i0, hi, hz0, hz1, hz2⟩ := info_parts infoB
  have hb2 := hb.alloc (.cells vs 5)
  refine wp_append_lies _ s x 29 ho B 5 i0 (.int .u8 0) 1 1 Tryz.underlying29 hi hz0 hz1 hz2 rfl (by decide) sv l.length (bv l) hs hb2.own ⟨w.heap.size, 0, none⟩ m.length m.length (bv m) hx (by rw [bv_len]; omega) ?_ (bv_one m) hm (by unfold maxLen; omega) (by omega) hb2.le _ rfl ?_
  · rw [← hvs]; exact World.news_of_block (heap_alloc_new w _)
  · intro g cap w' ho' hg hgg _
    refine h _ w' ⟨by rw [List.length_append, bv_app]; exact ho', Nat.le_trans hb2.le hg.size⟩ (((Grew.refl w sv).alloc _).trans ⟨hg, fun q hq => ?_⟩)
    obtain rfl : g = q := by simpa [Value.ownBlock] using hq
    rcases hgg with h1 | h1
    · exact .inl h1
    · exact .inr (by omega)
theorem app_new {ops : Array Oper} {rest : List Oper} {o : Oper} {a : Act} {Q : Exit → Act → World → Prop} (hgd : o.guard = none) (s x : Operand) (ho : o.op = .call { callee := .builtin .append, args := #[s, x], argTypes := #[29, 29] })
    (B : Nat) (w : World) (sv : Value) (l : List UInt8) (hb : BRow B w sv l) (hs : a.eval s = sv) (vs : Array Value) (m : List UInt8) (hvs : vs.toList = bv m) (H : Nat) (hx : a.eval x = .slice (some ⟨H, 0, none⟩) m.length m.length) (hH : w.heap.size = H) (hm : 0 < m.length) (hlen : l.length + m.length ≤ 140737488355328)
    (h : ∀ sv' w', BRow B w' sv' (l ++ m) → Grew w w' sv sv' → wpList Tryz.prog ops Q rest (a.put o.dst sv') w') : wpList Tryz.prog ops Q (o :: rest) a (w.alloc (.cells vs 5)) :=
  wpList_plain hgd fun _ hK => wp_app_new s x ho B w sv l hb hs vs m hvs H hx hH hm hlen fun sv' w' h1 h2 => hK _ _ (h sv' w' h1 h2)
/-- a row of bytes is handed back, longer -/
def PutPostK (B : Nat) (sv : Value) (l : List UInt8) (w : World) (e : Ending) (w' : World) : Prop := ∃ s1, e = .returned s1 ∧ BRow B w' s1 l ∧ Grew w w' sv s1
theorem be_get (x : Nat) {j : Nat} (h : j < 8) : (be64 x)[j]? = some (x / 2 ^ (56 - 8 * j)).toUInt8 := by
  match j, h with
  | 0, _ => rfl
  | 1, _ => rfl
  | 2, _ => rfl
  | 3, _ => rfl
  | 4, _ => rfl
  | 5, _ => rfl
  | 6, _ => rfl
  | 7, _ => simp [be64]
theorem be_cell (x j : Nat) : (((x / 2 ^ (56 - 8 * j)).toUInt8.toNat : Nat) : Int) = (x : Int) / 2 ^ (56 - 8 * j) % 256 := by
  have h : (x / 2 ^ (56 - 8 * j)).toUInt8.toNat = x / 2 ^ (56 - 8 * j) % 256 := by simp
  rw [h]; simp
end Go.Proofs.YticlnijkfclgcaaGreatDoor

namespace Go.Proofs.YticlnijkfclgcaaGreatDoor
open Go.RowKit

/-- where put stands: the row as it has grown, its own box -/
structure PutIn (B : Nat) (w wr : World) (s0 sv : Value) (box : Array Value) (l : List UInt8) : Prop where
  row : BRow B wr sv l
  grew : Grew (w.alloc (.cells box 58)) wr s0 sv
  low : ∀ g, s0.ownBlock = some g → g < w.heap.size
theorem PutIn.start {B : Nat} {w : World} {sv : Value} {l : List UInt8} (h : BRow B w sv l) (box : Array Value) : PutIn B w (w.alloc (.cells box 58)) sv sv box l := ⟨h.alloc _, Grew.refl _ _, fun g hg => (h.low g hg).2⟩
theorem PutIn.next {B : Nat} {w wr w2 : World} {s0 sv s2 : Value} {box : Array Value} {l l2 : List UInt8} (h : PutIn B w wr s0 sv box l) (hr : BRow B w2 s2 l2) (hg : Grew wr w2 sv s2) : PutIn B w w2 s0 s2 box l2 := ⟨hr, h.grew.trans hg, h.low⟩
theorem PutIn.alloc {B : Nat} {w wr : World} {s0 sv : Value} {box : Array Value} {l : List UInt8} (h : PutIn B w wr s0 sv box l) (o : Obj) : PutIn B w (wr.alloc o) s0 sv box l := ⟨h.row.alloc o, h.grew.alloc o, h.low⟩
theorem PutIn.drew {B : Nat} {w wr : World} {s0 sv : Value} {box : Array Value} {l : List UInt8} (h : PutIn B w wr s0 sv box l) : PutIn B w wr.drew s0 sv box l := ⟨⟨h.row.own, h.row.le⟩, h.grew.drew, h.low⟩
theorem PutIn.ne {B : Nat} {w wr : World} {s0 sv : Value} {box : Array Value} {l : List UInt8} (h : PutIn B w wr s0 sv box l) : ∀ g, sv.ownBlock = some g → w.heap.size ≠ g := fun g hg e => by
  rcases h.grew.own g hg with h1 | h1
  · have := h.low g h1; omega
  · simp at h1; omega
theorem PutIn.box {B : Nat} {w wr : World} {s0 sv : Value} {box : Array Value} {l : List UInt8} (h : PutIn B w wr s0 sv box l) : wr.heap[w.heap.size]? = some (.cells box 58 (0, 0)) :=
  h.grew.kept (heap_alloc_new w _) (fun g hg e => by have := h.low g hg; omega)
theorem PutIn.post {B : Nat} {w wr : World} {s0 sv : Value} {box : Array Value} {l : List UInt8} (h : PutIn B w wr s0 sv box l) : PutPostK B s0 l w (.returned sv) wr := ⟨sv, rfl, h.row, ((Grew.refl w s0).alloc _).trans h.grew⟩
end Go.Proofs.YticlnijkfclgcaaGreatDoor
