/- Keys, plainly: the bytes of a formed value, and how many they may be. -/
import Derived.Test.YtfllnlmanopfaaaDoorPT
import Derived.Laws.Bits64
namespace Go.Proofs.YtfllnlmanopfaaaDoor
open Go.RowKit

/-- a text's bytes, each 0 followed by 255 -/
def escK (c : UInt8) : List UInt8 := if c = 0 then [0, 255] else [c]
def textK (s : List UInt8) : List UInt8 := s.flatMap escK ++ [0, 0]
/-- eight bytes of a number, the highest ahead -/
def be64 (x : Nat) : List UInt8 := [(x / 72057594037927936).toUInt8, (x / 281474976710656).toUInt8, (x / 1099511627776).toUInt8, (x / 4294967296).toUInt8, (x / 16777216).toUInt8, (x / 65536).toUInt8, (x / 256).toUInt8, x.toUInt8]
/-- a member's name, where it has one -/
def nameK (k : Int) (nm : List ByteArray) (j : Nat) : List UInt8 := if k = 6 then 1 :: textK (nm.getD j ⟨#[]⟩).data.toList else []
mutual
/-- the bytes of a value -/
def putF : JV → List UInt8
  | .mk k n t nm it => (k + 1).toNat.toUInt8 :: (if k = 3 then be64 (n + 9223372036854775808).toNat else if k = 4 then textK t.data.toList else if k = 5 ∨ k = 6 then membK k nm 0 it ++ [0] else [])
def membK : Int → List ByteArray → Nat → List JV → List UInt8
  | _, _, _, [] => []
  | k, nm, j, x :: it => nameK k nm j ++ (putF x ++ membK k nm (j + 1) it)
end
theorem membK_app (k : Int) (nm : List ByteArray) : ∀ (l m : List JV) (j : Nat), membK k nm j (l ++ m) = membK k nm j l ++ membK k nm (j + l.length) m
  | [], m, j => by simp [membK]
  | x :: l, m, j => by
    rw [List.cons_append, membK, membK, membK_app k nm l m (j + 1), List.length_cons]
    simp only [List.append_assoc]
    rw [show j + 1 + l.length = j + (l.length + 1) by omega]
theorem membK_step {k : Int} {nm : List ByteArray} {it : List JV} {j : Nat} {x : JV} (h : it[j]? = some x) : membK k nm 0 (it.take (j + 1)) = membK k nm 0 (it.take j) ++ (nameK k nm j ++ putF x) := by
  have hl : (it.take j).length = j := by
    obtain ⟨h1, _⟩ := List.getElem?_eq_some_iff.1 h
    rw [List.length_take]; omega
  rw [take_succ h, membK_app, hl, Nat.zero_add, membK, membK, List.append_nil]

theorem escK_len (c : UInt8) : (escK c).length ≤ 2 := by unfold escK; split <;> simp
theorem textK_len (s : List UInt8) : (textK s).length ≤ 2 * s.length + 2 := by
  unfold textK
  rw [List.length_append]
  have : ∀ l : List UInt8, (l.flatMap escK).length ≤ 2 * l.length := by
    intro l
    induction l with
    | nil => simp
    | cons c l ih => rw [List.flatMap_cons, List.length_append, List.length_cons]; have := escK_len c; omega
  have := this s
  simp only [List.length_cons, List.length_nil]; omega
theorem be64_len (x : Nat) : (be64 x).length = 8 := rfl

theorem xor_top {q : Nat} (h : q < 9223372036854775808) : q ^^^ 9223372036854775808 = q + 9223372036854775808 := by
  have e : (9223372036854775808 : Nat) = 2 ^ 63 := by decide
  rw [e] at h ⊢
  apply Nat.eq_of_testBit_eq
  intro i
  rw [Nat.testBit_xor, Nat.testBit_two_pow, Nat.add_comm]
  rcases Nat.lt_trichotomy i 63 with hi | hi | hi
  · rw [Nat.testBit_two_pow_add_gt hi]
    have : ¬ 63 = i := by omega
    simp [this]
  · subst hi
    rw [Nat.testBit_two_pow_add_eq, Nat.testBit_lt_two_pow h]; rfl
  · have h2 : 2 ^ 64 ≤ 2 ^ i := Nat.pow_le_pow_right (by decide) (by omega)
    rw [Nat.testBit_lt_two_pow (by omega), Nat.testBit_lt_two_pow (by omega)]
    have : ¬ 63 = i := by omega
    simp [this]
theorem flip_top {n : Int} (h0 : -9223372036854775808 ≤ n) (h1 : n ≤ 9223372036854775807) : bits BinOp.xor IntKind.u64 (IntKind.u64.wrap n) 9223372036854775808 = ((n + 9223372036854775808).toNat : Int) := by
  by_cases h : 0 ≤ n
  · obtain ⟨q, rfl⟩ := Int.eq_ofNat_of_zero_le h
    have e : IntKind.u64.wrap (q : Int) = (q : Int) := by simp [IntKind.wrap, IntKind.bits, IntKind.signed]; omega
    rw [e, show (9223372036854775808 : Int) = ((9223372036854775808 : Nat) : Int) from rfl, bits_xor_u64_nat _ _ (by omega) (by omega), xor_top (by omega)]
    omega
  · obtain ⟨q, hq⟩ : ∃ q : Nat, n + 9223372036854775808 = q := ⟨(n + 9223372036854775808).toNat, by omega⟩
    have e : IntKind.u64.wrap n = ((q + 9223372036854775808 : Nat) : Int) := by simp [IntKind.wrap, IntKind.bits, IntKind.signed]; omega
    rw [e, show (9223372036854775808 : Int) = ((9223372036854775808 : Nat) : Int) from rfl, bits_xor_u64_nat _ _ (by omega) (by omega), ← xor_top (by omega), Nat.xor_assoc, Nat.xor_self, Nat.xor_zero, show (((9223372036854775808 : Nat) : Int)) = 9223372036854775808 from rfl, hq]
    rfl

/-- how many bytes a key has -/
def keyB : Nat → Nat
  | 0 => 0
  | d + 1 => 200 + 24 * (keyB d + 200)
theorem nameK_len {k : Int} {nm : List ByteArray} {j : Nat} (hn : ∀ s ∈ nm, textF s = true) : (nameK k nm j).length ≤ 150 := by
  have h2 : (nm.getD j ⟨#[]⟩).size ≤ 60 := by
    rw [List.getD_eq_getElem?_getD]
    cases e : nm[j]? with
    | none => simp [ByteArray.size]
    | some s => exact text_size (hn s (List.mem_of_getElem? e))
  have h3 := textK_len (nm.getD j ⟨#[]⟩).data.toList
  rw [size_list] at h3
  unfold nameK
  split
  · rw [List.length_cons]; omega
  · exact Nat.zero_le _
theorem membK_len {k : Int} {nm : List ByteArray} {L : Nat} (hn : ∀ s ∈ nm, textF s = true) : ∀ (it : List JV) (j : Nat), (∀ x ∈ it, (putF x).length ≤ L) → (membK k nm j it).length ≤ it.length * (L + 200)
  | [], _, _ => by simp [membK]
  | x :: it, j, h => by
    have h1 := @nameK_len k nm j hn
    have h2 := h x (by simp)
    have h3 := membK_len (k := k) hn it (j + 1) (fun y hy => h y (by simp [hy]))
    rw [membK, List.length_append, List.length_append, List.length_cons, Nat.add_mul, Nat.one_mul]
    omega
theorem putF_len : ∀ (d : Nat) (v : JV), formedF d v = true → (putF v).length ≤ keyB d
  | 0, v, h => by simp [formedF] at h
  | d + 1, .mk k n t nm it, h => by
    have ht := text_size (formed_head h).2.2.2.2
    have h4 := textK_len t.data.toList
    rw [size_list] at h4
    have hp : ¬ k < 5 → (membK k nm 0 it).length ≤ 24 * (keyB d + 200) := fun hk => by
      obtain ⟨h24, _, hnm, hfi, _⟩ := formed_body h hk
      exact Nat.le_trans (membK_len hnm it 0 (fun x hx => putF_len d x (hfi x hx))) (Nat.mul_le_mul_right _ h24)
    rw [putF, keyB, List.length_cons]
    by_cases h3 : k = 3
    · rw [if_pos h3, be64_len]; omega
    rw [if_neg h3]
    by_cases hk4 : k = 4
    · rw [if_pos hk4]; omega
    rw [if_neg hk4]
    by_cases h5 : k = 5 ∨ k = 6
    · have := hp (by omega)
      rw [if_pos h5, List.length_append, List.length_singleton]; omega
    · rw [if_neg h5]; simp only [List.length_nil]; omega
theorem keyB_mono : ∀ d, keyB d ≤ keyB (d + 1)
  | 0 => by simp [keyB]
  | d + 1 => by have := keyB_mono d; rw [keyB, keyB]; omega
theorem keyB_six : keyB 6 ≤ 200000000000 := by decide
theorem keyB_le {d : Nat} (h : d ≤ 6) : keyB d ≤ 200000000000 := by
  have : ∀ n m, n ≤ m → keyB n ≤ keyB m := by
    intro n m hnm
    induction hnm with
    | refl => exact Nat.le_refl _
    | step _ ih => exact Nat.le_trans ih (keyB_mono _)
  exact Nat.le_trans (this d 6 h) keyB_six

/-- bytes as cells -/
def bv (l : List UInt8) : List Value := l.map fun c => Value.int .u8 (c.toNat : Int)
theorem bv_len (l : List UInt8) : (bv l).length = l.length := by simp [bv]
theorem bv_app (l m : List UInt8) : bv (l ++ m) = bv l ++ bv m := by simp [bv]
theorem bv_get {l : List UInt8} {i : Nat} {c : UInt8} (h : l[i]? = some c) : (bv l)[i]? = some (.int .u8 (c.toNat : Int)) := by simp [bv, h]
theorem bv_one (l : List UInt8) : ∀ u ∈ bv l, u.oneCell' = true := fun u hu => by
  obtain ⟨c, _, rfl⟩ := List.mem_map.1 hu; rfl

/-- a row of bytes that a call owns, in a block from B on -/
structure BRow (B : Nat) (w : World) (sv : Value) (l : List UInt8) : Prop where
  own : w.ownsRow B 5 1 sv l.length (bv l)
  le : B ≤ w.heap.size
theorem BRow.alloc {B : Nat} {w : World} {sv : Value} {l : List UInt8} (h : BRow B w sv l) (o : Obj) : BRow B (w.alloc o) sv l := ⟨h.own.alloc o, by have := h.le; simp; omega⟩
theorem BRow.low {B : Nat} {w : World} {sv : Value} {l : List UInt8} (h : BRow B w sv l) : ∀ g, sv.ownBlock = some g → B ≤ g ∧ g < w.heap.size := h.own.lt
theorem BRow.empty (w : World) : BRow w.heap.size w (.slice none 0 0) [] := ⟨World.ownsRow_nil _ _ _ _, Nat.le_refl _⟩
theorem BRow.shape {B : Nat} {w : World} {sv : Value} {l : List UInt8} (h : BRow B w sv l) : ∃ a cap, sv = .slice a l.length cap ∧ l.length ≤ 9223372036854775807 := by
  rcases h.own.2 with ⟨hv, hn⟩ | ⟨g, cap, cur, hv, _, _, h1, h2, _⟩
  · exact ⟨_, _, by rw [hv, hn], by rw [hn]; omega⟩
  · exact ⟨_, _, hv, by unfold maxLen at h2; omega⟩

/-- a row was handed on, perhaps into a new block; all else stands -/
structure Grew (w w' : World) (sv sv' : Value) : Prop where
  by_ : w.grownBy w' sv.ownBlock
  own : ∀ g, sv'.ownBlock = some g → sv.ownBlock = some g ∨ w.heap.size ≤ g
theorem Grew.refl (w : World) (sv : Value) : Grew w w sv sv := ⟨⟨rfl, rfl, rfl, Nat.le_refl _, fun _ _ _ => rfl⟩, fun _ h => .inl h⟩
theorem Grew.trans {w w1 w2 : World} {sv s1 s2 : Value} (h : Grew w w1 sv s1) (k : Grew w1 w2 s1 s2) : Grew w w2 sv s2 := by
  refine ⟨⟨k.by_.os.trans h.by_.os, k.by_.tape.trans h.by_.tape, k.by_.output.trans h.by_.output, Nat.le_trans h.by_.size k.by_.size, fun q hq hne => ?_⟩, fun g hg => ?_⟩
  · rw [k.by_.block q (Nat.lt_of_lt_of_le hq h.by_.size) (fun e => ?_)]
    · exact h.by_.block q hq hne
    · rcases h.own q e.symm with e1 | e1
      · exact hne e1.symm
      · omega
  · rcases k.own g hg with e1 | e1
    · exact h.own g e1
    · exact .inr (Nat.le_trans h.by_.size e1)
theorem Grew.alloc {w w' : World} {sv s1 : Value} (h : Grew w w' sv s1) (o : Obj) : Grew w (w'.alloc o) sv s1 := h.trans ⟨World.grownBy_alloc w' o _, fun _ h => .inl h⟩
theorem Grew.drew {w w' : World} {sv s1 : Value} (h : Grew w w' sv s1) : Grew w w'.drew sv s1 := h.trans ⟨⟨rfl, rfl, rfl, Nat.le_refl _, fun _ _ _ => rfl⟩, fun _ h => .inl h⟩
theorem Grew.quiet {w w' w2 : World} {sv s1 : Value} (h : Grew w w' sv s1) (k : Below w'.heap.size w' w2) : Grew w w2 sv s1 := h.trans ⟨⟨k.os, k.tape, k.output, k.size, fun q hq _ => k.block q hq⟩, fun _ h => .inl h⟩
theorem Grew.below {B : Nat} {w w' : World} {sv s1 : Value} (h : Grew w w' sv s1) (hB : B ≤ w.heap.size) (hg : ∀ g, sv.ownBlock = some g → B ≤ g) : Below B w w' := (Below.refl B w).grown h.by_ hB hg
theorem Grew.kept {w w' : World} {sv s1 : Value} {k : Nat} {o : Obj} (h : Grew w w' sv s1) (hk : w.heap[k]? = some o) (hne : ∀ g, sv.ownBlock = some g → k ≠ g) : w'.heap[k]? = some o := by
  rw [h.by_.block k (Array.getElem?_eq_some_iff.1 hk).1 (fun e => hne k e.symm rfl)]; exact hk
theorem BRow.below {B : Nat} {w w' : World} {sv s1 : Value} {l : List UInt8} (h : BRow B w sv l) (k : Grew w w' sv s1) : Below B w w' := k.below h.le fun g hg => (h.low g hg).1
theorem BRow.quiet {B : Nat} {w w' : World} {sv : Value} {l : List UInt8} (h : BRow B w sv l) (k : Below w.heap.size w w') : BRow B w' sv l :=
  ⟨h.own.kept (row := Option.none) ⟨k.os, k.tape, k.output, k.size, fun q hq _ => k.block q hq⟩ (by cases hv : sv.ownBlock <;> simp), Nat.le_trans h.le k.size⟩

end Go.Proofs.YtfllnlmanopfaaaDoor
