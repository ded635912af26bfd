/- Small things that both printers lean on. -/
import Derived.Test.YtfllnlmanopfaaaDoorPS
import Derived.IntWalk
namespace Go.Proofs.YtfllnlmanopfaaaDoor
open Go.RowKit

/-- a fact kept from the walk, and from whatever unfolds -/
structure Hold (p : Prop) : Prop where
  out : p

/-- a list of bytes as a string -/
def ba (l : List UInt8) : ByteArray := ⟨l.toArray⟩
theorem ba_list (l : List UInt8) : (ba l).data.toList = l := rfl
theorem ba_of {s : ByteArray} {l : List UInt8} (h : s.data.toList = l) : s = ba l := by
  subst h; cases s; rfl
theorem ba_add (l m : List UInt8) : ba l ++ ba m = ba (l ++ m) := ba_of (by rw [ByteArray.data_append]; simp [ba_list])
theorem ba_app (l : List UInt8) (a : Array UInt8) : ba l ++ (⟨a⟩ : ByteArray) = ba (l ++ a.toList) := ba_of (by rw [ByteArray.data_append]; simp [ba_list])
theorem app_ba (l : List UInt8) (a : Array UInt8) : (⟨a⟩ : ByteArray) ++ ba l = ba (a.toList ++ l) := ba_of (by rw [ByteArray.data_append]; simp [ba_list])
theorem ba_size (l : List UInt8) : (ba l).size = l.length := rfl
theorem itoa_size {n : Int} (h0 : -9223372036854775808 ≤ n) (h1 : n ≤ 9223372036854775807) : (ba (Lib.itoa n)).size ≤ 21 := by
  rw [ba_size]; exact Lib.itoa_length_le n h0 h1
theorem ret_str {a b : ByteArray} (h : a = b) : Ending.returned (.string a) = .returned (.string b) := by rw [h]

theorem byte_ne {c k : UInt8} (h : c ≠ k) : ((c.toNat : Int) == (k.toNat : Int)) = false := by
  rw [beq_eq_false_iff_ne]
  intro e
  exact h (UInt8.toNat_inj.1 (by omega))
theorem escF_else {c : UInt8} (n34 : c ≠ 34) (n92 : c ≠ 92) (n8 : c ≠ 8) (n9 : c ≠ 9) (n10 : c ≠ 10) (n12 : c ≠ 12) (n13 : c ≠ 13) :
    escF c = if c.toNat < 32 then [92, 117, 48, 48, hexD (c.toNat / 16), hexD (c.toNat % 16)] else [c] := by
  simp [escF, n34, n92, n8, n9, n10, n12, n13]
theorem hex_cut {q : Nat} (h : q < 16) : (⟨#[48, 49, 50, 51, 52, 53, 54, 55, 56, 57, 97, 98, 99, 100, 101, 102]⟩ : ByteArray).extract q (q + 1) = ⟨#[hexD q]⟩ := by
  have : ∀ q : Fin 16, (⟨#[48, 49, 50, 51, 52, 53, 54, 55, 56, 57, 97, 98, 99, 100, 101, 102]⟩ : ByteArray).extract q.val (q.val + 1) = ⟨#[hexD q.val]⟩ := by decide +kernel
  exact this ⟨q, h⟩
theorem run_hex {q : Nat} (h : q < 16) (w : World) : (Instr.slice 9 (.string ⟨#[48, 49, 50, 51, 52, 53, 54, 55, 56, 57, 97, 98, 99, 100, 101, 102]⟩) (some (.int .u8 (q : Int))) (some (.int .u8 ((q : Int) + 1))) none).run Tryd.prog w = .ok (.string ⟨#[hexD q]⟩) w := by
  rw [run_slice_string w 9 _ .u8 .u8 _ _ Tryd.underlying9 (by omega) (by omega) (by simp [ByteArray.size]; omega), ← hex_cut h]
  congr 3
theorem wrap_div (c : UInt8) : IntKind.u8.wrap ((c.toNat : Int) / 16) = ((c.toNat / 16 : Nat) : Int) := by
  have := c.toNat_lt
  rw [show ((c.toNat : Int) / 16) = ((c.toNat / 16 : Nat) : Int) by omega]
  simp [IntKind.wrap, IntKind.bits]; omega
theorem tmod_byte (c : UInt8) : (c.toNat : Int).tmod 16 = ((c.toNat % 16 : Nat) : Int) := by
  rw [Int.tmod_eq_emod_of_nonneg (by omega)]; omega
theorem wrap_add (q : Nat) (h : q < 255) : IntKind.u8.wrap ((q : Int) + 1) = (q : Int) + 1 := by
  simp [IntKind.wrap, IntKind.bits, IntKind.signed]; omega
theorem low_data (q r : Nat) : ((⟨#[92, 117, 48, 48]⟩ : ByteArray) ++ (⟨#[hexD q]⟩ : ByteArray) ++ (⟨#[hexD r]⟩ : ByteArray)).data.toList = [92, 117, 48, 48, hexD q, hexD r] := by
  simp [ByteArray.data_append]

end Go.Proofs.YtfllnlmanopfaaaDoor
