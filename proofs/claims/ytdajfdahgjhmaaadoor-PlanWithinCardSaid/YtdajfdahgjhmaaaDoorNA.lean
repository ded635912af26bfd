/- Plans: bytes.Compare's entry at rows of bytes. -/
import Derived.Test.YtdajfdahgjhmaaaDoorKI
import Derived.Lib.Bytealg
import Derived.Lib.BytesEntry
namespace Go.Proofs.YtdajfdahgjhmaaaDoor
open Go.RowKit

theorem compareB_lex : ∀ l m : List UInt8, Lib.compareBytes l m = lexC l m
  | [], [] => rfl
  | [], _ :: _ => rfl
  | _ :: _, [] => rfl
  | a :: l, b :: m => by
    rw [Lib.compareBytes, lexC, compareB_lex l m]
    simp only [UInt8.lt_iff_toNat_lt]
theorem run_bytesB {P : Program} {w : World} {v : Value} {l : List UInt8} (h : BytesAt (cf w) v l) : (Extern.Bytes.bytesOf v).run P w = .ok ⟨l.toArray⟩ w := by
  obtain ⟨a, cap, rfl, _, hc⟩ := h
  have hxs : Lib.bytesOf (l.map fun x => (x.toNat : Int)) = l := by
    unfold Lib.bytesOf
    rw [List.map_map]
    conv => rhs; rw [← List.map_id l]
    exact List.map_congr_left fun x _ => by simp
  cases a with
  | none =>
    have : l = [] := by
      cases l with
      | nil => rfl
      | cons x l => obtain ⟨b, off, e, _⟩ := hc 0 x rfl; cases e
    subst this
    rfl
  | some a =>
    have hl := Lib.run_loadBytesX (P := P) w (l.map fun x => (x.toNat : Int)) a .empty (fun j x hj => by
      rw [List.getElem?_map] at hj
      cases hx : l[j]? with
      | none => rw [hx] at hj; cases hj
      | some y =>
        rw [hx] at hj
        cases hj
        obtain ⟨b, off, e, hcell⟩ := hc j y hx
        cases e
        have e : (⟨b, off, Option.none⟩ : Addr).add j = ⟨b, off + j, Option.none⟩ := by unfold Addr.add; split <;> simp_all
        rw [e]
        exact hcell)
    rw [List.length_map, hxs] at hl
    show (Extern.Bytes.loadBytes a l.length .empty).run P w = _
    rw [hl]
    congr 1
    apply ByteArray.ext
    show (#[] : Array UInt8) ++ l.toArray = l.toArray
    simp
theorem run_compareB {P : Program} {w : World} {u v : Value} {l m : List UInt8} (hu : BytesAt (cf w) u l) (hv : BytesAt (cf w) v m) : (Extern.BytealgCompare.compare #[u, v]).run P w = .ok (.int .i64 (lexC l m)) w := by
  change Sem.run P (do pure (goInt (Extern.BytealgCompare.cmp (← Extern.Bytes.bytesOf u) (← Extern.Bytes.bytesOf v)))) w = _
  simp only [Sem.run_bind, run_bytesB hu, run_bytesB hv, Sem.run_pure, Result.andThen]
  rw [Lib.cmp_eq, compareB_lex]
  rfl

end Go.Proofs.YtdajfdahgjhmaaaDoor
