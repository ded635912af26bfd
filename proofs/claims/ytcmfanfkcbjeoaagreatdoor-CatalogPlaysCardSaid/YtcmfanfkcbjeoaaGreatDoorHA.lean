/- Maps of anything by texts, made by the call: what they hold, as a function. -/
import Derived.Test.YtcmfanfkcbjeoaaGreatDoorJA
import Derived.Maps.OwnSet
namespace Go.Proofs.YtcmfanfkcbjeoaaGreatDoor
open Go.RowKit Go.Maps Go.WideMaps

theorem mapKeyedV : Keyed Tryz.prog 9 := string_keyed Tryz.underlying9
/-- an element, as it is -/
def heldElem : Value → Option (DataW Value × List MemPlace) := fun v => some (.held v, [])
/-- block b is a map, of at most n entries, in which s leads to f s -/
def MapV (b n : Nat) (f : ByteArray → Option Value) (w : World) : Prop :=
  ∃ D : DataW Value, w.ownsMap Tryz.prog 9 heldElem b n D ∧ IsMap D ∧ ∀ (s : ByteArray) (zd : DataW Value), D.atKey (.string s.data.toList) zd = match f s with | some v => .held v | none => zd
theorem MapV.start (w : World) : MapV w.heap.size 0 (fun _ => none) (w.alloc (.map #[] 0)) := ⟨.map [], World.ownsMap_made _ _ _ _, isMap_empty, fun _ _ => rfl⟩
theorem MapV.lt {b n : Nat} {f : ByteArray → Option Value} {w : World} (h : MapV b n f w) : b < w.heap.size := by obtain ⟨D, h1, _⟩ := h; exact h1.lt
theorem MapV.kept {b n : Nat} {f : ByteArray → Option Value} {w w' : World} {row : Option Nat} (h : MapV b n f w) (k : w.grownBy w' row) (hne : some b ≠ row) : MapV b n f w' := by
  obtain ⟨D, h1, h2, h3⟩ := h
  exact ⟨D, h1.kept k hne, h2, h3⟩
theorem MapV.quiet {b n : Nat} {f : ByteArray → Option Value} {w w' : World} (h : MapV b n f w) (k : Below w.heap.size w w') : MapV b n f w' :=
  h.kept (row := none) ⟨k.os, k.tape, k.output, k.size, fun q hq _ => k.block q hq⟩ (by simp)
theorem MapV.drew {b n : Nat} {f : ByteArray → Option Value} {w : World} (h : MapV b n f w) : MapV b n f w.drew := by
  obtain ⟨D, h1, h2, h3⟩ := h
  exact ⟨D, h1.drew, h2, h3⟩
theorem heldElem_inv {v : Value} {d : DataW Value} {ps : List MemPlace} (h : heldElem v = some (d, ps)) : d = .held v := by
  unfold heldElem at h
  simp only [Option.some.injEq, Prod.mk.injEq] at h
  exact h.1.symm
theorem MapV.look {b n : Nat} {f : ByteArray → Option Value} {w : World} {t e : TypeId} {z : Value} (h : MapV b n f w) (ht : Tryz.prog.underlying t = some (.map 9 e)) (hz : (zeroValue e).run Tryz.prog w = .ok z w) (s : ByteArray) (hs : s.size ≤ 1000000) :
    (Instr.lookup t (.map (some b)) (.string s) false).run Tryz.prog w = .ok ((f s).getD z) w := by
  obtain ⟨D, h1, _, h3⟩ := h
  obtain ⟨v, ps, hrun, hv⟩ := h1.lookup mapKeyedV ht hz (zd := .held z) (zp := []) rfl (keyOf_string_mk Tryz.underlying9 (s := s) (by unfold maxLen; omega))
  have e1 := heldElem_inv hv
  rw [h3] at e1
  rw [hrun]
  cases hf : f s with
  | none => rw [hf] at e1; cases e1; rfl
  | some u => rw [hf] at e1; cases e1; rfl
theorem MapV.look_ok {b n : Nat} {f : ByteArray → Option Value} {w : World} {t e : TypeId} {z : Value} (h : MapV b n f w) (ht : Tryz.prog.underlying t = some (.map 9 e)) (hz : (zeroValue e).run Tryz.prog w = .ok z w) (s : ByteArray) (hs : s.size ≤ 1000000) :
    (Instr.lookup t (.map (some b)) (.string s) true).run Tryz.prog w = .ok (.tuple #[(f s).getD z, .bool (f s).isSome]) w := by
  obtain ⟨D, h1, _, h3⟩ := h
  obtain ⟨v, ps, hrun, hv⟩ := h1.look_ok mapKeyedV ht hz (zd := .held z) (zp := []) rfl (keyOf_string_mk Tryz.underlying9 (s := s) (by unfold maxLen; omega))
  have e1 := heldElem_inv hv
  rw [h3] at e1
  rw [hrun]
  cases hf : f s with
  | none =>
    rw [hf] at e1; cases e1
    rw [Maps.has_false_of_atKey (fun zd => by rw [h3, hf])]; rfl
  | some u =>
    rw [hf] at e1; cases e1
    rw [Maps.has_true_of_atKey (fun zd => by rw [h3, hf])]; rfl
theorem MapV.put {b n : Nat} {f : ByteArray → Option Value} {w : World} {t e : TypeId} (h : MapV b n f w) (ht : Tryz.prog.underlying t = some (.map 9 e)) (s : ByteArray) (hs : s.size ≤ 1000000) (v : Value) (hn : n ≤ 1000000) :
    ∃ w', (Instr.mapUpdate t (.map (some b)) (.string s) v).run Tryz.prog w = .ok () w' ∧ MapV b (n + 1) (fun k => if k = s then some v else f k) w' ∧ w.grownBy w' (some b) := by
  obtain ⟨D, h1, h2, h3⟩ := h
  obtain ⟨w', hrun, hown, hg⟩ := h1.update mapKeyedV ht (by unfold maxLen; omega) (keyOf_string_mk Tryz.underlying9 (s := s) (by unfold maxLen; omega)) (show heldElem v = some (.held v, []) from rfl)
  refine ⟨w', hrun, ⟨_, hown, h2.put _ _, fun k zd => ?_⟩, hg⟩
  by_cases e : k = s
  · subst e
    rw [atKey_put_same h2 (show WideAt.IsKeyLit (.string k.data.toList) from trivial)]
    simp
  · rw [atKey_put_other (fun e2 => e (by
      have := Lit.string.inj e2
      have := Array.toList_inj.1 this
      cases k; cases s; simp_all)), h3 k]
    simp [e]

end Go.Proofs.YtcmfanfkcbjeoaaGreatDoor
