/- A slice of anything that comes in, opened. -/
import Derived.Test.YtcmfanfkcbjeoaaGreatDoorOW
import Derived.Test.YtcmfanfkcbjeoaaGreatDoorJOpen
namespace Go.Proofs.YtcmfanfkcbjeoaaGreatDoor
open Go.ChangeShapes Go.WideShapes Go.ChangeAt Go.RowKit

theorem slice_of_trod {α : Type} {n : Nat} {R : Rep α} {T Ts : TypeId} (hTs : Tryz.prog.underlying Ts = some (.slice T)) (hc : Tryz.prog.cellsOf T = n) (hn : 0 < n) {H : Type} {enc : TypeId × Value → H} {W : World}
    (hel : ∀ fuel cs x, DataW.trod enc Tryz.prog W 0 (fun _ => true) true fuel T cs = some x → cs.length = n → ∃ e : α, R (cf W) e cs) {fuel : Nat} {c : Value} {x : DataW H × List MemPlace}
    (h : DataW.trod enc Tryz.prog W 0 (fun _ => true) true fuel Ts [c] = some x) : ∃ l : List α, SAt n R (cf W) c l := by
  rcases DataW.trod_slice hTs h with ⟨hcs, _⟩ | ⟨a, len, cap, elems, rest, n', hn', hcs, _, _, hl, hm, hle, hel2, _⟩
  · cases hcs
    exact ⟨[], SAt.none _ _ _⟩
  · cases hcs
    have hx : ∀ i, i < len → ∃ p : Option (α × List Value), ∃ e d, p = some (e, d) ∧ d.length = n ∧ (∀ (j : Nat) u, d[j]? = some u → W.cell? (a.add (i * n + j)) = some u) ∧ R (cf W) e d := by
      intro i hil
      have h1 := hel2 i hil
      rw [List.getElem?_eq_getElem (by omega), Option.bind_eq_some_iff] at h1
      obtain ⟨cs', hc', ht⟩ := h1
      rw [hc] at hc'
      obtain ⟨_, hcl, hat⟩ := World.cells?_some hc'
      obtain ⟨e, he⟩ := hel _ _ _ ht hcl
      refine ⟨some (e, cs'), e, cs', rfl, hcl, fun j u hu => ?_, he⟩
      have hj : j < n := by rw [← hcl]; exact (List.getElem?_eq_some_iff.1 hu).1
      have := hat j hj
      rw [hu] at this
      simpa [Go.Deep.add_add] using this
    obtain ⟨f, hf⟩ := Go.Deep.choose_lt hx
    have hget : ∀ i, i < len → ∃ e d, f i = some (e, d) ∧ d.length = n ∧ (∀ (j : Nat) u, d[j]? = some u → W.cell? (a.add (i * n + j)) = some u) ∧ R (cf W) e d := hf
    have hlist : ∀ m, m ≤ len → ∃ l : List α, l.length = m ∧ ∀ i e, l[i]? = some e → ∃ d, f i = some (e, d) := by
      intro m
      induction m with
      | zero => intro _; exact ⟨[], rfl, fun i e h => by simp at h⟩
      | succ m ih =>
        intro hm2
        obtain ⟨l, hl1, hl2⟩ := ih (by omega)
        obtain ⟨e, d, hfe, _⟩ := hget m (by omega)
        refine ⟨l ++ [e], by simp [hl1], fun i y hy => ?_⟩
        by_cases hi : i < l.length
        · rw [List.getElem?_append_left hi] at hy; exact hl2 i y hy
        · rw [List.getElem?_append_right (by omega)] at hy
          cases he : i - l.length with
          | zero => rw [he] at hy; obtain rfl : e = y := by simpa using hy
                    exact ⟨d, by rw [show i = m by omega]; exact hfe⟩
          | succ q => rw [he] at hy; simp at hy
    obtain ⟨l, hl1, hl2⟩ := hlist len (Nat.le_refl _)
    refine ⟨l, some a, cap, by rw [hl1], by omega, by unfold maxLen at hm; omega, fun i e he => ?_⟩
    have hil : i < len := by rw [← hl1]; exact (List.getElem?_eq_some_iff.1 he).1
    obtain ⟨e2, d, h1, h2, h3, h4⟩ := hget i hil
    obtain ⟨d', h5⟩ := hl2 i e he
    rw [h1] at h5
    obtain ⟨rfl, rfl⟩ : e2 = e ∧ d = d' := by simpa using h5
    obtain ⟨b, off, spot⟩ := a
    obtain ⟨e0, d0, _, k2, k3, _⟩ := hget 0 (by omega)
    have hs := cell_spot ⟨_, by have := k3 0 _ (List.getElem?_eq_getElem (by omega : 0 < d0.length)); simpa using this⟩
    subst hs
    refine ⟨b, off, d, rfl, h2, fun j u hu => ?_, h4⟩
    have := h3 j u hu
    rw [addr_add] at this
    unfold cf; rw [Nat.add_assoc]; exact this
set_option maxRecDepth 100000 in
theorem slice_of_Trod {α : Type} {n : Nat} {R : Rep α} {T Ts : TypeId} (hTs : Tryz.prog.underlying Ts = some (.slice T)) (hc : Tryz.prog.cellsOf T = n) (hn : 0 < n) {H : Type} {enc : TypeId × Value → H} {W : World}
    (hel : ∀ fuel cs x, DataW.trod enc Tryz.prog W 0 (fun _ => true) true fuel T cs = some x → cs.length = n → ∃ e : α, R (cf W) e cs) {base : Nat} {v : Value} {d : DataW H} {p : List MemPlace} (hv : Value.okWide Tryz.prog W .any base Ts v)
    (h : DataW.Trod enc Tryz.prog W 0 (fun _ => true) true Ts v d p) : ∃ l : List α, SAt n R (cf W) v l := by
  obtain ⟨a, len, cap, rfl⟩ := okWide_slice hTs hv
  obtain ⟨fuel, hf⟩ := h
  exact slice_of_trod hTs hc hn hel (by simpa [Value.cells] using hf)

end Go.Proofs.YtcmfanfkcbjeoaaGreatDoor
