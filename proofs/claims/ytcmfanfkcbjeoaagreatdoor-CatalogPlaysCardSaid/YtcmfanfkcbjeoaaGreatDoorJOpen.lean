/- A value that comes in, opened: what is read is a tree. -/
import Derived.Test.YtcmfanfkcbjeoaaGreatDoorJA
import Derived.ProofKit
import Derived.OpenShut
import Derived.Deep.Slices
import Derived.ChangeOld
namespace Go.Proofs.YtcmfanfkcbjeoaaGreatDoor
open Go.ChangeShapes Go.WideShapes Go.ChangeAt Go.RowKit

theorem addr_add (b off k : Nat) : (⟨b, off, none⟩ : Addr).add k = ⟨b, off + k, none⟩ := by
  unfold Addr.add; split <;> simp_all
theorem cell_spot {W : World} {b off : Nat} {spot} (h0 : ∃ u, W.cell? ((⟨b, off, spot⟩ : Addr).add 0) = some u) : spot = none := by
  obtain ⟨u, hu⟩ := h0
  have := World.cell?_spot hu; simpa [Addr.add] using this

theorem cells5_one : Tryz.prog.cellsOf 9 = 1 := by kernel_rfl
theorem cells5_val : Tryz.prog.cellsOf 25 = 5 := by kernel_rfl

instance : Inhabited JV := ⟨.mk 0 0 ⟨#[]⟩ [] []⟩

theorem list5 {α : Type} {l : List α} (h : l.length = 5) : ∃ a b c d e, l = [a, b, c, d, e] := by
  match l, h with
  | [a, b, c, d, e], _ => exact ⟨a, b, c, d, e, rfl⟩

theorem strs_of_trod {H : Type} {enc : TypeId × Value → H} {W : World} {fuel : Nat} {c : Value} {x : DataW H × List MemPlace}
    (h : DataW.trod enc Tryz.prog W 0 (fun _ => true) true fuel 22 [c] = some x) : ∃ nm, StrsAt (cf W) c nm := by
  rcases Go.Deep.open_slice1 Tryz.underlying22 cells5_one h with ⟨hcs, _⟩ | ⟨a, len, cap, m, n, V, D, Pl, hcs, _, hl, hm, hmm, _, hi⟩
  · cases hcs
    exact ⟨[], none, 0, rfl, by simp, fun i s h => by simp at h⟩
  · cases hcs
    have hm2 : m = cap := by simpa using hmm
    subst hm2
    have hel : ∀ i, i < len → ∃ s : ByteArray, W.cell? (a.add i) = some (.string s) ∧ s.size ≤ maxLen := by
      intro i hil
      obtain ⟨h1, h2⟩ := hi i (by omega)
      obtain ⟨s, e, _, hs⟩ := DataW.trod_string Tryz.underlying9 h2
      exact ⟨s, by rw [h1, (List.cons.inj e).1], hs⟩
    obtain ⟨f, hf⟩ := Go.Deep.choose_lt hel
    refine ⟨(List.range len).map f, some a, m, by simp, by unfold maxLen at hm; rw [List.length_map, List.length_range]; omega, fun i s hop => ?_⟩
    obtain ⟨hil, e⟩ : i < len ∧ f i = s := by
      rw [List.getElem?_map] at hop
      by_cases hil : i < len
      · rw [List.getElem?_range hil] at hop; exact ⟨hil, by simpa using hop⟩
      · rw [List.getElem?_eq_none (by simp; omega)] at hop; cases hop
    have h3 := hf i hil
    rw [e] at h3
    obtain ⟨b, off, spot⟩ := a
    have hs := cell_spot ⟨_, (hf 0 (by omega)).1⟩
    subst hs
    rw [addr_add] at h3
    exact ⟨by have := h3.2; unfold maxLen at this; omega, b, off, rfl, h3.1⟩

theorem json_of_trod {H : Type} {enc : TypeId × Value → H} {W : World} : ∀ (fuel : Nat) (cs : List Value) (x : DataW H × List MemPlace),
    DataW.trod enc Tryz.prog W 0 (fun _ => true) true fuel 25 cs = some x → ∃ v, JAt (cf W) v (.agg cs.toArray) := by
  intro fuel
  induction fuel using Nat.strongRecOn with
  | ind fuel ih =>
    intro cs x h
    obtain ⟨xs, n, hfu, _, hlen, hxl, hg⟩ := DataW.trod_struct Tryz.underlying25 h
    rw [cells5_val] at hlen
    have hK : Tryz.prog.cellsOf 3 = 1 := by kernel_rfl
    have hS : Tryz.prog.cellsOf 9 = 1 := by kernel_rfl
    have hNs : Tryz.prog.cellsOf 22 = 1 := by kernel_rfl
    have hVs : Tryz.prog.cellsOf 23 = 1 := by kernel_rfl
    obtain ⟨c0, c1, c2, c3, c4, rfl⟩ := list5 hlen
    obtain ⟨y0, y1, y2, y3, y4, rfl⟩ := list5 hxl
    have hN : Tryz.prog.cellsOf 2 = 1 := by kernel_rfl
    have g0 : DataW.trod enc Tryz.prog W 0 (fun _ => true) true n 3 [c0] = some y0 := by have := hg 0 _ rfl; simpa [hK] using this
    have g1 : DataW.trod enc Tryz.prog W 0 (fun _ => true) true n 2 [c1] = some y1 := by have := hg 1 _ rfl; simpa [hN] using this
    have g2 : DataW.trod enc Tryz.prog W 0 (fun _ => true) true n 9 [c2] = some y2 := by have := hg 2 _ rfl; simpa [hS] using this
    have g3 : DataW.trod enc Tryz.prog W 0 (fun _ => true) true n 22 [c3] = some y3 := by have := hg 3 _ rfl; simpa [hNs] using this
    have g4 : DataW.trod enc Tryz.prog W 0 (fun _ => true) true n 23 [c4] = some y4 := by have := hg 4 _ rfl; simpa [hVs] using this
    clear hg h
    obtain ⟨k, e0, _, wk⟩ := DataW.trod_int Tryz.underlying3 g0
    obtain ⟨nn, e1, _, wn⟩ := DataW.trod_int Tryz.underlying2 g1
    obtain ⟨t, e2, _, wt⟩ := DataW.trod_string Tryz.underlying9 g2
    obtain rfl := (List.cons.inj e0).1
    obtain rfl := (List.cons.inj e1).1
    obtain rfl := (List.cons.inj e2).1
    obtain ⟨nm, hs⟩ := strs_of_trod g3
    have wt2 : t.size ≤ 9223372036854775807 := by unfold maxLen at wt; omega
    clear g0 g1 g2 g3
    rcases DataW.trod_slice Tryz.underlying23 g4 with ⟨hcs, _⟩ | ⟨a, len, cap, elems, rest, n', hn', hcs, _, _, hl, hm, hle, hel, _⟩
    · obtain rfl := (List.cons.inj hcs).1
      exact ⟨.mk k nn t nm [], JAt.shut wk wn wt2 hs ⟨none, 0, rfl, by simp, fun i x h => by simp at h⟩⟩
    · obtain rfl := (List.cons.inj hcs).1
      have hx : ∀ i, i < len → ∃ p : JV × Value, JAt (cf W) p.1 p.2 ∧ ∃ d0 d1 d2 d3 d4, p.2 = .agg #[d0, d1, d2, d3, d4] ∧ W.cell? (a.add (i * 5)) = some d0 ∧ W.cell? (a.add (i * 5 + 1)) = some d1 ∧ W.cell? (a.add (i * 5 + 2)) = some d2 ∧ W.cell? (a.add (i * 5 + 3)) = some d3 ∧ W.cell? (a.add (i * 5 + 4)) = some d4 := by
        intro i hil
        have h1 := hel i hil
        rw [List.getElem?_eq_getElem (by omega), Option.bind_eq_some_iff] at h1
        obtain ⟨cs', hc, ht⟩ := h1
        rw [cells5_val] at hc
        obtain ⟨_, hcl, hat⟩ := World.cells?_some hc
        obtain ⟨v, hv⟩ := ih n' (by omega) cs' _ ht
        obtain ⟨d0, d1, d2, d3, d4, rfl⟩ := list5 hcl
        refine ⟨(v, .agg #[d0, d1, d2, d3, d4]), hv, d0, d1, d2, d3, d4, rfl, ?_, ?_, ?_, ?_, ?_⟩
        · have := hat 0 (by omega); simpa [Go.Deep.add_add] using this
        · have := hat 1 (by omega); simpa [Go.Deep.add_add] using this
        · have := hat 2 (by omega); simpa [Go.Deep.add_add] using this
        · have := hat 3 (by omega); simpa [Go.Deep.add_add] using this
        · have := hat 4 (by omega); simpa [Go.Deep.add_add] using this
      obtain ⟨f, hf⟩ := Go.Deep.choose_lt hx
      have hget : ∀ (i : Nat) v, ((List.range len).map fun i => (f i).1)[i]? = some v → i < len ∧ (f i).1 = v := by
        intro i v hop
        rw [List.getElem?_map] at hop
        by_cases hil : i < len
        · rw [List.getElem?_range hil] at hop; exact ⟨hil, by simpa using hop⟩
        · rw [List.getElem?_eq_none (by simp; omega)] at hop; cases hop
      have hj := JAt.mk (c := cf W) k nn t nm ((List.range len).map fun i => (f i).1) c3 (some a) cap (fun i => (f i).2) wk wn wt2 hs (by unfold maxLen at hm; rw [List.length_map, List.length_range]; omega) (fun i v hv => by
          obtain ⟨hil, _⟩ := hget i v hv
          obtain ⟨_, d0, d1, d2, d3, d4, e, h0, h1, h2, h3, h4⟩ := hf i hil
          obtain ⟨b, off, spot⟩ := a
          have hsp : spot = none := by
            obtain ⟨_, d0, d1, d2, d3, d4, e, h0, _⟩ := hf 0 (by omega)
            exact cell_spot ⟨d0, by simpa using h0⟩
          subst hsp
          rw [addr_add] at h0 h1 h2 h3 h4
          exact ⟨b, off, rfl, d0, d1, d2, d3, d4, e, h0, by rw [Nat.add_assoc]; exact h1, by rw [Nat.add_assoc]; exact h2, by rw [Nat.add_assoc]; exact h3, by rw [Nat.add_assoc]; exact h4⟩)
        (fun i v hv => by
          obtain ⟨hil, e⟩ := hget i v hv
          rw [← e]; exact (hf i hil).1)
      rw [List.length_map, List.length_range] at hj
      exact ⟨_, hj⟩

theorem okWide_agg {P : Program} {w : World} {r : Reach} {base : Nat} {t : TypeId} {v : Value} {fs : Array Field} (ht : P.underlying t = some (.struct fs)) (h : Value.okWide P w r base t v) : ∃ cs, v = .agg cs := by
  obtain ⟨cs, e, _⟩ := okWide_struct ht h
  exact ⟨cs, e⟩

set_option maxRecDepth 100000 in
theorem json_of_Trod {H : Type} {enc : TypeId × Value → H} {W : World} {base : Nat} {v : Value} {d : DataW H} {p : List MemPlace} (hv : Value.okWide Tryz.prog W .any base 25 v)
    (h : DataW.Trod enc Tryz.prog W 0 (fun _ => true) true 25 v d p) : ∃ t, JAt (cf W) t v := by
  have hv2 : ∃ cs, v = .agg cs := okWide_agg Tryz.underlying25 hv
  clear hv
  obtain ⟨cs, rfl⟩ := hv2
  obtain ⟨fuel, hf⟩ := h
  obtain ⟨t, ht⟩ := json_of_trod fuel _ _ hf
  exact ⟨t, by simpa [Value.cells] using ht⟩

end Go.Proofs.YtcmfanfkcbjeoaaGreatDoor
