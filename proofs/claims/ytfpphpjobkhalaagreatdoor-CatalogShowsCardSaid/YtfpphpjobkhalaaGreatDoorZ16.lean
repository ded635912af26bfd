/- A value that comes in, opened: what is read is a tree. -/
import Derived.Test.YtfpphpjobkhalaaGreatDoorZ01
import Derived.Test.YtfpphpjobkhalaaGreatDoorZ02
import Derived.Test.YtfpphpjobkhalaaGreatDoorZ13
import Derived.ProofKit
import Derived.OpenShut
import Derived.Deep.Slices
import Derived.ChangeOld
import Derived.Test.YtfpphpjobkhalaaGreatDoorCards
import Derived.Test.YtfpphpjobkhalaaGreatDoorTie
import Derived.Lib.LaidIn
import Derived.Lib.LaidU8T
import Derived.PinnedBridge
import Derived.Deep.DeepHandedRow
import Derived.Deep.DeepWitnessRowRef
import Derived.SizedLaws
import Derived.Lib.LaidCaseMet
namespace Go.Proofs.YtfpphpjobkhalaaGreatDoor
open Go.ChangeShapes Go.WideShapes Go.ChangeAt Go.RowKit

theorem addr_add (b off k : Nat) : (⟨b, off, none⟩ : Addr).add k = ⟨b, off + k, none⟩ := by
  unfold Addr.add; split <;> simp_all
theorem cell_spot {W : World} {b off : Nat} {spot} (h0 : ∃ u, W.cell? ((⟨b, off, spot⟩ : Addr).add 0) = some u) : spot = none := by
  obtain ⟨u, hu⟩ := h0
  have := World.cell?_spot hu; simpa [Addr.add] using this
theorem cells5_one : Tryz.prog.cellsOf 9 = 1 := by kernel_rfl
theorem cells5_val : Tryz.prog.cellsOf 55 = 5 := by kernel_rfl
instance : Inhabited JV := ⟨.mk 0 0 ⟨#[]⟩ [] []⟩
theorem list5 {α : Type} {l : List α} (h : l.length = 5) : ∃ a b c d e, l = [a, b, c, d, e] := by
  match l, h with
  | [a, b, c, d, e], _ => exact ⟨a, b, c, d, e, rfl⟩
theorem strs_of_trod {H : Type} {enc : TypeId × Value → H} {W : World} {fuel : Nat} {c : Value} {x : DataW H × List MemPlace}
    (h : DataW.trod enc Tryz.prog W 0 (fun _ => true) true fuel 52 [c] = some x) : ∃ nm, StrsAt (cf W) c nm := by
  rcases Go.Deep.open_slice1 Tryz.underlying52 cells5_one h with ⟨hcs, _⟩ | ⟨a, len, cap, m, n, V, D, Pl, hcs, _, hl, hm, hmm, _, hi⟩
  · cases hcs
    exact ⟨[], none, 0, rfl, by simp, fun i s h => by simp at h⟩
  · cases hcs
    have hm2 : m = cap := by simpa using hmm
    subst hm2
    have hel : ∀ i, i < len → ∃ s : ByteArray, W.cell? (a.add i) = some (.string s) ∧ s.size ≤ maxLen := by
      intro i hil
      obtain ⟨h1, h2⟩ := hi i (by omega)
      obtain ⟨s, e, _, hs⟩ := DataW.trod_string Tryz.underlying9 h2
      exact ⟨s, by rw [h1, (List.cons.inj e).1], hs⟩
    obtain ⟨f, hf⟩ := Go.Deep.choose_lt hel
    refine ⟨(List.range len).map f, some a, m, by simp, by unfold maxLen at hm; rw [List.length_map, List.length_range]; omega, fun i s hop => ?_⟩
    obtain ⟨hil, e⟩ : i < len ∧ f i = s := by
      rw [List.getElem?_map] at hop
      by_cases hil : i < len
      · rw [List.getElem?_range hil] at hop; exact ⟨hil, by simpa using hop⟩
      · rw [List.getElem?_eq_none (by simp; omega)] at hop; cases hop
    have h3 := hf i hil
    rw [e] at h3
    obtain ⟨b, off, spot⟩ := a
    have hs := cell_spot ⟨_, (hf 0 (by omega)).1⟩
    subst hs
    rw [addr_add] at h3
    exact ⟨by have := h3.2; unfold maxLen at this; omega, b, off, rfl, h3.1⟩
theorem json_of_trod {H : Type} {enc : TypeId × Value → H} {W : World} : ∀ (fuel : Nat) (cs : List Value) (x : DataW H × List MemPlace),
    DataW.trod enc Tryz.prog W 0 (fun _ => true) true fuel 55 cs = some x → ∃ v, JAt (cf W) v (.agg cs.toArray) := by
  intro fuel
  induction fuel using Nat.strongRecOn with
  | ind fuel ih =>
    intro cs x h
    obtain ⟨xs, n, hfu, _, hlen, hxl, hg⟩ := DataW.trod_struct Tryz.underlying55 h
    rw [cells5_val] at hlen
    have hK : Tryz.prog.cellsOf 3 = 1 := by kernel_rfl
    have hS : Tryz.prog.cellsOf 9 = 1 := by kernel_rfl
    have hNs : Tryz.prog.cellsOf 52 = 1 := by kernel_rfl
    have hVs : Tryz.prog.cellsOf 53 = 1 := by kernel_rfl
    obtain ⟨c0, c1, c2, c3, c4, rfl⟩ := list5 hlen
    obtain ⟨y0, y1, y2, y3, y4, rfl⟩ := list5 hxl
    have hN : Tryz.prog.cellsOf 2 = 1 := by kernel_rfl
    have g0 : DataW.trod enc Tryz.prog W 0 (fun _ => true) true n 3 [c0] = some y0 := by have := hg 0 _ rfl; simpa [hK] using this
    have g1 : DataW.trod enc Tryz.prog W 0 (fun _ => true) true n 2 [c1] = some y1 := by have := hg 1 _ rfl; simpa [hN] using this
    have g2 : DataW.trod enc Tryz.prog W 0 (fun _ => true) true n 9 [c2] = some y2 := by have := hg 2 _ rfl; simpa [hS] using this
    have g3 : DataW.trod enc Tryz.prog W 0 (fun _ => true) true n 52 [c3] = some y3 := by have := hg 3 _ rfl; simpa [hNs] using this
    have g4 : DataW.trod enc Tryz.prog W 0 (fun _ => true) true n 53 [c4] = some y4 := by have := hg 4 _ rfl; simpa [hVs] using this
    clear hg h
    obtain ⟨k, e0, _, wk⟩ := DataW.trod_int Tryz.underlying3 g0
    obtain ⟨nn, e1, _, wn⟩ := DataW.trod_int Tryz.underlying2 g1
    obtain ⟨t, e2, _, wt⟩ := DataW.trod_string Tryz.underlying9 g2
    obtain rfl := (List.cons.inj e0).1
    obtain rfl := (List.cons.inj e1).1
    obtain rfl := (List.cons.inj e2).1
    obtain ⟨nm, hs⟩ := strs_of_trod g3
    have wt2 : t.size ≤ 9223372036854775807 := by unfold maxLen at wt; omega
    clear g0 g1 g2 g3
    rcases DataW.trod_slice Tryz.underlying53 g4 with ⟨hcs, _⟩ | ⟨a, len, cap, elems, rest, n', hn', hcs, _, _, hl, hm, hle, hel, _⟩
    · obtain rfl := (List.cons.inj hcs).1
      exact ⟨.mk k nn t nm [], JAt.shut wk wn wt2 hs ⟨none, 0, rfl, by simp, fun i x h => by simp at h⟩⟩
    · obtain rfl := (List.cons.inj hcs).1
      have hx : ∀ i, i < len → ∃ p : JV × Value, JAt (cf W) p.1 p.2 ∧ ∃ d0 d1 d2 d3 d4, p.2 = .agg #[d0, d1, d2, d3, d4] ∧ W.cell? (a.add (i * 5)) = some d0 ∧ W.cell? (a.add (i * 5 + 1)) = some d1 ∧ W.cell? (a.add (i * 5 + 2)) = some d2 ∧ W.cell? (a.add (i * 5 + 3)) = some d3 ∧ W.cell? (a.add (i * 5 + 4)) = some d4 := by
        intro i hil
        have h1 := hel i hil
        rw [List.getElem?_eq_getElem (by omega), Option.bind_eq_some_iff] at h1
        obtain ⟨cs', hc, ht⟩ := h1
        rw [cells5_val] at hc
        obtain ⟨_, hcl, hat⟩ := World.cells?_some hc
        obtain ⟨v, hv⟩ := ih n' (by omega) cs' _ ht
        obtain ⟨d0, d1, d2, d3, d4, rfl⟩ := list5 hcl
        refine ⟨(v, .agg #[d0, d1, d2, d3, d4]), hv, d0, d1, d2, d3, d4, rfl, ?_, ?_, ?_, ?_, ?_⟩
        · have := hat 0 (by omega); simpa [Go.Deep.add_add] using this
        · have := hat 1 (by omega); simpa [Go.Deep.add_add] using this
        · have := hat 2 (by omega); simpa [Go.Deep.add_add] using this
        · have := hat 3 (by omega); simpa [Go.Deep.add_add] using this
        · have := hat 4 (by omega); simpa [Go.Deep.add_add] using this
      obtain ⟨f, hf⟩ := Go.Deep.choose_lt hx
      have hget : ∀ (i : Nat) v, ((List.range len).map fun i => (f i).1)[i]? = some v → i < len ∧ (f i).1 = v := by
        intro i v hop
        rw [List.getElem?_map] at hop
        by_cases hil : i < len
        · rw [List.getElem?_range hil] at hop; exact ⟨hil, by simpa using hop⟩
        · rw [List.getElem?_eq_none (by simp; omega)] at hop; cases hop
      have hj := JAt.mk (c := cf W) k nn t nm ((List.range len).map fun i => (f i).1) c3 (some a) cap (fun i => (f i).2) wk wn wt2 hs (by unfold maxLen at hm; rw [List.length_map, List.length_range]; omega) (fun i v hv => by
          obtain ⟨hil, _⟩ := hget i v hv
          obtain ⟨_, d0, d1, d2, d3, d4, e, h0, h1, h2, h3, h4⟩ := hf i hil
          obtain ⟨b, off, spot⟩ := a
          have hsp : spot = none := by
            obtain ⟨_, d0, d1, d2, d3, d4, e, h0, _⟩ := hf 0 (by omega)
            exact cell_spot ⟨d0, by simpa using h0⟩
          subst hsp
          rw [addr_add] at h0 h1 h2 h3 h4
          exact ⟨b, off, rfl, d0, d1, d2, d3, d4, e, h0, by rw [Nat.add_assoc]; exact h1, by rw [Nat.add_assoc]; exact h2, by rw [Nat.add_assoc]; exact h3, by rw [Nat.add_assoc]; exact h4⟩)
        (fun i v hv => by
          obtain ⟨hil, e⟩ := hget i v hv
          rw [← e]; exact (hf i hil).1)
      rw [List.length_map, List.length_range] at hj
      exact ⟨_, hj⟩
theorem okWide_agg {P : Program} {w : World} {r : Reach} {base : Nat} {t : TypeId} {v : Value} {fs : Array Field} (ht : P.underlying t = some (.struct fs)) (h : Value.okWide P w r base t v) : ∃ cs, v = .agg cs := by
  obtain ⟨cs, e, _⟩ := okWide_struct ht h
  exact ⟨cs, e⟩
set_option maxRecDepth 100000 in
theorem json_of_Trod {H : Type} {enc : TypeId × Value → H} {W : World} {base : Nat} {v : Value} {d : DataW H} {p : List MemPlace} (hv : Value.okWide Tryz.prog W .any base 55 v)
    (h : DataW.Trod enc Tryz.prog W 0 (fun _ => true) true 55 v d p) : ∃ t, JAt (cf W) t v := by
  have hv2 : ∃ cs, v = .agg cs := okWide_agg Tryz.underlying55 hv
  clear hv
  obtain ⟨cs, rfl⟩ := hv2
  obtain ⟨fuel, hf⟩ := h
  obtain ⟨t, ht⟩ := json_of_trod fuel _ _ hf
  exact ⟨t, by simpa [Value.cells] using ht⟩
end Go.Proofs.YtfpphpjobkhalaaGreatDoor

/- What the cards of the JSON laws share: the world with both tables. -/
namespace Go.Proofs.YtfpphpjobkhalaaGreatDoor
open Go.Shelf
open Go.ChangeShapes Go.WideShapes Go.ChangeAt Go.RowKit

theorem Tryz.own : ownKnob Tryz.prog.godebug = none := by kernel_rfl
theorem Tryz.laidOut : laidOutB Tryz.prog = true := by kernel_rfl
theorem accept_eq : (Rows.laid_unicode_utf8_acceptRanges : DataW Unit) = Lib.acceptData := by kernel_rfl
theorem first_eq : Rows.laid_unicode_utf8_first = Lib.firstData := Pinned.utf8First_eq
abbrev zeroV : Value := .agg #[.int .i64 0, .int .i64 0, .string ⟨#[]⟩, .slice none 0 0, .slice none 0 0]
end Go.Proofs.YtfpphpjobkhalaaGreatDoor

/- What the cards of the index laws share: an index that comes in, opened; the world with three tables. -/
namespace Go.Proofs.YtfpphpjobkhalaaGreatDoor
open Go.Shelf
open Go.ChangeShapes Go.WideShapes Go.ChangeAt Go.RowKit

theorem list2 {α : Type} {l : List α} (h : l.length = 2) : ∃ a b, l = [a, b] := by
  match l, h with
  | [a, b], _ => exact ⟨a, b, rfl⟩
theorem list3 {α : Type} {l : List α} (h : l.length = 3) : ∃ a b c, l = [a, b, c] := by
  match l, h with
  | [a, b, c], _ => exact ⟨a, b, c, rfl⟩
theorem cells_fd : Tryz.prog.cellsOf 117 = 2 := by kernel_rfl
theorem cells_ix : Tryz.prog.cellsOf 38 = 3 := by kernel_rfl
theorem cells_bool : Tryz.prog.cellsOf 4 = 1 := by kernel_rfl
theorem field_of_trod {H : Type} {enc : TypeId × Value → H} {W : World} {fuel : Nat} {cs : List Value} {x : DataW H × List MemPlace}
    (h : DataW.trod enc Tryz.prog W 0 (fun _ => true) true fuel 117 cs = some x) : ∃ (s : ByteArray) (b : Bool), cs = [.string s, .bool b] ∧ s.size ≤ 9223372036854775807 := by
  obtain ⟨xs, n, hfu, _, hlen, hxl, hg⟩ := DataW.trod_struct Tryz.underlying117 h
  rw [cells_fd] at hlen
  obtain ⟨c0, c1, rfl⟩ := list2 hlen
  obtain ⟨y0, y1, rfl⟩ := list2 hxl
  have g0 : DataW.trod enc Tryz.prog W 0 (fun _ => true) true n 9 [c0] = some y0 := by have := hg 0 _ rfl; simpa [cells5_one] using this
  have g1 : DataW.trod enc Tryz.prog W 0 (fun _ => true) true n 4 [c1] = some y1 := by have := hg 1 _ rfl; simpa [cells_bool] using this
  obtain ⟨s, e0, _, ws⟩ := DataW.trod_string Tryz.underlying9 g0
  obtain ⟨b, e1, _⟩ := DataW.trod_bool Tryz.underlying4 g1
  obtain rfl := (List.cons.inj e0).1
  obtain rfl := (List.cons.inj e1).1
  exact ⟨s, b, rfl, by unfold maxLen at ws; omega⟩
theorem fields_of_trod {H : Type} {enc : TypeId × Value → H} {W : World} {fuel : Nat} {c : Value} {x : DataW H × List MemPlace}
    (h : DataW.trod enc Tryz.prog W 0 (fun _ => true) true fuel 36 [c] = some x) : ∃ l, FieldsAt (cf W) c l := by
  rcases DataW.trod_slice Tryz.underlying36 h with ⟨hcs, _⟩ | ⟨a, len, cap, elems, rest, n', hn', hcs, _, _, hl, hm, hle, hel, _⟩
  · cases hcs
    exact ⟨[], none, 0, rfl, by simp, by simp, fun i s h => by simp at h⟩
  · cases hcs
    have hx : ∀ i, i < len → ∃ p : Fd, p.1.size ≤ 9223372036854775807 ∧ W.cell? (a.add (i * 2)) = some (.string p.1) ∧ W.cell? (a.add (i * 2 + 1)) = some (.bool p.2) := by
      intro i hil
      have h1 := hel i hil
      rw [List.getElem?_eq_getElem (by omega), Option.bind_eq_some_iff] at h1
      obtain ⟨cs', hc, ht⟩ := h1
      rw [cells_fd] at hc
      obtain ⟨_, hcl, hat⟩ := World.cells?_some hc
      obtain ⟨s, b, rfl, hs⟩ := field_of_trod ht
      refine ⟨(s, b), hs, ?_, ?_⟩
      · have := hat 0 (by omega); simpa [Go.Deep.add_add] using this
      · have := hat 1 (by omega); simpa [Go.Deep.add_add] using this
    obtain ⟨f, hf⟩ := Go.Deep.choose_lt hx
    refine ⟨(List.range len).map f, some a, cap, by simp, by simpa using hl, by unfold maxLen at hm; omega, fun i p hop => ?_⟩
    obtain ⟨hil, e⟩ : i < len ∧ f i = p := by
      rw [List.getElem?_map] at hop
      by_cases hil : i < len
      · rw [List.getElem?_range hil] at hop; exact ⟨hil, by simpa using hop⟩
      · rw [List.getElem?_eq_none (by simp; omega)] at hop; cases hop
    have h3 := hf i hil
    rw [e] at h3
    obtain ⟨b, off, spot⟩ := a
    have hs := cell_spot ⟨_, by simpa using (hf 0 (by omega)).2.1⟩
    subst hs
    rw [addr_add, addr_add] at h3
    exact ⟨h3.1, b, off, rfl, h3.2.1, by unfold cf; rw [Nat.add_assoc]; exact h3.2.2⟩
theorem index_of_trod {H : Type} {enc : TypeId × Value → H} {W : World} {fuel : Nat} {cs : List Value} {x : DataW H × List MemPlace}
    (h : DataW.trod enc Tryz.prog W 0 (fun _ => true) true fuel 38 cs = some x) : ∃ i, IAt (cf W) i (.agg cs.toArray) := by
  obtain ⟨xs, n, hfu, _, hlen, hxl, hg⟩ := DataW.trod_struct Tryz.underlying38 h
  rw [cells_ix] at hlen
  have hF : Tryz.prog.cellsOf 36 = 1 := by kernel_rfl
  obtain ⟨c0, c1, c2, rfl⟩ := list3 hlen
  obtain ⟨y0, y1, y2, rfl⟩ := list3 hxl
  have g0 : DataW.trod enc Tryz.prog W 0 (fun _ => true) true n 9 [c0] = some y0 := by have := hg 0 _ rfl; simpa [cells5_one] using this
  have g1 : DataW.trod enc Tryz.prog W 0 (fun _ => true) true n 36 [c1] = some y1 := by have := hg 1 _ rfl; simpa [hF] using this
  have g2 : DataW.trod enc Tryz.prog W 0 (fun _ => true) true n 4 [c2] = some y2 := by have := hg 2 _ rfl; simpa [cells_bool] using this
  obtain ⟨s, e0, _, ws⟩ := DataW.trod_string Tryz.underlying9 g0
  obtain ⟨b, e1, _⟩ := DataW.trod_bool Tryz.underlying4 g2
  obtain rfl := (List.cons.inj e0).1
  obtain rfl := (List.cons.inj e1).1
  obtain ⟨l, hl⟩ := fields_of_trod g1
  exact ⟨⟨s, l, b⟩, by unfold maxLen at ws; exact (by omega : s.size ≤ 9223372036854775807), c1, rfl, hl⟩
theorem case_eq : Rows.laid_unicode_CaseRanges = Lib.caseData := Pinned.caseRanges_eq
/-- the settled world, the three tables holding what their initialisers lay -/
noncomputable def laidWorld3 (os : Os) : World :=
  let N := (World.settled Tryz.prog os).heap.size
  let w0 := World.holding Tryz.prog os ⟨#[.cells Lib.caseCells5 (Tryz.laysLow_ren.t 208)], #[], []⟩
  let put (h : Array Obj) (g : Nat) (cs : Array Value) : Array Obj := h.modify g fun
    | .cells _ t frozen => .cells cs t frozen
    | o => o
  let h1 := put w0.heap 0 (Lib.firstTab.map fun z => Value.int .u8 z).toArray
  let h2 := put h1 1 ((List.range 16).flatMap fun i => [Value.int .u8 (Lib.accLo i), Value.int .u8 (Lib.accHi i)]).toArray
  let h3 := put h2 (Tryz.laysLow_ren.g 13) #[.slice (some ⟨N, 0, none⟩) 336 336]
  { w0 with heap := h3 }
theorem laidMet_swap {P : Program} {w : World} {a b c : String × DataW Unit} (h : laidMet P [a, b, c] w) : laidMet P [a, c, b] w := by
  obtain ⟨ps, ⟨g1, t1, cs1, f1, p1, q1, a1, a2, a3, a4, ⟨g2, t2, cs2, f2, p2, q2, b1, b2, b3, b4, ⟨g3, t3, cs3, f3, p3, q3, d1, d2, d3, d4, hq3, rfl⟩, rfl⟩, rfl⟩, hnd, hall⟩ := h
  have hq3' : q3 = [] := hq3
  subst hq3'
  have hp : ((MemPlace.row ⟨g1, 0, none⟩ cs1.size ++ p1) ++ ((MemPlace.row ⟨g2, 0, none⟩ cs2.size ++ p2) ++ (MemPlace.row ⟨g3, 0, none⟩ cs3.size ++ p3 ++ []))).Perm ((MemPlace.row ⟨g1, 0, none⟩ cs1.size ++ p1) ++ ((MemPlace.row ⟨g3, 0, none⟩ cs3.size ++ p3) ++ (MemPlace.row ⟨g2, 0, none⟩ cs2.size ++ p2 ++ []))) := by
    refine List.Perm.append_left _ ?_
    rw [List.append_nil, List.append_nil]
    exact List.perm_append_comm
  exact ⟨_, ⟨g1, t1, cs1, f1, p1, _, a1, a2, a3, a4, ⟨g3, t3, cs3, f3, p3, _, d1, d2, d3, d4, ⟨g2, t2, cs2, f2, p2, _, b1, b2, b3, b4, rfl, rfl⟩, rfl⟩, rfl⟩, hp.nodup_iff.1 hnd, fun b off hm => hall b off (hp.mem_iff.2 hm)⟩
abbrev laid3 : List (String × DataW Unit) := [("unicode/utf8.acceptRanges", Rows.laid_unicode_utf8_acceptRanges), ("unicode.CaseRanges", Rows.laid_unicode_CaseRanges), ("unicode/utf8.first", Rows.laid_unicode_utf8_first)]
theorem laid_met3 (os : Os) (args : Array Value) : laidMet Tryz.prog laid3 ((laidWorld3 os).forCall (fun _ _ => 0) ⟨#[], args, []⟩).memory := by
  unfold laid3
  rw [accept_eq, first_eq, case_eq]
  exact laidMet_swap (laidMet_with_case (ρ := Tryz.laysLow_ren) { Tryz.laysLow with } Tryz.laysLow.t206 ⟨by kernel_rfl, by kernel_rfl, by kernel_rfl, by kernel_rfl, by kernel_rfl, by kernel_rfl⟩
    (l := [("unicode/utf8.acceptRanges", Lib.acceptData), ("unicode/utf8.first", Lib.firstData)])
    10 (by kernel_rfl) (by kernel_rfl) (by kernel_rfl) ((World.settled Tryz.prog default).heap.size) (Tryz.laysLow_ren.t 208) (of_decide_eq_true (by kernel_rfl)) (by kernel_rfl) (by kernel_rfl) (by kernel_rfl))
theorem tabs_of_laid3 {W : World} (hL : laidMet Tryz.prog laid3 W) : Tabs W := by
  unfold laid3 at hL
  rw [accept_eq, first_eq] at hL
  exact utf8Tabs_of_readsT (U8Types.of196 Tryz.laysValid) ⟨by kernel_rfl, by kernel_rfl, by kernel_rfl, by kernel_rfl, by kernel_rfl, by kernel_rfl, by kernel_rfl⟩ (Lib.laidMet.reads hL (.tail _ (.tail _ (.head _)))) (Lib.laidMet.reads hL (.head _))
end Go.Proofs.YtfpphpjobkhalaaGreatDoor
