/- The reference's Oldest and Live, and Ints. -/
import Derived.Test.YthdbmmefnlediaaClockE
import Derived.Deep.QuietTactic
import Derived.BigQuiet
namespace Go.Proofs.Ythdbmmefnlediaa
open Go.RowKit Go.Maps

set_option maxHeartbeats 1000000 in
theorem ref_oldest {B b : Nat} {tv lv : Value} {n : Int} {ts : List Int} {ls : List Bool} (w : World) (h : RClk w B b tv lv n ts ls) (hm : ls.length ≤ 1000) :
    Calls Try.prog 18 #[.pointer (some ⟨b, 0, none⟩)] w fun e w' => (∃ t, e = .returned (.int .u64 t) ∧ OldestIs n (liveAt ts ls) t) ∧ w = w' := by
  have hc := h.c2
  have hc1 := h.c1
  have hc0 := h.c0
  have HL := Lib.hid h.len
  obtain ⟨a, c, hlv⟩ : ∃ a c, lv = .slice a ls.length c := by
    rcases own_form h.ol with ⟨rfl, h0, _⟩ | ⟨g, cap, rfl, _⟩
    · exact ⟨none, 0, by rw [h0]⟩
    · exact ⟨_, _, rfl⟩
  obtain ⟨a', c', htv⟩ : ∃ a c, tv = .slice a ls.length c := by
    have hl := h.len
    rcases own_form h.ot with ⟨rfl, h0, _⟩ | ⟨g, cap, rfl, _⟩
    · exact ⟨none, 0, by rw [← hl, h0]⟩
    · exact ⟨_, _, by rw [hl]⟩
  have hcell : ∀ (j : Nat) bo t, ls[j]? = some bo → ts[j]? = some t → ∃ g g', a = some ⟨g, 0, none⟩ ∧ a' = some ⟨g', 0, none⟩ ∧ w.cell? ⟨g, j, none⟩ = some (.bool bo) ∧ w.cell? ⟨g', j, none⟩ = some (.int .u64 t) := by
    intro j bo t hb ht
    have hj : j < ls.length := (List.getElem?_eq_some_iff.1 hb).1
    rcases own_form h.ol with ⟨rfl, h0, _⟩ | ⟨g, cap, rfl, _, _, _, hcell, _⟩
    · omega
    rcases own_form h.ot with ⟨rfl, h0, _⟩ | ⟨g', cap', rfl, _, _, _, hcell', _⟩
    · have := h.len; omega
    have hl := h.len
    simp only [Value.slice.injEq] at hlv htv
    obtain ⟨rfl, _, _⟩ := hlv; obtain ⟨rfl, _, _⟩ := htv
    exact ⟨g, g', rfl, rfl, hcell j _ (by simp [hb]), hcell' j _ (by simp [ht])⟩
  have HC := Lib.hid hcell; clear hcell h
  subst hlv htv
  go_enter Try.func18, Try.ntmps18
  go_wp2
  go_loop [3, 4] (fun s i => ∃ (j : Nat) (t : Int), j ≤ ls.length ∧ i = .int .i64 j ∧ s = .int .u64 t ∧ t ≤ n ∧ (∀ (i : Nat) v, i < j → liveAt ts ls ((i : Int) + 1) = some v → t ≤ v) ∧ (t = n ∨ ∃ k, liveAt ts ls k = some t))
    (fun _ i => ls.length - (intOf i).toNat)
  case atStart => exact ⟨0, n, by omega, rfl, rfl, Int.le_refl _, fun i v h => by omega, .inl rfl⟩
  case round =>
    obtain ⟨j, t, hj, rfl, rfl, h1, h2, h3⟩ := hrel
    have H2 := Lib.hid h2; clear h2
    have H3 := Lib.hid h3; clear h3
    by_cases hlt : j < ls.length
    · obtain ⟨bo, hb⟩ : ∃ x, ls[j]? = some x := ⟨ls[j], List.getElem?_eq_getElem hlt⟩
      obtain ⟨x, ht⟩ : ∃ x, ts[j]? = some x := ⟨ts[j]'(by rw [HL.out]; exact hlt), List.getElem?_eq_getElem _⟩
      obtain ⟨g, g', rfl, rfl, y1, y2⟩ := HC.out j bo x hb ht
      have e1 := liveAt_in (ts := ts) (ls := ls) (k := (j : Int) + 1) rfl hlt
      rw [hb, ht] at e1
      have E1 := Lib.hid e1
      clear hb ht e1
      cases bo
      · go_wp2
        go_round
        case rel =>
          refine ⟨j + 1, t, hlt, by go_num, rfl, h1, fun i v hi hv => ?_, H3.out⟩
          by_cases e : i = j
          · subst e; rw [E1.out] at hv; simp at hv
          · exact H2.out i v (by omega) hv
        case measure => simp [intOf]; omega
      · by_cases hx : x < t
        · go_wp2
          go_round
          case rel =>
            refine ⟨j + 1, x, hlt, by go_num, rfl, by omega, fun i v hi hv => ?_, .inr ⟨_, by simpa using E1.out⟩⟩
            by_cases e : i = j
            · subst e; rw [E1.out] at hv; simp at hv; omega
            · have := H2.out i v (by omega) hv; omega
          case measure => simp [intOf]; omega
        · go_wp2
          go_round
          case rel =>
            refine ⟨j + 1, t, hlt, by go_num, rfl, h1, fun i v hi hv => ?_, H3.out⟩
            by_cases e : i = j
            · subst e; rw [E1.out] at hv; simp at hv; omega
            · exact H2.out i v (by omega) hv
          case measure => simp [intOf]; omega
    · go_wp2
      go_ret
      refine ⟨⟨t, rfl, h1, fun k v hv => ?_, H3.out⟩, rfl⟩
      by_cases hk : 1 ≤ k ∧ k ≤ ls.length
      · have := H2.out (k - 1).toNat v (by omega) (by rw [show ((k - 1).toNat : Int) + 1 = k from by omega]; exact hv)
        exact this
      · rw [liveAt_out (by omega)] at hv; cases hv

/-- the numbers of those that live, of the first j -/
def liveTo (ls : List Bool) (j : Nat) : List Int := ((List.range j).filter (fun i => ls[i]? == some true)).map (fun i : Nat => (i : Int) + 1)
theorem liveTo_len (ls : List Bool) (j : Nat) : (liveTo ls j).length ≤ j := by
  unfold liveTo; rw [List.length_map]; exact Nat.le_trans (List.length_filter_le _ _) (by simp)
theorem liveTo_yes {ls : List Bool} {j : Nat} (h : ls[j]? = some true) : liveTo ls (j + 1) = liveTo ls j ++ [(j : Int) + 1] := by
  unfold liveTo; rw [List.range_succ, List.filter_append, List.map_append]; simp [h]
theorem liveTo_no {ls : List Bool} {j : Nat} (h : ls[j]? = some false) : liveTo ls (j + 1) = liveTo ls j := by
  unfold liveTo; rw [List.range_succ, List.filter_append, List.map_append]; simp [h]

theorem Try.infoI : (Try.prog.info? 3).map (fun i => (i.zero, i.size, i.bytes)) = some (some (.int .i64 0), 1, 8) := by kernel_rfl

set_option maxHeartbeats 1000000 in
theorem ref_live {B b : Nat} {tv lv : Value} {n : Int} {ts : List Int} {ls : List Bool} (w : World) (h : RClk w B b tv lv n ts ls) (hm : ls.length ≤ 1000) :
    Calls Try.prog 20 #[.pointer (some ⟨b, 0, none⟩)] w fun e w' => ∃ v, e = .returned v ∧ w'.ownsRow w.heap.size 3 1 v (liveTo ls ls.length).length ((liveTo ls ls.length).map (Value.int .i64)) ∧ Below w.heap.size w w' := by
  have hc := h.c2
  obtain ⟨a, c, hlv⟩ : ∃ a c, lv = .slice a ls.length c := by
    rcases own_form h.ol with ⟨rfl, h0, _⟩ | ⟨g, cap, rfl, _⟩
    · exact ⟨none, 0, by rw [h0]⟩
    · exact ⟨_, _, rfl⟩
  have hcell : ∀ (j : Nat) bo, ls[j]? = some bo → ∃ g, a = some ⟨g, 0, none⟩ ∧ w.cell? ⟨g, j, none⟩ = some (.bool bo) := by
    intro j bo hb
    have hj : j < ls.length := (List.getElem?_eq_some_iff.1 hb).1
    rcases own_form h.ol with ⟨rfl, h0, _⟩ | ⟨g, cap, rfl, _, _, _, hcell, _⟩
    · omega
    cases hlv
    exact ⟨g, rfl, hcell j _ (by simp [hb])⟩
  have HC := Lib.hid hcell; clear hcell h
  subst hlv
  obtain ⟨i0, hi, hz0, hz1, hz2⟩ := info_parts Try.infoI
  have HI := Lib.hid (And.intro hi (And.intro hz0 (And.intro hz1 hz2)))
  clear hi hz0 hz1 hz2
  go_enter Try.func20, Try.ntmps20
  go_wp2
  go_loopw [3, 4] (fun s i wr => ∃ (j : Nat), j ≤ ls.length ∧ i = .int .i64 j ∧ wr.ownsRow w.heap.size 3 1 s (liveTo ls j).length ((liveTo ls j).map (Value.int .i64)) ∧ Below w.heap.size w wr)
    (fun _ i _ => ls.length - (intOf i).toNat)
  case atStart => exact ⟨0, by omega, rfl, by simpa [liveTo] using World.ownsRow_nil w w.heap.size 3 1, Below.refl _ _⟩
  case round =>
    obtain ⟨j, hj, rfl, hown, hbl⟩ := hrel
    have HO := Lib.hid hown; clear hown
    have y0 : wr.cell? ⟨b, 2, none⟩ = some (Value.slice a ls.length c) := by rw [hbl.cell (p := ⟨b, 2, none⟩) (lt_of_cell (by rw [hc]; simp))]; exact hc
    by_cases hlt : j < ls.length
    · obtain ⟨bo, hb⟩ : ∃ x, ls[j]? = some x := ⟨ls[j], List.getElem?_eq_getElem hlt⟩
      obtain ⟨g, rfl, y1⟩ := HC.out j bo hb
      have y2 : wr.cell? ⟨g, j, none⟩ = some (.bool bo) := by rw [hbl.cell (p := ⟨g, j, none⟩) (lt_of_cell (by rw [y1]; simp))]; exact y1
      have HBo := Lib.hid hb
      clear hb y1
      cases bo
      · go_wp2
        go_roundw
        case rel => exact ⟨j + 1, hlt, by go_num, by rw [liveTo_no HBo.out]; exact HO.out, hbl⟩
        case measure => simp [intOf]; omega
      · have hle := liveTo_len ls j
        have hbs := hbl.size
        go_wp2_with (at_builtin; refine wpList_append_lies _ rfl _ _ 44 rfl w.heap.size 3 i0 (.int .i64 0) 1 8 Try.underlying44 HI.out.1 HI.out.2.1 HI.out.2.2.1 HI.out.2.2.2 rfl (by decide) _ _ _ rfl (HO.out.alloc _) ⟨wr.heap.size, 0, none⟩ 1 1 [.int .i64 ((j : Int) + 1)] rfl rfl (cell_one_new _ _ _) (by simp [Value.oneCell']) (by decide) (by unfold maxLen; omega) (by omega) (by simp; omega) _ rfl ?_; intro g2 cap2 w1 hown' hgrow hat hlt2)
        go_roundw
        case rel => 
          refine ⟨j + 1, hlt, by go_num, ?_, ?_⟩
          · rw [liveTo_yes HBo.out]; simpa using hown'
          · refine (hbl.alloc hbs _).grown hgrow (by simp; omega) (fun k hk => ?_)
            exact (HO.out.lt k hk).1
        case measure => simp [intOf]; omega
    · obtain rfl : j = ls.length := by omega
      go_wp2
      go_ret
      exact ⟨_, rfl, HO.out, hbl⟩

set_option maxHeartbeats 1000000 in
theorem ints_same {B1 B2 : Nat} (v1 v2 : Value) (xs : List Int) (w : World) (h1 : w.ownsRow B1 3 1 v1 xs.length (xs.map (Value.int .i64))) (h2 : w.ownsRow B2 3 1 v2 xs.length (xs.map (Value.int .i64))) (hm : xs.length ≤ 1000) :
    Calls Try.prog 19 #[v1, v2] w fun e w' => e = .returned (.bool true) ∧ ∃ n, w' = w.drewN n := by
  obtain ⟨a1, c1, e1⟩ : ∃ a c, v1 = .slice a xs.length c := by
    rcases own_form h1 with ⟨rfl, h0, _⟩ | ⟨g, cap, rfl, _⟩
    · exact ⟨none, 0, by rw [h0]⟩
    · exact ⟨_, _, rfl⟩
  obtain ⟨a2, c2, e2⟩ : ∃ a c, v2 = .slice a xs.length c := by
    rcases own_form h2 with ⟨rfl, h0, _⟩ | ⟨g, cap, rfl, _⟩
    · exact ⟨none, 0, by rw [h0]⟩
    · exact ⟨_, _, rfl⟩
  have hcell : ∀ (j : Nat) x, xs[j]? = some x → ∃ g g', a1 = some ⟨g, 0, none⟩ ∧ a2 = some ⟨g', 0, none⟩ ∧ w.cell? ⟨g, j, none⟩ = some (.int .i64 x) ∧ w.cell? ⟨g', j, none⟩ = some (.int .i64 x) := by
    intro j x hx
    have hj : j < xs.length := (List.getElem?_eq_some_iff.1 hx).1
    rcases own_form h1 with ⟨rfl, h0, _⟩ | ⟨g, cap, rfl, _, _, _, hcell, _⟩
    · omega
    rcases own_form h2 with ⟨rfl, h0, _⟩ | ⟨g', cap', rfl, _, _, _, hcell', _⟩
    · omega
    cases e1; cases e2
    exact ⟨g, g', rfl, rfl, hcell j _ (by simp [hx]), hcell' j _ (by simp [hx])⟩
  have HC := Lib.hid hcell; clear hcell h1 h2
  subst e1 e2
  go_enter Try.func19, Try.ntmps19
  go_wp2
  go_loopw [5] (fun i wr => ∃ (j : Nat), j ≤ xs.length ∧ i = .int .i64 j ∧ ∃ n, wr = w.drewN n) (fun i _ => xs.length - (intOf i).toNat)
  case atStart => exact ⟨0, by omega, rfl, 0, rfl⟩
  case round =>
    obtain ⟨j, hj, rfl, n, rfl⟩ := hrel
    by_cases hlt : j < xs.length
    · obtain ⟨x, hx⟩ : ∃ x, xs[j]? = some x := ⟨xs[j], List.getElem?_eq_getElem hlt⟩
      obtain ⟨g, g', rfl, rfl, y1, y2⟩ := HC.out j x hx
      clear hx
      go_wp2
      go_quiet (fail)
      go_wp2
      go_roundw
      case rel => exact ⟨j + 1, hlt, by go_num, _, rfl⟩
      case measure => simp [intOf]; omega
    · go_wp2
      go_ret
      exact ⟨rfl, n, rfl⟩

end Go.Proofs.Ythdbmmefnlediaa
