/- RecordCuts: the row and its card. -/
import Derived.Test.YticlnijkfclgcaaGreatDoorZ05
import Derived.Test.YticlnijkfclgcaaGreatDoorZ20
import Derived.Test.YticlnijkfclgcaaGreatDoorZ22
import Derived.Test.YticlnijkfclgcaaGreatDoorZ48
namespace Go.Proofs.YticlnijkfclgcaaGreatDoor
open Go.ChangeShapes Go.WideShapes Go.ChangeAt Go.RowKit

theorem slice_of_trod {α : Type} {n : Nat} {R : Rep α} {T Ts : TypeId} (hTs : Tryz.prog.underlying Ts = some (.slice T)) (hc : Tryz.prog.cellsOf T = n) (hn : 0 < n) {H : Type} {enc : TypeId × Value → H} {W : World}
    (hel : ∀ fuel cs x, DataW.trod enc Tryz.prog W 0 (fun _ => true) true fuel T cs = some x → cs.length = n → ∃ e : α, R (cf W) e cs) {fuel : Nat} {c : Value} {x : DataW H × List MemPlace}
    (h : DataW.trod enc Tryz.prog W 0 (fun _ => true) true fuel Ts [c] = some x) : ∃ l : List α, SAt n R (cf W) c l := by
  rcases DataW.trod_slice hTs h with ⟨hcs, _⟩ | ⟨a, len, cap, elems, rest, n', hn', hcs, _, _, hl, hm, hle, hel2, _⟩
  · cases hcs
    exact ⟨[], SAt.none _ _ _⟩
  · cases hcs
    have hx : ∀ i, i < len → ∃ p : Option (α × List Value), ∃ e d, p = some (e, d) ∧ d.length = n ∧ (∀ (j : Nat) u, d[j]? = some u → W.cell? (a.add (i * n + j)) = some u) ∧ R (cf W) e d := by
      intro i hil
      have h1 := hel2 i hil
      rw [List.getElem?_eq_getElem (by omega), Option.bind_eq_some_iff] at h1
      obtain ⟨cs', hc', ht⟩ := h1
      rw [hc] at hc'
      obtain ⟨_, hcl, hat⟩ := World.cells?_some hc'
      obtain ⟨e, he⟩ := hel _ _ _ ht hcl
      refine ⟨some (e, cs'), e, cs', rfl, hcl, fun j u hu => ?_, he⟩
      have hj : j < n := by rw [← hcl]; exact (List.getElem?_eq_some_iff.1 hu).1
      have := hat j hj
      rw [hu] at this
      simpa [Go.Deep.add_add] using this
    obtain ⟨f, hf⟩ := Go.Deep.choose_lt hx
    have hget : ∀ i, i < len → ∃ e d, f i = some (e, d) ∧ d.length = n ∧ (∀ (j : Nat) u, d[j]? = some u → W.cell? (a.add (i * n + j)) = some u) ∧ R (cf W) e d := hf
    have hlist : ∀ m, m ≤ len → ∃ l : List α, l.length = m ∧ ∀ i e, l[i]? = some e → ∃ d, f i = some (e, d) := by
      intro m
      induction m with
      | zero => intro _; exact ⟨[], rfl, fun i e h => by simp at h⟩
      | succ m ih =>
        intro hm2
        obtain ⟨l, hl1, hl2⟩ := ih (by omega)
        obtain ⟨e, d, hfe, _⟩ := hget m (by omega)
        refine ⟨l ++ [e], by simp [hl1], fun i y hy => ?_⟩
        by_cases hi : i < l.length
        · rw [List.getElem?_append_left hi] at hy; exact hl2 i y hy
        · rw [List.getElem?_append_right (by omega)] at hy
          cases he : i - l.length with
          | zero => rw [he] at hy; obtain rfl : e = y := by simpa using hy
                    exact ⟨d, by rw [show i = m by omega]; exact hfe⟩
          | succ q => rw [he] at hy; simp at hy
    obtain ⟨l, hl1, hl2⟩ := hlist len (Nat.le_refl _)
    refine ⟨l, some a, cap, by rw [hl1], by omega, by unfold maxLen at hm; omega, fun i e he => ?_⟩
    have hil : i < len := by rw [← hl1]; exact (List.getElem?_eq_some_iff.1 he).1
    obtain ⟨e2, d, h1, h2, h3, h4⟩ := hget i hil
    obtain ⟨d', h5⟩ := hl2 i e he
    rw [h1] at h5
    obtain ⟨rfl, rfl⟩ : e2 = e ∧ d = d' := by simpa using h5
    obtain ⟨b, off, spot⟩ := a
    obtain ⟨e0, d0, _, k2, k3, _⟩ := hget 0 (by omega)
    have hs := cell_spot ⟨_, by have := k3 0 _ (List.getElem?_eq_getElem (by omega : 0 < d0.length)); simpa using this⟩
    subst hs
    refine ⟨b, off, d, rfl, h2, fun j u hu => ?_, h4⟩
    have := h3 j u hu
    rw [addr_add] at this
    unfold cf; rw [Nat.add_assoc]; exact this
end Go.Proofs.YticlnijkfclgcaaGreatDoor

/- Writes that come in, opened. -/
namespace Go.Proofs.YticlnijkfclgcaaGreatDoor
open Go.Shelf
open Go.ChangeShapes Go.WideShapes Go.ChangeAt Go.RowKit

theorem list4 {α : Type} {l : List α} (h : l.length = 4) : ∃ a b c d, l = [a, b, c, d] := by
  match l, h with
  | [a, b, c, d], _ => exact ⟨a, b, c, d, rfl⟩
theorem write_of_trod {H : Type} {enc : TypeId × Value → H} {W : World} (fuel : Nat) (cs : List Value) (x : DataW H × List MemPlace)
    (h : DataW.trod enc Tryz.prog W 0 (fun _ => true) true fuel 37 cs = some x) (_ : cs.length = 4) : ∃ e : WR, RW (cf W) e cs := by
  obtain ⟨xs, n, hfu, _, hlen, hxl, hg⟩ := DataW.trod_struct Tryz.underlying37 h
  rw [show Tryz.prog.cellsOf 37 = 4 by kernel_rfl] at hlen
  have hS : Tryz.prog.cellsOf 9 = 1 := by kernel_rfl
  have hI : Tryz.prog.cellsOf 3 = 1 := by kernel_rfl
  have hB : Tryz.prog.cellsOf 4 = 1 := by kernel_rfl
  obtain ⟨c0, c1, c2, c3, rfl⟩ := list4 hlen
  obtain ⟨y0, y1, y2, y3, rfl⟩ := list4 hxl
  have g0 : DataW.trod enc Tryz.prog W 0 (fun _ => true) true n 3 [c0] = some y0 := by have := hg 0 _ rfl; simpa [hI] using this
  have g1 : DataW.trod enc Tryz.prog W 0 (fun _ => true) true n 9 [c1] = some y1 := by have := hg 1 _ rfl; simpa [hI, hS] using this
  have g2 : DataW.trod enc Tryz.prog W 0 (fun _ => true) true n 4 [c2] = some y2 := by have := hg 2 _ rfl; simpa [hI, hS, hB] using this
  have g3 : DataW.trod enc Tryz.prog W 0 (fun _ => true) true n 9 [c3] = some y3 := by have := hg 3 _ rfl; simpa [hI, hS, hB] using this
  obtain ⟨k, e0, _, wk⟩ := DataW.trod_int Tryz.underlying3 g0
  obtain ⟨s, e1, _, ws⟩ := DataW.trod_string Tryz.underlying9 g1
  obtain ⟨b, e2, _⟩ := DataW.trod_bool Tryz.underlying4 g2
  obtain ⟨t, e3, _, wt⟩ := DataW.trod_string Tryz.underlying9 g3
  obtain rfl := (List.cons.inj e0).1
  obtain rfl := (List.cons.inj e1).1
  obtain rfl := (List.cons.inj e2).1
  obtain rfl := (List.cons.inj e3).1
  exact ⟨⟨k, s, b, t⟩, rfl, by unfold maxLen at ws; exact (by omega : s.size ≤ 9223372036854775807), by unfold maxLen at wt; exact (by omega : t.size ≤ 9223372036854775807), wk⟩
end Go.Proofs.YticlnijkfclgcaaGreatDoor

/- What the card of RecordCuts leans on: the world with its eight variables; a record that comes in, opened. -/
namespace Go.Proofs.YticlnijkfclgcaaGreatDoor
open Go.Shelf
open Go.ChangeShapes Go.WideShapes Go.ChangeAt Go.RowKit

abbrev laid8 : List (String × DataW Unit) := [("math/bits.deBruijn32tab", Rows.laid_math_bits_deBruijn32tab), ("math/bits.deBruijn64tab", Rows.laid_math_bits_deBruijn64tab), ("internal/strconv.uint64pow10", Rows.laid_internal_strconv_uint64pow10), ("unicode/utf8.acceptRanges", Rows.laid_unicode_utf8_acceptRanges), ("strconv.ErrRange", Rows.laid_strconv_ErrRange), ("strconv.ErrSyntax", Rows.laid_strconv_ErrSyntax), ("unicode.CaseRanges", Rows.laid_unicode_CaseRanges), ("unicode/utf8.first", Rows.laid_unicode_utf8_first)]
noncomputable def laidWorld8 (os : Os) : World := World.laidAll Tryz.prog os laid8
theorem laid_met8 (os : Os) (args : Array Value) : laidMet Tryz.prog laid8 ((laidWorld8 os).forCall (fun _ _ => 0) ⟨#[], args, []⟩).memory :=
  laidMet_laidAll args (by kernel_rfl) (by kernel_rfl)
theorem tabs_of_laid8 {W : World} (hL : laidMet Tryz.prog laid8 W) : Tabs W := by
  unfold laid8 at hL
  rw [accept_eq, first_eq] at hL
  exact utf8Tabs_of_readsT (U8Types.of196 Tryz.laysValid) ⟨by kernel_rfl, by kernel_rfl, by kernel_rfl, by kernel_rfl, by kernel_rfl, by kernel_rfl, by kernel_rfl⟩ (Lib.laidMet.reads hL (.tail _ (.tail _ (.tail _ (.tail _ (.tail _ (.tail _ (.tail _ (.head _))))))))) (Lib.laidMet.reads hL (.tail _ (.tail _ (.tail _ (.head _)))))
theorem errs_of_laid8 {W : World} (hL : laidMet Tryz.prog laid8 W) : Errs W.heap.size W := by
  have h4 := hL.tail.tail.tail.tail
  obtain ⟨a, _, hv, _⟩ := laid_sentinel (g := 5) (ti := 118) (te := 221) (ts := 9) h4 (by kernel_rfl) (by kernel_rfl) Tryz.underlying118 star7 Tryz.underlying219 Tryz.underlying221 rfl rfl Tryz.underlying9 (by kernel_rfl) (by kernel_rfl)
  obtain ⟨b, _, hw, _⟩ := laid_sentinel (g := 4) (ti := 118) (te := 221) (ts := 9) h4.tail (by kernel_rfl) (by kernel_rfl) Tryz.underlying118 star7 Tryz.underlying219 Tryz.underlying221 rfl rfl Tryz.underlying9 (by kernel_rfl) (by kernel_rfl)
  have c1 : W.cell? ⟨5, 0, none⟩ = some (.iface 219 (.pointer (some a))) := by simpa using World.var?_cell (by kernel_rfl) hv 0
  have c2 : W.cell? ⟨4, 0, none⟩ = some (.iface 219 (.pointer (some b))) := by simpa using World.var?_cell (by kernel_rfl) hw 0
  first
    | exact ⟨lt_of_cell7 c1, lt_of_cell7 c2, ⟨_, _, c1⟩, ⟨_, _, c2⟩⟩
    | exact ⟨lt_of_cell7 c2, lt_of_cell7 c1, ⟨_, _, c2⟩, ⟨_, _, c1⟩⟩
theorem pow_of_laid8 {W : World} (hL : laidMet Tryz.prog laid8 W) : Pow W.heap.size W := by
  unfold laid8 at hL
  rw [pow_eq] at hL
  have h1 : Lib.TabIs Tryz.prog W "internal/strconv.uint64pow10" .u64 Lib.pow10Tab := Lib.tabIs_of_head (t := 192) (e := 22) (n := 20) (g := 3) (by kernel_rfl) (by kernel_rfl) (by kernel_rfl) (by kernel_rfl) (by kernel_rfl) (by kernel_rfl) hL.tail.tail
  refine ⟨h1, ?_⟩
  unfold Lib.TabIs World.var? at h1
  rw [show Tryz.prog.globalNamed "internal/strconv.uint64pow10" = some 3 by kernel_rfl] at h1
  simp only [Option.bind_some] at h1
  rcases Nat.lt_or_ge 3 W.heap.size with h | h
  · exact h
  · rw [Array.getElem?_eq_none h] at h1; cases h1
theorem list3V {α : Type} {l : List α} (h : l.length = 3) : ∃ a b c, l = [a, b, c] := by
  match l, h with
  | [a, b, c], _ => exact ⟨a, b, c, rfl⟩
theorem nat_of_u64 {z : Int} (h : (Lit.int .u64 z).wf = true) : z = (z.toNat : Int) := by
  have h1 : IntKind.u64.min = 0 := by decide
  have h2 := h
  simp [Lit.wf, h1] at h2
  omega
theorem rcd_of_trod {H : Type} {enc : TypeId × Value → H} {W : World} {fuel : Nat} {cs : List Value} {x : DataW H × List MemPlace}
    (h : DataW.trod enc Tryz.prog W 0 (fun _ => true) true fuel 25 cs = some x) : ∃ r, RcdAt (cf W) r (.agg cs.toArray) := by
  obtain ⟨xs, n, hfu, _, hlen, hxl, hg⟩ := DataW.trod_struct Tryz.underlying25 h
  rw [show Tryz.prog.cellsOf 25 = 3 by kernel_rfl] at hlen
  have hF : Tryz.prog.cellsOf 23 = 1 := by kernel_rfl
  have hS : Tryz.prog.cellsOf 9 = 1 := by kernel_rfl
  have hI : Tryz.prog.cellsOf 22 = 1 := by kernel_rfl
  obtain ⟨c0, c1, c2, rfl⟩ := list3V hlen
  obtain ⟨y0, y1, y2, rfl⟩ := list3V hxl
  have g0 : DataW.trod enc Tryz.prog W 0 (fun _ => true) true n 22 [c0] = some y0 := by have := hg 0 _ rfl; simpa [hI] using this
  have g1 : DataW.trod enc Tryz.prog W 0 (fun _ => true) true n 9 [c1] = some y1 := by have := hg 1 _ rfl; simpa [hI, hS] using this
  have g2 : DataW.trod enc Tryz.prog W 0 (fun _ => true) true n 23 [c2] = some y2 := by have := hg 2 _ rfl; simpa [hI, hS, hF] using this
  obtain ⟨z, e0, _, wz⟩ := DataW.trod_int Tryz.underlying22 g0
  obtain ⟨s, e1, _, _⟩ := DataW.trod_string Tryz.underlying9 g1
  obtain rfl := (List.cons.inj e0).1
  obtain rfl := (List.cons.inj e1).1
  obtain ⟨l, hl⟩ := slice_of_trod Tryz.underlying23 (by kernel_rfl) (by decide) (fun fuel cs x h hl => write_of_trod fuel cs x h hl) g2
  exact ⟨⟨z.toNat, s, l⟩, c2, by rw [← nat_of_u64 wz], hl⟩
set_option maxRecDepth 100000 in
theorem rcd_of_Trod {H : Type} {enc : TypeId × Value → H} {W : World} {base : Nat} {v : Value} {d : DataW H} {p : List MemPlace} (hv : Value.okWide Tryz.prog W .any base 25 v)
    (h : DataW.Trod enc Tryz.prog W 0 (fun _ => true) true 25 v d p) : ∃ r, RcdAt (cf W) r v := by
  have hv2 : ∃ cs, v = .agg cs := okWide_agg Tryz.underlying25 hv
  clear hv
  obtain ⟨cs, rfl⟩ := hv2
  obtain ⟨fuel, hf⟩ := h
  obtain ⟨t, ht⟩ := rcd_of_trod hf
  exact ⟨t, by simpa [Value.cells] using ht⟩
theorem recordCuts_ints (r : RCD) (rv : Value) (m1 m2 : Int) (w : World) (hr : RcdAt (cf w) r rv) (h1 : (Lit.int .u16 m1).wf = true) (h2 : (Lit.int .u8 m2).wf = true) (hT : Tabs w) (hP : Pow w.heap.size w) (hE : Errs w.heap.size w) :
    Calls Tryz.prog 3 #[rv, .int .u16 m1, .int .u8 m2] w fun e w' => e = .returned (.bool true) ∧ Below w.heap.size w w' := by
  have a1 : IntKind.u16.min = 0 := by decide
  have a2 : IntKind.u16.max = 65535 := by decide
  have b1 : IntKind.u8.min = 0 := by decide
  have b2 : IntKind.u8.max = 255 := by decide
  simp [Lit.wf, a1, a2] at h1
  simp [Lit.wf, b1, b2] at h2
  obtain ⟨x, rfl⟩ := Int.eq_ofNat_of_zero_le h1.1
  obtain ⟨y, rfl⟩ := Int.eq_ofNat_of_zero_le h2.1
  exact recordCuts_walk r rv x y w hr (by omega) (by omega) hT hP hE
end Go.Proofs.YticlnijkfclgcaaGreatDoor

namespace Go.Proofs.YticlnijkfclgcaaGreatDoor
open Go.Shelf
open Go.ChangeShapes Go.WideShapes Go.ChangeAt Go.RowKit

theorem RecordCuts.witness (os : Os) {H : Type} (enc : TypeId × Value → H) :
    (OpenSpec.ofChange Rows.recordCutsSpec).preRow enc Tryz.prog Tryz.f3 Rows.recordCutsRow.domain false Rows.recordCutsRow.laid ((laidWorld8 os).forCall (fun _ _ => 0) ⟨#[], #[.agg #[.int .u64 0, .string ⟨#[]⟩, .slice none 0 0], .int .u16 0, .int .u8 0], []⟩).memory #[.agg #[.int .u64 0, .string ⟨#[]⟩, .slice none 0 0], .int .u16 0, .int .u8 0] := by
  have hw : (DataW.whole enc Tryz.prog ((laidWorld8 os).forCall (fun _ _ => 0) ⟨#[], #[.agg #[.int .u64 0, .string ⟨#[]⟩, .slice none 0 0], .int .u16 0, .int .u8 0], []⟩).memory Tryz.f3.params.toList Rows.recordCutsSpec.vars false #[.agg #[.int .u64 0, .string ⟨#[]⟩, .slice none 0 0], .int .u16 0, .int .u8 0].toList 8).map (fun x => (x.1, x.2.1)) =
      some ([.agg [.lit (.int .u64 0), .lit (.string []), .nil], .lit (.int .u16 0), .lit (.int .u8 0)], []) := by kernel_rfl
  obtain ⟨⟨x1, x2, x3⟩, hx, hx1⟩ := Option.map_eq_some_iff.1 hw
  simp only [Prod.mk.injEq] at hx1
  obtain ⟨rfl, rfl⟩ := hx1
  exact OpenSpec.preRow_of_cond 8 hx (by kernel_rfl) (fun k hk => by cases hk) (by kernel_rfl) (laid_met8 os _)
set_option maxRecDepth 100000 in
set_option maxHeartbeats 2000000 in
theorem RecordCuts.lifted (os : Os) (started : os.Started) (H : Type) (enc : TypeId × Value → H) (F : Stop.Interp) :
    ReturnsInHanded {} Tryz.checked os 3 .any ((OpenSpec.ofChange Rows.recordCutsSpec).preRow enc Tryz.prog Tryz.f3 Rows.recordCutsRow.domain false Rows.recordCutsRow.laid) (((OpenSpec.ofChange Rows.recordCutsSpec).at F).post enc Tryz.prog Tryz.f3 false true false false) := by
  refine returnsInHanded_of_row (C := Tryz.checked) (s := OpenSpec.ofChange Rows.recordCutsSpec) Tryz.own started (by kernel_rfl) Tryz.func3
    (witness_row_atRef (enc := enc) (C := Tryz.checked) false (laidWorld8 os) #[.agg #[.int .u64 0, .string ⟨#[]⟩, .slice none 0 0], .int .u16 0, .int .u8 0] rfl (by kernel_rfl) (by kernel_rfl) (by kernel_rfl) (RecordCuts.witness os enc)) ?_
  intro W base args ds gs before hval0 hW _ _ _ hL _ _
  have hval : ∀ (j : Nat) t v, Tryz.f3.params[j]? = some t → args[j]? = some v → Value.okWide Tryz.prog W .any base t v := hval0
  have hW' := hW
  obtain ⟨p, q, hA0, hV, rfl, hfz, hnd⟩ := hW
  have hA : DataW.TrodAll enc Tryz.prog W 0 (fun _ => true) true Tryz.f3.params.toList args.toList ds p := hA0
  rw [Tryz.params3] at hA hval
  obtain ⟨a0, vs0, d0, ds0, p0, q0, hargs, rfl, rfl, h0, r0⟩ := trodAll_cons hA
  obtain ⟨a1, vs1, d1, ds1, p1, q1, rfl, rfl, rfl, h1, r1⟩ := trodAll_cons r0
  obtain ⟨a2, vs2, d2, ds2, p2, q2, rfl, rfl, rfl, h2, r2⟩ := trodAll_cons r1
  obtain ⟨rfl, rfl, rfl⟩ := trodAll_nil r2
  obtain rfl : args = #[a0, a1, a2] := by cases args; simp_all
  obtain ⟨rfl, rfl⟩ := trodVars_none hV
  have k0 := h0
  have lt0 : ∀ x ∈ p0, x.block < W.heap.size := by obtain ⟨m, hm⟩ := k0; exact DataW.trod_lt m _ _ _ hm
  obtain ⟨rc, hrc⟩ := rcd_of_Trod (hval 0 _ a0 rfl rfl) h0
  have k1 := h1
  have lt1 : ∀ x ∈ p1, x.block < W.heap.size := by obtain ⟨m, hm⟩ := k1; exact DataW.trod_lt m _ _ _ hm
  obtain ⟨m1, rfl, _, _, wm1⟩ := open_int Tryz.underlying26 (hval 1 _ a1 rfl rfl) h1
  have k2 := h2
  have lt2 : ∀ x ∈ p2, x.block < W.heap.size := by obtain ⟨m, hm⟩ := k2; exact DataW.trod_lt m _ _ _ hm
  obtain ⟨m2, rfl, _, _, wm2⟩ := open_int Tryz.underlying5 (hval 2 _ a2 rfl rfl) h2
  clear hA0 hval0
  refine (recordCuts_ints rc a0 m1 m2 W hrc wm1 wm2 (tabs_of_laid8 hL) (pow_of_laid8 hL) (errs_of_laid8 hL)).mono fun e W' ⟨he, bel⟩ => ?_
  subst he
  exact ⟨_, rfl, _, _, _, [], _, [], hW', trodAll_mk1 (shut_bool Tryz.underlying4 _), (trodAll_cons_mk (Below.trod Tryz.laidOut (by kernel_rfl) (of_decide_eq_true (by kernel_rfl)) k0 bel lt0) (trodAll_cons_mk (Below.trod Tryz.laidOut (by kernel_rfl) (of_decide_eq_true (by kernel_rfl)) k1 bel lt1) (trodAll_cons_mk (Below.trod Tryz.laidOut (by kernel_rfl) (of_decide_eq_true (by kernel_rfl)) k2 bel lt2) trodAll_mk0))), rfl, bel.frame _, fun h => by cases h⟩
theorem RecordCuts.said : Rows.RecordCutsSaid :=
  OpenClaim.holds_of_cond 3 Tryz.f3 rfl rfl rfl rfl rfl rfl rfl ⟨rfl, rfl, rfl, rfl, rfl⟩ rfl rfl rfl rfl rfl (by kernel_rfl) Tryz.func3 (by kernel_rfl)
    (of_decide_eq_true (by kernel_rfl)) (by unfold Func.isWrapper; first | (rw [if_pos (by decide +kernel)]; kernel_rfl) | (rw [if_neg (by decide +kernel)]; exact ⟨rfl, rfl⟩))
    (fun os started H enc _ F => by rw [OpenClaim.pre_eq_preRow]; exact RecordCuts.lifted os started H enc F)
theorem RecordCuts.plain (f : FuncId) (fn : Func) (hf : Tryz.pinned.checked.prog.funcNamed "muniment/munimentlaw21.RecordCuts" = some f) (hfn : Tryz.pinned.checked.prog.funcs[f]? = some fn) :
    true = Tryz.pinned.checked.prog.looks [] ∧ ∀ (j : Nat) t, fn.params[j]? = some t → Tryz.pinned.checked.prog.wantsStandIn t = false := by
  obtain rfl : f = 3 := Option.some.inj ((show Tryz.prog.funcNamed "muniment/munimentlaw21.RecordCuts" = some 3 by kernel_rfl).symm.trans hf) |>.symm
  obtain rfl : fn = Tryz.f3 := (Option.some.inj (Tryz.func3.symm.trans hfn)).symm
  refine ⟨by kernel_rfl, fun j t ht => ?_⟩
  rw [Tryz.params3] at ht
  have hm := Array.mem_of_getElem? ht
  have hm2 : t = 25 ∨ t = 26 ∨ t = 5 := by simpa [or_assoc] using hm
  rcases hm2 with rfl | rfl | rfl
  · exact (show Tryz.prog.wantsStandIn 25 = false by kernel_rfl)
  · exact (show Tryz.prog.wantsStandIn 26 = false by kernel_rfl)
  · exact (show Tryz.prog.wantsStandIn 5 = false by kernel_rfl)
theorem recordCuts_holds : Rows.RecordCutsCardSaid :=
  Claim7.holds_tied_plain_at .later [] _ _ _ _ RecordCuts.said (fun _ h => by cases h) (by kernel_rfl) (fun _ h => by cases h) recordCuts_row_tie rfl ⟨rfl, rfl⟩ (by kernel_rfl) rfl RecordCuts.plain (by kernel_rfl)
#print axioms recordCuts_holds
end Go.Proofs.YticlnijkfclgcaaGreatDoor
