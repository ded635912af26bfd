import Derived.Test.YtmiphphombkpdaaGreatWB01
import Derived.Test.YtmiphphombkpdaaGreatWB03
import Derived.Test.YtmiphphombkpdaaGreatWB47
import Derived.ProofKit
import Derived.OpenShut
import Derived.Deep.Slices
import Derived.ChangeOld
namespace Go.Proofs.YtmiphphombkpdaaGreat
open Go.RowKit Go.Maps
structure LW (Q : PQ) (R : Int -> Option Bts) (H : HS) (S : PS) (p mb : Nat) (o : Top) (root : Int) (sl : Value) (w0 w : World) : Prop where
 pg : PG Q R H S p w
 top : TopIn S o root
 ok : ∃ j, j <= 80 /\ okO j o
 only : Only S (pagesO o)
 map : RM w mb sl (esO o)
 apart : ∀ b, mapX mb sl b -> ¬ H.all b
 bel : Below w0.heap.size w0 w
 new : ∀ b, H.all b -> w0.heap.size <= b
theorem LS.lw {Q : PQ} {R : Int -> Option Bts} {H : HS} {S : PS} {p tb mb : Nat} {o : Top} {root : Int} {sl : Value} {j : Nat} {w0 w : World} (h : LS Q R H S p tb mb o root sl (esO o) j w0 w) (hj : j <= 80) : LW Q R H S p mb o root sl w0 w /\ p <= 160000 :=
 ⟨⟨h.pg, h.top, ⟨j, hj, h.ok⟩, h.only, h.map, fun b hb e => h.apart b hb (.inl e), h.bel, fun b hb => h.new b (.inl hb)⟩, by have := h.few; omega⟩
theorem LW.low {Q : PQ} {R : Int -> Option Bts} {H : HS} {S : PS} {p mb : Nat} {o : Top} {root : Int} {sl : Value} {w0 w : World} (h : LW Q R H S p mb o root sl w0 w) : heightO o <= 20 /\ (pagesO o).length <= 79 /\ (esO o).length <= 1000000 /\ upB ((esO o).map (·.1)) := by
 obtain ⟨j, hj, hk⟩ := h.ok
 obtain ⟨h1, h2, h3⟩ := okO_few hk hj
 exact ⟨by omega, h2, by omega, okO_up hk⟩
theorem LW.quiet {Q : PQ} {R : Int -> Option Bts} {H : HS} {S : PS} {p mb : Nat} {o : Top} {root : Int} {sl : Value} {w0 w w' : World} (h : LW Q R H S p mb o root sl w0 w) (hb : Below w.heap.size w w') : LW Q R H S p mb o root sl w0 w' :=
 ⟨h.pg.below hb, h.top, h.ok, h.only, h.map.below hb, h.apart, h.bel.trans (hb.mono h.bel.size), h.new⟩
structure WRow (T : TypeId) (H : HS) (w : World) (sl : Value) (es : EL) : Prop where
 row : ∃ cs, OwnS 2 (RE (cfU w)) T 0 w sl es.length es cs
 off : ∀ g, sl.ownBlock = some g -> ¬ H.all g
theorem WRow.at_ {T : TypeId} {H : HS} {w : World} {sl : Value} {es : EL} (h : WRow T H w sl es) : SAt 2 (RE (cfU w)) (cf w) sl es := by
 obtain ⟨cs, ho⟩ := h.row
 exact ho.at_ (RE_mono _)
theorem WRow.below {T : TypeId} {H : HS} {w w' : World} {sl : Value} {es : EL} (h : WRow T H w sl es) (hb : Below w.heap.size w w') : WRow T H w' sl es := by
 obtain ⟨cs, ho⟩ := h.row
 exact ⟨⟨cs, (ho.quiet (RE_mono _) hb).rep (RE_le (cfU_below hb))⟩, h.off⟩
theorem WRow.turn {T : TypeId} {H H' : HS} {w w' : World} {sl : Value} {es : EL} (h : WRow T H w sl es) (hT : TurnS H.all w H'.all w') (hn : ∀ b, H.all b -> ¬ IsU w b) : WRow T H' w' sl es := by
 obtain ⟨cs, ho⟩ := h.row
 have hk : ∀ g, sl.ownBlock = some g -> w'.heap[g]? = w.heap[g]? /\ ¬ H'.all g := fun g hg => hT.out g (ho.low g hg).2 (h.off g hg)
 exact ⟨⟨cs, (own_stand (fun _ _ _ _ h => h) ho hT.size fun g hg => (hk g hg).1).rep (RE_le (cfU_turn hT hn))⟩, fun g hg => (hk g hg).2⟩
theorem LW.ranged {Q : PQ} {R : Int -> Option Bts} {H : HS} {S : PS} {p mb : Nat} {o : Top} {root : Int} {sl : Value} {w0 w w' : World} {es : EL} {e : Ending} (h : LW Q R H S p mb o root sl w0 w) (hp : RangePost Q R H S p (4 * (pagesO o).length) es w e w') :
  ∃ (sv : Value) (H' : HS) (S' : PS) (p' : Nat), e = .returned (.tuple #[sv, .int .i64 0]) /\ LW Q R H' S' p' mb o root sl w0 w' /\ p' <= p + 316 /\ WRow 42 H' w' sv es /\ TurnS H.all w H'.all w' /\ CLe (cfU w) (cfU w') /\ SameP S S' /\ ∀ g, sv.ownBlock = some g -> w.heap.size <= g := by
 obtain ⟨sv, H', S', p', rfl, ⟨cs, ho⟩, hoff, hG, hS, hT, hq⟩ := hp
 have hu := cfU_turn hT h.pg.noU
 have hl := h.low.2.1
 obtain ⟨m1, m2⟩ := h.map.turn hT h.apart h.pg.noU
 refine ⟨sv, H', S', p', rfl, ⟨hG, h.top.same hS, h.ok, ?_, m1, m2, ⟨hT.os.trans h.bel.os, hT.tape.trans h.bel.tape, hT.output.trans h.bel.output, Nat.le_trans h.bel.size hT.size, fun b hb => ?_⟩, fun b hb => ?_⟩, by omega, ⟨⟨cs, own_base ho (Nat.zero_le _)⟩, hoff⟩, hT, hu, hS, fun g hg => (ho.low g hg).1⟩
 ·refine ⟨h.only.nd, fun q hq => by rw [hS.1]; exact h.only.fresh q hq, fun q s hq hn => h.only.rest q s (by rw [<- hS.1]; exact hq) hn⟩
 ·exact (hT.out b (Nat.lt_of_lt_of_le hb h.bel.size) (fun e => by have := h.new b e; omega)).1.trans (h.bel.block b hb)
 ·by_cases e : w0.heap.size <= b
  ·exact e
  ·exact absurd hb (hT.out b (Nat.lt_of_lt_of_le (by omega) h.bel.size) (fun e2 => by have := h.new b e2; omega)).2
theorem LW.up {Q : PQ} {R : Int -> Option Bts} {H : HS} {S : PS} {p mb : Nat} {o : Top} {root most : Int} {sl fv tv : Value} {w0 w : World} {f t : Bts} (h : LW Q R H S p mb o root sl w0 w) (hp : p <= 900000) (hf : YAt (cfL w0.heap.size w) fv f) (ht : YAt (cfL w0.heap.size w) tv t) :
  Calls Tryz.prog 12 #[.pointer (some ⟨Q.pb, 0, none⟩), .int .i64 root, fv, tv, .int .i64 most] w (RangePost Q R H S p (4 * (pagesO o).length) (listE false f t most o) w) := by
 obtain ⟨h1, h2, h3, _⟩ := h.low
 exact walk_Up h.pg ⟨h.bel.size, h.new⟩ hf ht h.top (by omega) h1 h3
theorem awake_list : runE12 [((1 : UInt8), (0 : Int), (0 : Int), false), (2, 0, 0, false)] = [([1], []), ([2], [])] := by kernel_rfl
theorem yat_none (c : CF) : YAt c (.slice none 0 0) [] := SAt.none 1 RY c
theorem yat_cell {w : World} {xa : Option Addr} {n xc : Nat} {l : Bts} (h : YAt (cfU w) (.slice xa n xc) l) {i : Nat} {x : UInt8} (hx : l[i]? = some x) : ∃ b off, xa = some ⟨b, off, none⟩ /\ w.cell? ⟨b, off + i, none⟩ = some (.int .u8 (x.toNat : Int)) := by
 obtain ⟨a, cap, e, _, _, h3⟩ := h
 simp only [Value.slice.injEq] at e
 obtain ⟨b, off, d, ea, hd, hc, hr⟩ := h3 i x hx
 have hr' : d = [.int .u8 (x.toNat : Int)] := hr
 subst hr'
 have := cfU_cf w _ _ _ (hc 0 _ rfl)
 rw [Nat.mul_one, Nat.add_zero] at this
 exact ⟨b, off, by rw [e.1, ea], this⟩
set_option maxHeartbeats 8000000 in
set_option maxRecDepth 100000 in
theorem law_awake (w : World) : Calls Tryz.prog 8 #[] w fun e w' => e = .returned (.bool true) /\ Below w.heap.size w w' := by
 obtain ⟨q, hq⟩ : ∃ q, q = w.heap.size := ⟨_, rfl⟩
 obtain ⟨w1, hw1⟩ : ∃ w1, w1 = w.alloc (.cells #[.int .u8 1, .int .i64 0, .int .i64 0, .bool false, .int .u8 2, .int .i64 0, .int .i64 0, .bool false] 65) := ⟨_, rfl⟩
 have hb1 : Below w.heap.size w w1 := by rw [hw1]; exact (Below.refl _ w).alloc (Nat.le_refl _) _
 have hbx : w1.heap[q]? = some (.cells #[.int .u8 1, .int .i64 0, .int .i64 0, .bool false, .int .u8 2, .int .i64 0, .int .i64 0, .bool false] 65 (0, 0)) := by rw [hw1, hq]; exact heap_alloc_new w _
 have hl : SAt 4 ROp12 (cf w1) (.slice (some ⟨q, 0, none⟩) 2 2) [((1 : UInt8), (0 : Int), (0 : Int), false), (2, 0, 0, false)] := by
  refine ⟨_, _, rfl, Nat.le_refl _, by decide, fun i x hx => ?_⟩
  match i, hx with
  | 0, hx =>
   cases hx
   refine ⟨q, 0, _, rfl, rfl, fun j u hu => ?_, rfl⟩
   match j, hu with
   | 0, hu => cases hu; simp [cf, World.cell?, hbx]
   | 1, hu => cases hu; simp [cf, World.cell?, hbx]
   | 2, hu => cases hu; simp [cf, World.cell?, hbx]
   | 3, hu => cases hu; simp [cf, World.cell?, hbx]
  | 1, hx =>
   cases hx
   refine ⟨q, 0, _, rfl, rfl, fun j u hu => ?_, rfl⟩
   match j, hu with
   | 0, hu => cases hu; simp [cf, World.cell?, hbx]
   | 1, hu => cases hu; simp [cf, World.cell?, hbx]
   | 2, hu => cases hu; simp [cf, World.cell?, hbx]
   | 3, hu => cases hu; simp [cf, World.cell?, hbx]
 have HB := HoldT.mk (law_built hl (by decide))
 have H1 := HoldT.mk hb1
 have HW := HoldT.mk (And.intro hq hw1)
 clear hl hb1 hbx hq hw1
 go_enter Tryz.func8, Tryz.ntmps8
 go_wp2_with fail
 rw [<- HW.out.1, <- HW.out.2]
 refine HB.out.mono ?_
 rintro e w2 ⟨Q, R, H, S, p, tb, mb, o, root, sl, rfl, hL, he⟩
 obtain ⟨hw, hp⟩ := hL.lw (by decide)
 have hes : listE false [] [] 9 o = [([1], []), ([2], [])] := by
  unfold listE
  rw [he, awake_list]
  decide
 have HU := HoldT.mk (hw.up (most := 9) (by omega) (yat_none _) (yat_none _))
 have HL := HoldT.mk hw
 have HES := HoldT.mk hes
 have HB1 := HoldT.mk (H1.out.trans (hw.bel.mono H1.out.size))
 clear hL he hw hp hes HB
 go_wp2_with fail
 refine HU.out.mono ?_
 intro e w3 hpost
 obtain ⟨sv, H', S', p', rfl, hw3, hp3, hr, hT, hu, _⟩ := HL.out.ranged hpost
 rw [HES.out] at hr
 have hat := hr.at_
 obtain ⟨sa, sc, rfl⟩ := hat.form
 obtain ⟨b, off, ka, kc, va, vc, rfl, c0, c1, hy, _⟩ := row_at (i := 1) hat rfl
 obtain ⟨kb, ko, rfl, c2⟩ := yat_cell (i := 0) hy rfl
 have HE := HoldT.mk (H1.out.trans (hw3.bel.mono H1.out.size))
 rw [Nat.add_zero] at c2
 have c3 : w3.cell? ⟨kb, ko, none⟩ = some (.int .u8 2) := c2
 have c4 : w3.cell? ⟨b, off + 2, none⟩ = some (.slice (some ⟨kb, ko, none⟩) 1 kc) := c0
 have hln : ([([1], []), ([2], [])] : EL).length = 2 := rfl
 rw [hln]
 clear hpost hw3 hp3 hr hT hu hat c0 c1 hy c2 HU hln
 go_wp2_with fail
 go_ret
 exact ⟨rfl, HE.out⟩
end Go.Proofs.YtmiphphombkpdaaGreat
namespace Go.Proofs.YtmiphphombkpdaaGreat
open Go.RowKit Go.Maps
set_option maxHeartbeats 4000000 in
set_option maxRecDepth 100000 in
theorem law_few (a fa ta : Option Addr) (n c fl fc tl tc : Nat) (most : Int) (w : World) :
  Calls Tryz.prog 9 #[.slice a n c, .agg #[.slice fa fl fc, .slice ta tl tc, .int .i64 most]] w fun e w' => e = .returned (.bool (decide (n <= 80) && decide (fl <= 1000) && decide (tl <= 1000))) /\ Below w.heap.size w w' := by
 obtain ⟨q, hq⟩ : ∃ q, q = w.heap.size := ⟨_, rfl⟩
 obtain ⟨w1, hw1⟩ : ∃ w1, w1 = w.alloc (.cells #[.slice fa fl fc, .slice ta tl tc, .int .i64 most] 25) := ⟨_, rfl⟩
 have hb1 : Below w.heap.size w w1 := by rw [hw1]; exact (Below.refl _ w).alloc (Nat.le_refl _) _
 have hbx : w1.heap[q]? = some (.cells #[.slice fa fl fc, .slice ta tl tc, .int .i64 most] 25 (0, 0)) := by rw [hw1, hq]; exact heap_alloc_new w _
 have x0 : w1.cell? ⟨q, 0, none⟩ = some (.slice fa fl fc) := by simp [World.cell?, hbx]
 have x1 : w1.cell? ⟨q, 1, none⟩ = some (.slice ta tl tc) := by simp [World.cell?, hbx]
 have HB := HoldT.mk hb1
 have HW := HoldT.mk (And.intro hq hw1)
 clear hq hw1 hb1 hbx
 by_cases h1 : n <= 80
 ·have h1' : (n : Int) <= 80 := by omega
  by_cases h2 : fl <= 1000
  ·have h2' : (fl : Int) <= 1000 := by omega
   go_enter Tryz.func9, Tryz.ntmps9
   go_upto_region 1 with (fail)
   rw [<- HW.out.1, <- HW.out.2]
   go_wp2_with fail
   go_ret
   exact ⟨by simp [h1, h2] <;> omega, HB.out⟩
  ·have h2' : ¬ (fl : Int) <= 1000 := by omega
   go_enter Tryz.func9, Tryz.ntmps9
   go_upto_region 1 with (fail)
   rw [<- HW.out.1, <- HW.out.2]
   go_wp2_with fail
   go_ret
   exact ⟨by simp, HB.out⟩
 ·have h1' : ¬ (n : Int) <= 80 := by omega
  go_enter Tryz.func9, Tryz.ntmps9
  go_upto_region 1 with (fail)
  rw [<- HW.out.1, <- HW.out.2]
  go_wp2_with fail
  go_ret
  exact ⟨by simp, HB.out⟩
end Go.Proofs.YtmiphphombkpdaaGreat
namespace Go.Proofs.YtmiphphombkpdaaGreat
open Go.RowKit Go.Maps
structure LA (W : World) (l : List LOp) (a fa ta : Option Addr) (n c fl fc tl tc : Nat) (f t : Bts) : Prop where
 list : SAt 4 ROp12 (cf W) (.slice a n c) l
 len : n = l.length
 from_ : YAt (cf W) (.slice fa fl fc) f
 to_ : YAt (cf W) (.slice ta tl tc) t
end Go.Proofs.YtmiphphombkpdaaGreat
namespace Go.Proofs.YtmiphphombkpdaaGreat
open Go.ChangeShapes Go.WideShapes Go.ChangeAt Go.RowKit
theorem addr_add (b off k : Nat) : (⟨b, off, none⟩ : Addr).add k = ⟨b, off + k, none⟩ := by
 unfold Addr.add; split <;> simp_all
theorem cell_spot {W : World} {b off : Nat} {spot} (h0 : ∃ u, W.cell? ((⟨b, off, spot⟩ : Addr).add 0) = some u) : spot = none := by
 obtain ⟨u, hu⟩ := h0
 have := World.cell?_spot hu; simpa [Addr.add] using this
instance : Inhabited JV := ⟨.mk 0 0 ⟨#[]⟩ [] []⟩
theorem okWide_agg {P : Program} {w : World} {r : Reach} {base : Nat} {t : TypeId} {v : Value} {fs : Array Field} (ht : P.underlying t = some (.struct fs)) (h : Value.okWide P w r base t v) : ∃ cs, v = .agg cs := by
 obtain ⟨cs, e, _⟩ := okWide_struct ht h
 exact ⟨cs, e⟩
end Go.Proofs.YtmiphphombkpdaaGreat
namespace Go.Proofs.YtmiphphombkpdaaGreat
open Go.ChangeShapes Go.WideShapes Go.ChangeAt Go.RowKit
theorem slice_of_trod {α : Type} {n : Nat} {R : Rep α} {T Ts : TypeId} (hTs : Tryz.prog.underlying Ts = some (.slice T)) (hc : Tryz.prog.cellsOf T = n) (hn : 0 < n) {H : Type} {enc : TypeId × Value -> H} {W : World}
  (hel : ∀ fuel cs x, DataW.trod enc Tryz.prog W 0 (fun _ => true) true fuel T cs = some x -> cs.length = n -> ∃ e : α, R (cf W) e cs) {fuel : Nat} {c : Value} {x : DataW H × List MemPlace}
  (h : DataW.trod enc Tryz.prog W 0 (fun _ => true) true fuel Ts [c] = some x) : ∃ l : List α, SAt n R (cf W) c l := by
 rcases DataW.trod_slice hTs h with ⟨hcs, _⟩ | ⟨a, len, cap, elems, rest, n', hn', hcs, _, _, hl, hm, hle, hel2, _⟩
 ·cases hcs
  exact ⟨[], SAt.none _ _ _⟩
 ·cases hcs
  have hx : ∀ i, i < len -> ∃ p : Option (α × List Value), ∃ e d, p = some (e, d) /\ d.length = n /\ (∀ (j : Nat) u, d[j]? = some u -> W.cell? (a.add (i * n + j)) = some u) /\ R (cf W) e d := by
   intro i hil
   have h1 := hel2 i hil
   rw [List.getElem?_eq_getElem (by omega), Option.bind_eq_some_iff] at h1
   obtain ⟨cs', hc', ht⟩ := h1
   rw [hc] at hc'
   obtain ⟨_, hcl, hat⟩ := World.cells?_some hc'
   obtain ⟨e, he⟩ := hel _ _ _ ht hcl
   refine ⟨some (e, cs'), e, cs', rfl, hcl, fun j u hu => ?_, he⟩
   have hj : j < n := by rw [<- hcl]; exact (List.getElem?_eq_some_iff.1 hu).1
   have := hat j hj
   rw [hu] at this
   simpa [Go.Deep.add_add] using this
  obtain ⟨f, hf⟩ := Go.Deep.choose_lt hx
  have hget : ∀ i, i < len -> ∃ e d, f i = some (e, d) /\ d.length = n /\ (∀ (j : Nat) u, d[j]? = some u -> W.cell? (a.add (i * n + j)) = some u) /\ R (cf W) e d := hf
  have hlist : ∀ m, m <= len -> ∃ l : List α, l.length = m /\ ∀ i e, l[i]? = some e -> ∃ d, f i = some (e, d) := by
   intro m
   induction m with
   | zero => intro _; exact ⟨[], rfl, fun i e h => by simp at h⟩
   | succ m ih =>
    intro hm2
    obtain ⟨l, hl1, hl2⟩ := ih (by omega)
    obtain ⟨e, d, hfe, _⟩ := hget m (by omega)
    refine ⟨l ++ [e], by simp [hl1], fun i y hy => ?_⟩
    by_cases hi : i < l.length
    ·rw [List.getElem?_append_left hi] at hy; exact hl2 i y hy
    ·rw [List.getElem?_append_right (by omega)] at hy
     cases he : i - l.length with
     | zero =>
      rw [he] at hy
      obtain rfl : e = y := by simpa using hy
      exact ⟨d, by rw [show i = m by omega]; exact hfe⟩
     | succ q => rw [he] at hy; simp at hy
  obtain ⟨l, hl1, hl2⟩ := hlist len (Nat.le_refl _)
  refine ⟨l, some a, cap, by rw [hl1], by omega, by unfold maxLen at hm; omega, fun i e he => ?_⟩
  have hil : i < len := by rw [<- hl1]; exact (List.getElem?_eq_some_iff.1 he).1
  obtain ⟨e2, d, h1, h2, h3, h4⟩ := hget i hil
  obtain ⟨d', h5⟩ := hl2 i e he
  rw [h1] at h5
  obtain ⟨rfl, rfl⟩ : e2 = e /\ d = d' := by simpa using h5
  obtain ⟨b, off, spot⟩ := a
  obtain ⟨e0, d0, _, k2, k3, _⟩ := hget 0 (by omega)
  have hs := cell_spot ⟨_, by have := k3 0 _ (List.getElem?_eq_getElem (by omega : 0 < d0.length)); simpa using this⟩
  subst hs
  refine ⟨b, off, d, rfl, h2, fun j u hu => ?_, h4⟩
  have := h3 j u hu
  rw [addr_add] at this
  unfold cf; rw [Nat.add_assoc]; exact this
set_option maxRecDepth 100000 in
theorem slice_of_Trod {α : Type} {n : Nat} {R : Rep α} {T Ts : TypeId} (hTs : Tryz.prog.underlying Ts = some (.slice T)) (hc : Tryz.prog.cellsOf T = n) (hn : 0 < n) {H : Type} {enc : TypeId × Value -> H} {W : World}
  (hel : ∀ fuel cs x, DataW.trod enc Tryz.prog W 0 (fun _ => true) true fuel T cs = some x -> cs.length = n -> ∃ e : α, R (cf W) e cs) {base : Nat} {v : Value} {d : DataW H} {p : List MemPlace} (hv : Value.okWide Tryz.prog W .any base Ts v)
  (h : DataW.Trod enc Tryz.prog W 0 (fun _ => true) true Ts v d p) : ∃ l : List α, SAt n R (cf W) v l := by
 obtain ⟨a, len, cap, rfl⟩ := okWide_slice hTs hv
 obtain ⟨fuel, hf⟩ := h
 exact slice_of_trod hTs hc hn hel (by simpa [Value.cells] using hf)
end Go.Proofs.YtmiphphombkpdaaGreat
namespace Go.Proofs.YtmiphphombkpdaaGreat
open Go.Shelf
open Go.ChangeShapes Go.WideShapes Go.ChangeAt Go.RowKit
theorem Tryz.own : ownKnob Tryz.prog.godebug = none := by kernel_rfl
theorem Tryz.laidOut : laidOutB Tryz.prog = true := by kernel_rfl
theorem byteY_of_trod {H : Type} {enc : TypeId × Value -> H} {W : World} (fuel : Nat) (cs : List Value) (x : DataW H × List MemPlace)
  (h : DataW.trod enc Tryz.prog W 0 (fun _ => true) true fuel 5 cs = some x) (_ : cs.length = 1) : ∃ c : UInt8, RY (cf W) c cs := by
 obtain ⟨m, rfl, _, hw⟩ := DataW.trod_int Tryz.underlying5 h
 have hb : 0 <= m /\ m <= 255 := by
  simp [Lit.wf, IntKind.min, IntKind.max, IntKind.bits, IntKind.signed] at hw
  omega
 exact ⟨UInt8.ofNat m.toNat, by unfold RY; rw [UInt8.toNat_ofNat']; congr 2; omega⟩
set_option maxRecDepth 100000 in
theorem yat_of_trod {H : Type} {enc : TypeId × Value -> H} {W : World} {fuel : Nat} {c : Value} {x : DataW H × List MemPlace}
  (h : DataW.trod enc Tryz.prog W 0 (fun _ => true) true fuel 23 [c] = some x) : ∃ l, YAt (cf W) c l :=
 slice_of_trod (n := 1) (R := RY) Tryz.underlying23 (by kernel_rfl) (by decide) (fun fuel cs x h hl => byteY_of_trod fuel cs x h hl) h
theorem list4T {α : Type} {l : List α} (h : l.length = 4) : ∃ a b c d, l = [a, b, c, d] := by
 match l, h with
 | [a, b, c, d], _ => exact ⟨a, b, c, d, rfl⟩
theorem list3T {α : Type} {l : List α} (h : l.length = 3) : ∃ a b c, l = [a, b, c] := by
 match l, h with
 | [a, b, c], _ => exact ⟨a, b, c, rfl⟩
set_option maxRecDepth 100000 in
theorem lop_of_trod {H : Type} {enc : TypeId × Value -> H} {W : World} (fuel : Nat) (cs : List Value) (x : DataW H × List MemPlace)
  (h : DataW.trod enc Tryz.prog W 0 (fun _ => true) true fuel 65 cs = some x) (_ : cs.length = 4) : ∃ e : LOp, ROp12 (cf W) e cs := by
 obtain ⟨xs, n, hfu, _, hlen, hxl, hg⟩ := DataW.trod_struct Tryz.underlying65 h
 rw [show Tryz.prog.cellsOf 65 = 4 by kernel_rfl] at hlen
 have hI : Tryz.prog.cellsOf 3 = 1 := by kernel_rfl
 have hU : Tryz.prog.cellsOf 5 = 1 := by kernel_rfl
 have hB : Tryz.prog.cellsOf 4 = 1 := by kernel_rfl
 obtain ⟨c0, c1, c2, c3, rfl⟩ := list4T hlen
 obtain ⟨y0, y1, y2, y3, rfl⟩ := list4T hxl
 have g0 : DataW.trod enc Tryz.prog W 0 (fun _ => true) true n 5 [c0] = some y0 := by have := hg 0 _ rfl; simpa [hI, hU, hB] using this
 have g1 : DataW.trod enc Tryz.prog W 0 (fun _ => true) true n 3 [c1] = some y1 := by have := hg 1 _ rfl; simpa [hI, hU, hB] using this
 have g2 : DataW.trod enc Tryz.prog W 0 (fun _ => true) true n 3 [c2] = some y2 := by have := hg 2 _ rfl; simpa [hI, hU, hB] using this
 have g3 : DataW.trod enc Tryz.prog W 0 (fun _ => true) true n 4 [c3] = some y3 := by have := hg 3 _ rfl; simpa [hI, hU, hB] using this
 obtain ⟨b, e0⟩ := byteY_of_trod _ _ _ g0 rfl
 obtain ⟨m1, e1, _, _⟩ := DataW.trod_int Tryz.underlying3 g1
 obtain ⟨m2, e2, _, _⟩ := DataW.trod_int Tryz.underlying3 g2
 obtain ⟨f, e3, _⟩ := DataW.trod_bool Tryz.underlying4 g3
 have e0' : [c0] = [.int .u8 (b.toNat : Int)] := e0
 obtain rfl := (List.cons.inj e0').1
 obtain rfl := (List.cons.inj e1).1
 obtain rfl := (List.cons.inj e2).1
 obtain rfl := (List.cons.inj e3).1
 exact ⟨(b, m1, m2, f), rfl⟩
set_option maxRecDepth 100000 in
theorem lops_of_Trod {H : Type} {enc : TypeId × Value -> H} {W : World} {base : Nat} {v : Value} {d : DataW H} {p : List MemPlace} (hv : Value.okWide Tryz.prog W .any base 22 v)
  (h : DataW.Trod enc Tryz.prog W 0 (fun _ => true) true 22 v d p) : ∃ (l : List LOp) (a : Option Addr) (n c : Nat), v = .slice a n c /\ n = l.length /\ SAt 4 ROp12 (cf W) (.slice a n c) l := by
 obtain ⟨l, hl⟩ := slice_of_Trod Tryz.underlying22 (by kernel_rfl) (by decide) (fun fuel cs x h hl => lop_of_trod fuel cs x h hl) hv h
 obtain ⟨a, c, rfl⟩ := hl.form
 exact ⟨l, a, _, c, rfl, rfl, hl⟩
set_option maxRecDepth 100000 in
theorem range_of_Trod {H : Type} {enc : TypeId × Value -> H} {W : World} {base : Nat} {v : Value} {d : DataW H} {p : List MemPlace} (hv : Value.okWide Tryz.prog W .any base 25 v)
  (h : DataW.Trod enc Tryz.prog W 0 (fun _ => true) true 25 v d p) : ∃ (f t : Bts) (fa ta : Option Addr) (fl fc tl tc : Nat) (m : Int), v = .agg #[.slice fa fl fc, .slice ta tl tc, .int .i64 m] /\ (Lit.int .i64 m).wf = true /\ fl = f.length /\ tl = t.length /\ YAt (cf W) (.slice fa fl fc) f /\ YAt (cf W) (.slice ta tl tc) t := by
 have hv2 : ∃ cs, v = .agg cs := okWide_agg Tryz.underlying25 hv
 clear hv
 obtain ⟨cs, rfl⟩ := hv2
 obtain ⟨fuel, hf⟩ := h
 obtain ⟨xs, n, hfu, _, hlen, hxl, hg⟩ := DataW.trod_struct Tryz.underlying25 hf
 rw [show Tryz.prog.cellsOf 25 = 3 by kernel_rfl] at hlen
 have hcl : (Value.agg cs).cells = cs := by simp [Value.cells]
 rw [hcl] at hlen hg
 have hI : Tryz.prog.cellsOf 3 = 1 := by kernel_rfl
 have hU : Tryz.prog.cellsOf 23 = 1 := by kernel_rfl
 obtain ⟨c0, c1, c2, hc⟩ := list3T hlen
 obtain ⟨y0, y1, y2, rfl⟩ := list3T hxl
 rw [hc] at hg
 have g0 : DataW.trod enc Tryz.prog W 0 (fun _ => true) true n 23 [c0] = some y0 := by have := hg 0 _ rfl; simpa [hI, hU] using this
 have g1 : DataW.trod enc Tryz.prog W 0 (fun _ => true) true n 23 [c1] = some y1 := by have := hg 1 _ rfl; simpa [hI, hU] using this
 have g2 : DataW.trod enc Tryz.prog W 0 (fun _ => true) true n 3 [c2] = some y2 := by have := hg 2 _ rfl; simpa [hI, hU] using this
 obtain ⟨f, hf0⟩ := yat_of_trod g0
 obtain ⟨t, ht0⟩ := yat_of_trod g1
 obtain ⟨m, e2, _, hw⟩ := DataW.trod_int Tryz.underlying3 g2
 obtain rfl := (List.cons.inj e2).1
 obtain ⟨fa, fc, rfl⟩ := hf0.form
 obtain ⟨ta, tc, rfl⟩ := ht0.form
 have e : cs = #[.slice fa f.length fc, .slice ta t.length tc, .int .i64 m] := by
  cases cs; simp only at hc; rw [hc]
 exact ⟨f, t, fa, ta, _, fc, _, tc, m, by rw [e], hw, rfl, rfl, hf0, ht0⟩
end Go.Proofs.YtmiphphombkpdaaGreat
