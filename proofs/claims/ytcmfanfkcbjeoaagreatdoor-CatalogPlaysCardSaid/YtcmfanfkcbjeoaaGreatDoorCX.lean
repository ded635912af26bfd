/- Catalogs: with, AddIndex and DropIndex of the reference (printed by genXCX.py). -/
import Derived.Test.YtcmfanfkcbjeoaaGreatDoorCZ
namespace Go.Proofs.YtcmfanfkcbjeoaaGreatDoor
open Go.Shelf Go.RowKit

/-- a placed index that lies as it lay in w -/
def RPK (w : World) : Rep PX := fun _ x d => RPX (cf w) x d
theorem RPK_mono {w : World} : Mono (RPK w) := fun _ _ _ _ _ h => h
theorem RPK_one {w : World} : ∀ (c : CF) (x : PX) (d : List Value), RPK w c x d → ∀ u ∈ d, u.oneCell' = true := fun _ x d h => RPX_one _ x d h
theorem sat_RPK {w w' : World} {N p : Nat} {sl : Value} {xs : List PX} {cs : List Value} (h : OwnS 4 (RPK w) 108 N w' sl p xs cs) (hb : Below w.heap.size w w') : SAt 4 RPX (cf w') sl xs := by
  have hl := h.len
  subst hl
  refine sat_of_own h.own (c := cf w') ⟨h.row.1, fun i x hx => ?_⟩ (fun _ _ _ _ h => h)
  obtain ⟨d, h1, h2, h3⟩ := h.row.2 i x hx
  exact ⟨d, h1, h2, RPX_mono _ _ _ _ (cle_below hb) h3⟩
theorem grow_setC {c c' : CF} {w : World} {l : List CX} {cs : List Value} {k : Nat} {y z : CX} {iv : Value} (h : GRow 3 (RK w) c l cs) (hy : l[k]? = some y) (hn : z.name = y.name) (hs : z.sp = y.sp) (hm : CLe (cf w) c') (hi : SAt 4 RPX c' iv z.ixs) : GRow 3 RCX c' (l.set k z) (cs.set (k * 3 + 2) iv) := by
  have hcl := h.1
  have hlt := (List.getElem?_eq_some_iff.1 hy).1
  refine ⟨by rw [List.length_set, List.length_set]; exact hcl, fun j u hu => ?_⟩
  by_cases e : j = k
  · subst e
    rw [List.getElem?_set_self hlt] at hu
    obtain rfl := Option.some.inj hu
    obtain ⟨d, h1, h2, xa, xcap, rfl, g1, g2, _⟩ := h.2 j y hy
    obtain ⟨a, cap, e, _⟩ := id hi
    refine ⟨[.string z.name, .int .i64 z.sp, iv], rfl, fun q u hu => ?_, a, cap, by rw [e], by rw [hn]; exact g1, by rw [hs]; exact g2, by rw [← e]; exact hi⟩
    match q, hu with
    | 0, hu => rw [List.getElem?_set_ne (by omega), h2 0 _ rfl, ← hn]; exact hu
    | 1, hu => rw [List.getElem?_set_ne (by omega), h2 1 _ rfl, ← hs]; exact hu
    | 2, hu => rw [List.getElem?_set_self (by omega)]; exact hu
    | q + 3, hu => simp at hu
  · rw [List.getElem?_set_ne (fun e2 => e e2.symm)] at hu
    obtain ⟨d, h1, h2, h3⟩ := h.2 j u hu
    refine ⟨d, h1, fun q v hv => ?_, RCX_mono _ _ _ _ hm h3⟩
    have hq : q < 3 := by rw [← h1]; exact (List.getElem?_eq_some_iff.1 hv).1
    rw [List.getElem?_set_ne (by omega)]; exact h2 q v hv

set_option maxRecDepth 100000 in
set_option maxHeartbeats 16000000 in
theorem with_any (l : List CX) (v : Value) (k : Nat) (y z : CX) (iv : Value) (w : World) (h : CatAt (cf w) l v) (hy : l[k]? = some y) (hzn : z.name = y.name) (hzs : z.sp = y.sp) (hi : SAt 4 RPX (cf w) iv z.ixs) (hl : l.length ≤ 1000) :
    Calls Tryz.prog 109 #[v, .int .i64 (k : Int), iv] w fun e w' => ∃ v', e = .returned v' ∧ CatAt (cf w') (l.set k z) v' ∧ Below w.heap.size w w' := by
  obtain ⟨a, cap, W00, rfl, _, _, _, _, hle, hcap, hel⟩ := boxed_cat h
  have HE := Hold.mk hel
  have HL := Hold.mk hl
  have HY := Hold.mk hy
  have HI := Hold.mk hi
  have hkl := (List.getElem?_eq_some_iff.1 hy).1
  obtain ⟨ia, icap, rfl, _⟩ := id hi
  obtain ⟨W0, hW0⟩ : ∃ W0, W0 = ((w.alloc (.cells #[.slice a l.length cap] 57)).alloc (.cells #[.slice none 0 0] 57)).alloc (.cells #[.slice none 0 0] 57) := ⟨_, rfl⟩
  have hb0 : Below w.heap.size w W0 := by rw [hW0]; exact (((Below.refl _ w).alloc (Nat.le_refl _) _).alloc (by simp <;> omega) _).alloc (by simp <;> omega) _
  have hz0 : W0.heap.size = w.heap.size + 3 := by rw [hW0]; simp
  have k0 : W0.heap[w.heap.size]? = some (.cells #[.slice a l.length cap] 57 (0, 0)) := by
    rw [hW0, Below.heap_alloc _ _ _ (by simp <;> omega), Below.heap_alloc _ _ _ (by simp <;> omega)]; exact heap_alloc_new w _
  have HK1 : Hold (W0.heap[w.heap.size + 1]? = some (.cells #[.slice none 0 0] 57 (0, 0))) := ⟨by
    rw [hW0, Below.heap_alloc _ _ _ (by simp <;> omega)]
    have := heap_alloc_new (w.alloc (.cells #[.slice a l.length cap] 57)) (.cells #[.slice none 0 0] 57)
    simpa using this⟩
  have HK2 : Hold (W0.heap[w.heap.size + 1 + 1]? = some (.cells #[.slice none 0 0] 57 (0, 0))) := ⟨by
    rw [hW0]
    have := heap_alloc_new ((w.alloc (.cells #[.slice a l.length cap] 57)).alloc (.cells #[.slice none 0 0] 57)) (.cells #[.slice none 0 0] 57)
    simpa using this⟩
  have HB0 := Hold.mk hb0
  have HZ0 := Hold.mk hz0
  have HO0 : Hold (OwnS 3 (RK w) 106 (w.heap.size + 3) W0 (.slice none 0 0) 0 ([] : List CX) []) := ⟨OwnS.start 3 (RK w) 106 (B := w.heap.size + 3) (w := W0) (by omega)⟩
  have y0 : W0.cell? ⟨w.heap.size, 0, none⟩ = some (.slice a l.length cap) := by simp [World.cell?, k0]
  have hk2 := HK2.out
  have y2 : W0.cell? ⟨w.heap.size + 1 + 1, 0, none⟩ = some (.slice none 0 0) := by simp [World.cell?, hk2]
  have HSRC : Hold (SAt 3 (RK w) (cfN (.slice none 0 0) W0) (.slice a l.length cap) l) := ⟨⟨a, cap, rfl, hle, hcap, fun i x hx => by
    obtain ⟨b, off, d, e, h1, h2, h3⟩ := HE.out i x hx
    exact ⟨b, off, d, e, h1, fun j u hu => cle_cfN_old HB0.out (fun g hg => by cases hg) _ _ _ (h2 j u hu), h3⟩⟩⟩
  clear hel hb0 hz0 k0 hk2 h hy hi hl
  go_enter Tryz.func109, Tryz.ntmps109
  go_upto_region 2 with (fail)
  rw [← hW0]
  clear hW0
  go_wp2_with (at_builtin; refine push_src RK_mono RK_one rfl _ _ rfl infoCXr Tryz.underlying55 rfl (by decide) _ _ _ 0 _ _ HO0.out rfl _ l HSRC.out rfl (by have := HL.out; omega) (by decide) ?_)
  intro sl2 w2 cs ho hg
  obtain ⟨sa, scap, rfl⟩ := ho.shape
  obtain ⟨g, rfl⟩ := own_placeZ ho.own (by omega)
  have HO := Hold.mk ho
  have HG := Hold.mk (ho.own.lt g rfl)
  have HB2 : Hold (Below W0.heap.size W0 w2) := ⟨HO0.out.below hg |> fun h => by rw [HZ0.out]; exact h⟩
  have HR2 := Hold.mk (kept HK1.out HB2.out)
  have HU2 := Hold.mk (kept HK2.out HB2.out)
  have hf2 : w2.frozen? ⟨w.heap.size + 1 + 1, 0, none⟩ = false := free_box HU2.out 0
  have hx2 : w2.cell? ⟨w.heap.size + 1 + 1, 0, none⟩ = some (.slice none 0 0) := by
    have := HU2.out
    simp [World.cell?, this]
  have HSZ : Hold (l.length ≤ scap ∧ scap ≤ 9223372036854775807) := ⟨by
    rcases ho.own.2 with ⟨hv, _⟩ | ⟨g, cap, cur, hv, _, _, h2, h3, _⟩
    · cases hv
    · injection hv with _ e2 e3; unfold maxLen at h3; omega⟩
  clear ho hg y0 y2
  go_upto_region 3 with (fail)
  clear hf2 hx2
  obtain ⟨W3, hW3⟩ : ∃ W3, W3 = w2.setCell ⟨w.heap.size + 1 + 1, 0, none⟩ (.slice (some ⟨g, 0, none⟩) l.length scap) := ⟨_, rfl⟩
  rw [← hW3]
  have hg3 : w2.grownBy W3 (some (w.heap.size + 1 + 1)) := by rw [hW3]; exact grownZ_set _ _ _ _
  have HO3 := Hold.mk (HO.out.own.kept hg3 (.inr (fun e => by have := HG.out.1; have := Option.some.inj e; simp at this; omega)))
  have hu3 : W3.heap[w.heap.size + 1 + 1]? = some (.cells #[.slice (some ⟨g, 0, none⟩) l.length scap] 57 (0, 0)) := by
    rw [hW3]
    have := set_self (o := 0) (c := .slice (some ⟨g, 0, none⟩) l.length scap) HU2.out
    simpa using this
  have HU3 := Hold.mk hu3
  have HR3 : Hold (W3.heap[w.heap.size + 1]? = some (.cells #[.slice none 0 0] 57 (0, 0))) := ⟨by
    rw [hg3.block _ (heap_lt HR2.out) (fun e => by have := Option.some.inj e; omega)]; exact HR2.out⟩
  have HBW3 : Hold (Below w.heap.size w W3) := ⟨(HB0.out.trans (HB2.out.mono HB0.out.size)).trans (below_grownZ hg3 (by omega) (Nat.le_trans HB0.out.size HB2.out.size))⟩
  have hst := HO3.out.stored (k * 3 + 2) (.slice ia z.ixs.length icap)
  obtain ⟨W4, hW4⟩ : ∃ W4, W4 = W3.setCell ⟨g, k * 3 + 2, none⟩ (.slice ia z.ixs.length icap) := ⟨_, rfl⟩
  rw [← hW4] at hst
  obtain ⟨ho4, hg4⟩ := hst
  have HO4 := Hold.mk ho4
  have HG4 := Hold.mk hg4
  have y2 : W3.cell? ⟨w.heap.size + 1 + 1, 0, none⟩ = some (.slice (some ⟨g, 0, none⟩) l.length scap) := by simp [World.cell?, hu3]
  have hcells : ∃ u, W3.cell? ⟨g, k * 3 + 2, none⟩ = some u := by
    have hcl := HO3.out.1
    have := HO3.out.cells (g := g) rfl (k * 3 + 2) _ (List.getElem?_eq_getElem (by omega))
    rw [addr_at] at this
    exact ⟨_, this⟩
  obtain ⟨u0, hu0⟩ := hcells
  have hff : W3.frozen? ⟨g, k * 3 + 2, none⟩ = false := by
    rcases HO3.out.2 with ⟨hv, _⟩ | ⟨q, cap, cur, hv, _, hgg, _⟩
    · cases hv
    · injection hv with e1
      injection e1 with e1
      injection e1 with e1
      subst e1
      exact free_box hgg _
  have hkz : (k : Int) < (l.length : Int) := by omega
  clear hW3 hg3 hu3 ho4 hg4
  go_upto_region 4 with (fail)
  rw [← hW4]
  clear hW4 hu0 hff y2 hkz
  have HU4 : Hold (W4.heap[w.heap.size + 1 + 1]? = some (.cells #[.slice (some ⟨g, 0, none⟩) l.length scap] 57 (0, 0))) := ⟨by
    rw [HG4.out.block _ (heap_lt HU3.out) (fun e => by have := Option.some.inj e; have := HG.out.1; omega)]; exact HU3.out⟩
  have HR4 : Hold (W4.heap[w.heap.size + 1]? = some (.cells #[.slice none 0 0] 57 (0, 0))) := ⟨by
    rw [HG4.out.block _ (heap_lt HR3.out) (fun e => by have := Option.some.inj e; have := HG.out.1; omega)]; exact HR3.out⟩
  have HBW4 : Hold (Below w.heap.size w W4) := ⟨HBW3.out.trans (below_grownZ HG4.out (by have := HG.out.1; omega) HBW3.out.size)⟩
  have y2 : W4.cell? ⟨w.heap.size + 1 + 1, 0, none⟩ = some (.slice (some ⟨g, 0, none⟩) l.length scap) := by
    have := HU4.out
    simp [World.cell?, this]
  have hf1 : W4.frozen? ⟨w.heap.size + 1, 0, none⟩ = false := free_box HR4.out 0
  have hx1 : W4.cell? ⟨w.heap.size + 1, 0, none⟩ = some (.slice none 0 0) := by
    have := HR4.out
    simp [World.cell?, this]
  go_wp2_with fail
  clear hf1 hx1 y2
  obtain ⟨W, hW⟩ : ∃ W, W = W4.setCell ⟨w.heap.size + 1, 0, none⟩ (.slice (some ⟨g, 0, none⟩) l.length scap) := ⟨_, rfl⟩
  rw [← hW]
  have hk : W.heap[w.heap.size + 1]? = some (.cells #[.slice (some ⟨g, 0, none⟩) l.length scap] 57 (0, 0)) := by
    rw [hW]
    have := set_self (o := 0) (c := .slice (some ⟨g, 0, none⟩) l.length scap) HR4.out
    simpa using this
  have hx : W.cell? ⟨w.heap.size + 1, 0, none⟩ = some (.slice (some ⟨g, 0, none⟩) l.length scap) := by simp [World.cell?, hk]
  have hg : W4.grownBy W (some (w.heap.size + 1)) := by rw [hW]; exact grownZ_set _ _ _ _
  have hbW : Below w.heap.size w W := HBW4.out.trans (below_grownZ hg (by omega) HBW4.out.size)
  have hoW := HO4.out.kept hg (.inr (fun e => by have := HG.out.1; have := Option.some.inj e; simp at this; omega))
  refine bodyPost_ret (v := .agg #[.slice (some ⟨g, 0, none⟩) l.length scap]) (by simp [results, Tryz.results109, go_sem, hx]) rfl ?_
  refine ⟨_, rfl, ⟨some ⟨g, 0, none⟩, scap, by rw [List.length_set], ?_⟩, hbW⟩
  have hrow := grow_setC (c' := cf W) HO.out.row HY.out hzn hzs (cle_below hbW) (HI.out.mono RPX_mono (cle_below hbW))
  have := sat_of_own (n := 3) (xs := l.set k z) (c := cf W) (by rw [List.length_set]; exact hoW) hrow (fun _ _ _ _ h => h)
  rw [List.length_set]
  exact this


theorem names_onceP {l : List PX} (h : upZ (namesP l)) {s : ByteArray} {k : Nat} {x : PX} (hk : l[k]? = some x) (hp : nameIsP s x = true) : ∀ (i : Nat) y, l[i]? = some y → i ≠ k → nameIsP s y = false := fun i y hy hne => by
  cases e : nameIsP s y with
  | false => rfl
  | true =>
    have h1 := nameIsP_iff.1 e
    have h2 := nameIsP_iff.1 hp
    have hk' : (namesP l)[k]? = some s := by rw [List.getElem?_map, hk, ← h2]; rfl
    have hi' : (namesP l)[i]? = some s := by rw [List.getElem?_map, hy, ← h1]; rfl
    rcases Nat.lt_or_gt_of_ne hne with hl | hl
    · have := upZ_lt h hl hi' hk'
      rw [strLtZ_irrefl] at this; cases this
    · have := upZ_lt h hl hk' hi'
      rw [strLtZ_irrefl] at this; cases this
theorem placeP_lt {l : List PX} {s : ByteArray} {q : Nat} {x : PX} (hx : l[q]? = some x) (hq : q < placeZ (namesP l) s) : strLt x.ix.name s = true := placeZ_lt hq (by rw [List.getElem?_map, hx]; rfl)
theorem placeP_at {l : List PX} {s : ByteArray} {x : PX} (hx : l[placeZ (namesP l) s]? = some x) : strLt x.ix.name s = false := placeZ_at (by rw [List.getElem?_map, hx]; rfl)

set_option maxRecDepth 100000 in
set_option maxHeartbeats 32000000 in
theorem rAddIndex_any (l : List CX) (v : Value) (s : ByteArray) (x : IX) (xv : Value) (w : World) (h : CatAt (cf w) l v) (hsm : SmallC l) (hns : (spacesC l).length ≤ 1000000) (hx : IAt (cf w) x xv) (hxs : ∀ f ∈ x.fields, f.1.size ≤ 1000000) :
    Calls Tryz.prog 53 #[v, .string s, xv] w (CatPost w (addF l s x)) := by
  have HCV := Hold.mk h
  obtain ⟨a, cap, W00, rfl, _, _, _, _, hle, hcap, hel⟩ := boxed_cat h
  have HIX := Hold.mk hx
  obtain ⟨hxn, fv, rfl, hfa⟩ := hx
  obtain ⟨fa, fcap, rfl⟩ : ∃ fa fcap, fv = .slice fa x.fields.length fcap := by obtain ⟨fa, fcap, e, _⟩ := id hfa; exact ⟨fa, fcap, e⟩
  have HFA := Hold.mk hfa
  have HXS := Hold.mk hxs
  have HXN := Hold.mk hxn
  obtain ⟨xn, fl, u⟩ := x
  simp only at *
  clear hfa hxs hxn
  have HE := Hold.mk hel
  have HSM := Hold.mk hsm
  obtain ⟨r, hr⟩ : ∃ r, r = addF l s ⟨xn, fl, u⟩ := ⟨_, rfl⟩
  rw [← hr]
  have HR := Hold.mk hr
  obtain ⟨W0, hW0⟩ : ∃ W0, W0 = ((w.alloc (.cells #[.slice a l.length cap] 57)).alloc (.cells #[.string xn, .slice fa fl.length fcap, .bool u] 48)).alloc (.cells #[.slice none 0 0] 57) := ⟨_, rfl⟩
  have hb0 : Below w.heap.size w W0 := by rw [hW0]; exact (((Below.refl _ w).alloc (Nat.le_refl _) _).alloc (by simp <;> omega) _).alloc (by simp <;> omega) _
  have e0 : W0.heap[w.heap.size]? = some (.cells #[.slice a l.length cap] 57 (0, 0)) := by
    rw [hW0, Below.heap_alloc _ _ _ (by simp <;> omega), Below.heap_alloc _ _ _ (by simp <;> omega)]; exact heap_alloc_new w _
  have ex : W0.heap[w.heap.size + 1]? = some (.cells #[.string xn, .slice fa fl.length fcap, .bool u] 48 (0, 0)) := by
    rw [hW0, Below.heap_alloc _ _ _ (by simp <;> omega)]
    have := heap_alloc_new (w.alloc (.cells #[.slice a l.length cap] 57)) (.cells #[.string xn, .slice fa fl.length fcap, .bool u] 48)
    simpa using this
  have e1 : W0.heap[w.heap.size + 1 + 1]? = some (.cells #[.slice none 0 0] 57 (0, 0)) := by
    rw [hW0]
    have := heap_alloc_new ((w.alloc (.cells #[.slice a l.length cap] 57)).alloc (.cells #[.string xn, .slice fa fl.length fcap, .bool u] 48)) (.cells #[.slice none 0 0] 57)
    simpa using this
  have HB0 := Hold.mk hb0
  have HK0 := Hold.mk e0
  have HKX := Hold.mk ex
  have HK1 := Hold.mk e1
  have HZ0 : Hold (W0.heap.size = w.heap.size + 3) := ⟨by rw [hW0]; simp⟩
  have HCA : Hold (∀ wn, Below (w.heap.size + 3) W0 wn → CatAt (cf wn) l (.agg #[.slice a l.length cap]) ∧ wn.cell? ⟨w.heap.size, 0, none⟩ = some (.slice a l.length cap) ∧ wn.heap[w.heap.size + 1 + 1]? = some (.cells #[.slice none 0 0] 57 (0, 0)) ∧ Below w.heap.size w wn ∧ w.heap.size + 3 ≤ wn.heap.size ∧ (wn.cell? ⟨w.heap.size + 1, 0, none⟩ = some (.string xn) ∧ wn.cell? ⟨w.heap.size + 1, 1, none⟩ = some (.slice fa fl.length fcap) ∧ wn.cell? ⟨w.heap.size + 1, 2, none⟩ = some (.bool u))) := ⟨fun wn hb => by
    have h1 := HB0.out.trans (hb.mono (by omega))
    have h2 : wn.heap[w.heap.size]? = some (.cells #[.slice a l.length cap] 57 (0, 0)) := by rw [hb.block _ (by omega)]; exact HK0.out
    exact ⟨HCV.out.mono (cle_below h1), by simp [World.cell?, h2], by rw [hb.block _ (by omega)]; exact HK1.out, h1, by have := hb.size; have := HZ0.out; omega, (by have := hb.block (w.heap.size + 1) (by omega); rw [HKX.out] at this; exact cells_three this)⟩⟩
  clear hel hr hb0 e0 e1 h ex
  obtain ⟨hca, y0, hr1, hbw, hsz, hxb⟩ := HCA.out W0 (by rw [HZ0.out] at *; exact Below.refl _ _)
  have HFO := Hold.mk (rFormedC_any l _ W0 hca hsm hns)
  have HNS := Hold.mk hns
  clear hca hr1 hbw hns hsm hsz hxb
  go_enter Tryz.func53, Tryz.ntmps53
  go_upto_region 1 with (fail)
  rw [← hW0]
  clear hW0
  go_wp2_with fail
  refine HFO.out.mono ?_
  rintro e w1 ⟨rfl, hb1⟩
  have HB1 : Hold (Below (w.heap.size + 3) W0 w1) := ⟨by rw [← HZ0.out]; exact hb1⟩
  clear hb1 HFO y0
  obtain ⟨hca, y0, hr1, hbw, hsz, hxb⟩ := HCA.out w1 HB1.out
  cases hfo : formC l with
  | false =>
    have HX : Hold (r = ([], 2)) := ⟨by rw [HR.out]; unfold addF; rw [hfo]; rfl⟩
    clear hfo hca
    have hf1 : w1.frozen? ⟨w.heap.size + 1 + 1, 0, none⟩ = false := free_box hr1 0
    have hx1 : w1.cell? ⟨w.heap.size + 1 + 1, 0, none⟩ = some (.slice none 0 0) := by
      have := hr1
      simp [World.cell?, this]
    go_wp2_with fail
    clear hf1 hx1
    obtain ⟨W, hW⟩ : ∃ W, W = w1.setCell ⟨w.heap.size + 1 + 1, 0, none⟩ (.slice none 0 0) := ⟨_, rfl⟩
    rw [← hW]
    have hk : W.heap[w.heap.size + 1 + 1]? = some (.cells #[.slice none 0 0] 57 (0, 0)) := by
      rw [hW]
      have := set_self (o := 0) (c := .slice none 0 0) hr1
      simpa using this
    have hx : W.cell? ⟨w.heap.size + 1 + 1, 0, none⟩ = some (.slice none 0 0) := by simp [World.cell?, hk]
    have hb : Below w.heap.size w W := by rw [hW]; exact bsetZ hbw (by omega)
    refine bodyPost_ret (v := .tuple #[.agg #[.slice none 0 0], .int .i64 2]) (by simp [results, Tryz.results53, go_sem, hx]) rfl ?_
    exact cat_err HX.out hb
  | true =>
  have HFO := Hold.mk hfo
  obtain ⟨x0, x1, x2⟩ := hxb
  have HFX := Hold.mk (rFormedI_any ⟨xn, fl, u⟩ _ w1 (HIX.out.mono (cle_below hbw)) HXS.out)
  clear hfo hr1 hbw hca hsz
  go_wp2_with fail
  refine HFX.out.mono ?_
  rintro e w2 ⟨rfl, hb2⟩
  have HB2 : Hold (Below (w.heap.size + 3) W0 w2) := ⟨HB1.out.trans (hb2.mono (HCA.out w1 HB1.out).2.2.2.2.1)⟩
  clear hb2 HFX y0 x0 x1 x2
  obtain ⟨hca, y0, hr1, hbw, hsz, hxb⟩ := HCA.out w2 HB2.out
  cases hfx : formI ⟨xn, fl, u⟩ with
  | false =>
    have HX : Hold (r = ([], 2)) := ⟨by rw [HR.out]; unfold addF; rw [HFO.out, hfx]; rfl⟩
    clear hfx hca
    have hf1 : w2.frozen? ⟨w.heap.size + 1 + 1, 0, none⟩ = false := free_box hr1 0
    have hx1 : w2.cell? ⟨w.heap.size + 1 + 1, 0, none⟩ = some (.slice none 0 0) := by
      have := hr1
      simp [World.cell?, this]
    go_wp2_with fail
    clear hf1 hx1
    obtain ⟨W, hW⟩ : ∃ W, W = w2.setCell ⟨w.heap.size + 1 + 1, 0, none⟩ (.slice none 0 0) := ⟨_, rfl⟩
    rw [← hW]
    have hk : W.heap[w.heap.size + 1 + 1]? = some (.cells #[.slice none 0 0] 57 (0, 0)) := by
      rw [hW]
      have := set_self (o := 0) (c := .slice none 0 0) hr1
      simpa using this
    have hx : W.cell? ⟨w.heap.size + 1 + 1, 0, none⟩ = some (.slice none 0 0) := by simp [World.cell?, hk]
    have hb : Below w.heap.size w W := by rw [hW]; exact bsetZ hbw (by omega)
    refine bodyPost_ret (v := .tuple #[.agg #[.slice none 0 0], .int .i64 2]) (by simp [results, Tryz.results53, go_sem, hx]) rfl ?_
    exact cat_err HX.out hb
  | true =>
  have HRN : Hold (r = match l[(findI (nameIs s) l).toNat]? with
    | none => ([], 4)
    | some y => if findI (nameIs s) l < 0 then ([], 4) else if foundZ (namesP y.ixs) xn = true then ([], 5) else if y.ixs.length = 4 then ([], 3) else
      (l.set (findI (nameIs s) l).toNat ⟨y.name, y.sp, insZ (placeZ (namesP y.ixs) xn) ⟨⟨xn, fl, u⟩, freshZ (spacesC l)⟩ y.ixs⟩, 0)) := ⟨by rw [HR.out]; unfold addF; rw [HFO.out, hfx, if_neg (by decide)]; rfl⟩
  have HFI := Hold.mk (rFind_any l _ s w2 hca)
  clear hfx hr1 hbw hca hsz hxb
  go_wp2_with fail
  refine HFI.out.mono ?_
  rintro e w3 ⟨rfl, hb3⟩
  have HB3 : Hold (Below (w.heap.size + 3) W0 w3) := ⟨HB2.out.trans (hb3.mono (HCA.out w2 HB2.out).2.2.2.2.1)⟩
  clear hb3 HFI y0
  obtain ⟨hca, y0, hr1, hbw, hsz, hxb⟩ := HCA.out w3 HB3.out
  have hcs := findI_cases (nameIs s) l
  generalize findI (nameIs s) l = fi at *
  rcases hcs with rfl | ⟨k, y, rfl, hky, _⟩
  · have HX : Hold (r = ([], 4)) := ⟨by
      rw [HRN.out]
      cases l[(-1 : Int).toNat]? with
      | none => rfl
      | some y => simp only; rw [if_pos (by decide)]⟩
    clear hca
    have hf1 : w3.frozen? ⟨w.heap.size + 1 + 1, 0, none⟩ = false := free_box hr1 0
    have hx1 : w3.cell? ⟨w.heap.size + 1 + 1, 0, none⟩ = some (.slice none 0 0) := by
      have := hr1
      simp [World.cell?, this]
    go_wp2_with fail
    clear hf1 hx1
    obtain ⟨W, hW⟩ : ∃ W, W = w3.setCell ⟨w.heap.size + 1 + 1, 0, none⟩ (.slice none 0 0) := ⟨_, rfl⟩
    rw [← hW]
    have hk : W.heap[w.heap.size + 1 + 1]? = some (.cells #[.slice none 0 0] 57 (0, 0)) := by
      rw [hW]
      have := set_self (o := 0) (c := .slice none 0 0) hr1
      simpa using this
    have hx : W.cell? ⟨w.heap.size + 1 + 1, 0, none⟩ = some (.slice none 0 0) := by simp [World.cell?, hk]
    have hb : Below w.heap.size w W := by rw [hW]; exact bsetZ hbw (by omega)
    refine bodyPost_ret (v := .tuple #[.agg #[.slice none 0 0], .int .i64 4]) (by simp [results, Tryz.results53, go_sem, hx]) rfl ?_
    exact cat_err HX.out hb
  have hkl : k < l.length := (List.getElem?_eq_some_iff.1 hky).1
  replace HRN : Hold (r = if foundZ (namesP y.ixs) xn = true then ([], 5) else if y.ixs.length = 4 then ([], 3) else (l.set k ⟨y.name, y.sp, insZ (placeZ (namesP y.ixs) xn) ⟨⟨xn, fl, u⟩, freshZ (spacesC l)⟩ y.ixs⟩, 0)) := ⟨by
    rw [HRN.out]
    simp only [Int.toNat_natCast, hky]
    rw [if_neg (by omega)]⟩
  have HKY := Hold.mk hky
  have HKL := Hold.mk hkl
  have HUP := Hold.mk (form_upP HFO.out hky)
  obtain ⟨b, off, d, rfl, hd, hcc, xa, xcap, rfl, hyn, hyw, hyi⟩ := HE.out k y hky
  have hz := cle_below hbw _ _ _ (hcc 2 _ rfl)
  unfold cf at hz
  have HYI := Hold.mk hyi
  obtain ⟨_, _, e, hxle, hxcap, hyel⟩ := hyi
  cases e
  have HYE := Hold.mk hyel
  have hkz : (k : Int) < (l.length : Int) := by omega
  obtain ⟨ys, hys⟩ : ∃ ys, ys = y.ixs := ⟨_, rfl⟩
  rw [← hys] at HRN HYI HYE HUP hxle hz
  have HYS := Hold.mk hys
  have HOWN3 : Hold (OwnS 4 (RPK w) 108 (w.heap.size + 3) w3 (.slice none 0 0) 0 (ys.take 0) []) := ⟨by
    have := OwnS.start 4 (RPK w) 108 (B := w.heap.size + 3) (w := w3) hsz
    simpa using this⟩
  obtain ⟨kk, hkk⟩ : ∃ kk, kk = placeZ (namesP ys) xn := ⟨_, rfl⟩
  have HKK := Hold.mk hkk
  have HKKL : Hold (kk ≤ ys.length) := ⟨by rw [hkk]; have := placeZ_le (namesP ys) xn; simpa using this⟩
  have HRNK := Hold.mk HRN.out
  rw [← hkk] at HRNK
  clear hky hd hcc hyn hyw hca hr1 hbw hsz hxb hyel hys hkk
  go_upto_region 8 with (fail)
  clear hz y0 hkz
  go_wp2_with fail
  go_loopw [10, 11] (fun sl i wr => ∃ (q : Nat) (cs : List Value), i = .int .i64 q ∧ q ≤ kk ∧ OwnS 4 (RPK w) 108 (w.heap.size + 3) wr sl q (ys.take q) cs ∧ Below (w.heap.size + 3) W0 wr) (fun _ i _ => ys.length - (intOf i).toNat)
  case atStart => exact ⟨0, _, rfl, Nat.zero_le _, HOWN3.out, HB3.out⟩
  case round =>
    clear HOWN3 HB3 HB2 HB1
    obtain ⟨q, cs, rfl, hq, hown, hbl⟩ := hrel
    obtain ⟨sla, slc, rfl⟩ := hown.shape
    have HO := Hold.mk hown
    have HB := Hold.mk hbl
    obtain ⟨hca, y0, hr1, hbw, hsz, x0, x1, x2⟩ := HCA.out wr hbl
    have HBW := Hold.mk hbw
    have HQL : Hold (q ≤ 1000) := ⟨by have := HKKL.out; have := HUP.out.2; omega⟩
    clear hown hbl
    have gx := Grow.cell x0
    by_cases hlt : q < kk
    · have hll : q < ys.length := by have := HKKL.out; omega
      obtain ⟨p, hp⟩ : ∃ p, ys[q]? = some p := ⟨ys[q], List.getElem?_eq_getElem hll⟩
      have hls := placeP_lt hp (by rw [← HKK.out]; exact hlt)
      have hlt2 : Op.bytesLess p.ix.name.toList xn.toList = true := hls
      obtain ⟨b2, off2, d2, rfl, hd2, hcc2, pfa, pfcap, rfl, hpnm, hpf, hpw⟩ := HYE.out q p hp
      have HPR : Hold (RPX (cf w) p [.string p.ix.name, .slice pfa p.ix.fields.length pfcap, .bool p.ix.uniq, .int .i64 p.sp]) := ⟨⟨pfa, pfcap, rfl, hpnm, hpf, hpw⟩⟩
      have HTK : Hold (ys.take (q + 1) = ys.take q ++ [p]) := ⟨take_succ hp⟩
      obtain ⟨⟨pn, pfl, pu⟩, psp⟩ := p
      simp only at *
      have hcl := cle_below hbw
      have p0 := hcl _ _ _ (hcc2 0 _ rfl)
      have p1 := hcl _ _ _ (hcc2 1 _ rfl)
      have p2 := hcl _ _ _ (hcc2 2 _ rfl)
      have p3 := hcl _ _ _ (hcc2 3 _ rfl)
      unfold cf at p0 p1 p2 p3
      rw [Nat.add_zero] at p0
      have g0 := Grow.cell p0
      have HPC : Hold (∀ wn, Below wr.heap.size wr wn → wn.cell? ⟨b2, off2 + q * 4, none⟩ = some (.string pn) ∧ wn.cell? ⟨b2, off2 + q * 4 + 1, none⟩ = some (.slice pfa pfl.length pfcap) ∧ wn.cell? ⟨b2, off2 + q * 4 + 2, none⟩ = some (.bool pu) ∧ wn.cell? ⟨b2, off2 + q * 4 + 3, none⟩ = some (.int .i64 psp)) := ⟨fun wn hb => ⟨cle_below hb _ _ _ p0, cle_below hb _ _ _ p1, cle_below hb _ _ _ p2, cle_below hb _ _ _ p3⟩⟩
      clear hls hd2 hcc2 hpnm hpf hpw hcl hp hca hr1 hbw hsz p0 p1 p2 p3 x0 x1 x2 y0
      go_upto_region 9 with (fail)
      refine wp_region_grow (by kernel_rfl) (by kernel_rfl) ?_
      repeat (go_big_quiet_step (fail))
      refine wpQuiet_nil ?_
      rintro ⟨w9, hb9⟩
      simp only
      have HB9 := Hold.mk (HB.out.trans (hb9.mono (by have := (HCA.out wr HB.out).2.2.2.2.1; exact this)))
      have HO9 := Hold.mk (HO.out.quiet RPK_mono hb9)
      obtain ⟨p0, p1, p2, p3⟩ := HPC.out w9 hb9
      clear g0 gx hb9 hlt2
      go_wp2_with (at_builtin; refine push_new RPK_mono rfl _ _ rfl infoPXr Tryz.underlying104 rfl (by decide) _ _ _ q _ _ HO9.out rfl _ [_, _, _, _] rfl rfl (by simp [Value.oneCell']) ⟨⟨pn, pfl, pu⟩, psp⟩ HPR.out _ rfl rfl (by have := HQL.out; omega) (by decide) ?_)
      intro sl2 w12 ho2 hg2
      obtain ⟨s2a, s2c, rfl⟩ := ho2.shape
      have HN : Hold (OwnS 4 (RPK w) 108 (w.heap.size + 3) w12 (.slice s2a (q + 1) s2c) (q + 1) (ys.take (q + 1)) _) := ⟨by rw [HTK.out]; exact ho2⟩
      have HB12 := Hold.mk (HB9.out.trans (HO9.out.below hg2))
      clear ho2 hg2 p0 p1 p2 p3
      go_wp2_with fail
      exact ⟨⟨q + 1, _, by go_num, hlt, HN.out, HB12.out⟩, by simp [intOf]; omega⟩
    · obtain rfl : q = kk := by omega
      clear hca hr1 hbw hsz x0 x1 x2 y0 hq
      by_cases hll : q < ys.length
      · obtain ⟨p, hp⟩ : ∃ p, ys[q]? = some p := ⟨ys[q], List.getElem?_eq_getElem hll⟩
        have hls := placeP_at (s := xn) (x := p) (l := ys) (by rw [← HKK.out]; exact hp)
        have hlt2 : Op.bytesLess p.ix.name.toList xn.toList = false := hls
        obtain ⟨b2, off2, d2, rfl, hd2, hcc2, pfa, pfcap, rfl, hpnm, hpf, hpw⟩ := HYE.out q p hp
        have p0 := cle_below HBW.out _ _ _ (hcc2 0 _ rfl)
        unfold cf at p0
        rw [Nat.add_zero] at p0
        have HP0 := Hold.mk p0
        have g0 := Grow.cell p0
        have HPN : Hold (foundZ (namesP ys) xn = nameIsP xn p) := ⟨by
          have h1 : (namesP ys)[placeZ (namesP ys) xn]? = some p.ix.name := by rw [← HKK.out, List.getElem?_map, hp]; rfl
          unfold foundZ
          rw [h1]
          cases e : nameIsP xn p with
          | true => exact decide_eq_true (by rw [nameIsP_iff.1 e])
          | false => exact decide_eq_false fun e2 => by rw [nameIsP_iff.2 (Option.some.inj e2)] at e; cases e⟩
        obtain ⟨⟨pn, pfl, pu⟩, psp⟩ := p
        simp only at *
        clear hls hd2 hcc2 hpnm hpf hpw hp p0
        go_upto_region 9 with (fail)
        refine wp_region_grow (by kernel_rfl) (by kernel_rfl) ?_
        repeat (go_big_quiet_step (fail))
        refine wpQuiet_nil ?_
        rintro ⟨w9, hb9⟩
        simp only
        clear g0 gx hlt2
        have HB9 := Hold.mk (HB.out.trans (hb9.mono (HCA.out wr HB.out).2.2.2.2.1))
        have HO9 := Hold.mk (HO.out.quiet RPK_mono hb9)
        have g0 := Grow.cell (cle_below hb9 _ _ _ HP0.out : w9.cell? ⟨b2, off2 + q * 4, none⟩ = some (.string pn))
        have gx := Grow.cell (HCA.out w9 HB9.out).2.2.2.2.2.1
        clear hb9
        cases hn : nameIsP xn ⟨⟨pn, pfl, pu⟩, psp⟩ with
        | true =>
          have e1 : (pn.toList == xn.toList) = true := hn
          have HX : Hold (r = ([], 5)) := ⟨by rw [HRNK.out, HPN.out, hn, if_pos rfl]⟩
          clear hn
          go_upto_region 12 with (fail)
          refine wp_region_grow (by kernel_rfl) (by kernel_rfl) ?_
          repeat (go_big_quiet_step (fail))
          refine wpQuiet_nil ?_
          rintro ⟨wf, hbf⟩
          simp only
          obtain ⟨_, _, hr1, hbw, _⟩ := HCA.out wf (HB9.out.trans (hbf.mono (HCA.out w9 HB9.out).2.2.2.2.1))
          clear g0 gx e1 hbf
          have hf1 : wf.frozen? ⟨w.heap.size + 1 + 1, 0, none⟩ = false := free_box hr1 0
          have hx1 : wf.cell? ⟨w.heap.size + 1 + 1, 0, none⟩ = some (.slice none 0 0) := by
            have := hr1
            simp [World.cell?, this]
          go_wp2_with fail
          clear hf1 hx1
          obtain ⟨W, hW⟩ : ∃ W, W = wf.setCell ⟨w.heap.size + 1 + 1, 0, none⟩ (.slice none 0 0) := ⟨_, rfl⟩
          rw [← hW]
          have hk : W.heap[w.heap.size + 1 + 1]? = some (.cells #[.slice none 0 0] 57 (0, 0)) := by
            rw [hW]
            have := set_self (o := 0) (c := .slice none 0 0) hr1
            simpa using this
          have hx : W.cell? ⟨w.heap.size + 1 + 1, 0, none⟩ = some (.slice none 0 0) := by simp [World.cell?, hk]
          have hb : Below w.heap.size w W := by rw [hW]; exact bsetZ hbw (by omega)
          refine bodyPost_ret (v := .tuple #[.agg #[.slice none 0 0], .int .i64 5]) (by simp [results, Tryz.results53, go_sem, hx]) rfl ?_
          exact cat_err HX.out hb
        | false =>
          have e1 : (pn.toList == xn.toList) = false := hn
          have HF : Hold (foundZ (namesP ys) xn = false) := ⟨by rw [HPN.out, hn]⟩
          clear hn
          go_upto_region 12 with (fail)
          refine wp_region_grow (by kernel_rfl) (by kernel_rfl) ?_
          repeat (go_big_quiet_step (fail))
          refine wpQuiet_nil ?_
          rintro ⟨wf, hbf⟩
          simp only
          have HBf := Hold.mk (HB9.out.trans (hbf.mono (HCA.out w9 HB9.out).2.2.2.2.1))
          have HOf := Hold.mk (HO9.out.quiet RPK_mono hbf)
          clear g0 gx e1 hbf
          replace HRNK : Hold (r = if ys.length = 4 then ([], 3) else (l.set k ⟨y.name, y.sp, insZ q ⟨⟨xn, fl, u⟩, freshZ (spacesC l)⟩ ys⟩, 0)) := ⟨by rw [HRNK.out, HF.out, if_neg (by decide)]⟩
          have h4 : ys.length ≤ 4 := HUP.out.2
          by_cases hl4 : ys.length = 4
          · have HX : Hold (r = ([], 3)) := ⟨by rw [HRNK.out, if_pos hl4]⟩
            have hl5 : (4 : Int) ≤ (ys.length : Int) := by omega
            obtain ⟨_, _, hr1, hbw, _⟩ := HCA.out wf HBf.out
            clear h4 hl4
            have hf1 : wf.frozen? ⟨w.heap.size + 1 + 1, 0, none⟩ = false := free_box hr1 0
            have hx1 : wf.cell? ⟨w.heap.size + 1 + 1, 0, none⟩ = some (.slice none 0 0) := by
              have := hr1
              simp [World.cell?, this]
            go_wp2_with fail
            clear hf1 hx1
            obtain ⟨W, hW⟩ : ∃ W, W = wf.setCell ⟨w.heap.size + 1 + 1, 0, none⟩ (.slice none 0 0) := ⟨_, rfl⟩
            rw [← hW]
            have hk : W.heap[w.heap.size + 1 + 1]? = some (.cells #[.slice none 0 0] 57 (0, 0)) := by
              rw [hW]
              have := set_self (o := 0) (c := .slice none 0 0) hr1
              simpa using this
            have hx : W.cell? ⟨w.heap.size + 1 + 1, 0, none⟩ = some (.slice none 0 0) := by simp [World.cell?, hk]
            have hb : Below w.heap.size w W := by rw [hW]; exact bsetZ hbw (by omega)
            refine bodyPost_ret (v := .tuple #[.agg #[.slice none 0 0], .int .i64 3]) (by simp [results, Tryz.results53, go_sem, hx]) rfl ?_
            exact cat_err HX.out hb
          have hl5 : ¬ (4 : Int) ≤ (ys.length : Int) := by omega
          replace HRNK : Hold (r = (l.set k ⟨y.name, y.sp, insZ q ⟨⟨xn, fl, u⟩, freshZ (spacesC l)⟩ ys⟩, 0)) := ⟨by rw [HRNK.out, if_neg hl4]⟩
          obtain ⟨hca, y0, _, hbw, hsz, x0, x1, x2⟩ := HCA.out wf HBf.out
          have hbn : ∀ {k : Nat}, k < w.heap.size + 3 → k < w.heap.size + 3 := fun h => h
          have gy := GrowB.cell (B := w.heap.size + 3) y0 (by omega)
          have g0 := GrowB.cell (B := w.heap.size + 3) x0 (by omega)
          have g1 := GrowB.cell (B := w.heap.size + 3) x1 (by omega)
          have g2 := GrowB.cell (B := w.heap.size + 3) x2 (by omega)
          have HCAT := Hold.mk hca
          have HSZ := Hold.mk hsz
          clear h4 hl4 hca hbw hsz x0 x1 x2 y0 hbn
          go_upto_region 16 with (fail)
          clear hl5
          refine wp_region_mixC (GrowBC (w.heap.size + 3) wf) 8 rfl (by kernel_rfl) ?_
          have HDW := Hold.mk ((Below.refl wf.heap.size wf).drew)
          generalize wf.drew = v9 at HDW ⊢
          have HDB : Hold (Below (w.heap.size + 3) wf v9) := ⟨HDW.out.mono HSZ.out⟩
          refine mixl_seg (by kernel_rfl) (fun _ _ d _ _ h => by cases d <;> exact h) [0, 1, 2] [_, _, _] 5 8 rfl _ _ _ rfl (by kernel_rfl) (growBC HDB.out) ?_
          repeat (go_big_quiet_step (fail))
          refine wpQuiet_nil ?_
          clear gy g0 g1 g2
          have HFR := Hold.mk (rfresh_any l _ v9 (HCAT.out.mono (cle_below HDW.out)) HNS.out)
          refine mixl_act (i := 3) rfl (by kernel_rfl) (growBC HDB.out) rfl (fun K hK => ?_)
          go_wp2_with fail
          refine HFR.out.mono ?_
          rintro e w10 ⟨n, rfl, hfr, hnl, hb10⟩
          have HD10 := Hold.mk (HDW.out.trans (hb10.mono HDW.out.size))
          have HB10 : Hold (Below (w.heap.size + 3) wf w10) := ⟨HD10.out.mono HSZ.out⟩
          have HO10 := Hold.mk (HOf.out.quiet RPK_mono HD10.out)
          have HFN := Hold.mk (freshZ_eq hfr)
          have HNL : Hold (n ≤ 21) := ⟨by have := spaces_four HFO.out; omega⟩
          clear hfr hnl hb10 HFR
          go_wp2_with fail
          refine mixl_seg (by kernel_rfl) (fun _ _ d _ _ h => by cases d <;> exact h) [4] [_] 3 4 rfl _ _ _ rfl (by kernel_rfl) (growBC HB10.out) ?_
          repeat (go_big_quiet_step (fail))
          refine wpQuiet_nil ?_
          refine mixl_act (i := 5) rfl (by kernel_rfl) (growBC HB10.out) rfl (fun K hK => ?_)
          go_wp2_with fail
          have HB11 : Hold (Below (w.heap.size + 3) wf (w10.alloc (.cells #[.string xn, .slice fa fl.length fcap, .bool u, .int .i64 (n : Int)] 108))) := ⟨HB10.out.alloc (by have := HO10.out.le; omega) _⟩
          refine mixl_act (i := 6) rfl (by kernel_rfl) (growBC HB11.out) rfl (fun K hK => ?_)
          refine wp_push RPK_mono _ _ rfl infoPXr Tryz.underlying104 rfl (by decide) _ w10 _ q _ _ HO10.out rfl #[.string xn, .slice fa fl.length fcap, .bool u, .int .i64 (n : Int)] [.string xn, .slice fa fl.length fcap, .bool u, .int .i64 (n : Int)] rfl rfl (by simp [Value.oneCell']) ⟨⟨xn, fl, u⟩, (n : Int)⟩ ⟨fa, fcap, rfl, HXN.out, HFA.out, by have := HNL.out; simp [Lit.wf, IntKind.min, IntKind.max, IntKind.bits, IntKind.signed]; omega⟩ _ rfl rfl (by have := HQL.out; omega) (by decide) ?_
          intro sl2 wA hoA hgA
          obtain ⟨pa, pc, rfl⟩ := hoA.shape
          have HOA := Hold.mk hoA
          have HBA : Hold (Below (w.heap.size + 3) wf wA) := ⟨HB10.out.trans (HO10.out.below hgA)⟩
          clear hoA hgA
          go_wp2_with fail
          refine mixl_seg (by kernel_rfl) (fun _ _ d _ _ h => by cases d <;> exact h) [7] [_] 0 1 rfl _ _ _ rfl (by kernel_rfl) (growBC HBA.out) ?_
          repeat (go_big_quiet_step (fail))
          refine wpQuiet_nil ?_
          refine mix_done (by kernel_rfl) (growBC HBA.out) ?_
          obtain ⟨a', hsl0, hsl1⟩ := slice_tail (n := 4) Tryz.underlying104 (by kernel_rfl) infoPXr (some ⟨b2, off2, none⟩) ys.length xcap q (by have := HKKL.out; omega) hxle hxcap
          have hsl : ∀ w, (Instr.slice 104 (.slice (some ⟨b2, off2, none⟩) ys.length xcap) (some (.int .i64 (q : Int))) none none).run Tryz.prog w = .ok (.slice a' (ys.length - q) (xcap - q)) w := hsl0
          have HWA := Hold.mk (HBf.out.trans HBA.out)
          have HBWA := Hold.mk (HCA.out wA HWA.out).2.2.2.1
          have hdl : ys.length - q = (ys.drop q).length := by rw [List.length_drop]
          have HY : Hold (SAt 4 (RPK w) (cfN (.slice pa (q + 1) pc) wA) (.slice a' (ys.drop q).length (xcap - q)) (ys.drop q)) := ⟨by
            have h1 := hsl1 (R := RPK w) (c := cfN (.slice pa (q + 1) pc) wA) (l := ys) rfl ⟨(some ⟨b2, off2, none⟩), xcap, rfl, hxle, hxcap, fun i x hx => by
              obtain ⟨b, off, d, e, h1, h2, h3⟩ := HYE.out i x hx
              exact ⟨b, off, d, e, h1, fun j u hu => cle_cfN_old HBWA.out (fun g hg => by have := (HOA.out.low g hg).1; omega) _ _ _ (h2 j u hu), h3⟩⟩
            rw [hdl] at h1; exact h1⟩
          rw [hdl] at hsl
          obtain ⟨ds, hds⟩ : ∃ ds, ds = ys.drop q := ⟨_, rfl⟩
          rw [← hds] at HY hsl
          have HDS := Hold.mk hds
          have HDL : Hold (ds.length ≤ 1000) := ⟨by have := HUP.out.2; rw [hds, List.length_drop]; omega⟩
          clear hsl0 hsl1 hdl hds
          go_wp2_with (at_builtin; refine push_src RPK_mono RPK_one rfl _ _ rfl infoPXr Tryz.underlying104 rfl (by decide) _ _ _ (q + 1) _ _ HOA.out rfl _ ds HY.out rfl (by have := HDL.out; have := HQL.out; omega) (by decide) ?_)
          intro sl3 wC csC hoC hgC
          obtain ⟨ca, cc, rfl⟩ := hoC.shape
          have HBC : Hold (Below (w.heap.size + 3) W0 wC) := ⟨HWA.out.trans (HOA.out.below hgC)⟩
          have HBWC := Hold.mk (HCA.out wC HBC.out).2.2.2.1
          have HSAT := Hold.mk (sat_RPK hoC HBWC.out)
          obtain ⟨hca, y0, hr1, hbw, _⟩ := HCA.out wC HBC.out
          have HWI := Hold.mk (with_any l (.agg #[.slice (some ⟨b, off, none⟩) l.length cap]) k y ⟨y.name, y.sp, ys.take q ++ ⟨⟨xn, fl, u⟩, (n : Int)⟩ :: ds⟩ (.slice ca (q + 1 + ds.length) cc) wC hca HKY.out rfl rfl HSAT.out (by have := (formC_iff.1 HFO.out).1; omega))
          clear hoC hgC hca hr1 hbw hsl
          go_wp2_with fail
          refine HWI.out.mono ?_
          rintro e wD ⟨v', rfl, hcD, hbD⟩
          obtain ⟨va, vc, rfl, hsD⟩ := hcD
          rw [List.length_set] at hsD ⊢
          have HSD := Hold.mk hsD
          have HBD : Hold (Below (w.heap.size + 3) W0 wD) := ⟨HBC.out.trans (hbD.mono (HCA.out wC HBC.out).2.2.2.2.1)⟩
          obtain ⟨_, _, hr1, hbw, _⟩ := HCA.out wD HBD.out
          have hf1 : wD.frozen? ⟨w.heap.size + 1 + 1, 0, none⟩ = false := free_box hr1 0
          have hx1 : wD.cell? ⟨w.heap.size + 1 + 1, 0, none⟩ = some (.slice none 0 0) := by simp [World.cell?, hr1]
          clear hsD hbD y0 HWI
          go_wp2_with fail
          clear hf1 hx1
          obtain ⟨W, hW⟩ : ∃ W, W = wD.setCell ⟨w.heap.size + 1 + 1, 0, none⟩ (.slice va l.length vc) := ⟨_, rfl⟩
          rw [← hW]
          have hk : W.heap[w.heap.size + 1 + 1]? = some (.cells #[.slice va l.length vc] 57 (0, 0)) := by
            rw [hW]
            have := set_self (o := 0) (c := .slice va l.length vc) hr1
            simpa using this
          have hx : W.cell? ⟨w.heap.size + 1 + 1, 0, none⟩ = some (.slice va l.length vc) := by simp [World.cell?, hk]
          have hbW : Below w.heap.size w W := by rw [hW]; exact bsetZ hbw (by omega)
          refine bodyPost_ret (v := .tuple #[.agg #[.slice va l.length vc], .int .i64 0]) (by simp [results, Tryz.results53, go_sem, hx]) rfl ?_
          have HRE : Hold (r = (l.set k ⟨y.name, y.sp, ys.take q ++ ⟨⟨xn, fl, u⟩, (n : Int)⟩ :: ds⟩, 0)) := ⟨by rw [HRNK.out, HFN.out, HDS.out]; simp [insZ]⟩
          refine ⟨.agg #[.slice va l.length vc], by rw [HRE.out], ?_, hbW⟩
          rw [HRE.out, hW]
          exact CatAt.set ⟨va, vc, by rw [List.length_set], by rw [List.length_set]; exact HSD.out⟩ hr1
      · have HF : Hold (foundZ (namesP ys) xn = false) := ⟨by
          unfold foundZ
          rw [List.getElem?_eq_none (by rw [← HKK.out, List.length_map]; omega)]
          rfl⟩
        go_upto_region 9 with (fail)
        refine wp_region_grow (by kernel_rfl) (by kernel_rfl) ?_
        repeat (go_big_quiet_step (fail))
        refine wpQuiet_nil ?_
        rintro ⟨w9, hb9⟩
        simp only
        clear gx
        have HB9 := Hold.mk (HB.out.trans (hb9.mono (HCA.out wr HB.out).2.2.2.2.1))
        have HO9 := Hold.mk (HO.out.quiet RPK_mono hb9)
        clear hb9
        go_upto_region 12 with (fail)
        refine wp_region_grow (by kernel_rfl) (by kernel_rfl) ?_
        repeat (go_big_quiet_step (fail))
        refine wpQuiet_nil ?_
        rintro ⟨wf, hbf⟩
        simp only
        have HBf := Hold.mk (HB9.out.trans (hbf.mono (HCA.out w9 HB9.out).2.2.2.2.1))
        have HOf := Hold.mk (HO9.out.quiet RPK_mono hbf)
        clear hbf
        replace HRNK : Hold (r = if ys.length = 4 then ([], 3) else (l.set k ⟨y.name, y.sp, insZ q ⟨⟨xn, fl, u⟩, freshZ (spacesC l)⟩ ys⟩, 0)) := ⟨by rw [HRNK.out, HF.out, if_neg (by decide)]⟩
        have h4 : ys.length ≤ 4 := HUP.out.2
        by_cases hl4 : ys.length = 4
        · have HX : Hold (r = ([], 3)) := ⟨by rw [HRNK.out, if_pos hl4]⟩
          have hl5 : (4 : Int) ≤ (ys.length : Int) := by omega
          obtain ⟨_, _, hr1, hbw, _⟩ := HCA.out wf HBf.out
          clear h4 hl4
          have hf1 : wf.frozen? ⟨w.heap.size + 1 + 1, 0, none⟩ = false := free_box hr1 0
          have hx1 : wf.cell? ⟨w.heap.size + 1 + 1, 0, none⟩ = some (.slice none 0 0) := by
            have := hr1
            simp [World.cell?, this]
          go_wp2_with fail
          clear hf1 hx1
          obtain ⟨W, hW⟩ : ∃ W, W = wf.setCell ⟨w.heap.size + 1 + 1, 0, none⟩ (.slice none 0 0) := ⟨_, rfl⟩
          rw [← hW]
          have hk : W.heap[w.heap.size + 1 + 1]? = some (.cells #[.slice none 0 0] 57 (0, 0)) := by
            rw [hW]
            have := set_self (o := 0) (c := .slice none 0 0) hr1
            simpa using this
          have hx : W.cell? ⟨w.heap.size + 1 + 1, 0, none⟩ = some (.slice none 0 0) := by simp [World.cell?, hk]
          have hb : Below w.heap.size w W := by rw [hW]; exact bsetZ hbw (by omega)
          refine bodyPost_ret (v := .tuple #[.agg #[.slice none 0 0], .int .i64 3]) (by simp [results, Tryz.results53, go_sem, hx]) rfl ?_
          exact cat_err HX.out hb
        have hl5 : ¬ (4 : Int) ≤ (ys.length : Int) := by omega
        replace HRNK : Hold (r = (l.set k ⟨y.name, y.sp, insZ q ⟨⟨xn, fl, u⟩, freshZ (spacesC l)⟩ ys⟩, 0)) := ⟨by rw [HRNK.out, if_neg hl4]⟩
        obtain ⟨hca, y0, _, hbw, hsz, x0, x1, x2⟩ := HCA.out wf HBf.out
        have hbn : ∀ {k : Nat}, k < w.heap.size + 3 → k < w.heap.size + 3 := fun h => h
        have gy := GrowB.cell (B := w.heap.size + 3) y0 (by omega)
        have g0 := GrowB.cell (B := w.heap.size + 3) x0 (by omega)
        have g1 := GrowB.cell (B := w.heap.size + 3) x1 (by omega)
        have g2 := GrowB.cell (B := w.heap.size + 3) x2 (by omega)
        have HCAT := Hold.mk hca
        have HSZ := Hold.mk hsz
        clear h4 hl4 hca hbw hsz x0 x1 x2 y0 hbn
        go_upto_region 16 with (fail)
        clear hl5
        refine wp_region_mixC (GrowBC (w.heap.size + 3) wf) 8 rfl (by kernel_rfl) ?_
        have HDW := Hold.mk ((Below.refl wf.heap.size wf).drew)
        generalize wf.drew = v9 at HDW ⊢
        have HDB : Hold (Below (w.heap.size + 3) wf v9) := ⟨HDW.out.mono HSZ.out⟩
        refine mixl_seg (by kernel_rfl) (fun _ _ d _ _ h => by cases d <;> exact h) [0, 1, 2] [_, _, _] 5 8 rfl _ _ _ rfl (by kernel_rfl) (growBC HDB.out) ?_
        repeat (go_big_quiet_step (fail))
        refine wpQuiet_nil ?_
        clear gy g0 g1 g2
        have HFR := Hold.mk (rfresh_any l _ v9 (HCAT.out.mono (cle_below HDW.out)) HNS.out)
        refine mixl_act (i := 3) rfl (by kernel_rfl) (growBC HDB.out) rfl (fun K hK => ?_)
        go_wp2_with fail
        refine HFR.out.mono ?_
        rintro e w10 ⟨n, rfl, hfr, hnl, hb10⟩
        have HD10 := Hold.mk (HDW.out.trans (hb10.mono HDW.out.size))
        have HB10 : Hold (Below (w.heap.size + 3) wf w10) := ⟨HD10.out.mono HSZ.out⟩
        have HO10 := Hold.mk (HOf.out.quiet RPK_mono HD10.out)
        have HFN := Hold.mk (freshZ_eq hfr)
        have HNL : Hold (n ≤ 21) := ⟨by have := spaces_four HFO.out; omega⟩
        clear hfr hnl hb10 HFR
        go_wp2_with fail
        refine mixl_seg (by kernel_rfl) (fun _ _ d _ _ h => by cases d <;> exact h) [4] [_] 3 4 rfl _ _ _ rfl (by kernel_rfl) (growBC HB10.out) ?_
        repeat (go_big_quiet_step (fail))
        refine wpQuiet_nil ?_
        refine mixl_act (i := 5) rfl (by kernel_rfl) (growBC HB10.out) rfl (fun K hK => ?_)
        go_wp2_with fail
        have HB11 : Hold (Below (w.heap.size + 3) wf (w10.alloc (.cells #[.string xn, .slice fa fl.length fcap, .bool u, .int .i64 (n : Int)] 108))) := ⟨HB10.out.alloc (by have := HO10.out.le; omega) _⟩
        refine mixl_act (i := 6) rfl (by kernel_rfl) (growBC HB11.out) rfl (fun K hK => ?_)
        refine wp_push RPK_mono _ _ rfl infoPXr Tryz.underlying104 rfl (by decide) _ w10 _ q _ _ HO10.out rfl #[.string xn, .slice fa fl.length fcap, .bool u, .int .i64 (n : Int)] [.string xn, .slice fa fl.length fcap, .bool u, .int .i64 (n : Int)] rfl rfl (by simp [Value.oneCell']) ⟨⟨xn, fl, u⟩, (n : Int)⟩ ⟨fa, fcap, rfl, HXN.out, HFA.out, by have := HNL.out; simp [Lit.wf, IntKind.min, IntKind.max, IntKind.bits, IntKind.signed]; omega⟩ _ rfl rfl (by have := HQL.out; omega) (by decide) ?_
        intro sl2 wA hoA hgA
        obtain ⟨pa, pc, rfl⟩ := hoA.shape
        have HOA := Hold.mk hoA
        have HBA : Hold (Below (w.heap.size + 3) wf wA) := ⟨HB10.out.trans (HO10.out.below hgA)⟩
        clear hoA hgA
        go_wp2_with fail
        refine mixl_seg (by kernel_rfl) (fun _ _ d _ _ h => by cases d <;> exact h) [7] [_] 0 1 rfl _ _ _ rfl (by kernel_rfl) (growBC HBA.out) ?_
        repeat (go_big_quiet_step (fail))
        refine wpQuiet_nil ?_
        refine mix_done (by kernel_rfl) (growBC HBA.out) ?_
        obtain ⟨a', hsl0, hsl1⟩ := slice_tail (n := 4) Tryz.underlying104 (by kernel_rfl) infoPXr xa ys.length xcap q (by have := HKKL.out; omega) hxle hxcap
        have hsl : ∀ w, (Instr.slice 104 (.slice xa ys.length xcap) (some (.int .i64 (q : Int))) none none).run Tryz.prog w = .ok (.slice a' (ys.length - q) (xcap - q)) w := hsl0
        have HWA := Hold.mk (HBf.out.trans HBA.out)
        have HBWA := Hold.mk (HCA.out wA HWA.out).2.2.2.1
        have hdl : ys.length - q = (ys.drop q).length := by rw [List.length_drop]
        have HY : Hold (SAt 4 (RPK w) (cfN (.slice pa (q + 1) pc) wA) (.slice a' (ys.drop q).length (xcap - q)) (ys.drop q)) := ⟨by
          have h1 := hsl1 (R := RPK w) (c := cfN (.slice pa (q + 1) pc) wA) (l := ys) rfl ⟨xa, xcap, rfl, hxle, hxcap, fun i x hx => by
            obtain ⟨b, off, d, e, h1, h2, h3⟩ := HYE.out i x hx
            exact ⟨b, off, d, e, h1, fun j u hu => cle_cfN_old HBWA.out (fun g hg => by have := (HOA.out.low g hg).1; omega) _ _ _ (h2 j u hu), h3⟩⟩
          rw [hdl] at h1; exact h1⟩
        rw [hdl] at hsl
        obtain ⟨ds, hds⟩ : ∃ ds, ds = ys.drop q := ⟨_, rfl⟩
        rw [← hds] at HY hsl
        have HDS := Hold.mk hds
        have HDL : Hold (ds.length ≤ 1000) := ⟨by have := HUP.out.2; rw [hds, List.length_drop]; omega⟩
        clear hsl0 hsl1 hdl hds
        go_wp2_with (at_builtin; refine push_src RPK_mono RPK_one rfl _ _ rfl infoPXr Tryz.underlying104 rfl (by decide) _ _ _ (q + 1) _ _ HOA.out rfl _ ds HY.out rfl (by have := HDL.out; have := HQL.out; omega) (by decide) ?_)
        intro sl3 wC csC hoC hgC
        obtain ⟨ca, cc, rfl⟩ := hoC.shape
        have HBC : Hold (Below (w.heap.size + 3) W0 wC) := ⟨HWA.out.trans (HOA.out.below hgC)⟩
        have HBWC := Hold.mk (HCA.out wC HBC.out).2.2.2.1
        have HSAT := Hold.mk (sat_RPK hoC HBWC.out)
        obtain ⟨hca, y0, hr1, hbw, _⟩ := HCA.out wC HBC.out
        have HWI := Hold.mk (with_any l (.agg #[.slice (some ⟨b, off, none⟩) l.length cap]) k y ⟨y.name, y.sp, ys.take q ++ ⟨⟨xn, fl, u⟩, (n : Int)⟩ :: ds⟩ (.slice ca (q + 1 + ds.length) cc) wC hca HKY.out rfl rfl HSAT.out (by have := (formC_iff.1 HFO.out).1; omega))
        clear hoC hgC hca hr1 hbw hsl
        go_wp2_with fail
        refine HWI.out.mono ?_
        rintro e wD ⟨v', rfl, hcD, hbD⟩
        obtain ⟨va, vc, rfl, hsD⟩ := hcD
        rw [List.length_set] at hsD ⊢
        have HSD := Hold.mk hsD
        have HBD : Hold (Below (w.heap.size + 3) W0 wD) := ⟨HBC.out.trans (hbD.mono (HCA.out wC HBC.out).2.2.2.2.1)⟩
        obtain ⟨_, _, hr1, hbw, _⟩ := HCA.out wD HBD.out
        have hf1 : wD.frozen? ⟨w.heap.size + 1 + 1, 0, none⟩ = false := free_box hr1 0
        have hx1 : wD.cell? ⟨w.heap.size + 1 + 1, 0, none⟩ = some (.slice none 0 0) := by simp [World.cell?, hr1]
        clear hsD hbD y0 HWI
        go_wp2_with fail
        clear hf1 hx1
        obtain ⟨W, hW⟩ : ∃ W, W = wD.setCell ⟨w.heap.size + 1 + 1, 0, none⟩ (.slice va l.length vc) := ⟨_, rfl⟩
        rw [← hW]
        have hk : W.heap[w.heap.size + 1 + 1]? = some (.cells #[.slice va l.length vc] 57 (0, 0)) := by
          rw [hW]
          have := set_self (o := 0) (c := .slice va l.length vc) hr1
          simpa using this
        have hx : W.cell? ⟨w.heap.size + 1 + 1, 0, none⟩ = some (.slice va l.length vc) := by simp [World.cell?, hk]
        have hbW : Below w.heap.size w W := by rw [hW]; exact bsetZ hbw (by omega)
        refine bodyPost_ret (v := .tuple #[.agg #[.slice va l.length vc], .int .i64 0]) (by simp [results, Tryz.results53, go_sem, hx]) rfl ?_
        have HRE : Hold (r = (l.set k ⟨y.name, y.sp, ys.take q ++ ⟨⟨xn, fl, u⟩, (n : Int)⟩ :: ds⟩, 0)) := ⟨by rw [HRNK.out, HFN.out, HDS.out]; simp [insZ]⟩
        refine ⟨.agg #[.slice va l.length vc], by rw [HRE.out], ?_, hbW⟩
        rw [HRE.out, hW]
        exact CatAt.set ⟨va, vc, by rw [List.length_set], by rw [List.length_set]; exact HSD.out⟩ hr1

end Go.Proofs.YtcmfanfkcbjeoaaGreatDoor
