/- Filters: what the laws share: values that are built, empty, awake, few, ask. -/
import Derived.Test.YtfllnlmanopfaaaDoorFR
import Derived.Test.YtfllnlmanopfaaaDoorJC
namespace Go.Proofs.YtfllnlmanopfaaaDoor
open Go.RowKit

theorem al_old {w : World} {o x : Obj} {k : Nat} (h : w.heap[k]? = some x) : (w.alloc o).heap[k]? = some x := kept h ((Below.refl _ w).alloc (Nat.le_refl _) o)
theorem al_new {w : World} {o : Obj} {n : Nat} (h : n = w.heap.size) : (w.alloc o).heap[n]? = some o := by rw [h]; exact heap_alloc_new w o

theorem strs0 (c : CF) : StrsAt c (.slice none 0 0) [] := ⟨none, 0, rfl, by simp, fun i s h => by simp at h⟩
theorem items0 (c : CF) : ItemsAt c (.slice none 0 0) [] := ⟨none, 0, rfl, by simp, fun i s h => by simp at h⟩
theorem strs1 {w : World} {b : Nat} {s : ByteArray} {t : TypeId} {fr : Nat × Nat} (h : w.heap[b]? = some (.cells #[.string s] t fr)) (hs : s.size ≤ 9223372036854775807) : StrsAt (cf w) (.slice (some ⟨b, 0, none⟩) 1 1) [s] := by
  refine ⟨some ⟨b, 0, none⟩, 1, rfl, by simp, fun i x hx => ?_⟩
  match i, hx with
  | 0, hx => simp at hx; subst hx; exact ⟨hs, b, 0, rfl, by simp [cf, World.cell?, h]⟩
theorem items1 {w : World} {b : Nat} {x : JV} {c0 c1 c2 c3 c4 : Value} {t : TypeId} {fr : Nat × Nat} (h : w.heap[b]? = some (.cells #[c0, c1, c2, c3, c4] t fr)) (hx : JAt (cf w) x (.agg #[c0, c1, c2, c3, c4])) : ItemsAt (cf w) (.slice (some ⟨b, 0, none⟩) 1 1) [x] := by
  obtain ⟨k, n, s, nm, it, na, ncap, ia, icap, rfl, e, _⟩ := id hx.open
  simp only [Value.agg.injEq, Array.mk.injEq, List.cons.injEq, and_true] at e
  obtain ⟨rfl, rfl, rfl, rfl, rfl⟩ := e
  refine ⟨some ⟨b, 0, none⟩, 1, rfl, by simp, fun i y hy => ?_⟩
  match i, hy with
  | 0, hy =>
    simp at hy; subst hy
    exact ⟨b, 0, k, n, s, nm, it, na, ncap, ia, icap, rfl, rfl, by simp [cf, World.cell?, h], by simp [cf, World.cell?, h], by simp [cf, World.cell?, h], by simp [cf, World.cell?, h], by simp [cf, World.cell?, h], hx⟩
theorem items2 {w : World} {b : Nat} {x y : JV} {c0 c1 c2 c3 c4 d0 d1 d2 d3 d4 : Value} {t : TypeId} {fr : Nat × Nat} (h : w.heap[b]? = some (.cells #[c0, c1, c2, c3, c4, d0, d1, d2, d3, d4] t fr)) (hx : JAt (cf w) x (.agg #[c0, c1, c2, c3, c4])) (hy : JAt (cf w) y (.agg #[d0, d1, d2, d3, d4])) : ItemsAt (cf w) (.slice (some ⟨b, 0, none⟩) 2 2) [x, y] := by
  obtain ⟨k, n, s, nm, it, na, ncap, ia, icap, rfl, e, _⟩ := id hx.open
  simp only [Value.agg.injEq, Array.mk.injEq, List.cons.injEq, and_true] at e
  obtain ⟨rfl, rfl, rfl, rfl, rfl⟩ := e
  obtain ⟨k2, n2, s2, nm2, it2, na2, ncap2, ia2, icap2, rfl, e, _⟩ := id hy.open
  simp only [Value.agg.injEq, Array.mk.injEq, List.cons.injEq, and_true] at e
  obtain ⟨rfl, rfl, rfl, rfl, rfl⟩ := e
  refine ⟨some ⟨b, 0, none⟩, 2, rfl, by simp, fun i z hz => ?_⟩
  match i, hz with
  | 0, hz =>
    simp at hz; subst hz
    exact ⟨b, 0, k, n, s, nm, it, na, ncap, ia, icap, rfl, rfl, by simp [cf, World.cell?, h], by simp [cf, World.cell?, h], by simp [cf, World.cell?, h], by simp [cf, World.cell?, h], by simp [cf, World.cell?, h], hx⟩
  | 1, hz =>
    simp at hz; subst hz
    exact ⟨b, 0, k2, n2, s2, nm2, it2, na2, ncap2, ia2, icap2, rfl, rfl, by simp [cf, World.cell?, h], by simp [cf, World.cell?, h], by simp [cf, World.cell?, h], by simp [cf, World.cell?, h], by simp [cf, World.cell?, h], hy⟩
theorem items3 {w : World} {b : Nat} {x y z : JV} {c0 c1 c2 c3 c4 d0 d1 d2 d3 d4 e0 e1 e2 e3 e4 : Value} {t : TypeId} {fr : Nat × Nat} (h : w.heap[b]? = some (.cells #[c0, c1, c2, c3, c4, d0, d1, d2, d3, d4, e0, e1, e2, e3, e4] t fr)) (hx : JAt (cf w) x (.agg #[c0, c1, c2, c3, c4])) (hy : JAt (cf w) y (.agg #[d0, d1, d2, d3, d4])) (hz : JAt (cf w) z (.agg #[e0, e1, e2, e3, e4])) : ItemsAt (cf w) (.slice (some ⟨b, 0, none⟩) 3 3) [x, y, z] := by
  obtain ⟨k, n, s, nm, it, na, ncap, ia, icap, rfl, e, _⟩ := id hx.open
  simp only [Value.agg.injEq, Array.mk.injEq, List.cons.injEq, and_true] at e
  obtain ⟨rfl, rfl, rfl, rfl, rfl⟩ := e
  obtain ⟨k2, n2, s2, nm2, it2, na2, ncap2, ia2, icap2, rfl, e, _⟩ := id hy.open
  simp only [Value.agg.injEq, Array.mk.injEq, List.cons.injEq, and_true] at e
  obtain ⟨rfl, rfl, rfl, rfl, rfl⟩ := e
  obtain ⟨k3, n3, s3, nm3, it3, na3, ncap3, ia3, icap3, rfl, e, _⟩ := id hz.open
  simp only [Value.agg.injEq, Array.mk.injEq, List.cons.injEq, and_true] at e
  obtain ⟨rfl, rfl, rfl, rfl, rfl⟩ := e
  refine ⟨some ⟨b, 0, none⟩, 3, rfl, by simp, fun i u hu => ?_⟩
  match i, hu with
  | 0, hu =>
    simp at hu; subst hu
    exact ⟨b, 0, k, n, s, nm, it, na, ncap, ia, icap, rfl, rfl, by simp [cf, World.cell?, h], by simp [cf, World.cell?, h], by simp [cf, World.cell?, h], by simp [cf, World.cell?, h], by simp [cf, World.cell?, h], hx⟩
  | 1, hu =>
    simp at hu; subst hu
    exact ⟨b, 0, k2, n2, s2, nm2, it2, na2, ncap2, ia2, icap2, rfl, rfl, by simp [cf, World.cell?, h], by simp [cf, World.cell?, h], by simp [cf, World.cell?, h], by simp [cf, World.cell?, h], by simp [cf, World.cell?, h], hy⟩
  | 2, hu =>
    simp at hu; subst hu
    exact ⟨b, 0, k3, n3, s3, nm3, it3, na3, ncap3, ia3, icap3, rfl, rfl, by simp [cf, World.cell?, h], by simp [cf, World.cell?, h], by simp [cf, World.cell?, h], by simp [cf, World.cell?, h], by simp [cf, World.cell?, h], hz⟩

/-- {} -/
def emptyJ : JV := .mk 6 0 ⟨#[]⟩ [] []
abbrev emptyV : Value := .agg #[.int .i64 6, .int .i64 0, .string ⟨#[]⟩, .slice none 0 0, .slice none 0 0]
theorem empty_at (c : CF) : JAt c emptyJ emptyV := JAt.shut (by kernel_rfl) (by kernel_rfl) (by simp [ByteArray.size]) (strs0 c) (items0 c)
theorem empty_text2 : textF ⟨#[]⟩ = true := by unfold textF; simp [ByteArray.size, Lib.validD, Lib.validGoD]
theorem empty_formed : formedF 6 emptyJ = true := by
  have h2 : headOk 6 0 ⟨#[]⟩ := ⟨by omega, by omega, .inr rfl, .inr (by kernel_rfl), empty_text2⟩
  unfold emptyJ
  rw [formedF, decide_eq_true h2, if_neg (by decide)]; rfl
theorem empty_holds : HoldsP emptyJ emptyJ = true := by
  have h1 : countF 6 emptyJ = some 0 := by unfold emptyJ; rw [countF, if_pos (show (JV.mk 6 0 ⟨#[]⟩ [] []).kind = 6 from rfl)]; rfl
  have h2 : checkF emptyJ = 0 := by unfold checkF; rw [if_pos empty_formed, h1]; rfl
  have h3 : holdsF passP sameB 6 emptyJ emptyJ = true := by rw [holdsF]; rfl
  unfold HoldsP
  rw [h2, empty_formed, h3]; rfl

set_option maxHeartbeats 2000000 in
theorem empty_any (w : World) : Calls Tryd.prog 46 #[] w fun e w' => e = .returned emptyV ∧ Below w.heap.size w w' := by
  go_enter Tryd.func46, Tryd.ntmps46
  go_wp2_with fail
  exact bodyPost_ret (v := emptyV) (by simp [results, Tryd.results46, go_sem]) rfl ⟨rfl, (Below.refl _ _).alloc (Nat.le_refl _) _⟩

set_option maxHeartbeats 2000000 in
theorem awake15_any (w : World) (hT : Tabs w) : Calls Tryd.prog 13 #[] w fun e w' => e = .returned (.bool true) ∧ Below w.heap.size w w' := by
  have HT := Hold.mk hT
  clear hT
  go_enter Tryd.func13, Tryd.ntmps13
  go_wp2_with fail
  refine (empty_any _).mono ?_
  rintro e w1 ⟨rfl, hb1⟩
  have HB := Hold.mk hb1
  clear hb1
  go_wp2_with fail
  refine (empty_any _).mono ?_
  rintro e w2 ⟨rfl, hb2⟩
  replace HB := Hold.mk (HB.out.trans (hb2.mono HB.out.size))
  clear hb2
  have HX := Hold.mk (Holds_any emptyJ emptyJ _ _ w2 (empty_at _) (empty_at _) (HT.out.below HB.out))
  rw [empty_holds] at HX
  go_wp2_with fail
  refine HX.out.mono ?_
  rintro e w3 ⟨rfl, hb3⟩
  replace HB := Hold.mk (HB.out.trans (hb3.mono HB.out.size))
  clear hb3 HX
  go_wp2_with fail
  go_ret
  exact ⟨rfl, HB.out⟩

set_option maxHeartbeats 4000000 in
theorem few15_any (iv : Value) (l : List JV) (w : World) (hi : ItemsAt (cf w) iv l) :
    Calls Tryd.prog 14 #[iv] w fun e w' => e = .returned (.bool (l.all fewF)) ∧ Below w.heap.size w w' := by
  obtain ⟨a, cap, rfl, hlen, hel⟩ := hi
  have HE := Hold.mk hel
  clear hel
  go_enter Tryd.func14, Tryd.ntmps14
  go_wp2_with fail
  go_loopw [3] (fun i wr => ∃ j : Nat, i = .int .i64 j ∧ j ≤ l.length ∧ AllTo l fewF j ∧ Below w.heap.size w wr) (fun i _ => l.length - (intOf i).toNat)
  case atStart => exact ⟨0, rfl, Nat.zero_le _, fun q x h => by omega, Below.refl _ _⟩
  case round =>
    obtain ⟨j, rfl, hj, hall, hbl⟩ := hrel
    have HA := Hold.mk hall
    have HB := Hold.mk hbl
    clear hall hbl
    by_cases hlt : j < l.length
    · obtain ⟨x, hx⟩ : ∃ x, l[j]? = some x := ⟨l[j], List.getElem?_eq_getElem hlt⟩
      obtain ⟨b, off, k2, n2, t2, nm2, it2, na2, ncap2, ia2, icap2, rfl, hxe, x0, x1, x2, x3, x4, hxj⟩ := HE.out j x hx
      have hcl := cle_below HB.out
      have z0 := hcl _ _ _ x0
      have z1 := hcl _ _ _ x1
      have z2 := hcl _ _ _ x2
      have z3 := hcl _ _ _ x3
      have z4 := hcl _ _ _ x4
      unfold cf at z0 z1 z2 z3 z4
      have HX := Hold.mk (few_any hxj wr hcl)
      have HXE := Hold.mk hx
      clear x0 x1 x2 x3 x4 hcl hx hxe hxj
      cases hfx : fewF x with
      | true =>
        rw [hfx] at HX
        have HNX := Hold.mk (HA.out.next HXE.out hfx)
        clear hfx
        go_wp2_with fail
        refine HX.out.mono ?_
        rintro e w3 ⟨rfl, hb3⟩
        replace HB := Hold.mk (HB.out.trans (hb3.mono HB.out.size))
        clear hb3 HX z0 z1 z2 z3 z4
        go_wp2_with fail
        exact ⟨⟨j + 1, by go_num, hlt, HNX.out, HB.out⟩, by simp [intOf]; omega⟩
      | false =>
        rw [hfx] at HX
        have HR := Hold.mk (all_false HXE.out hfx)
        clear hfx
        go_wp2_with fail
        refine HX.out.mono ?_
        rintro e w3 ⟨rfl, hb3⟩
        replace HB := Hold.mk (HB.out.trans (hb3.mono HB.out.size))
        clear hb3 HX z0 z1 z2 z3 z4
        go_wp2_with fail
        go_ret
        exact ⟨by rw [HR.out]; rfl, HB.out⟩
    · have HR := Hold.mk (HA.out.all (by omega))
      go_wp2_with fail
      go_ret
      exact ⟨by rw [HR.out]; rfl, HB.out⟩

end Go.Proofs.YtfllnlmanopfaaaDoor
