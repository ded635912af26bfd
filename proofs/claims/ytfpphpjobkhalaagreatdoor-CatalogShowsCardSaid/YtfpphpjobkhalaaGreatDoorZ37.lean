/- Catalogs: few of the laws; Few and Same of the reference (printed by genXCU.py). -/
import Derived.Test.YtfpphpjobkhalaaGreatDoorZ32
import Derived.Test.YtfpphpjobkhalaaGreatDoorZ36
namespace Go.Proofs.YtfpphpjobkhalaaGreatDoor
open Go.Shelf Go.RowKit

/-- a catalog of a size that is looked at -/
def FewC (l : List CX) : Prop := l.length ≤ 8 ∧ ∀ x ∈ l, x.ixs.length ≤ 8 ∧ ∀ p ∈ x.ixs, p.ix.fields.length ≤ 10 ∧ shortI p.ix = true
def FewPost (Q : Prop) (w : World) (e : Ending) (w' : World) : Prop := ∃ b, e = .returned (.bool b) ∧ (b = true → Q) ∧ Below w.heap.size w w'
theorem few_small {l : List CX} (h : FewC l) : SmallC l ∧ Sized l ∧ SizedP l := by
  have h1 := h.1
  refine ⟨fun x hx p hp f hf => ?_, ⟨by omega, fun x hx => ?_⟩, ⟨by omega, fun x hx => ?_⟩⟩
  · have := ((h.2 x hx).2 p hp).2
    unfold shortI at this
    rw [Bool.and_eq_true] at this
    have := of_decide_eq_true (List.all_eq_true.1 this.1 f hf)
    omega
  · obtain ⟨h2, h3⟩ := h.2 x hx
    exact ⟨by omega, fun p hp => by have := (h3 p hp).1; omega⟩
  · obtain ⟨h2, h3⟩ := h.2 x hx
    exact ⟨by omega, fun p hp => by have := (h3 p hp).1; omega⟩
set_option maxRecDepth 100000 in
set_option maxHeartbeats 16000000 in
theorem rFewC_any (l : List CX) (v : Value) (w : World) (h : CatAt (cf w) l v) (hn : ∀ x ∈ l, ∀ p ∈ x.ixs, p.ix.fields.length ≤ 10) :
    Calls Tryz.prog 27 #[v] w (FewPost (∀ x ∈ l, ∀ p ∈ x.ixs, shortI p.ix = true) w) := by
  obtain ⟨a, cap, rfl, hs⟩ := h
  obtain ⟨_, _, e, hle, hcap, hel⟩ := hs
  cases e
  have HE := Hold.mk hel
  have HN := Hold.mk hn
  obtain ⟨W0, hW0⟩ : ∃ W0, W0 = w.alloc (.cells #[.slice a l.length cap] 31) := ⟨_, rfl⟩
  have hb0 : Below w.heap.size w W0 := by rw [hW0]; exact (Below.refl _ w).alloc (Nat.le_refl _) _
  have hk0 : W0.heap[w.heap.size]? = some (.cells #[.slice a l.length cap] 31 (0, 0)) := by rw [hW0]; exact heap_alloc_new w _
  have HB0 := Hold.mk hb0
  have HK0 := Hold.mk hk0
  have y0 : W0.cell? ⟨w.heap.size, 0, none⟩ = some (.slice a l.length cap) := by simp [World.cell?, hk0]
  clear hel hn hb0 hk0
  go_enter Tryz.func27, Tryz.ntmps27
  go_upto_region 1 with (fail)
  rw [← hW0]
  clear hW0
  by_cases hl : l.length ≤ 8
  case neg =>
    have hl2 : (8 : Int) < (l.length : Int) := by omega
    go_wp2_with fail
    go_ret
    exact ⟨false, rfl, fun h => (by cases h), HB0.out⟩
  have hl2 : ¬ (8 : Int) < (l.length : Int) := by omega
  have HL := Hold.mk hl
  go_upto_region 3 with (fail)
  clear y0 hl hl2
  go_wp2_with fail
  go_loopw [3] (fun i wr => ∃ j : Nat, i = .int .i64 j ∧ j ≤ l.length ∧ (∀ (q : Nat) x, q < j → l[q]? = some x → ∀ p ∈ x.ixs, shortI p.ix = true) ∧ Below W0.heap.size W0 wr) (fun i _ => l.length - (intOf i).toNat)
  case atStart => exact ⟨0, rfl, Nat.zero_le _, fun q x hq => by omega, Below.refl _ _⟩
  case round =>
    obtain ⟨j, rfl, hj, hall, hb⟩ := hrel
    have HALL := Hold.mk hall
    have HB := Hold.mk hb
    have y0 : wr.cell? ⟨w.heap.size, 0, none⟩ = some (.slice a l.length cap) := by
      have := kept HK0.out hb
      simp [World.cell?, this]
    clear hall hb
    by_cases hlt : j < l.length
    · obtain ⟨x, hx⟩ : ∃ x, l[j]? = some x := ⟨l[j], List.getElem?_eq_getElem hlt⟩
      obtain ⟨b, off, d, rfl, hd, hcc, xa, xcap, rfl, hxn, hxw, hxi⟩ := HE.out j x hx
      have HXE := Hold.mk hx
      have HXI := Hold.mk hxi
      have HXN := Hold.mk (HN.out x (List.mem_of_getElem? hx))
      have hxl : x.ixs.length ≤ xcap ∧ xcap ≤ 9223372036854775807 := by
        obtain ⟨_, _, e, h1, h2, _⟩ := hxi
        cases e; exact ⟨h1, h2⟩
      obtain ⟨hxl1, hxl2⟩ := hxl
      obtain ⟨nm, sp, xs⟩ := x
      simp only at *
      have HSRC : Hold (∀ wn, Below W0.heap.size W0 wn → wn.cell? ⟨w.heap.size, 0, none⟩ = some (.slice (some ⟨b, off, none⟩) l.length cap) ∧ wn.cell? ⟨b, off + j * 3, none⟩ = some (.string nm) ∧ wn.cell? ⟨b, off + j * 3 + 2, none⟩ = some (.slice xa xs.length xcap)) := ⟨fun wn hb => ⟨by
          have := kept HK0.out hb
          simp [World.cell?, this], cle_below (HB0.out.trans (hb.mono HB0.out.size)) _ _ _ (hcc 0 _ rfl), cle_below (HB0.out.trans (hb.mono HB0.out.size)) _ _ _ (hcc 2 _ rfl)⟩⟩
      have hnl : (nm.size : Int) ≤ 9223372036854775807 := by omega
      clear hd hcc hxn hxw hxi hx
      obtain ⟨_, z0, z2⟩ := HSRC.out wr HB.out
      by_cases hx8 : xs.length ≤ 8
      case neg =>
        have hx9 : (8 : Int) < (xs.length : Int) := by omega
        go_wp2_with fail
        go_ret
        exact ⟨false, rfl, fun h => (by cases h), HB0.out.trans (HB.out.mono HB0.out.size)⟩
      have hx9 : ¬ (8 : Int) < (xs.length : Int) := by omega
      by_cases hnm : nm.size ≤ 1000
      case neg =>
        have hnm2 : (1000 : Int) < (nm.size : Int) := by omega
        go_wp2_with fail
        go_ret
        exact ⟨false, rfl, fun h => (by cases h), HB0.out.trans (HB.out.mono HB0.out.size)⟩
      have hnm2 : ¬ (1000 : Int) < (nm.size : Int) := by omega
      go_upto_region 8 with (fail)
      clear hx8 hx9 hnm hnm2 y0 z0 z2 hnl
      go_wp2_with fail
      go_loopw [4] (fun i wq => ∃ q : Nat, i = .int .i64 q ∧ q ≤ xs.length ∧ (∀ (r : Nat) p, r < q → xs[r]? = some p → shortI p.ix = true) ∧ Below W0.heap.size W0 wq) (fun i _ => xs.length - (intOf i).toNat)
      case atStart => exact ⟨0, rfl, Nat.zero_le _, fun r p hr => by omega, HB.out⟩
      case round =>
        rename World => wq
        obtain ⟨q, rfl, hq, hal2, hb2⟩ := hrel
        have HAL2 := Hold.mk hal2
        have HB2 := Hold.mk hb2
        obtain ⟨y0, _, z2⟩ := HSRC.out wq hb2
        clear hal2 hb2
        by_cases hlt2 : q < xs.length
        · obtain ⟨p, hp⟩ : ∃ p, xs[q]? = some p := ⟨xs[q], List.getElem?_eq_getElem hlt2⟩
          obtain ⟨_, _, e, _, _, hxel⟩ := HXI.out
          cases e
          obtain ⟨b2, off2, d2, rfl, hd2, hcc2, fa, fcap, rfl, hpnm, hpf, hpw⟩ := hxel q p hp
          have hcl := cle_below (HB0.out.trans (HB2.out.mono HB0.out.size))
          have p0 := hcl _ _ _ (hcc2 0 _ rfl)
          have p1 := hcl _ _ _ (hcc2 1 _ rfl)
          have p2 := hcl _ _ _ (hcc2 2 _ rfl)
          unfold cf at p0 p1 p2
          rw [Nat.add_zero] at p0
          have HPE := Hold.mk hp
          have HFE := Hold.mk (rFewI_any p.ix (.agg #[.string p.ix.name, .slice fa p.ix.fields.length fcap, .bool p.ix.uniq]) wq ⟨hpnm, _, rfl, hpf.mono hcl⟩ (HXN.out p (List.mem_of_getElem? hp)))
          obtain ⟨⟨iname, fl, u⟩, isp⟩ := p
          simp only at *
          clear hd2 hcc2 hpnm hpf hpw hcl hp
          go_wp2_with fail
          refine HFE.out.mono ?_
          rintro e w3 ⟨rfl, hb3⟩
          have HB3 := Hold.mk (HB2.out.trans (hb3.mono HB2.out.size))
          clear hb3 HFE y0 z2 p0 p1 p2
          cases hsh : shortI ⟨iname, fl, u⟩ with
          | false =>
            go_wp2_with fail
            go_ret
            exact ⟨false, rfl, fun h => (by cases h), HB0.out.trans (HB3.out.mono HB0.out.size)⟩
          | true =>
            have HSH := Hold.mk hsh
            clear hsh
            go_wp2_with fail
            refine ⟨⟨q + 1, by go_num, hlt2, fun r p hr hp => ?_, HB3.out⟩, by simp [intOf]; omega⟩
            by_cases e : r = q
            · subst e
              rw [HPE.out] at hp
              obtain rfl := Option.some.inj hp
              exact HSH.out
            · exact HAL2.out r p (by omega) hp
        · obtain rfl : q = xs.length := by omega
          have HN2 : Hold (∀ (q : Nat) x, q < j + 1 → l[q]? = some x → ∀ p ∈ x.ixs, shortI p.ix = true) := ⟨fun q x hq hx p hp => by
            by_cases e : q = j
            · subst e
              rw [HXE.out] at hx
              obtain rfl := Option.some.inj hx
              obtain ⟨r, hr⟩ := List.getElem?_of_mem hp
              exact HAL2.out r p (List.getElem?_eq_some_iff.1 hr).1 hr
            · exact HALL.out q x (by omega) hx p hp⟩
          go_wp2_with fail
          exact ⟨⟨j + 1, by go_num, hlt, HN2.out, HB2.out⟩, by simp [intOf]; omega⟩
    · obtain rfl : j = l.length := by omega
      have HR : Hold (∀ x ∈ l, ∀ p ∈ x.ixs, shortI p.ix = true) := ⟨fun x hx p hp => by
        obtain ⟨q, hq⟩ := List.getElem?_of_mem hx
        exact HALL.out q x (List.getElem?_eq_some_iff.1 hq).1 hq p hp⟩
      go_wp2_with fail
      go_ret
      exact ⟨true, rfl, fun _ => HR.out, HB0.out.trans (HB.out.mono HB0.out.size)⟩
set_option maxRecDepth 100000 in
set_option maxHeartbeats 16000000 in
theorem few19_any (l : List CX) (v : Value) (w : World) (h : CatAt (cf w) l v) :
    Calls Tryz.prog 6 #[v] w (FewPost (FewC l) w) := by
  have HCA := Hold.mk h
  obtain ⟨a, cap, rfl, hs⟩ := h
  obtain ⟨_, _, e, hle, hcap, hel⟩ := hs
  cases e
  have HE := Hold.mk hel
  obtain ⟨W0, hW0⟩ : ∃ W0, W0 = w.alloc (.cells #[.slice a l.length cap] 24) := ⟨_, rfl⟩
  have hb0 : Below w.heap.size w W0 := by rw [hW0]; exact (Below.refl _ w).alloc (Nat.le_refl _) _
  have hk0 : W0.heap[w.heap.size]? = some (.cells #[.slice a l.length cap] 24 (0, 0)) := by rw [hW0]; exact heap_alloc_new w _
  have HB0 := Hold.mk hb0
  have y0 : W0.cell? ⟨w.heap.size, 0, none⟩ = some (.slice a l.length cap) := by simp [World.cell?, hk0]
  have HY0 := Hold.mk y0
  clear hel hb0 hk0
  go_enter Tryz.func6, Tryz.ntmps6
  go_upto_region 1 with (fail)
  rw [← hW0]
  clear hW0
  by_cases hl : l.length ≤ 8
  case neg =>
    have hl2 : (8 : Int) < (l.length : Int) := by omega
    go_wp2_with fail
    go_ret
    exact ⟨false, rfl, fun h => (by cases h), HB0.out⟩
  have hl2 : ¬ (8 : Int) < (l.length : Int) := by omega
  have HL := Hold.mk hl
  go_upto_region 3 with (fail)
  clear hl hl2 y0
  go_wp2_with fail
  go_loopw [3] (fun i wr => ∃ j : Nat, i = .int .i64 j ∧ j ≤ l.length ∧ (∀ (q : Nat) x, q < j → l[q]? = some x → x.ixs.length ≤ 8 ∧ ∀ p ∈ x.ixs, p.ix.fields.length ≤ 10) ∧ wr = W0) (fun i _ => l.length - (intOf i).toNat)
  case atStart => exact ⟨0, rfl, Nat.zero_le _, fun q x hq => by omega, rfl⟩
  case round =>
    obtain ⟨j, rfl, hj, hall, hwr⟩ := hrel
    subst hwr
    have HALL := Hold.mk hall
    have y0 := HY0.out
    clear hall
    by_cases hlt : j < l.length
    · obtain ⟨x, hx⟩ : ∃ x, l[j]? = some x := ⟨l[j], List.getElem?_eq_getElem hlt⟩
      obtain ⟨b, off, d, rfl, hd, hcc, xa, xcap, rfl, hxn, hxw, hxi⟩ := HE.out j x hx
      have HXE := Hold.mk hx
      have HXI := Hold.mk hxi
      have hxl : x.ixs.length ≤ xcap ∧ xcap ≤ 9223372036854775807 := by
        obtain ⟨_, _, e, h1, h2, _⟩ := hxi
        cases e; exact ⟨h1, h2⟩
      obtain ⟨hxl1, hxl2⟩ := hxl
      obtain ⟨nm, sp, xs⟩ := x
      simp only at *
      have z2 := cle_below HB0.out _ _ _ (hcc 2 _ rfl)
      unfold cf at z2
      have HZ2 := Hold.mk z2
      clear hd hcc hxn hxw hxi hx
      by_cases hx8 : xs.length ≤ 8
      case neg =>
        have hx9 : (8 : Int) < (xs.length : Int) := by omega
        go_wp2_with fail
        go_ret
        exact ⟨false, rfl, fun h => (by cases h), HB0.out⟩
      have hx9 : ¬ (8 : Int) < (xs.length : Int) := by omega
      have HX8 := Hold.mk hx8
      go_upto_region 8 with (fail)
      clear hx8 hx9 y0 z2
      go_wp2_with fail
      go_loopw [4] (fun i wq => ∃ q : Nat, i = .int .i64 q ∧ q ≤ xs.length ∧ (∀ (r : Nat) p, r < q → xs[r]? = some p → p.ix.fields.length ≤ 10) ∧ wq = wr) (fun i _ => xs.length - (intOf i).toNat)
      case atStart => exact ⟨0, rfl, Nat.zero_le _, fun r p hr => by omega, rfl⟩
      case round =>
        obtain ⟨q, rfl, hq, hal2, hwq⟩ := hrel
        subst hwq
        have HAL2 := Hold.mk hal2
        have y0 := HY0.out
        have z2 := HZ2.out
        clear hal2
        by_cases hlt2 : q < xs.length
        · obtain ⟨p, hp⟩ : ∃ p, xs[q]? = some p := ⟨xs[q], List.getElem?_eq_getElem hlt2⟩
          obtain ⟨_, _, e, _, _, hxel⟩ := HXI.out
          cases e
          obtain ⟨b2, off2, d2, rfl, hd2, hcc2, fa, fcap, rfl, hpnm, hpf, hpw⟩ := hxel q p hp
          have p1 := cle_below HB0.out _ _ _ (hcc2 1 _ rfl)
          unfold cf at p1
          have HPE := Hold.mk hp
          have hfl : p.ix.fields.length ≤ fcap ∧ fcap ≤ 9223372036854775807 := by
            obtain ⟨_, _, e, h1, h2, _⟩ := hpf
            cases e; exact ⟨h1, h2⟩
          obtain ⟨hfl1, hfl2⟩ := hfl
          obtain ⟨⟨iname, fl, u⟩, isp⟩ := p
          simp only at *
          clear hd2 hcc2 hpnm hpf hpw hp
          by_cases hf10 : fl.length ≤ 10
          case neg =>
            have hf11 : (10 : Int) < (fl.length : Int) := by omega
            go_wp2_with fail
            go_ret
            exact ⟨false, rfl, fun h => (by cases h), HB0.out⟩
          have hf11 : ¬ (10 : Int) < (fl.length : Int) := by omega
          have HF10 := Hold.mk hf10
          clear hf10
          go_wp2_with fail
          refine ⟨⟨q + 1, by go_num, hlt2, fun r p hr hp => ?_, trivial⟩, by simp [intOf]; omega⟩
          by_cases e : r = q
          · subst e
            rw [HPE.out] at hp
            obtain rfl := Option.some.inj hp
            exact HF10.out
          · exact HAL2.out r p (by omega) hp
        · obtain rfl : q = xs.length := by omega
          have HN2 : Hold (∀ (q : Nat) x, q < j + 1 → l[q]? = some x → x.ixs.length ≤ 8 ∧ ∀ p ∈ x.ixs, p.ix.fields.length ≤ 10) := ⟨fun q x hq hx => by
            by_cases e : q = j
            · subst e
              rw [HXE.out] at hx
              obtain rfl := Option.some.inj hx
              refine ⟨HX8.out, fun p hp => ?_⟩
              obtain ⟨r, hr⟩ := List.getElem?_of_mem hp
              exact HAL2.out r p (List.getElem?_eq_some_iff.1 hr).1 hr
            · exact HALL.out q x (by omega) hx⟩
          go_wp2_with fail
          exact ⟨⟨j + 1, by go_num, hlt, HN2.out, trivial⟩, by simp [intOf]; omega⟩
    · obtain rfl : j = l.length := by omega
      have HR : Hold (∀ x ∈ l, x.ixs.length ≤ 8 ∧ ∀ p ∈ x.ixs, p.ix.fields.length ≤ 10) := ⟨fun x hx => by
        obtain ⟨q, hq⟩ := List.getElem?_of_mem hx
        exact HALL.out q x (List.getElem?_eq_some_iff.1 hq).1 hq⟩
      have HPL := Hold.mk (lplainC_any l (.agg #[.slice a l.length cap]) wr (HCA.out.mono (cle_below HB0.out)) ⟨by have := HL.out; omega, fun x hx => ⟨by have := (HR.out x hx).1; omega, fun p hp => by have := (HR.out x hx).2 p hp; omega⟩⟩)
      go_wp2_with fail
      refine HPL.out.mono ?_
      rintro e w1 ⟨y, rfl, hy, hb1⟩
      have HB1 := Hold.mk (HB0.out.trans (hb1.mono HB0.out.size))
      have HFW := Hold.mk (rFewC_any l y w1 hy (fun x hx p hp => (HR.out x hx).2 p hp))
      clear hy hb1 HPL y0
      go_wp2_with fail
      refine HFW.out.mono ?_
      rintro e w2 ⟨fb, rfl, hfb, hb2⟩
      have HFB := Hold.mk hfb
      have HB2 := Hold.mk (HB1.out.trans (hb2.mono HB1.out.size))
      clear hfb hb2 HFW
      go_wp2_with fail
      go_ret
      exact ⟨fb, rfl, fun h => ⟨HL.out, fun x hx => ⟨(HR.out x hx).1, fun p hp => ⟨(HR.out x hx).2 p hp, HFB.out h x hx p hp⟩⟩⟩, HB2.out⟩
set_option maxRecDepth 100000 in
set_option maxHeartbeats 16000000 in
theorem rSameC_any (l : List CX) (v u : Value) (w : World) (h : CatAt (cf w) l v) (k : CatAt (cf w) l u) :
    Calls Tryz.prog 11 #[v, u] w fun e w' => e = .returned (.bool true) ∧ Below w.heap.size w w' := by
  obtain ⟨a, cap, rfl, hs⟩ := h
  obtain ⟨_, _, e, hle, hcap, hel⟩ := hs
  cases e
  obtain ⟨a2, cap2, rfl, ks⟩ := k
  obtain ⟨_, _, e, kle, kcap, kel⟩ := ks
  cases e
  have HE := Hold.mk hel
  have KE := Hold.mk kel
  obtain ⟨W0, hW0, hb0, e0, e1⟩ := twoEM w (.cells #[.slice a l.length cap] 31) (.cells #[.slice a2 l.length cap2] 31)
  have HB0 := Hold.mk hb0
  have HK0 := Hold.mk e0
  have HK1 := Hold.mk e1
  have y0 : W0.cell? ⟨w.heap.size, 0, none⟩ = some (.slice a l.length cap) := by simp [World.cell?, e0]
  have y1 : W0.cell? ⟨w.heap.size + 1, 0, none⟩ = some (.slice a2 l.length cap2) := by simp [World.cell?, e1]
  clear hel kel hb0 e0 e1
  go_enter Tryz.func11, Tryz.ntmps11
  go_upto_region 1 with (fail)
  rw [← hW0]
  clear hW0
  go_upto_region 3 with (fail)
  clear y0 y1
  go_wp2_with fail
  go_loopw [5] (fun i wr => ∃ j : Nat, i = .int .i64 j ∧ j ≤ l.length ∧ Below W0.heap.size W0 wr) (fun i _ => l.length - (intOf i).toNat)
  case atStart => exact ⟨0, rfl, Nat.zero_le _, Below.refl _ _⟩
  case round =>
    obtain ⟨j, rfl, hj, hb⟩ := hrel
    have HB := Hold.mk hb
    have y0 : wr.cell? ⟨w.heap.size, 0, none⟩ = some (.slice a l.length cap) := by
      have := kept HK0.out hb
      simp [World.cell?, this]
    have y1 : wr.cell? ⟨w.heap.size + 1, 0, none⟩ = some (.slice a2 l.length cap2) := by
      have := kept HK1.out hb
      simp [World.cell?, this]
    clear hb
    by_cases hlt : j < l.length
    · obtain ⟨x, hx⟩ : ∃ x, l[j]? = some x := ⟨l[j], List.getElem?_eq_getElem hlt⟩
      obtain ⟨b, off, d, rfl, hd, hcc, xa, xcap, rfl, _, _, hxi⟩ := HE.out j x hx
      obtain ⟨b', off', d', rfl, hd', hcc', ya, ycap, rfl, _, _, hyi⟩ := KE.out j x hx
      have HXI := Hold.mk hxi
      have HYI := Hold.mk hyi
      have hxl : x.ixs.length ≤ xcap ∧ xcap ≤ 9223372036854775807 := by
        obtain ⟨_, _, e, h1, h2, _⟩ := hxi
        cases e; exact ⟨h1, h2⟩
      have hyl : x.ixs.length ≤ ycap ∧ ycap ≤ 9223372036854775807 := by
        obtain ⟨_, _, e, h1, h2, _⟩ := hyi
        cases e; exact ⟨h1, h2⟩
      obtain ⟨hxl1, hxl2⟩ := hxl
      obtain ⟨hyl1, hyl2⟩ := hyl
      obtain ⟨nm, sp, xs⟩ := x
      simp only at *
      have hcl := cle_below (HB0.out.trans (HB.out.mono HB0.out.size))
      have z0 := hcl _ _ _ (hcc 0 _ rfl)
      have z1 := hcl _ _ _ (hcc 1 _ rfl)
      have z2 := hcl _ _ _ (hcc 2 _ rfl)
      have t0 := hcl _ _ _ (hcc' 0 _ rfl)
      have t1 := hcl _ _ _ (hcc' 1 _ rfl)
      have t2 := hcl _ _ _ (hcc' 2 _ rfl)
      unfold cf at z0 z1 z2 t0 t1 t2
      rw [Nat.add_zero] at z0 t0
      have g0 := GrowB.cell y0 (lt_of_cell y0)
      have g1 := GrowB.cell y1 (lt_of_cell y1)
      have g2 := GrowB.cell z0 (lt_of_cell z0)
      have g3 := GrowB.cell z1 (lt_of_cell z1)
      have g4 := GrowB.cell z2 (lt_of_cell z2)
      have g5 := GrowB.cell t0 (lt_of_cell t0)
      have g6 := GrowB.cell t1 (lt_of_cell t1)
      have g7 := GrowB.cell t2 (lt_of_cell t2)
      clear hd hcc hxi hd' hcc' hyi hcl hx z0 z1 z2 t0 t1 t2
      go_upto_region 6 with (fail)
      clear y0 y1
      refine wp_region_mixC (GrowBC wr.heap.size wr) 14 rfl (by kernel_rfl) ?_
      have HDW := Hold.mk ((Below.refl wr.heap.size wr).drew)
      generalize wr.drew = v9 at HDW ⊢
      refine mixl_seg (by kernel_rfl) (fun _ _ d _ _ h => by cases d <;> exact h) [0, 1, 2, 3, 4, 5, 6, 7, 8, 9] [_, _, _, _, _, _, _, _, _, _] 4 14 rfl _ _ _ rfl (by kernel_rfl) (growBC HDW.out) ?_
      repeat (go_big_quiet_step (fail))
      refine wpQuiet_nil ?_
      clear g0 g1 g2 g3 g4 g5 g6 g7
      refine mixl_two (i := 10) (j := 11) rfl rfl (by kernel_rfl) (growBC HDW.out) rfl rfl (fun K hK => ?_) (fun K hK => ?_)
      · go_wp2_with fail
        refine mixl_act (i := 11) rfl (by kernel_rfl) (growBC (HDW.out.alloc HDW.out.size _)) rfl (fun K hK => ?_)
        go_wp2_with fail
        obtain ⟨xb, hxb⟩ : ∃ z, z = v9.heap.size := ⟨_, rfl⟩
        obtain ⟨yb, hyb⟩ : ∃ z, z = v9.heap.size + 1 := ⟨_, rfl⟩
        obtain ⟨W1, hW1⟩ : ∃ W1, W1 = (v9.alloc (.cells #[.string ⟨#[]⟩, .int .i64 0, .slice none 0 0] 77)).alloc (.cells #[.string ⟨#[]⟩, .int .i64 0, .slice none 0 0] 77) := ⟨_, rfl⟩
        rw [← hW1, ← hyb, ← hxb]
        have hb1 : Below v9.heap.size v9 W1 := by rw [hW1]; exact ((Below.refl _ v9).alloc (Nat.le_refl _) _).alloc (by simp) _
        have hkxb : W1.heap[xb]? = some (.cells #[.string ⟨#[]⟩, .int .i64 0, .slice none 0 0] 77 (0, 0)) := by rw [hW1, hxb]; exact kept (heap_alloc_new v9 _) ((Below.refl _ _).alloc (Nat.le_refl _) _)
        have hkyb : W1.heap[yb]? = some (.cells #[.string ⟨#[]⟩, .int .i64 0, .slice none 0 0] 77 (0, 0)) := by
          rw [hW1, hyb]
          have := heap_alloc_new (v9.alloc (.cells #[.string ⟨#[]⟩, .int .i64 0, .slice none 0 0] 77)) (.cells #[.string ⟨#[]⟩, .int .i64 0, .slice none 0 0] 77)
          simpa using this
        have hxy : xb ≠ yb := by omega
        have hxg : wr.heap.size ≤ xb := by have := HDW.out.size; omega
        have hyg : wr.heap.size ≤ yb := by have := HDW.out.size; omega
        have hb1r := HDW.out.trans (hb1.mono HDW.out.size)
        have HX1 := Hold.mk hkxb
        have HY1 := Hold.mk hkyb
        obtain ⟨x0, x1, x2⟩ := cells_three hkxb
        have f0 := free_box hkxb 0
        have f1 := free_box hkxb 1
        have f2 := free_box hkxb 2
        clear hW1 hb1 hkxb hkyb hxb hyb
        refine mixl_act (i := 12) rfl (by kernel_rfl) (growBC hb1r) rfl (fun K hK => ?_)
        go_wp2_with fail
        clear x0 x1 x2 f0 f1 f2
        obtain ⟨W2a, hW2a⟩ : ∃ W2a, W2a = ((W1.setCell ⟨xb, 0, none⟩ (.string nm)).setCell ⟨xb, 1, none⟩ (.int .i64 sp)).setCell ⟨xb, 2, none⟩ (.slice xa xs.length xcap) := ⟨_, rfl⟩
        rw [← hW2a]
        have hb2a : Below wr.heap.size wr W2a := by
          rw [hW2a]; exact ((hb1r.setCell (p := ⟨xb, 0, none⟩) hxg _).setCell (p := ⟨xb, 1, none⟩) hxg _).setCell (p := ⟨xb, 2, none⟩) hxg _
        have hx2a : W2a.heap[xb]? = some (.cells #[.string nm, .int .i64 sp, .slice xa xs.length xcap] 77 (0, 0)) := by
          rw [hW2a]
          have := set_self (o := 2) (c := .slice xa xs.length xcap) (set_self (o := 1) (c := .int .i64 sp) (set_self (o := 0) (c := .string nm) HX1.out))
          simpa using this
        have hy2a : W2a.heap[yb]? = some (.cells #[.string ⟨#[]⟩, .int .i64 0, .slice none 0 0] 77 (0, 0)) := by
          rw [hW2a, Below.heap_setCell _ _ _ _ (show yb ≠ xb from fun e => hxy e.symm), Below.heap_setCell _ _ _ _ (show yb ≠ xb from fun e => hxy e.symm), Below.heap_setCell _ _ _ _ (show yb ≠ xb from fun e => hxy e.symm)]; exact HY1.out
        have HX2a := Hold.mk hx2a
        have HY2a := Hold.mk hy2a
        obtain ⟨y0, y1, y2⟩ := cells_three hy2a
        have f0 := free_box hy2a 0
        have f1 := free_box hy2a 1
        have f2 := free_box hy2a 2
        clear hW2a hx2a hy2a hb1r HX1 HY1
        refine mixl_act (i := 13) rfl (by kernel_rfl) (growBC hb2a) rfl (fun K hK => ?_)
        go_wp2_with fail
        clear y0 y1 y2 f0 f1 f2
        obtain ⟨W2, hW2⟩ : ∃ W2, W2 = ((W2a.setCell ⟨yb, 0, none⟩ (.string nm)).setCell ⟨yb, 1, none⟩ (.int .i64 sp)).setCell ⟨yb, 2, none⟩ (.slice ya xs.length ycap) := ⟨_, rfl⟩
        rw [← hW2]
        have hb2 : Below wr.heap.size wr W2 := by
          rw [hW2]; exact ((hb2a.setCell (p := ⟨yb, 0, none⟩) hyg _).setCell (p := ⟨yb, 1, none⟩) hyg _).setCell (p := ⟨yb, 2, none⟩) hyg _
        have hy2 : W2.heap[yb]? = some (.cells #[.string nm, .int .i64 sp, .slice ya xs.length ycap] 77 (0, 0)) := by
          rw [hW2]
          have := set_self (o := 2) (c := .slice ya xs.length ycap) (set_self (o := 1) (c := .int .i64 sp) (set_self (o := 0) (c := .string nm) HY2a.out))
          simpa using this
        have hx2 : W2.heap[xb]? = some (.cells #[.string nm, .int .i64 sp, .slice xa xs.length xcap] 77 (0, 0)) := by
          rw [hW2, Below.heap_setCell _ _ _ _ (show xb ≠ yb from hxy), Below.heap_setCell _ _ _ _ (show xb ≠ yb from hxy), Below.heap_setCell _ _ _ _ (show xb ≠ yb from hxy)]; exact HX2a.out
        clear hW2 hb2a HX2a HY2a hxy hxg hyg
        refine mix_done (by kernel_rfl) (growBC hb2) ?_
        have HB2 := Hold.mk hb2
        have HX2 := Hold.mk hx2
        have HY2 := Hold.mk hy2
        clear hb2 hx2 hy2
        obtain ⟨x0, x1, x2⟩ := cells_three HX2.out
        obtain ⟨y0, y1, y2⟩ := cells_three HY2.out
        go_upto_region 9 with (fail)
        clear x0 x1 x2 y0 y1 y2
        go_wp2_with fail
        go_loopw [8] (fun i wq => ∃ q : Nat, i = .int .i64 q ∧ q ≤ xs.length ∧ Below W2.heap.size W2 wq) (fun i _ => xs.length - (intOf i).toNat)
        case atStart => exact ⟨0, rfl, Nat.zero_le _, Below.refl _ _⟩
        case round =>
          rename World => wq
          obtain ⟨q, rfl, hq, hbq⟩ := hrel
          have HBQ := Hold.mk hbq
          have HBA := Hold.mk (HB.out.trans (HB2.out.mono HB.out.size) |>.trans (hbq.mono (Nat.le_trans HB.out.size HB2.out.size)))
          obtain ⟨_, _, x2⟩ := cells_three (kept HX2.out hbq)
          obtain ⟨_, _, y2⟩ := cells_three (kept HY2.out hbq)
          clear hbq
          by_cases hlt2 : q < xs.length
          · obtain ⟨p, hp⟩ : ∃ p, xs[q]? = some p := ⟨xs[q], List.getElem?_eq_getElem hlt2⟩
            obtain ⟨_, _, e, _, _, hxel⟩ := HXI.out
            cases e
            obtain ⟨_, _, e, _, _, hyel⟩ := HYI.out
            cases e
            obtain ⟨b2, off2, d2, rfl, hd2, hcc2, fa, fcap, rfl, hpnm, hpf, hpw⟩ := hxel q p hp
            obtain ⟨b3, off3, d3, rfl, hd3, hcc3, ga, gcap, rfl, _, hqf, _⟩ := hyel q p hp
            have hcl := cle_below (HB0.out.trans (HBA.out.mono HB0.out.size))
            have p0 := hcl _ _ _ (hcc2 0 _ rfl)
            have p1 := hcl _ _ _ (hcc2 1 _ rfl)
            have p2 := hcl _ _ _ (hcc2 2 _ rfl)
            have p3 := hcl _ _ _ (hcc2 3 _ rfl)
            have q0 := hcl _ _ _ (hcc3 0 _ rfl)
            have q1 := hcl _ _ _ (hcc3 1 _ rfl)
            have q2 := hcl _ _ _ (hcc3 2 _ rfl)
            have q3 := hcl _ _ _ (hcc3 3 _ rfl)
            unfold cf at p0 p1 p2 p3 q0 q1 q2 q3
            rw [Nat.add_zero] at p0 q0
            have HF1 := Hold.mk (hpf.mono hcl)
            have HF2 := Hold.mk (hqf.mono hcl)
            have HNM := Hold.mk hpnm
            obtain ⟨⟨iname, fl, u⟩, isp⟩ := p
            simp only at *
            have HSI : Hold (∀ e : Grow wq, Calls Tryz.prog 37 #[.agg #[.string iname, .slice fa fl.length fcap, .bool u], .agg #[.string iname, .slice ga fl.length gcap, .bool u]] e.val fun r w' => r = .returned (.bool true) ∧ Below e.val.heap.size e.val w') := ⟨fun e => by
              have := rSameI_any ⟨iname, fl, u⟩ ⟨iname, fl, u⟩ (.agg #[.string iname, .slice fa fl.length fcap, .bool u]) (.agg #[.string iname, .slice ga fl.length gcap, .bool u]) e.val ⟨HNM.out, _, rfl, HF1.out.mono (cle_below e.2)⟩ ⟨HNM.out, _, rfl, HF2.out.mono (cle_below e.2)⟩
              rw [sameI_yes rfl] at this; exact this⟩
            replace HSI := Hold.mk (Calls.grow HSI.out)
            have g0 := Grow.cell p0
            have g1 := Grow.cell p1
            have g2 := Grow.cell p2
            have g3 := Grow.cell p3
            have k0 := Grow.cell q0
            have k1 := Grow.cell q1
            have k2 := Grow.cell q2
            have k3 := Grow.cell q3
            have gx := Grow.cell x2
            have gy := Grow.cell y2
            clear hd2 hcc2 hpnm hpf hpw hcl hp hd3 hcc3 hqf p0 p1 p2 p3 q0 q1 q2 q3
            go_upto_region 12 with (fail)
            refine wp_region_grow (by kernel_rfl) (by kernel_rfl) ?_
            repeat (go_big_quiet_step (exact HSI.out _))
            refine wpQuiet_nil ?_
            rintro ⟨w9, hb9⟩
            simp only
            have HB9 := Hold.mk (HBQ.out.trans (hb9.mono HBQ.out.size))
            clear g0 g1 g2 g3 k0 k1 k2 k3 gx gy x2 y2 hb9 HSI
            go_wp2_with fail
            exact ⟨⟨q + 1, by go_num, hlt2, HB9.out⟩, by simp [intOf]; omega⟩
          · obtain rfl : q = xs.length := by omega
            go_wp2_with fail
            exact ⟨⟨j + 1, by go_num, hlt, HBA.out⟩, by simp [intOf]; omega⟩
      · go_wp2_with fail
        refine mixl_act (i := 10) rfl (by kernel_rfl) (growBC (HDW.out.alloc HDW.out.size _)) rfl (fun K hK => ?_)
        go_wp2_with fail
        obtain ⟨yb, hyb⟩ : ∃ z, z = v9.heap.size := ⟨_, rfl⟩
        obtain ⟨xb, hxb⟩ : ∃ z, z = v9.heap.size + 1 := ⟨_, rfl⟩
        obtain ⟨W1, hW1⟩ : ∃ W1, W1 = (v9.alloc (.cells #[.string ⟨#[]⟩, .int .i64 0, .slice none 0 0] 77)).alloc (.cells #[.string ⟨#[]⟩, .int .i64 0, .slice none 0 0] 77) := ⟨_, rfl⟩
        rw [← hW1, ← hxb, ← hyb]
        have hb1 : Below v9.heap.size v9 W1 := by rw [hW1]; exact ((Below.refl _ v9).alloc (Nat.le_refl _) _).alloc (by simp) _
        have hkyb : W1.heap[yb]? = some (.cells #[.string ⟨#[]⟩, .int .i64 0, .slice none 0 0] 77 (0, 0)) := by rw [hW1, hyb]; exact kept (heap_alloc_new v9 _) ((Below.refl _ _).alloc (Nat.le_refl _) _)
        have hkxb : W1.heap[xb]? = some (.cells #[.string ⟨#[]⟩, .int .i64 0, .slice none 0 0] 77 (0, 0)) := by
          rw [hW1, hxb]
          have := heap_alloc_new (v9.alloc (.cells #[.string ⟨#[]⟩, .int .i64 0, .slice none 0 0] 77)) (.cells #[.string ⟨#[]⟩, .int .i64 0, .slice none 0 0] 77)
          simpa using this
        have hxy : xb ≠ yb := by omega
        have hxg : wr.heap.size ≤ xb := by have := HDW.out.size; omega
        have hyg : wr.heap.size ≤ yb := by have := HDW.out.size; omega
        have hb1r := HDW.out.trans (hb1.mono HDW.out.size)
        have HX1 := Hold.mk hkxb
        have HY1 := Hold.mk hkyb
        obtain ⟨x0, x1, x2⟩ := cells_three hkxb
        have f0 := free_box hkxb 0
        have f1 := free_box hkxb 1
        have f2 := free_box hkxb 2
        clear hW1 hb1 hkxb hkyb hxb hyb
        refine mixl_act (i := 12) rfl (by kernel_rfl) (growBC hb1r) rfl (fun K hK => ?_)
        go_wp2_with fail
        clear x0 x1 x2 f0 f1 f2
        obtain ⟨W2a, hW2a⟩ : ∃ W2a, W2a = ((W1.setCell ⟨xb, 0, none⟩ (.string nm)).setCell ⟨xb, 1, none⟩ (.int .i64 sp)).setCell ⟨xb, 2, none⟩ (.slice xa xs.length xcap) := ⟨_, rfl⟩
        rw [← hW2a]
        have hb2a : Below wr.heap.size wr W2a := by
          rw [hW2a]; exact ((hb1r.setCell (p := ⟨xb, 0, none⟩) hxg _).setCell (p := ⟨xb, 1, none⟩) hxg _).setCell (p := ⟨xb, 2, none⟩) hxg _
        have hx2a : W2a.heap[xb]? = some (.cells #[.string nm, .int .i64 sp, .slice xa xs.length xcap] 77 (0, 0)) := by
          rw [hW2a]
          have := set_self (o := 2) (c := .slice xa xs.length xcap) (set_self (o := 1) (c := .int .i64 sp) (set_self (o := 0) (c := .string nm) HX1.out))
          simpa using this
        have hy2a : W2a.heap[yb]? = some (.cells #[.string ⟨#[]⟩, .int .i64 0, .slice none 0 0] 77 (0, 0)) := by
          rw [hW2a, Below.heap_setCell _ _ _ _ (show yb ≠ xb from fun e => hxy e.symm), Below.heap_setCell _ _ _ _ (show yb ≠ xb from fun e => hxy e.symm), Below.heap_setCell _ _ _ _ (show yb ≠ xb from fun e => hxy e.symm)]; exact HY1.out
        have HX2a := Hold.mk hx2a
        have HY2a := Hold.mk hy2a
        obtain ⟨y0, y1, y2⟩ := cells_three hy2a
        have f0 := free_box hy2a 0
        have f1 := free_box hy2a 1
        have f2 := free_box hy2a 2
        clear hW2a hx2a hy2a hb1r HX1 HY1
        refine mixl_act (i := 13) rfl (by kernel_rfl) (growBC hb2a) rfl (fun K hK => ?_)
        go_wp2_with fail
        clear y0 y1 y2 f0 f1 f2
        obtain ⟨W2, hW2⟩ : ∃ W2, W2 = ((W2a.setCell ⟨yb, 0, none⟩ (.string nm)).setCell ⟨yb, 1, none⟩ (.int .i64 sp)).setCell ⟨yb, 2, none⟩ (.slice ya xs.length ycap) := ⟨_, rfl⟩
        rw [← hW2]
        have hb2 : Below wr.heap.size wr W2 := by
          rw [hW2]; exact ((hb2a.setCell (p := ⟨yb, 0, none⟩) hyg _).setCell (p := ⟨yb, 1, none⟩) hyg _).setCell (p := ⟨yb, 2, none⟩) hyg _
        have hy2 : W2.heap[yb]? = some (.cells #[.string nm, .int .i64 sp, .slice ya xs.length ycap] 77 (0, 0)) := by
          rw [hW2]
          have := set_self (o := 2) (c := .slice ya xs.length ycap) (set_self (o := 1) (c := .int .i64 sp) (set_self (o := 0) (c := .string nm) HY2a.out))
          simpa using this
        have hx2 : W2.heap[xb]? = some (.cells #[.string nm, .int .i64 sp, .slice xa xs.length xcap] 77 (0, 0)) := by
          rw [hW2, Below.heap_setCell _ _ _ _ (show xb ≠ yb from hxy), Below.heap_setCell _ _ _ _ (show xb ≠ yb from hxy), Below.heap_setCell _ _ _ _ (show xb ≠ yb from hxy)]; exact HX2a.out
        clear hW2 hb2a HX2a HY2a hxy hxg hyg
        refine mix_done (by kernel_rfl) (growBC hb2) ?_
        have HB2 := Hold.mk hb2
        have HX2 := Hold.mk hx2
        have HY2 := Hold.mk hy2
        clear hb2 hx2 hy2
        obtain ⟨x0, x1, x2⟩ := cells_three HX2.out
        obtain ⟨y0, y1, y2⟩ := cells_three HY2.out
        go_upto_region 9 with (fail)
        clear x0 x1 x2 y0 y1 y2
        go_wp2_with fail
        go_loopw [8] (fun i wq => ∃ q : Nat, i = .int .i64 q ∧ q ≤ xs.length ∧ Below W2.heap.size W2 wq) (fun i _ => xs.length - (intOf i).toNat)
        case atStart => exact ⟨0, rfl, Nat.zero_le _, Below.refl _ _⟩
        case round =>
          rename World => wq
          obtain ⟨q, rfl, hq, hbq⟩ := hrel
          have HBQ := Hold.mk hbq
          have HBA := Hold.mk (HB.out.trans (HB2.out.mono HB.out.size) |>.trans (hbq.mono (Nat.le_trans HB.out.size HB2.out.size)))
          obtain ⟨_, _, x2⟩ := cells_three (kept HX2.out hbq)
          obtain ⟨_, _, y2⟩ := cells_three (kept HY2.out hbq)
          clear hbq
          by_cases hlt2 : q < xs.length
          · obtain ⟨p, hp⟩ : ∃ p, xs[q]? = some p := ⟨xs[q], List.getElem?_eq_getElem hlt2⟩
            obtain ⟨_, _, e, _, _, hxel⟩ := HXI.out
            cases e
            obtain ⟨_, _, e, _, _, hyel⟩ := HYI.out
            cases e
            obtain ⟨b2, off2, d2, rfl, hd2, hcc2, fa, fcap, rfl, hpnm, hpf, hpw⟩ := hxel q p hp
            obtain ⟨b3, off3, d3, rfl, hd3, hcc3, ga, gcap, rfl, _, hqf, _⟩ := hyel q p hp
            have hcl := cle_below (HB0.out.trans (HBA.out.mono HB0.out.size))
            have p0 := hcl _ _ _ (hcc2 0 _ rfl)
            have p1 := hcl _ _ _ (hcc2 1 _ rfl)
            have p2 := hcl _ _ _ (hcc2 2 _ rfl)
            have p3 := hcl _ _ _ (hcc2 3 _ rfl)
            have q0 := hcl _ _ _ (hcc3 0 _ rfl)
            have q1 := hcl _ _ _ (hcc3 1 _ rfl)
            have q2 := hcl _ _ _ (hcc3 2 _ rfl)
            have q3 := hcl _ _ _ (hcc3 3 _ rfl)
            unfold cf at p0 p1 p2 p3 q0 q1 q2 q3
            rw [Nat.add_zero] at p0 q0
            have HF1 := Hold.mk (hpf.mono hcl)
            have HF2 := Hold.mk (hqf.mono hcl)
            have HNM := Hold.mk hpnm
            obtain ⟨⟨iname, fl, u⟩, isp⟩ := p
            simp only at *
            have HSI : Hold (∀ e : Grow wq, Calls Tryz.prog 37 #[.agg #[.string iname, .slice fa fl.length fcap, .bool u], .agg #[.string iname, .slice ga fl.length gcap, .bool u]] e.val fun r w' => r = .returned (.bool true) ∧ Below e.val.heap.size e.val w') := ⟨fun e => by
              have := rSameI_any ⟨iname, fl, u⟩ ⟨iname, fl, u⟩ (.agg #[.string iname, .slice fa fl.length fcap, .bool u]) (.agg #[.string iname, .slice ga fl.length gcap, .bool u]) e.val ⟨HNM.out, _, rfl, HF1.out.mono (cle_below e.2)⟩ ⟨HNM.out, _, rfl, HF2.out.mono (cle_below e.2)⟩
              rw [sameI_yes rfl] at this; exact this⟩
            replace HSI := Hold.mk (Calls.grow HSI.out)
            have g0 := Grow.cell p0
            have g1 := Grow.cell p1
            have g2 := Grow.cell p2
            have g3 := Grow.cell p3
            have k0 := Grow.cell q0
            have k1 := Grow.cell q1
            have k2 := Grow.cell q2
            have k3 := Grow.cell q3
            have gx := Grow.cell x2
            have gy := Grow.cell y2
            clear hd2 hcc2 hpnm hpf hpw hcl hp hd3 hcc3 hqf p0 p1 p2 p3 q0 q1 q2 q3
            go_upto_region 12 with (fail)
            refine wp_region_grow (by kernel_rfl) (by kernel_rfl) ?_
            repeat (go_big_quiet_step (exact HSI.out _))
            refine wpQuiet_nil ?_
            rintro ⟨w9, hb9⟩
            simp only
            have HB9 := Hold.mk (HBQ.out.trans (hb9.mono HBQ.out.size))
            clear g0 g1 g2 g3 k0 k1 k2 k3 gx gy x2 y2 hb9 HSI
            go_wp2_with fail
            exact ⟨⟨q + 1, by go_num, hlt2, HB9.out⟩, by simp [intOf]; omega⟩
          · obtain rfl : q = xs.length := by omega
            go_wp2_with fail
            exact ⟨⟨j + 1, by go_num, hlt, HBA.out⟩, by simp [intOf]; omega⟩
    · have HBZ := Hold.mk (HB0.out.trans (HB.out.mono HB0.out.size))
      go_wp2_with fail
      go_ret
      exact ⟨rfl, HBZ.out⟩
end Go.Proofs.YtfpphpjobkhalaaGreatDoor
