/- Catalogs: Create and Drop of the reference (printed by genXCZ.py). -/
import Derived.Test.YtcmfanfkcbjeoaaGreatDoorCW
import Derived.Test.YtcmfanfkcbjeoaaGreatDoorAL
namespace Go.Proofs.YtcmfanfkcbjeoaaGreatDoor
open Go.Shelf Go.RowKit

/-- a collection that lies as it lay in w -/
def RK (w : World) : Rep CX := fun _ x d => RCX (cf w) x d
theorem RK_mono {w : World} : Mono (RK w) := fun _ _ _ _ _ h => h
theorem RK_one {w : World} : ∀ (c : CF) (x : CX) (d : List Value), RK w c x d → ∀ u ∈ d, u.oneCell' = true := fun _ x d h => RCX_one _ x d h
/-- the row that a call lays, in its box -/
structure RO (w W2 wr : World) (ob : Nat) (sl : Value) (p : Nat) (xs : List CX) (cs : List Value) : Prop where
  bel : Below ob W2 wr
  out : wr.heap[ob]? = some (.cells #[sl] 57 (0, 0))
  own : OwnS 3 (RK w) 106 (ob + 1) wr sl p xs cs
theorem RO.push {w W2 wr w9 wA : World} {ob : Nat} {sl sl2 : Value} {p p2 : Nat} {xs xs2 : List CX} {cs cs2 : List Value} (h : RO w W2 wr ob sl p xs cs) (hb : Below wr.heap.size wr w9) (ho : OwnS 3 (RK w) 106 (ob + 1) wA sl2 p2 xs2 cs2) (hg : Grew w9 wA sl sl2) :
    RO w W2 (wA.setCell ⟨ob, 0, none⟩ sl2) ob sl2 p2 xs2 cs2 := by
  have hlt := heap_lt h.out
  have h9 := h.own.quiet RK_mono hb
  have hk : wA.heap[ob]? = some (.cells #[sl] 57 (0, 0)) := hg.kept (kept h.out hb) (fun g hg e => by have := (h9.low g hg).1; omega)
  refine ⟨?_, ?_, own_set ho.own (Nat.lt_succ_self ob), ho.len, ⟨ho.row.1, ho.row.2⟩, by simp; exact ho.le⟩
  · exact ((h.bel.trans (hb.mono (Nat.le_trans h.bel.size (Nat.le_refl _) |> fun _ => Nat.le_of_lt hlt))).trans (hg.below (Nat.le_trans (Nat.le_of_lt hlt) hb.size) fun g hg => Nat.le_of_succ_le (h9.low g hg).1)).setCell (p := ⟨ob, 0, none⟩) (Nat.le_refl _) _
  · have := set_self (o := 0) (c := sl2) hk
    simpa using this
theorem cat_of_RO {w W2 wr W : World} {ob : Nat} {a : Option Addr} {cap p : Nat} {xs : List CX} {cs : List Value} (h : RO w W2 wr ob (.slice a p cap) p xs cs) (hb : Below w.heap.size w W) {k : Nat} (hg : wr.grownBy W (some k)) (hk : k < ob) : CatAt (cf W) xs (.agg #[.slice a xs.length cap]) := by
  have hl := h.own.len
  subst hl
  have ho := h.own.own.kept hg (by
    cases e : (Value.slice a xs.length cap).ownBlock with
    | none => exact .inl rfl
    | some g => exact .inr (fun e2 => by have := (h.own.own.lt g e).1; have := Option.some.inj e2; omega))
  refine ⟨a, cap, rfl, sat_of_own ho (c := cf W) ⟨h.own.row.1, fun i x hx => ?_⟩ (fun _ _ _ _ h => h)⟩
  obtain ⟨d, h1, h2, h3⟩ := h.own.row.2 i x hx
  exact ⟨d, h1, h2, RCX_mono _ _ _ _ (cle_below hb) h3⟩
theorem place_lt {l : List CX} {s : ByteArray} {q : Nat} {x : CX} (hx : l[q]? = some x) (hq : q < placeZ (namesC l) s) : strLt x.name s = true := placeZ_lt hq (by rw [List.getElem?_map, hx]; rfl)
theorem place_at {l : List CX} {s : ByteArray} {x : CX} (hx : l[placeZ (namesC l) s]? = some x) : strLt x.name s = false := placeZ_at (by rw [List.getElem?_map, hx]; rfl)

set_option maxRecDepth 100000 in
set_option maxHeartbeats 32000000 in
theorem rCreate_any (l : List CX) (v : Value) (s : ByteArray) (w : World) (h : CatAt (cf w) l v) (hsm : SmallC l) (hns : (spacesC l).length ≤ 1000000) (hs : s.size ≤ 9223372036854775807) :
    Calls Tryz.prog 51 #[v, .string s] w (CatPost w (createF l s)) := by
  have HCV := Hold.mk h
  obtain ⟨a, cap, W00, rfl, _, _, _, _, hle, hcap, hel⟩ := boxed_cat h
  have HE := Hold.mk hel
  obtain ⟨r, hr⟩ : ∃ r, r = createF l s := ⟨_, rfl⟩
  rw [← hr]
  have HR := Hold.mk hr
  obtain ⟨W0, hW0, hb0, e0, e1⟩ := twoEM w (.cells #[.slice a l.length cap] 57) (.cells #[.slice none 0 0] 57)
  have HB0 := Hold.mk hb0
  have HK0 := Hold.mk e0
  have HK1 := Hold.mk e1
  have HZ0 : Hold (W0.heap.size = w.heap.size + 2) := ⟨by rw [hW0]; simp⟩
  have HCA : Hold (∀ wn, Below (w.heap.size + 2) W0 wn → CatAt (cf wn) l (.agg #[.slice a l.length cap]) ∧ wn.cell? ⟨w.heap.size, 0, none⟩ = some (.slice a l.length cap) ∧ wn.heap[w.heap.size + 1]? = some (.cells #[.slice none 0 0] 57 (0, 0)) ∧ Below w.heap.size w wn ∧ w.heap.size + 2 ≤ wn.heap.size) := ⟨fun wn hb => by
    have h1 := HB0.out.trans (hb.mono (by omega))
    have h2 : wn.heap[w.heap.size]? = some (.cells #[.slice a l.length cap] 57 (0, 0)) := by rw [hb.block _ (by omega)]; exact HK0.out
    exact ⟨HCV.out.mono (cle_below h1), by simp [World.cell?, h2], by rw [hb.block _ (by omega)]; exact HK1.out, h1, by have := hb.size; have := HZ0.out; omega⟩⟩
  clear hel hr hb0 e0 e1 h
  obtain ⟨hca, y0, hr1, hbw, hsz⟩ := HCA.out W0 (by rw [HZ0.out] at *; exact Below.refl _ _)
  have HFO := Hold.mk (rFormedC_any l _ W0 hca hsm hns)
  have HNS := Hold.mk hns
  clear hca hr1 hbw hns hsm hsz
  go_enter Tryz.func51, Tryz.ntmps51
  go_upto_region 1 with (fail)
  rw [← hW0]
  clear hW0
  go_wp2_with fail
  refine HFO.out.mono ?_
  rintro e w1 ⟨rfl, hb1⟩
  have HB1 : Hold (Below (w.heap.size + 2) W0 w1) := ⟨by rw [← HZ0.out]; exact hb1⟩
  clear hb1 HFO y0
  obtain ⟨hca, y0, hr1, hbw, hsz⟩ := HCA.out w1 HB1.out
  have HSS := Hold.mk hs
  cases hfo : formC l with
  | false =>
    have HX : Hold (r = ([], 2)) := ⟨by rw [HR.out]; unfold createF; rw [hfo]; rfl⟩
    clear hfo hca
    have hf1 : w1.frozen? ⟨w.heap.size + 1, 0, none⟩ = false := free_box hr1 0
    have hx1 : w1.cell? ⟨w.heap.size + 1, 0, none⟩ = some (.slice none 0 0) := by
      have := hr1
      simp [World.cell?, this]
    go_wp2_with fail
    clear hf1 hx1
    obtain ⟨W, hW⟩ : ∃ W, W = w1.setCell ⟨w.heap.size + 1, 0, none⟩ (.slice none 0 0) := ⟨_, rfl⟩
    rw [← hW]
    have hk : W.heap[w.heap.size + 1]? = some (.cells #[.slice none 0 0] 57 (0, 0)) := by
      rw [hW]
      have := set_self (o := 0) (c := .slice none 0 0) hr1
      simpa using this
    have hx : W.cell? ⟨w.heap.size + 1, 0, none⟩ = some (.slice none 0 0) := by simp [World.cell?, hk]
    have hb : Below w.heap.size w W := by rw [hW]; exact bsetZ hbw (by omega)
    refine bodyPost_ret (v := .tuple #[.agg #[.slice none 0 0], .int .i64 2]) (by simp [results, Tryz.results51, go_sem, hx]) rfl ?_
    exact cat_err HX.out hb
  | true =>
  have HFO := Hold.mk hfo
  have HNM := Hold.mk (rName_any s w1 hs)
  clear hfo
  go_wp2_with fail
  refine HNM.out.mono ?_
  rintro e w1' ⟨rfl, rfl⟩
  clear HNM
  cases hnf : nameF s with
  | false =>
    have HX : Hold (r = ([], 2)) := ⟨by rw [HR.out]; unfold createF; rw [HFO.out, hnf]; rfl⟩
    clear hnf hca
    have hf1 : w1.frozen? ⟨w.heap.size + 1, 0, none⟩ = false := free_box hr1 0
    have hx1 : w1.cell? ⟨w.heap.size + 1, 0, none⟩ = some (.slice none 0 0) := by
      have := hr1
      simp [World.cell?, this]
    go_wp2_with fail
    clear hf1 hx1
    obtain ⟨W, hW⟩ : ∃ W, W = w1.setCell ⟨w.heap.size + 1, 0, none⟩ (.slice none 0 0) := ⟨_, rfl⟩
    rw [← hW]
    have hk : W.heap[w.heap.size + 1]? = some (.cells #[.slice none 0 0] 57 (0, 0)) := by
      rw [hW]
      have := set_self (o := 0) (c := .slice none 0 0) hr1
      simpa using this
    have hx : W.cell? ⟨w.heap.size + 1, 0, none⟩ = some (.slice none 0 0) := by simp [World.cell?, hk]
    have hb : Below w.heap.size w W := by rw [hW]; exact bsetZ hbw (by omega)
    refine bodyPost_ret (v := .tuple #[.agg #[.slice none 0 0], .int .i64 2]) (by simp [results, Tryz.results51, go_sem, hx]) rfl ?_
    exact cat_err HX.out hb
  | true =>
  replace HR : Hold (r = if 0 ≤ findI (nameIs s) l then ([], 5) else if l.length = 4 then ([], 3) else (insZ (placeZ (namesC l) s) ⟨s, freshZ (spacesC l), []⟩ l, 0)) := ⟨by rw [HR.out]; unfold createF; rw [HFO.out, hnf, if_neg (by decide)]⟩
  have HFI := Hold.mk (rFind_any l _ s w1 hca)
  clear hnf hca hr1 hbw hsz
  go_wp2_with fail
  refine HFI.out.mono ?_
  rintro e w3 ⟨rfl, hb3⟩
  have HB3 : Hold (Below (w.heap.size + 2) W0 w3) := ⟨HB1.out.trans (hb3.mono (HCA.out w1 HB1.out).2.2.2.2)⟩
  clear hb3 HFI y0
  obtain ⟨hca, y0, hr1, hbw, hsz⟩ := HCA.out w3 HB3.out
  generalize findI (nameIs s) l = fi at *
  by_cases hfi : 0 ≤ fi
  · have HX : Hold (r = ([], 5)) := ⟨by rw [HR.out, if_pos hfi]⟩
    clear hca
    have hf1 : w3.frozen? ⟨w.heap.size + 1, 0, none⟩ = false := free_box hr1 0
    have hx1 : w3.cell? ⟨w.heap.size + 1, 0, none⟩ = some (.slice none 0 0) := by
      have := hr1
      simp [World.cell?, this]
    go_wp2_with fail
    clear hf1 hx1
    obtain ⟨W, hW⟩ : ∃ W, W = w3.setCell ⟨w.heap.size + 1, 0, none⟩ (.slice none 0 0) := ⟨_, rfl⟩
    rw [← hW]
    have hk : W.heap[w.heap.size + 1]? = some (.cells #[.slice none 0 0] 57 (0, 0)) := by
      rw [hW]
      have := set_self (o := 0) (c := .slice none 0 0) hr1
      simpa using this
    have hx : W.cell? ⟨w.heap.size + 1, 0, none⟩ = some (.slice none 0 0) := by simp [World.cell?, hk]
    have hb : Below w.heap.size w W := by rw [hW]; exact bsetZ hbw (by omega)
    refine bodyPost_ret (v := .tuple #[.agg #[.slice none 0 0], .int .i64 5]) (by simp [results, Tryz.results51, go_sem, hx]) rfl ?_
    exact cat_err HX.out hb
  replace HR : Hold (r = if l.length = 4 then ([], 3) else (insZ (placeZ (namesC l) s) ⟨s, freshZ (spacesC l), []⟩ l, 0)) := ⟨by rw [HR.out, if_neg hfi]⟩
  have h4 : l.length ≤ 4 := (formC_iff.1 HFO.out).1
  by_cases hl4 : l.length = 4
  · have HX : Hold (r = ([], 3)) := ⟨by rw [HR.out, if_pos hl4]⟩
    have hl5 : (4 : Int) ≤ (l.length : Int) := by omega
    clear hca h4 hl4
    have hf1 : w3.frozen? ⟨w.heap.size + 1, 0, none⟩ = false := free_box hr1 0
    have hx1 : w3.cell? ⟨w.heap.size + 1, 0, none⟩ = some (.slice none 0 0) := by
      have := hr1
      simp [World.cell?, this]
    go_wp2_with fail
    clear hf1 hx1
    obtain ⟨W, hW⟩ : ∃ W, W = w3.setCell ⟨w.heap.size + 1, 0, none⟩ (.slice none 0 0) := ⟨_, rfl⟩
    rw [← hW]
    have hk : W.heap[w.heap.size + 1]? = some (.cells #[.slice none 0 0] 57 (0, 0)) := by
      rw [hW]
      have := set_self (o := 0) (c := .slice none 0 0) hr1
      simpa using this
    have hx : W.cell? ⟨w.heap.size + 1, 0, none⟩ = some (.slice none 0 0) := by simp [World.cell?, hk]
    have hb : Below w.heap.size w W := by rw [hW]; exact bsetZ hbw (by omega)
    refine bodyPost_ret (v := .tuple #[.agg #[.slice none 0 0], .int .i64 3]) (by simp [results, Tryz.results51, go_sem, hx]) rfl ?_
    exact cat_err HX.out hb
  have HRN : Hold (r = (insZ (placeZ (namesC l) s) ⟨s, freshZ (spacesC l), []⟩ l, 0)) := ⟨by rw [HR.out, if_neg hl4]⟩
  have hl5 : ¬ (4 : Int) ≤ (l.length : Int) := by omega
  have HL4 : Hold (l.length ≤ 3) := ⟨by omega⟩
  clear hca hr1 hbw hsz h4 hl4 HR
  obtain ⟨ob, hob⟩ : ∃ ob, ob = w3.heap.size := ⟨_, rfl⟩
  obtain ⟨W2, hW2⟩ : ∃ W2, W2 = w3.alloc (.cells #[.slice none 0 0] 57) := ⟨_, rfl⟩
  have hb2 : Below w3.heap.size w3 W2 := by rw [hW2]; exact (Below.refl _ w3).alloc (Nat.le_refl _) _
  have HOB : Hold (w.heap.size + 2 ≤ ob ∧ W2.heap.size = ob + 1) := ⟨by rw [hob, hW2]; exact ⟨(HCA.out w3 HB3.out).2.2.2.2, by simp⟩⟩
  have HSRC : Hold (∀ wn, Below ob W2 wn → wn.cell? ⟨w.heap.size, 0, none⟩ = some (.slice a l.length cap) ∧ wn.heap[w.heap.size + 1]? = some (.cells #[.slice none 0 0] 57 (0, 0)) ∧ Below w.heap.size w wn ∧ CatAt (cf wn) l (.agg #[.slice a l.length cap])) := ⟨fun wn hb => by
    obtain ⟨h1, h2, h3, h4, _⟩ := HCA.out wn (HB3.out.trans ((hb2.mono (by have := HOB.out; omega)).trans (hb.mono (by have := HOB.out; omega))))
    exact ⟨h2, h3, h4, h1⟩⟩
  have HRO2 : Hold (RO w W2 W2 ob (.slice none 0 0) 0 (l.take 0) []) := ⟨⟨Below.refl _ _, by rw [hW2, hob]; exact heap_alloc_new w3 _, by
    have := OwnS.start 3 (RK w) 106 (B := ob + 1) (w := W2) (by have := HOB.out.2; omega)
    simpa using this⟩⟩
  clear hb2
  go_upto_region 8 with (fail)
  rw [← hW2, ← hob]
  clear hW2 hob y0 hl5 hfi
  obtain ⟨kk, hkk⟩ : ∃ kk, kk = placeZ (namesC l) s := ⟨_, rfl⟩
  have HKK := Hold.mk hkk
  have HKL : Hold (kk ≤ l.length) := ⟨by rw [hkk]; have := placeZ_le (namesC l) s; simpa using this⟩
  clear hkk
  go_wp2_with fail
  go_loopw [7] (fun i wr => ∃ (q : Nat) (sl : Value) (cs : List Value), i = .int .i64 q ∧ q ≤ kk ∧ RO w W2 wr ob sl q (l.take q) cs) (fun i _ => l.length - (intOf i).toNat)
  case atStart => exact ⟨0, _, _, rfl, Nat.zero_le _, HRO2.out⟩
  case round =>
    clear HRO2
    obtain ⟨q, sl, cs, rfl, hq, hro⟩ := hrel
    obtain ⟨sla, slc, rfl⟩ := hro.own.shape
    have HRO := Hold.mk hro
    have HQ := Hold.mk hq
    clear hro
    have HQL : Hold (q ≤ 1000) := ⟨by have := HKL.out; have := HL4.out; omega⟩
    by_cases hlt : q < kk
    · have hll : q < l.length := by have := HKL.out; omega
      obtain ⟨x, hx⟩ : ∃ x, l[q]? = some x := ⟨l[q], List.getElem?_eq_getElem hll⟩
      have hls := place_lt hx (by rw [← HKK.out]; exact hlt)
      have hlt2 : Op.bytesLess x.name.toList s.toList = true := hls
      clear hls hq
      obtain ⟨b, off, d, rfl, hd, hcc, xa, xcap, rfl, hxn, hxw, hxi⟩ := HE.out q x hx
      have HXE := Hold.mk hx
      have HRX : Hold (RCX (cf w) x [.string x.name, .int .i64 x.sp, .slice xa x.ixs.length xcap]) := ⟨⟨xa, xcap, rfl, hxn, hxw, hxi⟩⟩
      obtain ⟨nm, sp, xs⟩ := x
      simp only at *
      have hbl : b < w.heap.size := lt_of_cell (hcc 0 _ rfl)
      obtain ⟨y0, _, hbw, _⟩ := HSRC.out wr HRO.out.bel
      have hcl := cle_below hbw
      have z0 := hcl _ _ _ (hcc 0 _ rfl)
      have z1 := hcl _ _ _ (hcc 1 _ rfl)
      have z2 := hcl _ _ _ (hcc 2 _ rfl)
      unfold cf at z0 z1 z2
      rw [Nat.add_zero] at z0
      have hob2 := HOB.out.1
      have gy := GrowB.cell (B := ob) y0 (by omega)
      have g0 := GrowB.cell (B := ob) z0 (by omega)
      have g1 := GrowB.cell (B := ob) z1 (by omega)
      have g2 := GrowB.cell (B := ob) z2 (by omega)
      clear hd hcc hxn hxw hxi hcl hx hbw hbl hob2
      go_upto_region 10 with (fail)
      have hout := HRO.out.out
      have x0 : wr.cell? ⟨ob, 0, none⟩ = some (.slice sla q slc) := by simp [World.cell?, hout]
      have h1 := BoxT.cell (B := ob) x0
      clear x0 hout
      refine wp_region_mixL (KeepC ob ob wr [8]) 11 rfl (by kernel_rfl) ?_
      obtain ⟨w9, hw9⟩ : ∃ w9, w9 = wr.drew := ⟨_, rfl⟩
      have hb9 : Below wr.heap.size wr w9 := by rw [hw9]; exact (Below.refl _ _).drew
      have HB9 := Hold.mk hb9
      have HK9 : Hold (Below ob wr w9 ∧ w9.heap[ob]? = wr.heap[ob]?) := ⟨hb9.mono (Nat.le_of_lt (heap_lt HRO.out.out)), hb9.block ob (heap_lt HRO.out.out)⟩
      rw [← hw9]
      clear hw9 hb9
      refine mixL_seg (by kernel_rfl) (fun _ _ d _ _ h => by cases d <;> exact h) (GrowBC ob wr) keepC_base [0, 2, 3, 4, 5, 6] (keepC_back rfl) [_, _, _, _, _, _] 5 11 rfl _ _ _ rfl (by kernel_rfl) ?_
      repeat (go_big_quiet_step (fail))
      refine wpQuiet_nil ?_
      refine mixL_one (by kernel_rfl) (fun _ _ d _ _ h => by cases d <;> exact h) (BoxC ob ob wr) 8 (keepC_box (by decide)) 1 (fun l w => keepC_back (is := [1]) rfl 1 (by simp) l w) _ 4 _ _ _ rfl (by kernel_rfl) (by kernel_rfl) (by kernel_rfl) ?_
      repeat (go_big_quiet_step (fail))
      refine wpQuiet_nil ?_
      clear h1
      have HBX := HB9
      have HKX := HK9
      have HOX := Hold.mk (HRO.out.own.quiet RK_mono HBX.out)
      refine mixL_act (i := 7) rfl (by kernel_rfl) (keepC_on HK9.out.1 HK9.out.2) rfl (fun K hK => ?_)
      go_wp2_with fail
      have HKA : Hold (Below ob wr (w9.alloc (.cells #[.string nm, .int .i64 sp, .slice xa xs.length xcap] 106)) ∧ (w9.alloc (.cells #[.string nm, .int .i64 sp, .slice xa xs.length xcap] 106)).heap[ob]? = wr.heap[ob]?) := ⟨by
        have hb : Below w9.heap.size w9 (w9.alloc (.cells #[.string nm, .int .i64 sp, .slice xa xs.length xcap] 106)) := (Below.refl _ w9).alloc (Nat.le_refl _) _
        have hlt := heap_lt HRO.out.out
        have hs9 := HB9.out.size
        exact ⟨HK9.out.1.trans (hb.mono (by omega)), by rw [hb.block _ (by omega)]; exact HK9.out.2⟩⟩
      refine mixL_act (i := 8) rfl (by kernel_rfl) (keepC_on HKA.out.1 HKA.out.2) rfl (fun K hK => ?_)
      refine wp_push RK_mono _ _ rfl infoCXr Tryz.underlying55 rfl (by decide) _ w9 _ q _ _ HOX.out rfl #[.string nm, .int .i64 sp, .slice xa xs.length xcap] [.string nm, .int .i64 sp, .slice xa xs.length xcap] rfl rfl (by simp [Value.oneCell']) ⟨nm, sp, xs⟩ HRX.out _ rfl rfl (by have := HQL.out; omega) (by decide) ?_
      intro sl2 wA hoA hgA
      obtain ⟨pa, pc, rfl⟩ := hoA.shape
      have HN := Hold.mk (HRO.out.push HBX.out hoA hgA)
      have HBA : Hold (Below ob wr wA) := ⟨HKX.out.1.trans (hgA.below (Nat.le_trans (Nat.le_of_lt (heap_lt HRO.out.out)) HBX.out.size) fun g hg => Nat.le_of_succ_le (HOX.out.low g hg).1)⟩
      have HXA : Hold (wA.heap[ob]? = some (.cells #[.slice sla q slc] 57 (0, 0))) := ⟨hgA.kept (by rw [HKX.out.2]; exact HRO.out.out) (fun g hg e => by have := (HOX.out.low g hg).1; omega)⟩
      clear hoA hgA
      go_wp2_with fail
      refine mixL_seg (by kernel_rfl) (fun _ _ d _ _ h => by cases d <;> exact h) (GrowBC ob wr) keepC_base [9] (keepC_back rfl) [_] 1 2 rfl _ _ _ rfl (by kernel_rfl) ?_
      repeat (go_big_quiet_step (fail))
      refine wpQuiet_nil ?_
      refine mixL_act (i := 10) rfl (by kernel_rfl) (keepC_off HBA.out (by kernel_rfl)) rfl (fun K hK => ?_)
      have hxa := HXA.out
      have x0 : wA.cell? ⟨ob, 0, none⟩ = some (.slice sla q slc) := by simp [World.cell?, hxa]
      have f0 : wA.frozen? ⟨ob, 0, none⟩ = false := free_box hxa 0
      clear hxa
      go_wp2_with fail
      clear x0 f0
      obtain ⟨wB, hwB⟩ : ∃ wB, wB = wA.setCell ⟨ob, 0, none⟩ (.slice pa (q + 1) pc) := ⟨_, rfl⟩
      rw [← hwB]
      rw [← hwB] at HN
      have HBB : Hold (Below ob wr wB) := ⟨by rw [hwB]; exact HBA.out.setCell (p := ⟨ob, 0, none⟩) (Nat.le_refl _) _⟩
      clear hwB HXA HBA
      refine mixL_done (by kernel_rfl) (keepC_off HBB.out (by kernel_rfl)) ?_
      have HTK : Hold (l.take (q + 1) = l.take q ++ [⟨nm, sp, xs⟩]) := ⟨take_succ HXE.out⟩
      rw [← HTK.out] at HN
      clear gy g0 g1 g2 y0 z0 z1 z2 hlt2
      go_wp2_with fail
      exact ⟨⟨q + 1, _, _, by go_num, hlt, HN.out⟩, by simp [intOf]; omega⟩
    · obtain rfl : q = kk := by omega
      have HQK := Hold.mk HKK.out
      obtain ⟨y0, _, hbw, hcw⟩ := HSRC.out wr HRO.out.bel
      have HCW := Hold.mk hcw
      have HBW := Hold.mk hbw
      clear hcw hq
      have HOUTER : True := trivial
      by_cases hll : q < l.length
      · obtain ⟨x, hx⟩ : ∃ x, l[q]? = some x := ⟨l[q], List.getElem?_eq_getElem hll⟩
        have hls := place_at (s := s) (x := x) (l := l) (by rw [← HQK.out]; exact hx)
        have hlt2 : Op.bytesLess x.name.toList s.toList = false := hls
        obtain ⟨b, off, d, rfl, hd, hcc, xa, xcap, rfl, hxn, hxw, hxi⟩ := HE.out q x hx
        have z0 := cle_below hbw _ _ _ (hcc 0 _ rfl)
        unfold cf at z0
        rw [Nat.add_zero] at z0
        clear hls hd hcc hxn hxw hxi hx hbw
        go_upto_region 12 with (fail)
        clear z0 hlt2
        have hob2 := HOB.out.1
        have gy := GrowB.cell (B := ob) y0 (by omega)
        clear hob2
        go_upto_region 12 with (fail)
        have hout := HRO.out.out
        have x0 : wr.cell? ⟨ob, 0, none⟩ = some (.slice sla q slc) := by simp [World.cell?, hout]
        have h1 := BoxT.cell (B := ob) x0
        clear x0 hout
        refine wp_region_mixL (KeepC ob ob wr [7]) 10 rfl (by kernel_rfl) ?_
        obtain ⟨w9, hw9⟩ : ∃ w9, w9 = wr.drew := ⟨_, rfl⟩
        have hb9 : Below wr.heap.size wr w9 := by rw [hw9]; exact (Below.refl _ _).drew
        have HB9 := Hold.mk hb9
        have HK9 : Hold (Below ob wr w9 ∧ w9.heap[ob]? = wr.heap[ob]?) := ⟨hb9.mono (Nat.le_of_lt (heap_lt HRO.out.out)), hb9.block ob (heap_lt HRO.out.out)⟩
        rw [← hw9]
        clear hw9 hb9
        refine mixL_seg (by kernel_rfl) (fun _ _ d _ _ h => by cases d <;> exact h) (GrowBC ob wr) keepC_base [0, 2, 3] (keepC_back rfl) [_, _, _] 7 10 rfl _ _ _ rfl (by kernel_rfl) ?_
        repeat (go_big_quiet_step (fail))
        refine wpQuiet_nil ?_
        refine mixL_one (by kernel_rfl) (fun _ _ d _ _ h => by cases d <;> exact h) (BoxC ob ob wr) 7 (keepC_box (by decide)) 1 (fun l w => keepC_back (is := [1]) rfl 1 (by simp) l w) _ 6 _ _ _ rfl (by kernel_rfl) (by kernel_rfl) (by kernel_rfl) ?_
        repeat (go_big_quiet_step (fail))
        refine wpQuiet_nil ?_
        clear h1
        clear gy
        have HFR := Hold.mk (rfresh_any l (.agg #[.slice (some ⟨b, off, none⟩) l.length cap]) w9 (HCW.out.mono (cle_below HB9.out)) HNS.out)
        refine mixL_act (i := 4) rfl (by kernel_rfl) (keepC_on HK9.out.1 HK9.out.2) rfl (fun K hK => ?_)
        go_wp2_with fail
        refine HFR.out.mono ?_
        rintro e w10 ⟨n, rfl, hfr, hnl, hb10⟩
        have HBX := Hold.mk (HB9.out.trans (hb10.mono HB9.out.size))
        have HKX : Hold (Below ob wr w10 ∧ w10.heap[ob]? = wr.heap[ob]?) := ⟨HBX.out.mono (Nat.le_of_lt (heap_lt HRO.out.out)), HBX.out.block ob (heap_lt HRO.out.out)⟩
        have HOX := Hold.mk (HRO.out.own.quiet RK_mono HBX.out)
        have HFN := Hold.mk (freshZ_eq hfr)
        have HNL : Hold (n ≤ 21) := ⟨by have := spaces_four HFO.out; omega⟩
        clear hfr hnl hb10 HFR
        go_wp2_with fail
        refine mixL_seg (by kernel_rfl) (fun _ _ d _ _ h => by cases d <;> exact h) (GrowBC ob wr) keepC_base [5] (keepC_back rfl) [_] 4 5 rfl _ _ _ rfl (by kernel_rfl) ?_
        repeat (go_big_quiet_step (fail))
        refine wpQuiet_nil ?_
        refine mixL_act (i := 6) rfl (by kernel_rfl) (keepC_on HKX.out.1 HKX.out.2) rfl (fun K hK => ?_)
        go_wp2_with fail
        have HKA : Hold (Below ob wr (w10.alloc (.cells #[.string s, .int .i64 (n : Int), .slice none 0 0] 106)) ∧ (w10.alloc (.cells #[.string s, .int .i64 (n : Int), .slice none 0 0] 106)).heap[ob]? = wr.heap[ob]?) := ⟨by
          have hb : Below w10.heap.size w10 (w10.alloc (.cells #[.string s, .int .i64 (n : Int), .slice none 0 0] 106)) := (Below.refl _ w10).alloc (Nat.le_refl _) _
          have hlt := heap_lt HRO.out.out
          have hs9 := HBX.out.size
          exact ⟨HKX.out.1.trans (hb.mono (by omega)), by rw [hb.block _ (by omega)]; exact HKX.out.2⟩⟩
        refine mixL_act (i := 7) rfl (by kernel_rfl) (keepC_on HKA.out.1 HKA.out.2) rfl (fun K hK => ?_)
        refine wp_push RK_mono _ _ rfl infoCXr Tryz.underlying55 rfl (by decide) _ w10 _ q _ _ HOX.out rfl #[.string s, .int .i64 (n : Int), .slice none 0 0] [.string s, .int .i64 (n : Int), .slice none 0 0] rfl rfl (by simp [Value.oneCell']) ⟨s, (n : Int), []⟩ ⟨none, 0, rfl, HSS.out, by have := HNL.out; simp [Lit.wf, IntKind.min, IntKind.max, IntKind.bits, IntKind.signed]; omega, SAt.none _ _ _⟩ _ rfl rfl (by have := HQL.out; omega) (by decide) ?_
        intro sl2 wA hoA hgA
        obtain ⟨pa, pc, rfl⟩ := hoA.shape
        have HN := Hold.mk (HRO.out.push HBX.out hoA hgA)
        have HBA : Hold (Below ob wr wA) := ⟨HKX.out.1.trans (hgA.below (Nat.le_trans (Nat.le_of_lt (heap_lt HRO.out.out)) HBX.out.size) fun g hg => Nat.le_of_succ_le (HOX.out.low g hg).1)⟩
        have HXA : Hold (wA.heap[ob]? = some (.cells #[.slice sla q slc] 57 (0, 0))) := ⟨hgA.kept (by rw [HKX.out.2]; exact HRO.out.out) (fun g hg e => by have := (HOX.out.low g hg).1; omega)⟩
        clear hoA hgA
        go_wp2_with fail
        refine mixL_seg (by kernel_rfl) (fun _ _ d _ _ h => by cases d <;> exact h) (GrowBC ob wr) keepC_base [8] (keepC_back rfl) [_] 1 2 rfl _ _ _ rfl (by kernel_rfl) ?_
        repeat (go_big_quiet_step (fail))
        refine wpQuiet_nil ?_
        refine mixL_act (i := 9) rfl (by kernel_rfl) (keepC_off HBA.out (by kernel_rfl)) rfl (fun K hK => ?_)
        have hxa := HXA.out
        have x0 : wA.cell? ⟨ob, 0, none⟩ = some (.slice sla q slc) := by simp [World.cell?, hxa]
        have f0 : wA.frozen? ⟨ob, 0, none⟩ = false := free_box hxa 0
        clear hxa
        go_wp2_with fail
        clear x0 f0
        obtain ⟨wB, hwB⟩ : ∃ wB, wB = wA.setCell ⟨ob, 0, none⟩ (.slice pa (q + 1) pc) := ⟨_, rfl⟩
        rw [← hwB]
        rw [← hwB] at HN
        have HBB : Hold (Below ob wr wB) := ⟨by rw [hwB]; exact HBA.out.setCell (p := ⟨ob, 0, none⟩) (Nat.le_refl _) _⟩
        clear hwB HXA HBA
        refine mixL_done (by kernel_rfl) (keepC_off HBB.out (by kernel_rfl)) ?_
        clear HRO HB9 HK9 HBX HKX HOX HKA HCW HBW
        have HRO := HN
        clear HN
        obtain ⟨a', hsl0, hsl1⟩ := slice_tail (n := 3) Tryz.underlying55 (by kernel_rfl) infoCXr (some ⟨b, off, none⟩) l.length cap q (by have := HKL.out; omega) hle hcap
        have hsl : ∀ w, (Instr.slice 55 (.slice (some ⟨b, off, none⟩) l.length cap) (some (.int .i64 (q : Int))) none none).run Tryz.prog w = .ok (.slice a' (l.length - q) (cap - q)) w := hsl0
        have HSL1 := Hold.mk (fun (c : CF) => hsl1 (R := RK w) (c := c) (l := l) rfl)
        clear hsl0 hsl1
        obtain ⟨y0, _, hbw, _⟩ := HSRC.out wB HRO.out.bel
        have HBW := Hold.mk hbw
        have hob2 := HOB.out.1
        have gy := GrowB.cell (B := ob) y0 (by omega)
        clear hob2 y0 hbw
        go_upto_region 13 with (fail)
        have hout := HRO.out.out
        have x0 : wB.cell? ⟨ob, 0, none⟩ = some (.slice pa (q + 1) pc) := by simp [World.cell?, hout]
        have h1 := BoxT.cell (B := ob) x0
        clear x0 hout
        refine wp_region_mixL (KeepC ob ob wB [6]) 9 rfl (by kernel_rfl) ?_
        obtain ⟨w9, hw9⟩ : ∃ w9, w9 = wB.drew := ⟨_, rfl⟩
        have hb9 : Below wB.heap.size wB w9 := by rw [hw9]; exact (Below.refl _ _).drew
        have HB9 := Hold.mk hb9
        have HK9 : Hold (Below ob wB w9 ∧ w9.heap[ob]? = wB.heap[ob]?) := ⟨hb9.mono (Nat.le_of_lt (heap_lt HRO.out.out)), hb9.block ob (heap_lt HRO.out.out)⟩
        rw [← hw9]
        clear hw9 hb9
        refine mixL_seg (by kernel_rfl) (fun _ _ d _ _ h => by cases d <;> exact h) (GrowBC ob wB) keepC_base [0, 2, 3, 4, 5] (keepC_back rfl) [_, _, _, _, _] 4 9 rfl _ _ _ rfl (by kernel_rfl) ?_
        repeat (go_big_quiet_step (fail))
        refine wpQuiet_nil ?_
        refine mixL_one (by kernel_rfl) (fun _ _ d _ _ h => by cases d <;> exact h) (BoxC ob ob wB) 6 (keepC_box (by decide)) 1 (fun l w => keepC_back (is := [1]) rfl 1 (by simp) l w) _ 3 _ _ _ rfl (by kernel_rfl) (by kernel_rfl) (by kernel_rfl) ?_
        repeat (go_big_quiet_step (fail))
        refine wpQuiet_nil ?_
        clear h1
        clear gy hsl
        have HBX := HB9
        have HKX := HK9
        have HOX := Hold.mk (HRO.out.own.quiet RK_mono HBX.out)
        obtain ⟨ds, hds⟩ : ∃ ds, ds = l.drop q := ⟨_, rfl⟩
        have HDS := Hold.mk hds
        have hdl : l.length - q = ds.length := by rw [hds, List.length_drop]
        rw [hdl]
        have HY : Hold (SAt 3 (RK w) (cfN (.slice pa (q + 1) pc) w9) (.slice a' ds.length (cap - q)) ds) := ⟨by
          have h1 := HSL1.out (cfN (.slice pa (q + 1) pc) w9) ⟨(some ⟨b, off, none⟩), cap, rfl, hle, hcap, fun i x hx => by
            obtain ⟨b, off, d, e, h1, h2, h3⟩ := HE.out i x hx
            exact ⟨b, off, d, e, h1, fun j u hu => cle_cfN_old (HBW.out.trans (HB9.out.mono HBW.out.size)) (fun g hg => by have := (HOX.out.low g hg).1; have := HOB.out.1; omega) _ _ _ (h2 j u hu), h3⟩⟩
          rw [hdl, ← hds] at h1; exact h1⟩
        have HDL : Hold (ds.length ≤ 1000) := ⟨by have := HL4.out; omega⟩
        clear hds hdl
        refine mixL_act (i := 6) rfl (by kernel_rfl) (keepC_on HK9.out.1 HK9.out.2) rfl (fun K hK => ?_)
        refine wp_push_src RK_mono RK_one _ _ rfl infoCXr Tryz.underlying55 rfl (by decide) _ w9 _ (q + 1) _ _ HOX.out rfl _ ds HY.out rfl (by have := HQL.out; have := HDL.out; omega) (by decide) ?_
        intro sl2 wA2 csA hoA hgA
        obtain ⟨pb, pd, rfl⟩ := hoA.shape
        have HN := Hold.mk (HRO.out.push HBX.out hoA hgA)
        have HBA : Hold (Below ob wB wA2) := ⟨HKX.out.1.trans (hgA.below (Nat.le_trans (Nat.le_of_lt (heap_lt HRO.out.out)) HBX.out.size) fun g hg => Nat.le_of_succ_le (HOX.out.low g hg).1)⟩
        have HXA : Hold (wA2.heap[ob]? = some (.cells #[.slice pa (q + 1) pc] 57 (0, 0))) := ⟨hgA.kept (by rw [HKX.out.2]; exact HRO.out.out) (fun g hg e => by have := (HOX.out.low g hg).1; omega)⟩
        clear hoA hgA
        go_wp2_with fail
        refine mixL_seg (by kernel_rfl) (fun _ _ d _ _ h => by cases d <;> exact h) (GrowBC ob wB) keepC_base [7] (keepC_back rfl) [_] 1 2 rfl _ _ _ rfl (by kernel_rfl) ?_
        repeat (go_big_quiet_step (fail))
        refine wpQuiet_nil ?_
        refine mixL_act (i := 8) rfl (by kernel_rfl) (keepC_off HBA.out (by kernel_rfl)) rfl (fun K hK => ?_)
        have hxa := HXA.out
        have x0 : wA2.cell? ⟨ob, 0, none⟩ = some (.slice pa (q + 1) pc) := by simp [World.cell?, hxa]
        have f0 : wA2.frozen? ⟨ob, 0, none⟩ = false := free_box hxa 0
        clear hxa
        go_wp2_with fail
        clear x0 f0
        obtain ⟨wB2, hwB⟩ : ∃ wB2, wB2 = wA2.setCell ⟨ob, 0, none⟩ (.slice pb (q + 1 + ds.length) pd) := ⟨_, rfl⟩
        rw [← hwB]
        rw [← hwB] at HN
        have HBB : Hold (Below ob wB wB2) := ⟨by rw [hwB]; exact HBA.out.setCell (p := ⟨ob, 0, none⟩) (Nat.le_refl _) _⟩
        clear hwB HXA HBA
        refine mixL_done (by kernel_rfl) (keepC_off HBB.out (by kernel_rfl)) ?_
        clear HRO HB9 HK9 HBX HKX HOX HY HSL1 HBW
        have HRO := HN
        clear HN
        have HRN2 : Hold (r = (l.take q ++ [⟨s, (n : Int), []⟩] ++ ds, 0)) := ⟨by rw [HRN.out, HFN.out, ← HQK.out, HDS.out]; simp [insZ]⟩
        obtain ⟨_, hr1, hbw, _⟩ := HSRC.out wB2 HRO.out.bel
        have hf1 : wB2.frozen? ⟨w.heap.size + 1, 0, none⟩ = false := free_box hr1 0
        have hx1 : wB2.cell? ⟨w.heap.size + 1, 0, none⟩ = some (.slice none 0 0) := by simp [World.cell?, hr1]
        have hout := HRO.out.out
        have x0 : wB2.cell? ⟨ob, 0, none⟩ = some (.slice pb (q + 1 + ds.length) pd) := by simp [World.cell?, hout]
        go_wp2_with fail
        clear hf1 hx1 x0
        obtain ⟨W, hW⟩ : ∃ W, W = wB2.setCell ⟨w.heap.size + 1, 0, none⟩ (.slice pb (q + 1 + ds.length) pd) := ⟨_, rfl⟩
        rw [← hW]
        have hk : W.heap[w.heap.size + 1]? = some (.cells #[.slice pb (q + 1 + ds.length) pd] 57 (0, 0)) := by
          rw [hW]
          have := set_self (o := 0) (c := .slice pb (q + 1 + ds.length) pd) hr1
          simpa using this
        have hx : W.cell? ⟨w.heap.size + 1, 0, none⟩ = some (.slice pb (q + 1 + ds.length) pd) := by simp [World.cell?, hk]
        have hg : wB2.grownBy W (some (w.heap.size + 1)) := by rw [hW]; exact grownZ_set _ _ _ _
        have hbW : Below w.heap.size w W := hbw.trans (below_grownZ hg (by omega) hbw.size)
        have hcW := cat_of_RO HRO.out hbW hg (by have := HOB.out; omega)
        have hlen := HRO.out.own.len
        rw [hlen] at hcW
        refine bodyPost_ret (v := .tuple #[.agg #[.slice pb (q + 1 + ds.length) pd], .int .i64 0]) (by simp [results, Tryz.results51, go_sem, hx]) rfl ?_
        refine ⟨.agg #[.slice pb (q + 1 + ds.length) pd], by rw [HRN2.out], ?_, hbW⟩
        rw [HRN2.out]
        exact hcW
      · have hbn : True := trivial
        clear hbw
        go_upto_region 12 with (fail)
        have hob2 := HOB.out.1
        have gy := GrowB.cell (B := ob) y0 (by omega)
        clear hob2
        go_upto_region 12 with (fail)
        have hout := HRO.out.out
        have x0 : wr.cell? ⟨ob, 0, none⟩ = some (.slice sla q slc) := by simp [World.cell?, hout]
        have h1 := BoxT.cell (B := ob) x0
        clear x0 hout
        refine wp_region_mixL (KeepC ob ob wr [7]) 10 rfl (by kernel_rfl) ?_
        obtain ⟨w9, hw9⟩ : ∃ w9, w9 = wr.drew := ⟨_, rfl⟩
        have hb9 : Below wr.heap.size wr w9 := by rw [hw9]; exact (Below.refl _ _).drew
        have HB9 := Hold.mk hb9
        have HK9 : Hold (Below ob wr w9 ∧ w9.heap[ob]? = wr.heap[ob]?) := ⟨hb9.mono (Nat.le_of_lt (heap_lt HRO.out.out)), hb9.block ob (heap_lt HRO.out.out)⟩
        rw [← hw9]
        clear hw9 hb9
        refine mixL_seg (by kernel_rfl) (fun _ _ d _ _ h => by cases d <;> exact h) (GrowBC ob wr) keepC_base [0, 2, 3] (keepC_back rfl) [_, _, _] 7 10 rfl _ _ _ rfl (by kernel_rfl) ?_
        repeat (go_big_quiet_step (fail))
        refine wpQuiet_nil ?_
        refine mixL_one (by kernel_rfl) (fun _ _ d _ _ h => by cases d <;> exact h) (BoxC ob ob wr) 7 (keepC_box (by decide)) 1 (fun l w => keepC_back (is := [1]) rfl 1 (by simp) l w) _ 6 _ _ _ rfl (by kernel_rfl) (by kernel_rfl) (by kernel_rfl) ?_
        repeat (go_big_quiet_step (fail))
        refine wpQuiet_nil ?_
        clear h1
        clear gy
        have HFR := Hold.mk (rfresh_any l (.agg #[.slice a l.length cap]) w9 (HCW.out.mono (cle_below HB9.out)) HNS.out)
        refine mixL_act (i := 4) rfl (by kernel_rfl) (keepC_on HK9.out.1 HK9.out.2) rfl (fun K hK => ?_)
        go_wp2_with fail
        refine HFR.out.mono ?_
        rintro e w10 ⟨n, rfl, hfr, hnl, hb10⟩
        have HBX := Hold.mk (HB9.out.trans (hb10.mono HB9.out.size))
        have HKX : Hold (Below ob wr w10 ∧ w10.heap[ob]? = wr.heap[ob]?) := ⟨HBX.out.mono (Nat.le_of_lt (heap_lt HRO.out.out)), HBX.out.block ob (heap_lt HRO.out.out)⟩
        have HOX := Hold.mk (HRO.out.own.quiet RK_mono HBX.out)
        have HFN := Hold.mk (freshZ_eq hfr)
        have HNL : Hold (n ≤ 21) := ⟨by have := spaces_four HFO.out; omega⟩
        clear hfr hnl hb10 HFR
        go_wp2_with fail
        refine mixL_seg (by kernel_rfl) (fun _ _ d _ _ h => by cases d <;> exact h) (GrowBC ob wr) keepC_base [5] (keepC_back rfl) [_] 4 5 rfl _ _ _ rfl (by kernel_rfl) ?_
        repeat (go_big_quiet_step (fail))
        refine wpQuiet_nil ?_
        refine mixL_act (i := 6) rfl (by kernel_rfl) (keepC_on HKX.out.1 HKX.out.2) rfl (fun K hK => ?_)
        go_wp2_with fail
        have HKA : Hold (Below ob wr (w10.alloc (.cells #[.string s, .int .i64 (n : Int), .slice none 0 0] 106)) ∧ (w10.alloc (.cells #[.string s, .int .i64 (n : Int), .slice none 0 0] 106)).heap[ob]? = wr.heap[ob]?) := ⟨by
          have hb : Below w10.heap.size w10 (w10.alloc (.cells #[.string s, .int .i64 (n : Int), .slice none 0 0] 106)) := (Below.refl _ w10).alloc (Nat.le_refl _) _
          have hlt := heap_lt HRO.out.out
          have hs9 := HBX.out.size
          exact ⟨HKX.out.1.trans (hb.mono (by omega)), by rw [hb.block _ (by omega)]; exact HKX.out.2⟩⟩
        refine mixL_act (i := 7) rfl (by kernel_rfl) (keepC_on HKA.out.1 HKA.out.2) rfl (fun K hK => ?_)
        refine wp_push RK_mono _ _ rfl infoCXr Tryz.underlying55 rfl (by decide) _ w10 _ q _ _ HOX.out rfl #[.string s, .int .i64 (n : Int), .slice none 0 0] [.string s, .int .i64 (n : Int), .slice none 0 0] rfl rfl (by simp [Value.oneCell']) ⟨s, (n : Int), []⟩ ⟨none, 0, rfl, HSS.out, by have := HNL.out; simp [Lit.wf, IntKind.min, IntKind.max, IntKind.bits, IntKind.signed]; omega, SAt.none _ _ _⟩ _ rfl rfl (by have := HQL.out; omega) (by decide) ?_
        intro sl2 wA hoA hgA
        obtain ⟨pa, pc, rfl⟩ := hoA.shape
        have HN := Hold.mk (HRO.out.push HBX.out hoA hgA)
        have HBA : Hold (Below ob wr wA) := ⟨HKX.out.1.trans (hgA.below (Nat.le_trans (Nat.le_of_lt (heap_lt HRO.out.out)) HBX.out.size) fun g hg => Nat.le_of_succ_le (HOX.out.low g hg).1)⟩
        have HXA : Hold (wA.heap[ob]? = some (.cells #[.slice sla q slc] 57 (0, 0))) := ⟨hgA.kept (by rw [HKX.out.2]; exact HRO.out.out) (fun g hg e => by have := (HOX.out.low g hg).1; omega)⟩
        clear hoA hgA
        go_wp2_with fail
        refine mixL_seg (by kernel_rfl) (fun _ _ d _ _ h => by cases d <;> exact h) (GrowBC ob wr) keepC_base [8] (keepC_back rfl) [_] 1 2 rfl _ _ _ rfl (by kernel_rfl) ?_
        repeat (go_big_quiet_step (fail))
        refine wpQuiet_nil ?_
        refine mixL_act (i := 9) rfl (by kernel_rfl) (keepC_off HBA.out (by kernel_rfl)) rfl (fun K hK => ?_)
        have hxa := HXA.out
        have x0 : wA.cell? ⟨ob, 0, none⟩ = some (.slice sla q slc) := by simp [World.cell?, hxa]
        have f0 : wA.frozen? ⟨ob, 0, none⟩ = false := free_box hxa 0
        clear hxa
        go_wp2_with fail
        clear x0 f0
        obtain ⟨wB, hwB⟩ : ∃ wB, wB = wA.setCell ⟨ob, 0, none⟩ (.slice pa (q + 1) pc) := ⟨_, rfl⟩
        rw [← hwB]
        rw [← hwB] at HN
        have HBB : Hold (Below ob wr wB) := ⟨by rw [hwB]; exact HBA.out.setCell (p := ⟨ob, 0, none⟩) (Nat.le_refl _) _⟩
        clear hwB HXA HBA
        refine mixL_done (by kernel_rfl) (keepC_off HBB.out (by kernel_rfl)) ?_
        clear HRO HB9 HK9 HBX HKX HOX HKA HCW HBW
        have HRO := HN
        clear HN
        obtain ⟨a', hsl0, hsl1⟩ := slice_tail (n := 3) Tryz.underlying55 (by kernel_rfl) infoCXr a l.length cap q (by have := HKL.out; omega) hle hcap
        have hsl : ∀ w, (Instr.slice 55 (.slice a l.length cap) (some (.int .i64 (q : Int))) none none).run Tryz.prog w = .ok (.slice a' (l.length - q) (cap - q)) w := hsl0
        have HSL1 := Hold.mk (fun (c : CF) => hsl1 (R := RK w) (c := c) (l := l) rfl)
        clear hsl0 hsl1
        obtain ⟨y0, _, hbw, _⟩ := HSRC.out wB HRO.out.bel
        have HBW := Hold.mk hbw
        have hob2 := HOB.out.1
        have gy := GrowB.cell (B := ob) y0 (by omega)
        clear hob2 y0 hbw
        go_upto_region 13 with (fail)
        have hout := HRO.out.out
        have x0 : wB.cell? ⟨ob, 0, none⟩ = some (.slice pa (q + 1) pc) := by simp [World.cell?, hout]
        have h1 := BoxT.cell (B := ob) x0
        clear x0 hout
        refine wp_region_mixL (KeepC ob ob wB [6]) 9 rfl (by kernel_rfl) ?_
        obtain ⟨w9, hw9⟩ : ∃ w9, w9 = wB.drew := ⟨_, rfl⟩
        have hb9 : Below wB.heap.size wB w9 := by rw [hw9]; exact (Below.refl _ _).drew
        have HB9 := Hold.mk hb9
        have HK9 : Hold (Below ob wB w9 ∧ w9.heap[ob]? = wB.heap[ob]?) := ⟨hb9.mono (Nat.le_of_lt (heap_lt HRO.out.out)), hb9.block ob (heap_lt HRO.out.out)⟩
        rw [← hw9]
        clear hw9 hb9
        refine mixL_seg (by kernel_rfl) (fun _ _ d _ _ h => by cases d <;> exact h) (GrowBC ob wB) keepC_base [0, 2, 3, 4, 5] (keepC_back rfl) [_, _, _, _, _] 4 9 rfl _ _ _ rfl (by kernel_rfl) ?_
        repeat (go_big_quiet_step (fail))
        refine wpQuiet_nil ?_
        refine mixL_one (by kernel_rfl) (fun _ _ d _ _ h => by cases d <;> exact h) (BoxC ob ob wB) 6 (keepC_box (by decide)) 1 (fun l w => keepC_back (is := [1]) rfl 1 (by simp) l w) _ 3 _ _ _ rfl (by kernel_rfl) (by kernel_rfl) (by kernel_rfl) ?_
        repeat (go_big_quiet_step (fail))
        refine wpQuiet_nil ?_
        clear h1
        clear gy hsl
        have HBX := HB9
        have HKX := HK9
        have HOX := Hold.mk (HRO.out.own.quiet RK_mono HBX.out)
        obtain ⟨ds, hds⟩ : ∃ ds, ds = l.drop q := ⟨_, rfl⟩
        have HDS := Hold.mk hds
        have hdl : l.length - q = ds.length := by rw [hds, List.length_drop]
        rw [hdl]
        have HY : Hold (SAt 3 (RK w) (cfN (.slice pa (q + 1) pc) w9) (.slice a' ds.length (cap - q)) ds) := ⟨by
          have h1 := HSL1.out (cfN (.slice pa (q + 1) pc) w9) ⟨a, cap, rfl, hle, hcap, fun i x hx => by
            obtain ⟨b, off, d, e, h1, h2, h3⟩ := HE.out i x hx
            exact ⟨b, off, d, e, h1, fun j u hu => cle_cfN_old (HBW.out.trans (HB9.out.mono HBW.out.size)) (fun g hg => by have := (HOX.out.low g hg).1; have := HOB.out.1; omega) _ _ _ (h2 j u hu), h3⟩⟩
          rw [hdl, ← hds] at h1; exact h1⟩
        have HDL : Hold (ds.length ≤ 1000) := ⟨by have := HL4.out; omega⟩
        clear hds hdl
        refine mixL_act (i := 6) rfl (by kernel_rfl) (keepC_on HK9.out.1 HK9.out.2) rfl (fun K hK => ?_)
        refine wp_push_src RK_mono RK_one _ _ rfl infoCXr Tryz.underlying55 rfl (by decide) _ w9 _ (q + 1) _ _ HOX.out rfl _ ds HY.out rfl (by have := HQL.out; have := HDL.out; omega) (by decide) ?_
        intro sl2 wA2 csA hoA hgA
        obtain ⟨pb, pd, rfl⟩ := hoA.shape
        have HN := Hold.mk (HRO.out.push HBX.out hoA hgA)
        have HBA : Hold (Below ob wB wA2) := ⟨HKX.out.1.trans (hgA.below (Nat.le_trans (Nat.le_of_lt (heap_lt HRO.out.out)) HBX.out.size) fun g hg => Nat.le_of_succ_le (HOX.out.low g hg).1)⟩
        have HXA : Hold (wA2.heap[ob]? = some (.cells #[.slice pa (q + 1) pc] 57 (0, 0))) := ⟨hgA.kept (by rw [HKX.out.2]; exact HRO.out.out) (fun g hg e => by have := (HOX.out.low g hg).1; omega)⟩
        clear hoA hgA
        go_wp2_with fail
        refine mixL_seg (by kernel_rfl) (fun _ _ d _ _ h => by cases d <;> exact h) (GrowBC ob wB) keepC_base [7] (keepC_back rfl) [_] 1 2 rfl _ _ _ rfl (by kernel_rfl) ?_
        repeat (go_big_quiet_step (fail))
        refine wpQuiet_nil ?_
        refine mixL_act (i := 8) rfl (by kernel_rfl) (keepC_off HBA.out (by kernel_rfl)) rfl (fun K hK => ?_)
        have hxa := HXA.out
        have x0 : wA2.cell? ⟨ob, 0, none⟩ = some (.slice pa (q + 1) pc) := by simp [World.cell?, hxa]
        have f0 : wA2.frozen? ⟨ob, 0, none⟩ = false := free_box hxa 0
        clear hxa
        go_wp2_with fail
        clear x0 f0
        obtain ⟨wB2, hwB⟩ : ∃ wB2, wB2 = wA2.setCell ⟨ob, 0, none⟩ (.slice pb (q + 1 + ds.length) pd) := ⟨_, rfl⟩
        rw [← hwB]
        rw [← hwB] at HN
        have HBB : Hold (Below ob wB wB2) := ⟨by rw [hwB]; exact HBA.out.setCell (p := ⟨ob, 0, none⟩) (Nat.le_refl _) _⟩
        clear hwB HXA HBA
        refine mixL_done (by kernel_rfl) (keepC_off HBB.out (by kernel_rfl)) ?_
        clear HRO HB9 HK9 HBX HKX HOX HY HSL1 HBW
        have HRO := HN
        clear HN
        have HRN2 : Hold (r = (l.take q ++ [⟨s, (n : Int), []⟩] ++ ds, 0)) := ⟨by rw [HRN.out, HFN.out, ← HQK.out, HDS.out]; simp [insZ]⟩
        obtain ⟨_, hr1, hbw, _⟩ := HSRC.out wB2 HRO.out.bel
        have hf1 : wB2.frozen? ⟨w.heap.size + 1, 0, none⟩ = false := free_box hr1 0
        have hx1 : wB2.cell? ⟨w.heap.size + 1, 0, none⟩ = some (.slice none 0 0) := by simp [World.cell?, hr1]
        have hout := HRO.out.out
        have x0 : wB2.cell? ⟨ob, 0, none⟩ = some (.slice pb (q + 1 + ds.length) pd) := by simp [World.cell?, hout]
        go_wp2_with fail
        clear hf1 hx1 x0
        obtain ⟨W, hW⟩ : ∃ W, W = wB2.setCell ⟨w.heap.size + 1, 0, none⟩ (.slice pb (q + 1 + ds.length) pd) := ⟨_, rfl⟩
        rw [← hW]
        have hk : W.heap[w.heap.size + 1]? = some (.cells #[.slice pb (q + 1 + ds.length) pd] 57 (0, 0)) := by
          rw [hW]
          have := set_self (o := 0) (c := .slice pb (q + 1 + ds.length) pd) hr1
          simpa using this
        have hx : W.cell? ⟨w.heap.size + 1, 0, none⟩ = some (.slice pb (q + 1 + ds.length) pd) := by simp [World.cell?, hk]
        have hg : wB2.grownBy W (some (w.heap.size + 1)) := by rw [hW]; exact grownZ_set _ _ _ _
        have hbW : Below w.heap.size w W := hbw.trans (below_grownZ hg (by omega) hbw.size)
        have hcW := cat_of_RO HRO.out hbW hg (by have := HOB.out; omega)
        have hlen := HRO.out.own.len
        rw [hlen] at hcW
        refine bodyPost_ret (v := .tuple #[.agg #[.slice pb (q + 1 + ds.length) pd], .int .i64 0]) (by simp [results, Tryz.results51, go_sem, hx]) rfl ?_
        refine ⟨.agg #[.slice pb (q + 1 + ds.length) pd], by rw [HRN2.out], ?_, hbW⟩
        rw [HRN2.out]
        exact hcW


theorem filter_del {α : Type} {p : α → Bool} {l : List α} {k : Nat} {x : α} (hk : l[k]? = some x) (hp : p x = true) (hu : ∀ (i : Nat) y, l[i]? = some y → i ≠ k → p y = false) : l.filter (fun x => !p x) = delZ k l := by
  obtain ⟨hlt, rfl⟩ := List.getElem?_eq_some_iff.1 hk
  have hs : l = l.take k ++ l[k] :: l.drop (k + 1) := by rw [← List.drop_eq_getElem_cons hlt, List.take_append_drop]
  have h1 : (l.take k).filter (fun x => !p x) = l.take k := List.filter_eq_self.2 fun y hy => by
    obtain ⟨i, hi⟩ := List.getElem?_of_mem hy
    rw [List.getElem?_take] at hi
    split at hi
    · rw [hu i y hi (by omega)]; rfl
    · cases hi
  have h2 : (l.drop (k + 1)).filter (fun x => !p x) = l.drop (k + 1) := List.filter_eq_self.2 fun y hy => by
    obtain ⟨i, hi⟩ := List.getElem?_of_mem hy
    rw [List.getElem?_drop] at hi
    rw [hu _ y hi (by omega)]; rfl
  conv => lhs; rw [hs]
  rw [List.filter_append, List.filter_cons, hp, h1, h2]
  rfl
theorem names_once {l : List CX} (h : upZ (namesC l)) {s : ByteArray} {k : Nat} {x : CX} (hk : l[k]? = some x) (hp : nameIs s x = true) : ∀ (i : Nat) y, l[i]? = some y → i ≠ k → nameIs s y = false := fun i y hy hne => by
  cases e : nameIs s y with
  | false => rfl
  | true =>
    have h1 := nameIs_iff.1 e
    have h2 := nameIs_iff.1 hp
    have hk' : (namesC l)[k]? = some s := by rw [List.getElem?_map, hk, ← h2]; rfl
    have hi' : (namesC l)[i]? = some s := by rw [List.getElem?_map, hy, ← h1]; rfl
    rcases Nat.lt_or_gt_of_ne hne with hl | hl
    · have := upZ_lt h hl hi' hk'
      rw [strLtZ_irrefl] at this; cases this
    · have := upZ_lt h hl hk' hi'
      rw [strLtZ_irrefl] at this; cases this
set_option maxRecDepth 100000 in
set_option maxHeartbeats 32000000 in
theorem rDrop_any (l : List CX) (v : Value) (s : ByteArray) (w : World) (h : CatAt (cf w) l v) (hsm : SmallC l) (hns : (spacesC l).length ≤ 1000000) :
    Calls Tryz.prog 52 #[v, .string s] w (CatPost w (dropF l s)) := by
  have HCV := Hold.mk h
  obtain ⟨a, cap, W00, rfl, _, _, _, _, hle, hcap, hel⟩ := boxed_cat h
  have HE := Hold.mk hel
  obtain ⟨r, hr⟩ : ∃ r, r = dropF l s := ⟨_, rfl⟩
  rw [← hr]
  have HR := Hold.mk hr
  obtain ⟨W0, hW0, hb0, e0, e1⟩ := twoEM w (.cells #[.slice a l.length cap] 57) (.cells #[.slice none 0 0] 57)
  have HB0 := Hold.mk hb0
  have HK0 := Hold.mk e0
  have HK1 := Hold.mk e1
  have HZ0 : Hold (W0.heap.size = w.heap.size + 2) := ⟨by rw [hW0]; simp⟩
  have HCA : Hold (∀ wn, Below (w.heap.size + 2) W0 wn → CatAt (cf wn) l (.agg #[.slice a l.length cap]) ∧ wn.cell? ⟨w.heap.size, 0, none⟩ = some (.slice a l.length cap) ∧ wn.heap[w.heap.size + 1]? = some (.cells #[.slice none 0 0] 57 (0, 0)) ∧ Below w.heap.size w wn ∧ w.heap.size + 2 ≤ wn.heap.size) := ⟨fun wn hb => by
    have h1 := HB0.out.trans (hb.mono (by omega))
    have h2 : wn.heap[w.heap.size]? = some (.cells #[.slice a l.length cap] 57 (0, 0)) := by rw [hb.block _ (by omega)]; exact HK0.out
    exact ⟨HCV.out.mono (cle_below h1), by simp [World.cell?, h2], by rw [hb.block _ (by omega)]; exact HK1.out, h1, by have := hb.size; have := HZ0.out; omega⟩⟩
  clear hel hr hb0 e0 e1 h
  obtain ⟨hca, y0, hr1, hbw, hsz⟩ := HCA.out W0 (by rw [HZ0.out] at *; exact Below.refl _ _)
  have HFO := Hold.mk (rFormedC_any l _ W0 hca hsm hns)
  have HNS := Hold.mk hns
  clear hca hr1 hbw hns hsm hsz
  go_enter Tryz.func52, Tryz.ntmps52
  go_upto_region 1 with (fail)
  rw [← hW0]
  clear hW0
  go_wp2_with fail
  refine HFO.out.mono ?_
  rintro e w1 ⟨rfl, hb1⟩
  have HB1 : Hold (Below (w.heap.size + 2) W0 w1) := ⟨by rw [← HZ0.out]; exact hb1⟩
  clear hb1 HFO y0
  obtain ⟨hca, y0, hr1, hbw, hsz⟩ := HCA.out w1 HB1.out
  cases hfo : formC l with
  | false =>
    have HX : Hold (r = ([], 2)) := ⟨by rw [HR.out]; unfold dropF; rw [hfo]; rfl⟩
    clear hfo hca
    have hf1 : w1.frozen? ⟨w.heap.size + 1, 0, none⟩ = false := free_box hr1 0
    have hx1 : w1.cell? ⟨w.heap.size + 1, 0, none⟩ = some (.slice none 0 0) := by
      have := hr1
      simp [World.cell?, this]
    go_wp2_with fail
    clear hf1 hx1
    obtain ⟨W, hW⟩ : ∃ W, W = w1.setCell ⟨w.heap.size + 1, 0, none⟩ (.slice none 0 0) := ⟨_, rfl⟩
    rw [← hW]
    have hk : W.heap[w.heap.size + 1]? = some (.cells #[.slice none 0 0] 57 (0, 0)) := by
      rw [hW]
      have := set_self (o := 0) (c := .slice none 0 0) hr1
      simpa using this
    have hx : W.cell? ⟨w.heap.size + 1, 0, none⟩ = some (.slice none 0 0) := by simp [World.cell?, hk]
    have hb : Below w.heap.size w W := by rw [hW]; exact bsetZ hbw (by omega)
    refine bodyPost_ret (v := .tuple #[.agg #[.slice none 0 0], .int .i64 2]) (by simp [results, Tryz.results52, go_sem, hx]) rfl ?_
    exact cat_err HX.out hb
  | true =>
  have HFO := Hold.mk hfo
  replace HR : Hold (r = if findI (nameIs s) l < 0 then ([], 4) else (delZ (findI (nameIs s) l).toNat l, 0)) := ⟨by rw [HR.out]; unfold dropF; rw [HFO.out, if_neg (by decide)]⟩
  have HFI := Hold.mk (rFind_any l _ s w1 hca)
  clear hfo hca hr1 hbw hsz
  go_wp2_with fail
  refine HFI.out.mono ?_
  rintro e w3 ⟨rfl, hb3⟩
  have HB3 : Hold (Below (w.heap.size + 2) W0 w3) := ⟨HB1.out.trans (hb3.mono (HCA.out w1 HB1.out).2.2.2.2)⟩
  clear hb3 HFI y0
  obtain ⟨hca, y0, hr1, hbw, hsz⟩ := HCA.out w3 HB3.out
  have hcs := findI_cases (nameIs s) l
  generalize findI (nameIs s) l = fi at *
  rcases hcs with rfl | ⟨k, y, rfl, hky, hyn⟩
  · have HX : Hold (r = ([], 4)) := ⟨by rw [HR.out, if_pos (by decide)]⟩
    clear hca
    have hf1 : w3.frozen? ⟨w.heap.size + 1, 0, none⟩ = false := free_box hr1 0
    have hx1 : w3.cell? ⟨w.heap.size + 1, 0, none⟩ = some (.slice none 0 0) := by
      have := hr1
      simp [World.cell?, this]
    go_wp2_with fail
    clear hf1 hx1
    obtain ⟨W, hW⟩ : ∃ W, W = w3.setCell ⟨w.heap.size + 1, 0, none⟩ (.slice none 0 0) := ⟨_, rfl⟩
    rw [← hW]
    have hk : W.heap[w.heap.size + 1]? = some (.cells #[.slice none 0 0] 57 (0, 0)) := by
      rw [hW]
      have := set_self (o := 0) (c := .slice none 0 0) hr1
      simpa using this
    have hx : W.cell? ⟨w.heap.size + 1, 0, none⟩ = some (.slice none 0 0) := by simp [World.cell?, hk]
    have hb : Below w.heap.size w W := by rw [hW]; exact bsetZ hbw (by omega)
    refine bodyPost_ret (v := .tuple #[.agg #[.slice none 0 0], .int .i64 4]) (by simp [results, Tryz.results52, go_sem, hx]) rfl ?_
    exact cat_err HX.out hb
  have HRN : Hold (r = (l.filter (fun x => !nameIs s x), 0)) := ⟨by
    rw [HR.out, if_neg (by omega), Int.toNat_natCast, filter_del hky hyn (names_once (formC_iff.1 HFO.out).2.1 hky hyn)]⟩
  have HL4 : Hold (l.length ≤ 4) := ⟨(formC_iff.1 HFO.out).1⟩
  clear hca hr1 hbw hsz HR hky hyn
  obtain ⟨ob, hob⟩ : ∃ ob, ob = w3.heap.size := ⟨_, rfl⟩
  obtain ⟨W2, hW2⟩ : ∃ W2, W2 = w3.alloc (.cells #[.slice none 0 0] 57) := ⟨_, rfl⟩
  have hb2 : Below w3.heap.size w3 W2 := by rw [hW2]; exact (Below.refl _ w3).alloc (Nat.le_refl _) _
  have HOB : Hold (w.heap.size + 2 ≤ ob ∧ W2.heap.size = ob + 1) := ⟨by rw [hob, hW2]; exact ⟨(HCA.out w3 HB3.out).2.2.2.2, by simp⟩⟩
  have HSRC : Hold (∀ wn, Below ob W2 wn → wn.cell? ⟨w.heap.size, 0, none⟩ = some (.slice a l.length cap) ∧ wn.heap[w.heap.size + 1]? = some (.cells #[.slice none 0 0] 57 (0, 0)) ∧ Below w.heap.size w wn ∧ CatAt (cf wn) l (.agg #[.slice a l.length cap])) := ⟨fun wn hb => by
    obtain ⟨h1, h2, h3, h4, _⟩ := HCA.out wn (HB3.out.trans ((hb2.mono (by have := HOB.out; omega)).trans (hb.mono (by have := HOB.out; omega))))
    exact ⟨h2, h3, h4, h1⟩⟩
  have HRO2 : Hold (RO w W2 W2 ob (.slice none 0 0) 0 (l.take 0) []) := ⟨⟨Below.refl _ _, by rw [hW2, hob]; exact heap_alloc_new w3 _, by
    have := OwnS.start 3 (RK w) 106 (B := ob + 1) (w := W2) (by have := HOB.out.2; omega)
    simpa using this⟩⟩
  clear hb2
  go_upto_region 6 with (fail)
  rw [← hW2, ← hob]
  clear hW2 hob y0
  go_wp2_with fail
  go_loopw [7] (fun i wr => ∃ (j q : Nat) (sl : Value) (cs : List Value), i = .int .i64 j ∧ j ≤ l.length ∧ RO w W2 wr ob sl q ((l.take j).filter fun x => !nameIs s x) cs) (fun i _ => l.length - (intOf i).toNat)
  case atStart => exact ⟨0, 0, _, _, rfl, Nat.zero_le _, by simpa using HRO2.out⟩
  case round =>
    clear HRO2
    obtain ⟨j, q, sl, cs, rfl, hj, hro⟩ := hrel
    obtain ⟨sla, slc, rfl⟩ := hro.own.shape
    have HRO := Hold.mk hro
    have HQL : Hold (q ≤ 1000) := ⟨by
      have h1 := hro.own.len
      have h2 := List.length_filter_le (fun x => !nameIs s x) (l.take j)
      rw [List.length_take] at h2
      have := HL4.out; omega⟩
    clear hro
    by_cases hlt : j < l.length
    · obtain ⟨x, hx⟩ : ∃ x, l[j]? = some x := ⟨l[j], List.getElem?_eq_getElem hlt⟩
      have HTK : Hold (l.take (j + 1) = l.take j ++ [x]) := ⟨take_succ hx⟩
      obtain ⟨b, off, d, rfl, hd, hcc, xa, xcap, rfl, hxn, hxw, hxi⟩ := HE.out j x hx
      have HXE := Hold.mk hx
      have HRX : Hold (RCX (cf w) x [.string x.name, .int .i64 x.sp, .slice xa x.ixs.length xcap]) := ⟨⟨xa, xcap, rfl, hxn, hxw, hxi⟩⟩
      obtain ⟨nm, sp, xs⟩ := x
      simp only at *
      have hbl : b < w.heap.size := lt_of_cell (hcc 0 _ rfl)
      obtain ⟨y0, _, hbw, _⟩ := HSRC.out wr HRO.out.bel
      have hcl := cle_below hbw
      have z0 := hcl _ _ _ (hcc 0 _ rfl)
      have z1 := hcl _ _ _ (hcc 1 _ rfl)
      have z2 := hcl _ _ _ (hcc 2 _ rfl)
      unfold cf at z0 z1 z2
      rw [Nat.add_zero] at z0
      have hob2 := HOB.out.1
      have gy := GrowB.cell (B := ob) y0 (by omega)
      have g0 := GrowB.cell (B := ob) z0 (by omega)
      have g1 := GrowB.cell (B := ob) z1 (by omega)
      have g2 := GrowB.cell (B := ob) z2 (by omega)
      clear hd hcc hxn hxw hxi hcl hx hbw hbl hob2
      cases hn : nameIs s ⟨nm, sp, xs⟩ with
      | true =>
        have e1 : (nm.toList == s.toList) = true := hn
        have e2 : (nm.toList != s.toList) = false := by unfold bne; rw [e1]; rfl
        have HN : Hold ((l.take (j + 1)).filter (fun x => !nameIs s x) = (l.take j).filter fun x => !nameIs s x) := ⟨by
          rw [HTK.out, List.filter_append, List.filter_cons, hn]; simp⟩
        clear hn gy g0 g1 g2
        go_wp2_with fail
        exact ⟨⟨j + 1, q, _, cs, by go_num, hlt, by rw [HN.out]; exact HRO.out⟩, by simp [intOf]; omega⟩
      | false =>
        have e1 : (nm.toList == s.toList) = false := hn
        have e2 : (nm.toList != s.toList) = true := by unfold bne; rw [e1]; rfl
        have HNF : Hold ((l.take (j + 1)).filter (fun x => !nameIs s x) = (l.take j).filter (fun x => !nameIs s x) ++ [⟨nm, sp, xs⟩]) := ⟨by
          rw [HTK.out, List.filter_append, List.filter_cons, hn]; simp⟩
        clear hn
        go_upto_region 10 with (fail)
        have hout := HRO.out.out
        have x0 : wr.cell? ⟨ob, 0, none⟩ = some (.slice sla q slc) := by simp [World.cell?, hout]
        have h1 := BoxT.cell (B := ob) x0
        clear x0 hout
        refine wp_region_mixL (KeepC ob ob wr [8]) 11 rfl (by kernel_rfl) ?_
        obtain ⟨w9, hw9⟩ : ∃ w9, w9 = wr.drew := ⟨_, rfl⟩
        have hb9 : Below wr.heap.size wr w9 := by rw [hw9]; exact (Below.refl _ _).drew
        have HB9 := Hold.mk hb9
        have HK9 : Hold (Below ob wr w9 ∧ w9.heap[ob]? = wr.heap[ob]?) := ⟨hb9.mono (Nat.le_of_lt (heap_lt HRO.out.out)), hb9.block ob (heap_lt HRO.out.out)⟩
        rw [← hw9]
        clear hw9 hb9
        refine mixL_seg (by kernel_rfl) (fun _ _ d _ _ h => by cases d <;> exact h) (GrowBC ob wr) keepC_base [0, 2, 3, 4, 5, 6] (keepC_back rfl) [_, _, _, _, _, _] 5 11 rfl _ _ _ rfl (by kernel_rfl) ?_
        repeat (go_big_quiet_step (fail))
        refine wpQuiet_nil ?_
        refine mixL_one (by kernel_rfl) (fun _ _ d _ _ h => by cases d <;> exact h) (BoxC ob ob wr) 8 (keepC_box (by decide)) 1 (fun l w => keepC_back (is := [1]) rfl 1 (by simp) l w) _ 4 _ _ _ rfl (by kernel_rfl) (by kernel_rfl) (by kernel_rfl) ?_
        repeat (go_big_quiet_step (fail))
        refine wpQuiet_nil ?_
        clear h1
        have HBX := HB9
        have HKX := HK9
        have HOX := Hold.mk (HRO.out.own.quiet RK_mono HBX.out)
        refine mixL_act (i := 7) rfl (by kernel_rfl) (keepC_on HK9.out.1 HK9.out.2) rfl (fun K hK => ?_)
        go_wp2_with fail
        have HKA : Hold (Below ob wr (w9.alloc (.cells #[.string nm, .int .i64 sp, .slice xa xs.length xcap] 106)) ∧ (w9.alloc (.cells #[.string nm, .int .i64 sp, .slice xa xs.length xcap] 106)).heap[ob]? = wr.heap[ob]?) := ⟨by
          have hb : Below w9.heap.size w9 (w9.alloc (.cells #[.string nm, .int .i64 sp, .slice xa xs.length xcap] 106)) := (Below.refl _ w9).alloc (Nat.le_refl _) _
          have hlt := heap_lt HRO.out.out
          have hs9 := HB9.out.size
          exact ⟨HK9.out.1.trans (hb.mono (by omega)), by rw [hb.block _ (by omega)]; exact HK9.out.2⟩⟩
        refine mixL_act (i := 8) rfl (by kernel_rfl) (keepC_on HKA.out.1 HKA.out.2) rfl (fun K hK => ?_)
        refine wp_push RK_mono _ _ rfl infoCXr Tryz.underlying55 rfl (by decide) _ w9 _ q _ _ HOX.out rfl #[.string nm, .int .i64 sp, .slice xa xs.length xcap] [.string nm, .int .i64 sp, .slice xa xs.length xcap] rfl rfl (by simp [Value.oneCell']) ⟨nm, sp, xs⟩ HRX.out _ rfl rfl (by have := HQL.out; omega) (by decide) ?_
        intro sl2 wA hoA hgA
        obtain ⟨pa, pc, rfl⟩ := hoA.shape
        have HN := Hold.mk (HRO.out.push HBX.out hoA hgA)
        have HBA : Hold (Below ob wr wA) := ⟨HKX.out.1.trans (hgA.below (Nat.le_trans (Nat.le_of_lt (heap_lt HRO.out.out)) HBX.out.size) fun g hg => Nat.le_of_succ_le (HOX.out.low g hg).1)⟩
        have HXA : Hold (wA.heap[ob]? = some (.cells #[.slice sla q slc] 57 (0, 0))) := ⟨hgA.kept (by rw [HKX.out.2]; exact HRO.out.out) (fun g hg e => by have := (HOX.out.low g hg).1; omega)⟩
        clear hoA hgA
        go_wp2_with fail
        refine mixL_seg (by kernel_rfl) (fun _ _ d _ _ h => by cases d <;> exact h) (GrowBC ob wr) keepC_base [9] (keepC_back rfl) [_] 1 2 rfl _ _ _ rfl (by kernel_rfl) ?_
        repeat (go_big_quiet_step (fail))
        refine wpQuiet_nil ?_
        refine mixL_act (i := 10) rfl (by kernel_rfl) (keepC_off HBA.out (by kernel_rfl)) rfl (fun K hK => ?_)
        have hxa := HXA.out
        have x0 : wA.cell? ⟨ob, 0, none⟩ = some (.slice sla q slc) := by simp [World.cell?, hxa]
        have f0 : wA.frozen? ⟨ob, 0, none⟩ = false := free_box hxa 0
        clear hxa
        go_wp2_with fail
        clear x0 f0
        obtain ⟨wB, hwB⟩ : ∃ wB, wB = wA.setCell ⟨ob, 0, none⟩ (.slice pa (q + 1) pc) := ⟨_, rfl⟩
        rw [← hwB]
        rw [← hwB] at HN
        have HBB : Hold (Below ob wr wB) := ⟨by rw [hwB]; exact HBA.out.setCell (p := ⟨ob, 0, none⟩) (Nat.le_refl _) _⟩
        clear hwB HXA HBA
        refine mixL_done (by kernel_rfl) (keepC_off HBB.out (by kernel_rfl)) ?_
        rw [← HNF.out] at HN
        clear gy g0 g1 g2 y0 z0 z1 z2 e1 e2
        go_wp2_with fail
        exact ⟨⟨j + 1, q + 1, _, _, by go_num, hlt, HN.out⟩, by simp [intOf]; omega⟩
    · obtain rfl : j = l.length := by omega
      rw [List.take_of_length_le (Nat.le_refl _)] at HRO
      obtain ⟨y0, _, _, _⟩ := HSRC.out wr HRO.out.bel
      obtain ⟨_, hr1, hbw, _⟩ := HSRC.out wr HRO.out.bel
      have hf1 : wr.frozen? ⟨w.heap.size + 1, 0, none⟩ = false := free_box hr1 0
      have hx1 : wr.cell? ⟨w.heap.size + 1, 0, none⟩ = some (.slice none 0 0) := by simp [World.cell?, hr1]
      have hout := HRO.out.out
      have x0 : wr.cell? ⟨ob, 0, none⟩ = some (.slice sla q slc) := by simp [World.cell?, hout]
      go_wp2_with fail
      clear hf1 hx1 x0
      obtain ⟨W, hW⟩ : ∃ W, W = wr.setCell ⟨w.heap.size + 1, 0, none⟩ (.slice sla q slc) := ⟨_, rfl⟩
      rw [← hW]
      have hk : W.heap[w.heap.size + 1]? = some (.cells #[.slice sla q slc] 57 (0, 0)) := by
        rw [hW]
        have := set_self (o := 0) (c := .slice sla q slc) hr1
        simpa using this
      have hx : W.cell? ⟨w.heap.size + 1, 0, none⟩ = some (.slice sla q slc) := by simp [World.cell?, hk]
      have hg : wr.grownBy W (some (w.heap.size + 1)) := by rw [hW]; exact grownZ_set _ _ _ _
      have hbW : Below w.heap.size w W := hbw.trans (below_grownZ hg (by omega) hbw.size)
      have hcW := cat_of_RO HRO.out hbW hg (by have := HOB.out; omega)
      have hlen := HRO.out.own.len
      rw [hlen] at hcW
      refine bodyPost_ret (v := .tuple #[.agg #[.slice sla q slc], .int .i64 0]) (by simp [results, Tryz.results52, go_sem, hx]) rfl ?_
      refine ⟨.agg #[.slice sla q slc], by rw [HRN.out], ?_, hbW⟩
      rw [HRN.out]
      exact hcW


end Go.Proofs.YtcmfanfkcbjeoaaGreatDoor
