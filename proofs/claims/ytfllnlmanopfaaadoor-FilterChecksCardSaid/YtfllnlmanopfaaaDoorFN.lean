/- Filters: one, holds, Holds of the program. -/
import Derived.Test.YtfllnlmanopfaaaDoorFM
namespace Go.Proofs.YtfllnlmanopfaaaDoor
open Go.RowKit

theorem walk_formed : ∀ (l : List ByteArray) (d : Nat) (v u : JV), formedF d v = true → walkF l v = some u → ∃ e, e ≤ d ∧ formedF e u = true
  | [], d, v, u, hf, h => by rw [walkF] at h; cases h; exact ⟨d, Nat.le_refl _, hf⟩
  | s :: l, d, v, u, hf, h => by
    rw [walkF] at h
    split at h
    · cases h
    · rw [Option.bind_eq_some_iff] at h
      obtain ⟨x, hx, h⟩ := h
      cases d with
      | zero => simp [formedF] at hf
      | succ d =>
        obtain ⟨e, he, hfe⟩ := walk_formed l d x u (formed_kids hf (List.mem_of_getElem? hx)) h
        exact ⟨e, by omega, hfe⟩
theorem get_formed {doc u : JV} {p : ByteArray} (h : getF doc p = some u) : formedF 6 u = true := by
  unfold getF at h
  rw [Option.bind_eq_some_iff] at h
  obtain ⟨l, _, h⟩ := h
  split at h
  · rename_i hf
    obtain ⟨e, he, hfe⟩ := walk_formed l 6 doc u hf h
    exact formed_up hfe he
  · cases h

/-- what holds of the program is known to answer, going down d -/
def HoldsAt (d : Nat) : Prop := ∀ (f doc : JV) (x y : Value) (w : World), formedF d f = true → formedF 6 doc = true → JAt (cf w) f x → JAt (cf w) doc y → Tabs w →
  Calls Tryd.prog 47 #[x, y] w fun e w' => e = .returned (.bool (holdsF passP sameB d f doc)) ∧ Below w.heap.size w w'
def OneAt (d : Nat) : Prop := ∀ (s : ByteArray) (v doc : JV) (x y : Value) (w : World), s.size ≤ 1000000 → formedF d v = true → formedF 6 doc = true → JAt (cf w) v x → JAt (cf w) doc y → Tabs w →
  Calls Tryd.prog 75 #[.string s, x, y] w fun e w' => e = .returned (.bool (oneF passP sameB (fun g => holdsF passP sameB d g doc) s v doc)) ∧ Below w.heap.size w w'

/-- all before j hold -/
def AllTo {α : Type} (l : List α) (p : α → Bool) (j : Nat) : Prop := ∀ (q : Nat) x, q < j → l[q]? = some x → p x = true
theorem AllTo.next {α : Type} {l : List α} {p : α → Bool} {j : Nat} {x : α} (h : AllTo l p j) (hx : l[j]? = some x) (hp : p x = true) : AllTo l p (j + 1) := fun q y hq hy => by
  by_cases e : q = j
  · subst e; rw [hx] at hy; cases hy; exact hp
  · exact h q y (by omega) hy
theorem AllTo.all {α : Type} {l : List α} {p : α → Bool} {j : Nat} (h : AllTo l p j) (hj : l.length ≤ j) : l.all p = true := all_true (fun q x hq hx => h q x (by omega) hx)

set_option maxRecDepth 100000 in
set_option maxHeartbeats 8000000 in
theorem holds_step (d : Nat) (H : OneAt d) : HoldsAt (d + 1) := by
  intro f doc x y w hf hg hx hy hT
  have HL := Hold.mk (formed_lens hf)
  have HFK := Hold.mk (fun z (hz : z ∈ f.items) => formed_kids hf hz)
  have HNS : Hold (∀ s ∈ f.names, s.size ≤ 1000000) := ⟨fun s hs => by
    obtain ⟨k, n, t, nm, it⟩ := f
    by_cases h5 : k < 5
    · rw [formedF, if_pos h5, Bool.and_eq_true] at hf
      rw [List.length_eq_zero_iff.1 (of_decide_eq_true hf.2).2] at hs; cases hs
    · exact Nat.le_trans (text_size ((formed_body hf h5).2.2.1 s hs)) (by decide)⟩
  obtain ⟨k, n, t, nm, it, na, ncap, ia, icap, rfl, rfl, _, _, _, hst, hit⟩ := hx.open
  obtain ⟨q, m, t2, nu, ju, ma, mcap, ja, jcap, hde, rfl, _⟩ := hy.open
  have H2 := Hold.mk (Two.refl w #[.int .i64 k, .int .i64 n, .string t, .slice na nm.length ncap, .slice ia it.length icap] #[.int .i64 q, .int .i64 m, .string t2, .slice ma nu.length mcap, .slice ja ju.length jcap])
  have HE : Hold (holdsF passP sameB (d + 1) (.mk k n t nm it) doc = (nm.zip it).all (fun p => oneF passP sameB (fun g => holdsF passP sameB d g doc) p.1 p.2 doc)) := ⟨by rw [holdsF]; rfl⟩
  have HK := Hold.mk hy
  have HG := Hold.mk hg
  have HT := Hold.mk hT
  have HH := Hold.mk H
  obtain ⟨na', ncap', e, hnlen, hns⟩ := hst
  cases e
  obtain ⟨ia', icap', e, hilen, his⟩ := hit
  cases e
  have HN := Hold.mk hns
  have HI := Hold.mk his
  clear hx hy hf hg hT H hde hns his
  go_enter Tryd.func47, Tryd.ntmps47
  go_wp2_with fail
  go_loopw [10] (fun i wr => ∃ j : Nat, i = .int .i64 j ∧ j ≤ nm.length ∧ AllTo (nm.zip it) (fun p => oneF passP sameB (fun g => holdsF passP sameB d g doc) p.1 p.2 doc) j ∧ Two w wr #[.int .i64 k, .int .i64 n, .string t, .slice na nm.length ncap, .slice ia it.length icap] #[.int .i64 q, .int .i64 m, .string t2, .slice ma nu.length mcap, .slice ja ju.length jcap]) (fun i _ => nm.length - (intOf i).toNat)
  case atStart => exact ⟨0, rfl, Nat.zero_le _, fun q x h => by omega, H2.out⟩
  case round =>
    obtain ⟨j, rfl, hj, hall, h2⟩ := hrel
    clear H2
    have HA := Hold.mk hall
    have H2 := Hold.mk h2
    clear hall h2
    by_cases hlt : j < nm.length
    · have hlt2 : j < it.length := by have h2 : nm.length ≤ it.length := HL.out.2; omega
      obtain ⟨s, hs⟩ : ∃ s, nm[j]? = some s := ⟨nm[j], List.getElem?_eq_getElem hlt⟩
      obtain ⟨x, hx⟩ : ∃ x, it[j]? = some x := ⟨it[j], List.getElem?_eq_getElem hlt2⟩
      obtain ⟨_, sb, so, rfl, hsc⟩ := HN.out j s hs
      obtain ⟨b, off, k2, n2, t3, nm2, it2, na2, ncap2, ia2, icap2, rfl, hxe, x0, x1, x2, x3, x4, hxj⟩ := HI.out j x hx
      have hcl := cle_below H2.out.bel
      have z5 := hcl _ _ _ hsc
      unfold cf at z5
      have g0 := Grow.cell (hcl _ _ _ x0)
      have g1 := Grow.cell (hcl _ _ _ x1)
      have g2 := Grow.cell (hcl _ _ _ x2)
      have g3 := Grow.cell (hcl _ _ _ x3)
      have g4 := Grow.cell (hcl _ _ _ x4)
      obtain ⟨y0, y1, y2, y3, y4⟩ := cells_five H2.out.one
      obtain ⟨v0, v1, v2, v3, v4⟩ := cells_five H2.out.two
      have g5 := Grow.cell y4
      have u0 := Grow.cell v0
      have u1 := Grow.cell v1
      have u2 := Grow.cell v2
      have u3 := Grow.cell v3
      have u4 := Grow.cell v4
      have HC := Hold.mk (Calls.grow (fun e : Grow wr => HH.out s x doc _ _ e.val (HNS.out s (List.mem_of_getElem? hs)) (HFK.out x (List.mem_of_getElem? hx)) HG.out ((hxj.mono hcl).mono (cle_below e.property)) ((HK.out.mono hcl).mono (cle_below e.property)) ((HT.out.below H2.out.bel).below e.property)))
      have HZ := Hold.mk (zip_at hs hx)
      clear x0 x1 x2 x3 x4 hcl hx hxe hxj hsc hs y0 y1 y2 y3 y4 v0 v1 v2 v3 v4
      cases hr : oneF passP sameB (fun g => holdsF passP sameB d g doc) s x doc with
      | false =>
        rw [hr] at HC
        have HR : Hold (holdsF passP sameB (d + 1) (.mk k n t nm it) doc = false) := ⟨by rw [HE.out]; exact all_false HZ.out hr⟩
        clear hr
        go_wp2_with fail
        refine wp_region_grow (by kernel_rfl) (by kernel_rfl) ?_
        repeat (go_big_quiet_step (exact HC.out _))
        refine wpQuiet_nil ?_
        rintro ⟨w3, hb3⟩
        replace H2 := Hold.mk (H2.out.next hb3)
        simp only
        clear hb3 g0 g1 g2 g3 g4 g5 u0 u1 u2 u3 u4 HC z5
        go_wp2_with fail
        go_ret
        exact ⟨by rw [HR.out]; rfl, H2.out.bel⟩
      | true =>
        rw [hr] at HC
        have HNX := Hold.mk (HA.out.next HZ.out hr)
        clear hr
        go_wp2_with fail
        refine wp_region_grow (by kernel_rfl) (by kernel_rfl) ?_
        repeat (go_big_quiet_step (exact HC.out _))
        refine wpQuiet_nil ?_
        rintro ⟨w3, hb3⟩
        replace H2 := Hold.mk (H2.out.next hb3)
        simp only
        clear hb3 g0 g1 g2 g3 g4 g5 u0 u1 u2 u3 u4 HC z5
        go_wp2_with fail
        exact ⟨⟨j + 1, by go_num, hlt, HNX.out, H2.out⟩, by simp [intOf]; omega⟩
    · have HR : Hold (holdsF passP sameB (d + 1) (.mk k n t nm it) doc = true) := ⟨by rw [HE.out]; exact HA.out.all (by rw [List.length_zip]; omega)⟩
      go_wp2_with fail
      go_ret
      exact ⟨by rw [HR.out]; rfl, H2.out.bel⟩

/-! closures of one -/
theorem enters_one1 (args : Array Value) (w : World) : (callFunc 111 args).run Tryd.prog w = .ok (.enter 111 args) w := enters_of Tryd.func111 (by kernel_rfl) rfl args w
theorem enters_one2 (args : Array Value) (w : World) : (callFunc 112 args).run Tryd.prog w = .ok (.enter 112 args) w := enters_of Tryd.func112 (by kernel_rfl) rfl args w

set_option maxHeartbeats 4000000 in
theorem one1_any (d : Nat) (H : HoldsAt d) (f doc : JV) (db : Nat) (c0 c1 c2 c3 c4 : Value) (fv : Value) (w : World) (hc : w.heap[db]? = some (.cells #[c0, c1, c2, c3, c4] 25 (0, 0))) (hd : JAt (cf w) doc (.agg #[c0, c1, c2, c3, c4])) (hx : JAt (cf w) f fv) (hf : formedF d f = true) (hg : formedF 6 doc = true) (hT : Tabs w) :
    Calls Tryd.prog 111 #[fv, .pointer (some ⟨db, 0, none⟩)] w fun e w' => e = .returned (.bool (!holdsF passP sameB d f doc)) ∧ Below w.heap.size w w' := by
  obtain ⟨q, m, u, nu, ju, ma, mcap, ja, jcap, hbe, rfl, _⟩ := hx.open
  have hlt := heap_lt hc
  obtain ⟨y0, y1, y2, y3, y4⟩ := cells_five hc
  have HB := Hold.mk (Boxed.refl w (.cells #[.int .i64 q, .int .i64 m, .string u, .slice ma nu.length mcap, .slice ja ju.length jcap] 25))
  have HX := Hold.mk (H f doc _ _ _ hf hg (hx.mono (cle_below HB.out.below)) (hd.mono (cle_below HB.out.below)) (hT.below HB.out.below))
  generalize holdsF passP sameB d f doc = r at HX ⊢
  clear hx hbe hc hd hf hg hT H
  go_enter Tryd.func111, Tryd.ntmps111
  go_wp2_with fail
  refine HX.out.mono ?_
  rintro e w1 ⟨rfl, hb1⟩
  replace HB := Hold.mk (HB.out.next hb1)
  clear hb1 HX
  go_wp2_with fail
  go_ret
  exact ⟨rfl, HB.out.below⟩

set_option maxHeartbeats 4000000 in
theorem one2_any (d : Nat) (H : HoldsAt d) (f doc : JV) (db : Nat) (c0 c1 c2 c3 c4 : Value) (fv : Value) (w : World) (hc : w.heap[db]? = some (.cells #[c0, c1, c2, c3, c4] 25 (0, 0))) (hd : JAt (cf w) doc (.agg #[c0, c1, c2, c3, c4])) (hx : JAt (cf w) f fv) (hf : formedF d f = true) (hg : formedF 6 doc = true) (hT : Tabs w) :
    Calls Tryd.prog 112 #[fv, .pointer (some ⟨db, 0, none⟩)] w fun e w' => e = .returned (.bool (holdsF passP sameB d f doc)) ∧ Below w.heap.size w w' := by
  obtain ⟨q, m, u, nu, ju, ma, mcap, ja, jcap, hbe, rfl, _⟩ := hx.open
  have hlt := heap_lt hc
  obtain ⟨y0, y1, y2, y3, y4⟩ := cells_five hc
  have HB := Hold.mk (Boxed.refl w (.cells #[.int .i64 q, .int .i64 m, .string u, .slice ma nu.length mcap, .slice ja ju.length jcap] 25))
  have HX := Hold.mk (H f doc _ _ _ hf hg (hx.mono (cle_below HB.out.below)) (hd.mono (cle_below HB.out.below)) (hT.below HB.out.below))
  generalize holdsF passP sameB d f doc = r at HX ⊢
  clear hx hbe hc hd hf hg hT H
  go_enter Tryd.func112, Tryd.ntmps112
  go_wp2_with fail
  refine HX.out.mono ?_
  rintro e w1 ⟨rfl, hb1⟩
  replace HB := Hold.mk (HB.out.next hb1)
  clear hb1 HX
  go_wp2_with fail
  go_ret
  exact ⟨rfl, HB.out.below⟩

end Go.Proofs.YtfllnlmanopfaaaDoor
