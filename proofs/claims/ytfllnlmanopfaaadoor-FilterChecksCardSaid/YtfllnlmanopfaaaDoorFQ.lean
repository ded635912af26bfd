/- Filters: one and Holds of the program. -/
import Derived.Test.YtfllnlmanopfaaaDoorFN
namespace Go.Proofs.YtfllnlmanopfaaaDoor
open Go.RowKit

section
variable {pass : ByteArray → JV → Option JV → Bool} {eq : JV → JV → Bool} {h : JV → Bool} {s : ByteArray} {v doc : JV}
theorem on_and (h1 : s.toList = sAnd) : oneF pass eq h s v doc = v.items.all h := by unfold oneF; rw [if_pos (isN_yes h1)]
theorem on_or (h1 : s.toList = sOr) : oneF pass eq h s v doc = v.items.any h := by unfold oneF; rw [if_neg (by rw [isN_ne h1 (by decide)]; simp), if_pos (isN_yes h1)]
theorem on_not (h1 : s.toList = sNot) : oneF pass eq h s v doc = !h v := by unfold oneF; rw [if_neg (by rw [isN_ne h1 (by decide)]; simp), if_neg (by rw [isN_ne h1 (by decide)]; simp), if_pos (isN_yes h1)]
theorem on_tests (h1 : ¬ s.toList = sAnd) (h2 : ¬ s.toList = sOr) (h3 : ¬ s.toList = sNot) (ht : testsF v = true) : oneF pass eq h s v doc = (v.names.zip v.items).all fun p => pass p.1 p.2 (getF doc s) := by
  unfold oneF; rw [if_neg (by rw [isN_no h1]; simp), if_neg (by rw [isN_no h2]; simp), if_neg (by rw [isN_no h3]; simp), if_pos ht]
theorem on_some (h1 : ¬ s.toList = sAnd) (h2 : ¬ s.toList = sOr) (h3 : ¬ s.toList = sNot) (ht : testsF v = false) {u : JV} (hu : getF doc s = some u) : oneF pass eq h s v doc = eq u v := by
  unfold oneF; rw [if_neg (by rw [isN_no h1]; simp), if_neg (by rw [isN_no h2]; simp), if_neg (by rw [isN_no h3]; simp), if_neg (by rw [ht]; simp), hu]
theorem on_none (h1 : ¬ s.toList = sAnd) (h2 : ¬ s.toList = sOr) (h3 : ¬ s.toList = sNot) (ht : testsF v = false) (hu : getF doc s = none) : oneF pass eq h s v doc = false := by
  unfold oneF; rw [if_neg (by rw [isN_no h1]; simp), if_neg (by rw [isN_no h2]; simp), if_neg (by rw [isN_no h3]; simp), if_neg (by rw [ht]; simp), hu]
end
theorem all_not_any {α : Type} (l : List α) (p : α → Bool) : (!(l.any fun x => !p x)) = l.all p := by
  induction l with
  | nil => rfl
  | cons x l ih => rw [List.any_cons, List.all_cons, ← ih]; simp

set_option maxRecDepth 100000 in
set_option maxHeartbeats 8000000 in
theorem one_logic (d : Nat) (H : HoldsAt d) (s : ByteArray) (hs : s.toList = sAnd ∨ s.toList = sOr ∨ s.toList = sNot) (v doc : JV) (x y : Value) (w : World) (hf : formedF d v = true) (hg : formedF 6 doc = true) (hx : JAt (cf w) v x) (hy : JAt (cf w) doc y) (hT : Tabs w) :
    Calls Tryd.prog 75 #[.string s, x, y] w fun e w' => e = .returned (.bool (oneF passP sameB (fun g => holdsF passP sameB d g doc) s v doc)) ∧ Below w.heap.size w w' := by
  have HFK : Hold (∀ z ∈ v.items, formedF d z = true) := ⟨fun z hz => by
    cases d with
    | zero => simp [formedF] at hf
    | succ d => exact formed_mono d z (formed_kids hf hz)⟩
  obtain ⟨k, n, t, nm, it, na, ncap, ia, icap, hve, rfl, _, _, _, _, hit⟩ := hx.open
  obtain ⟨q, m, t2, nu, ju, ma, mcap, ja, jcap, hde, rfl, _⟩ := hy.open
  have H2 := Hold.mk (Two.refl w #[.int .i64 k, .int .i64 n, .string t, .slice na nm.length ncap, .slice ia it.length icap] #[.int .i64 q, .int .i64 m, .string t2, .slice ma nu.length mcap, .slice ja ju.length jcap])
  have HIE : Hold (v.items = it) := ⟨by rw [hve]; rfl⟩
  have HIT := Hold.mk hit
  have HJ := Hold.mk hx
  have HK := Hold.mk hy
  have HF := Hold.mk hf
  have HG := Hold.mk hg
  have HT := Hold.mk hT
  have HH := Hold.mk H
  clear hx hy hf hg hT H hve hde hit
  rcases hs with h1 | h1 | h1
  · have HR : Hold (oneF passP sameB (fun g => holdsF passP sameB d g doc) s v doc = !(it.any fun g => !holdsF passP sameB d g doc)) := ⟨by rw [on_and h1, HIE.out]; exact (all_not_any it (fun g => holdsF passP sameB d g doc)).symm⟩
    have HX := Hold.mk (itemsAny_any 111 enters_one1 ⟨w.heap.size + 1, 0, none⟩ (fun g => !holdsF passP sameB d g doc) _ it _ (HIT.out.mono (cle_below H2.out.bel)) (fun z hz zv wr hb hzv =>
      one1_any d HH.out z doc (w.heap.size + 1) _ _ _ _ _ zv wr (kept H2.out.two hb) (HK.out.mono ((cle_below H2.out.bel).trans (cle_below hb))) hzv (HFK.out z (by rw [HIE.out]; exact hz)) HG.out ((HT.out.below H2.out.bel).below hb)))
    generalize (it.any fun g => !holdsF passP sameB d g doc) = r at HX HR
    have b1 : s.toList = [36, 97, 110, 100] := h1
    clear h1
    go_enter Tryd.func75, Tryd.ntmps75
    go_wp2_with fail
    refine HX.out.mono ?_
    rintro e w1 ⟨rfl, hb1⟩
    replace H2 := Hold.mk (H2.out.next hb1)
    clear hb1 HX
    go_wp2_with fail
    go_ret
    exact ⟨by rw [HR.out]; rfl, H2.out.bel⟩
  · have HR : Hold (oneF passP sameB (fun g => holdsF passP sameB d g doc) s v doc = it.any fun g => holdsF passP sameB d g doc) := ⟨by rw [on_or h1, HIE.out]⟩
    have HX := Hold.mk (itemsAny_any 112 enters_one2 ⟨w.heap.size + 1, 0, none⟩ (fun g => holdsF passP sameB d g doc) _ it _ (HIT.out.mono (cle_below H2.out.bel)) (fun z hz zv wr hb hzv =>
      one2_any d HH.out z doc (w.heap.size + 1) _ _ _ _ _ zv wr (kept H2.out.two hb) (HK.out.mono ((cle_below H2.out.bel).trans (cle_below hb))) hzv (HFK.out z (by rw [HIE.out]; exact hz)) HG.out ((HT.out.below H2.out.bel).below hb)))
    generalize (it.any fun g => holdsF passP sameB d g doc) = r at HX HR
    have b1 : s.toList = [36, 111, 114] := h1
    clear h1
    go_enter Tryd.func75, Tryd.ntmps75
    go_wp2_with fail
    refine HX.out.mono ?_
    rintro e w1 ⟨rfl, hb1⟩
    replace H2 := Hold.mk (H2.out.next hb1)
    clear hb1 HX
    go_wp2_with fail
    go_ret
    exact ⟨by rw [HR.out]; rfl, H2.out.bel⟩
  · have HR : Hold (oneF passP sameB (fun g => holdsF passP sameB d g doc) s v doc = !holdsF passP sameB d v doc) := ⟨on_not h1⟩
    have HX := Hold.mk (HH.out v doc _ _ _ HF.out HG.out (HJ.out.mono (cle_below H2.out.bel)) (HK.out.mono (cle_below H2.out.bel)) (HT.out.below H2.out.bel))
    generalize holdsF passP sameB d v doc = r at HX HR
    have b1 : s.toList = [36, 110, 111, 116] := h1
    clear h1
    go_enter Tryd.func75, Tryd.ntmps75
    go_wp2_with fail
    refine HX.out.mono ?_
    rintro e w1 ⟨rfl, hb1⟩
    replace H2 := Hold.mk (H2.out.next hb1)
    clear hb1 HX
    go_wp2_with fail
    go_ret
    exact ⟨by rw [HR.out]; rfl, H2.out.bel⟩

set_option maxRecDepth 100000 in
set_option maxHeartbeats 8000000 in
theorem one_none (d : Nat) (hd6 : d ≤ 6) (s : ByteArray) (hsz : s.size ≤ 1000000) (h1 : ¬ s.toList = sAnd) (h2 : ¬ s.toList = sOr) (h3 : ¬ s.toList = sNot) (v doc : JV) (hu : getF doc s = none) (x y : Value) (w : World) (hf : formedF d v = true) (hx : JAt (cf w) v x) (hy : JAt (cf w) doc y) (hT : Tabs w) :
    Calls Tryd.prog 75 #[.string s, x, y] w fun e w' => e = .returned (.bool (oneF passP sameB (fun g => holdsF passP sameB d g doc) s v doc)) ∧ Below w.heap.size w w' := by
  have HI1 := Hold.mk h1
  have HI2 := Hold.mk h2
  have HI3 := Hold.mk h3
  have b1 : (s.toList == [36, 97, 110, 100]) = false := isN_no h1
  have b2 : (s.toList == [36, 111, 114]) = false := isN_no h2
  have b3 : (s.toList == [36, 110, 111, 116]) = false := isN_no h3
  have HF := Hold.mk hf
  have HF6 := Hold.mk (formed_up hf hd6)
  have HFK : Hold (∀ z ∈ v.items, formedF 6 z = true) := ⟨fun z hz => by
    cases d with
    | zero => simp [formedF] at hf
    | succ d => exact formed_up (formed_kids hf hz) (by omega)⟩
  have HLEN := Hold.mk (formed_lens hf).2
  obtain ⟨k, n, t, nm, it, na, ncap, ia, icap, rfl, rfl, _, _, _, hst, hit⟩ := hx.open
  obtain ⟨q, m, t2, nu, ju, ma, mcap, ja, jcap, hde, rfl, _⟩ := hy.open
  have H2 := Hold.mk (Two.refl w #[.int .i64 k, .int .i64 n, .string t, .slice na nm.length ncap, .slice ia it.length icap] #[.int .i64 q, .int .i64 m, .string t2, .slice ma nu.length mcap, .slice ja ju.length jcap])
  have HST := Hold.mk hst
  have HIT := Hold.mk hit
  have HJ := Hold.mk hx
  have HT := Hold.mk hT
  have HU := Hold.mk hu
  have HGET := Hold.mk (Get_any doc _ s _ (hy.mono (cle_below H2.out.bel)) hsz (hT.below H2.out.bel))
  clear hx hy hf hT hde hst hit hu h1 h2 h3
  go_enter Tryd.func75, Tryd.ntmps75
  go_wp2_with fail
  refine HGET.out.mono ?_
  rintro e w2 ⟨hget, hb2⟩
  have hble := H2.out.bel.size
  replace H2 := Hold.mk (H2.out.next hb2)
  rw [HU.out] at hget
  simp only at hget
  subst hget
  clear hb2 HGET hble
  obtain ⟨y0, y1, y2, y3, y4⟩ := cells_five H2.out.one
  have hl2 := heap_lt H2.out.one
  have HB3 := Hold.mk ((Below.refl _ w2).alloc (Nat.le_refl _) (.cells #[.int .i64 0, .int .i64 0, .string ⟨#[]⟩, .slice none 0 0, .slice none 0 0] 25))
  have HXB : Hold ((w2.alloc (.cells #[.int .i64 0, .int .i64 0, .string ⟨#[]⟩, .slice none 0 0, .slice none 0 0] 25)).heap[w2.heap.size]? = some (.cells #[.int .i64 0, .int .i64 0, .string ⟨#[]⟩, .slice none 0 0, .slice none 0 0] 25 (0, 0))) := ⟨heap_alloc_new w2 _⟩
  have HX := Hold.mk (tests_any (.mk k n t nm it) _ (w2.alloc (.cells #[.int .i64 0, .int .i64 0, .string ⟨#[]⟩, .slice none 0 0, .slice none 0 0] 25)) (HJ.out.mono ((cle_below H2.out.bel).trans (cle_below HB3.out))) ⟨d, HF.out⟩)
  replace H2 := Hold.mk (H2.out.next HB3.out)
  clear HB3
  cases htt : testsF (.mk k n t nm it) with
  | false =>
    rw [htt] at HX
    have HR := Hold.mk (on_none (pass := passP) (eq := sameB) (h := fun g => holdsF passP sameB d g doc) HI1.out HI2.out HI3.out htt HU.out)
    clear htt
    go_wp2_with fail
    refine HX.out.mono ?_
    rintro e w4 ⟨rfl, hb4⟩
    replace H2 := Hold.mk (H2.out.next hb4)
    replace HXB := Hold.mk (kept HXB.out hb4)
    clear hb4 HX y0 y1 y2 y3 y4
    go_wp2_with fail
    go_ret
    exact ⟨by rw [HR.out]; rfl, H2.out.bel⟩
  | true =>
    rw [htt] at HX
    have HC0 := Hold.mk (on_tests (pass := passP) (eq := sameB) (h := fun g => holdsF passP sameB d g doc) (doc := doc) HI1.out HI2.out HI3.out htt)
    rw [HU.out] at HC0
    clear htt
    obtain ⟨na', ncap', e, hnlen, hns⟩ := HST.out
    cases e
    obtain ⟨ia', icap', e, hilen, his⟩ := HIT.out
    cases e
    have HN := Hold.mk hns
    have HI := Hold.mk his
    clear hns his HST HIT
    go_wp2_with fail
    refine HX.out.mono ?_
    rintro e w4 ⟨rfl, hb4⟩
    replace H2 := Hold.mk (H2.out.next hb4)
    replace HXB := Hold.mk (kept HXB.out hb4)
    clear hb4 HX y0 y1 y2 y3 y4
    obtain ⟨y0, y1, y2, y3, y4⟩ := cells_five H2.out.one
    go_wp2_with fail
    clear y0 y1 y2 y3 y4
    go_loopw [49] (fun i wr => ∃ j : Nat, i = .int .i64 j ∧ j ≤ nm.length ∧ AllTo (nm.zip it) (fun p => passP p.1 p.2 (none)) j ∧ Two w wr #[.int .i64 k, .int .i64 n, .string t, .slice na nm.length ncap, .slice ia it.length icap] #[.int .i64 q, .int .i64 m, .string t2, .slice ma nu.length mcap, .slice ja ju.length jcap] ∧ wr.heap[w2.heap.size]? = some (.cells #[.int .i64 0, .int .i64 0, .string ⟨#[]⟩, .slice none 0 0, .slice none 0 0] 25 (0, 0))) (fun i _ => nm.length - (intOf i).toNat)
    case atStart => exact ⟨0, rfl, Nat.zero_le _, fun q x h => by omega, H2.out, HXB.out⟩
    case round =>
      obtain ⟨j, rfl, hj, hall, h2, hxb⟩ := hrel
      clear H2 HXB
      have HA := Hold.mk hall
      have H2 := Hold.mk h2
      have HXB := Hold.mk hxb
      clear hall h2 hxb
      by_cases hlt : j < nm.length
      · have hlt2 : j < it.length := by have h2 : nm.length ≤ it.length := HLEN.out; omega
        obtain ⟨s2, hs2⟩ : ∃ s, nm[j]? = some s := ⟨nm[j], List.getElem?_eq_getElem hlt⟩
        obtain ⟨x2, hx2⟩ : ∃ x, it[j]? = some x := ⟨it[j], List.getElem?_eq_getElem hlt2⟩
        obtain ⟨_, sb, so, rfl, hsc⟩ := HN.out j s2 hs2
        obtain ⟨b, off, k3, n3, t3, nm3, it3, na3, ncap3, ia3, icap3, rfl, hxe, x0, x1, x2c, x3, x4, hxj⟩ := HI.out j x2 hx2
        have hcl := cle_below H2.out.bel
        have z5 := hcl _ _ _ hsc
        unfold cf at z5
        have g0 := Grow.cell (hcl _ _ _ x0)
        have g1 := Grow.cell (hcl _ _ _ x1)
        have g2 := Grow.cell (hcl _ _ _ x2c)
        have g3 := Grow.cell (hcl _ _ _ x3)
        have g4 := Grow.cell (hcl _ _ _ x4)
        obtain ⟨y0, y1, y2, y3, y4⟩ := cells_five H2.out.one
        obtain ⟨v0, v1, v2, v3, v4⟩ := cells_five HXB.out
        have g5 := Grow.cell y4
        have u0 := Grow.cell v0
        have u1 := Grow.cell v1
        have u2 := Grow.cell v2
        have u3 := Grow.cell v3
        have u4 := Grow.cell v4
        have HC := Hold.mk (Calls.grow (fun e : Grow wr => passes_none s2 x2 _ (.int .i64 0) (.int .i64 0) (.string ⟨#[]⟩) (.slice none 0 0) (.slice none 0 0) e.val ((hxj.mono hcl).mono (cle_below e.property))))
        have HZ := Hold.mk (zip_at hs2 hx2)
        clear x0 x1 x2c x3 x4 hcl hx2 hxe hxj hsc hs2 y0 y1 y2 y3 y4 v0 v1 v2 v3 v4
        cases hr : passP s2 x2 (none) with
        | false =>
          rw [hr] at HC
          have HR : Hold (oneF passP sameB (fun g => holdsF passP sameB d g doc) s (.mk k n t nm it) doc = false) := ⟨by rw [HC0.out]; exact all_false (l := nm.zip it) HZ.out hr⟩
          clear hr
          go_wp2_with fail
          refine wp_region_grow (by kernel_rfl) (by kernel_rfl) ?_
          repeat (go_big_quiet_step (exact HC.out _))
          refine wpQuiet_nil ?_
          rintro ⟨w5, hb5⟩
          replace H2 := Hold.mk (H2.out.next hb5)
          simp only
          clear hb5 g0 g1 g2 g3 g4 g5 u0 u1 u2 u3 u4 HC z5
          go_wp2_with fail
          go_ret
          exact ⟨by rw [HR.out]; rfl, H2.out.bel⟩
        | true =>
          rw [hr] at HC
          have HNX := Hold.mk (HA.out.next HZ.out hr)
          clear hr
          go_wp2_with fail
          refine wp_region_grow (by kernel_rfl) (by kernel_rfl) ?_
          repeat (go_big_quiet_step (exact HC.out _))
          refine wpQuiet_nil ?_
          rintro ⟨w5, hb5⟩
          replace H2 := Hold.mk (H2.out.next hb5)
          replace HXB := Hold.mk (kept HXB.out hb5)
          simp only
          clear hb5 g0 g1 g2 g3 g4 g5 u0 u1 u2 u3 u4 HC z5
          go_wp2_with fail
          exact ⟨⟨j + 1, by go_num, hlt, HNX.out, H2.out, HXB.out⟩, by simp [intOf]; omega⟩
      · have HR : Hold (oneF passP sameB (fun g => holdsF passP sameB d g doc) s (.mk k n t nm it) doc = true) := ⟨by rw [HC0.out]; exact HA.out.all (l := nm.zip it) (by rw [List.length_zip]; omega)⟩
        go_wp2_with fail
        go_ret
        exact ⟨by rw [HR.out]; rfl, H2.out.bel⟩

set_option maxRecDepth 100000 in
set_option maxHeartbeats 8000000 in
theorem one_some (d : Nat) (hd6 : d ≤ 6) (s : ByteArray) (hsz : s.size ≤ 1000000) (h1 : ¬ s.toList = sAnd) (h2 : ¬ s.toList = sOr) (h3 : ¬ s.toList = sNot) (v doc : JV) (u : JV) (hu : getF doc s = some u) (x y : Value) (w : World) (hf : formedF d v = true) (hx : JAt (cf w) v x) (hy : JAt (cf w) doc y) (hT : Tabs w) :
    Calls Tryd.prog 75 #[.string s, x, y] w fun e w' => e = .returned (.bool (oneF passP sameB (fun g => holdsF passP sameB d g doc) s v doc)) ∧ Below w.heap.size w w' := by
  have HI1 := Hold.mk h1
  have HI2 := Hold.mk h2
  have HI3 := Hold.mk h3
  have b1 : (s.toList == [36, 97, 110, 100]) = false := isN_no h1
  have b2 : (s.toList == [36, 111, 114]) = false := isN_no h2
  have b3 : (s.toList == [36, 110, 111, 116]) = false := isN_no h3
  have HF := Hold.mk hf
  have HF6 := Hold.mk (formed_up hf hd6)
  have HFK : Hold (∀ z ∈ v.items, formedF 6 z = true) := ⟨fun z hz => by
    cases d with
    | zero => simp [formedF] at hf
    | succ d => exact formed_up (formed_kids hf hz) (by omega)⟩
  have HLEN := Hold.mk (formed_lens hf).2
  obtain ⟨k, n, t, nm, it, na, ncap, ia, icap, rfl, rfl, _, _, _, hst, hit⟩ := hx.open
  obtain ⟨q, m, t2, nu, ju, ma, mcap, ja, jcap, hde, rfl, _⟩ := hy.open
  have H2 := Hold.mk (Two.refl w #[.int .i64 k, .int .i64 n, .string t, .slice na nm.length ncap, .slice ia it.length icap] #[.int .i64 q, .int .i64 m, .string t2, .slice ma nu.length mcap, .slice ja ju.length jcap])
  have HST := Hold.mk hst
  have HIT := Hold.mk hit
  have HJ := Hold.mk hx
  have HT := Hold.mk hT
  have HU := Hold.mk hu
  have HGET := Hold.mk (Get_any doc _ s _ (hy.mono (cle_below H2.out.bel)) hsz (hT.below H2.out.bel))
  clear hx hy hf hT hde hst hit hu h1 h2 h3
  go_enter Tryd.func75, Tryd.ntmps75
  go_wp2_with fail
  refine HGET.out.mono ?_
  rintro e w2 ⟨hget, hb2⟩
  have hble := H2.out.bel.size
  replace H2 := Hold.mk (H2.out.next hb2)
  rw [HU.out] at hget
  simp only at hget
  obtain ⟨xv, rfl, hxv⟩ := hget
  have hxv2 := hxv.mono (cfU_keep hb2)
  obtain ⟨k9, n9, t9, nm9, it9, na9, ncap9, ia9, icap9, hue, rfl, _⟩ := hxv2.open
  have HXV := Hold.mk hxv2
  have HFU := Hold.mk (get_formed HU.out)
  clear hxv hxv2 hue
  clear hb2 HGET hble
  obtain ⟨y0, y1, y2, y3, y4⟩ := cells_five H2.out.one
  have hl2 := heap_lt H2.out.one
  have HB3 := Hold.mk ((Below.refl _ w2).alloc (Nat.le_refl _) (.cells #[.int .i64 k9, .int .i64 n9, .string t9, .slice na9 nm9.length ncap9, .slice ia9 it9.length icap9] 25))
  have HXB : Hold ((w2.alloc (.cells #[.int .i64 k9, .int .i64 n9, .string t9, .slice na9 nm9.length ncap9, .slice ia9 it9.length icap9] 25)).heap[w2.heap.size]? = some (.cells #[.int .i64 k9, .int .i64 n9, .string t9, .slice na9 nm9.length ncap9, .slice ia9 it9.length icap9] 25 (0, 0))) := ⟨heap_alloc_new w2 _⟩
  have HX := Hold.mk (tests_any (.mk k n t nm it) _ (w2.alloc (.cells #[.int .i64 k9, .int .i64 n9, .string t9, .slice na9 nm9.length ncap9, .slice ia9 it9.length icap9] 25)) (HJ.out.mono ((cle_below H2.out.bel).trans (cle_below HB3.out))) ⟨d, HF.out⟩)
  replace H2 := Hold.mk (H2.out.next HB3.out)
  replace HXV := Hold.mk (HXV.out.mono (cle_below HB3.out))
  clear HB3
  cases htt : testsF (.mk k n t nm it) with
  | false =>
    rw [htt] at HX
    have HR := Hold.mk (on_some (pass := passP) (eq := sameB) (h := fun g => holdsF passP sameB d g doc) HI1.out HI2.out HI3.out htt HU.out)
    clear htt
    go_wp2_with fail
    refine HX.out.mono ?_
    rintro e w4 ⟨rfl, hb4⟩
    replace H2 := Hold.mk (H2.out.next hb4)
    replace HXB := Hold.mk (kept HXB.out hb4)
    replace HXV := Hold.mk (HXV.out.mono (cle_below hb4))
    clear hb4 HX y0 y1 y2 y3 y4
    obtain ⟨y0, y1, y2, y3, y4⟩ := cells_five H2.out.one
    obtain ⟨z0, z1, z2, z3, z4⟩ := cells_five HXB.out
    go_wp2_with fail
    refine (Same_any u (.mk k n t nm it) _ _ _ HXV.out (HJ.out.mono (cle_below H2.out.bel))).mono ?_
    rintro e w5 ⟨rfl, hb5⟩
    replace H2 := Hold.mk (H2.out.next hb5)
    clear hb5 y0 y1 y2 y3 y4 z0 z1 z2 z3 z4
    go_wp2_with fail
    go_ret
    exact ⟨by rw [HR.out]; rfl, H2.out.bel⟩
  | true =>
    rw [htt] at HX
    have HC0 := Hold.mk (on_tests (pass := passP) (eq := sameB) (h := fun g => holdsF passP sameB d g doc) (doc := doc) HI1.out HI2.out HI3.out htt)
    rw [HU.out] at HC0
    clear htt
    obtain ⟨na', ncap', e, hnlen, hns⟩ := HST.out
    cases e
    obtain ⟨ia', icap', e, hilen, his⟩ := HIT.out
    cases e
    have HN := Hold.mk hns
    have HI := Hold.mk his
    clear hns his HST HIT
    go_wp2_with fail
    refine HX.out.mono ?_
    rintro e w4 ⟨rfl, hb4⟩
    replace H2 := Hold.mk (H2.out.next hb4)
    replace HXB := Hold.mk (kept HXB.out hb4)
    replace HXV := Hold.mk (HXV.out.mono (cle_below hb4))
    clear hb4 HX y0 y1 y2 y3 y4
    obtain ⟨y0, y1, y2, y3, y4⟩ := cells_five H2.out.one
    go_wp2_with fail
    clear y0 y1 y2 y3 y4
    go_loopw [49] (fun i wr => ∃ j : Nat, i = .int .i64 j ∧ j ≤ nm.length ∧ AllTo (nm.zip it) (fun p => passP p.1 p.2 (some u)) j ∧ Two w wr #[.int .i64 k, .int .i64 n, .string t, .slice na nm.length ncap, .slice ia it.length icap] #[.int .i64 q, .int .i64 m, .string t2, .slice ma nu.length mcap, .slice ja ju.length jcap] ∧ wr.heap[w2.heap.size]? = some (.cells #[.int .i64 k9, .int .i64 n9, .string t9, .slice na9 nm9.length ncap9, .slice ia9 it9.length icap9] 25 (0, 0)) ∧ JAt (cf wr) u (.agg #[.int .i64 k9, .int .i64 n9, .string t9, .slice na9 nm9.length ncap9, .slice ia9 it9.length icap9])) (fun i _ => nm.length - (intOf i).toNat)
    case atStart => exact ⟨0, rfl, Nat.zero_le _, fun q x h => by omega, H2.out, HXB.out, HXV.out⟩
    case round =>
      obtain ⟨j, rfl, hj, hall, h2, hxb, hxv⟩ := hrel
      clear H2 HXB HXV
      have HA := Hold.mk hall
      have H2 := Hold.mk h2
      have HXB := Hold.mk hxb
      have HXV := Hold.mk hxv
      clear hxv
      clear hall h2 hxb
      by_cases hlt : j < nm.length
      · have hlt2 : j < it.length := by have h2 : nm.length ≤ it.length := HLEN.out; omega
        obtain ⟨s2, hs2⟩ : ∃ s, nm[j]? = some s := ⟨nm[j], List.getElem?_eq_getElem hlt⟩
        obtain ⟨x2, hx2⟩ : ∃ x, it[j]? = some x := ⟨it[j], List.getElem?_eq_getElem hlt2⟩
        obtain ⟨_, sb, so, rfl, hsc⟩ := HN.out j s2 hs2
        obtain ⟨b, off, k3, n3, t3, nm3, it3, na3, ncap3, ia3, icap3, rfl, hxe, x0, x1, x2c, x3, x4, hxj⟩ := HI.out j x2 hx2
        have hcl := cle_below H2.out.bel
        have z5 := hcl _ _ _ hsc
        unfold cf at z5
        have g0 := Grow.cell (hcl _ _ _ x0)
        have g1 := Grow.cell (hcl _ _ _ x1)
        have g2 := Grow.cell (hcl _ _ _ x2c)
        have g3 := Grow.cell (hcl _ _ _ x3)
        have g4 := Grow.cell (hcl _ _ _ x4)
        obtain ⟨y0, y1, y2, y3, y4⟩ := cells_five H2.out.one
        obtain ⟨v0, v1, v2, v3, v4⟩ := cells_five HXB.out
        have g5 := Grow.cell y4
        have u0 := Grow.cell v0
        have u1 := Grow.cell v1
        have u2 := Grow.cell v2
        have u3 := Grow.cell v3
        have u4 := Grow.cell v4
        have HC := Hold.mk (Calls.grow (fun e : Grow wr => passes_some s2 x2 u _ _ e.val ((hxj.mono hcl).mono (cle_below e.property)) (HXV.out.mono (cle_below e.property)) (HFK.out x2 (List.mem_of_getElem? hx2)) HFU.out ((HT.out.below H2.out.bel).below e.property)))
        have HZ := Hold.mk (zip_at hs2 hx2)
        clear x0 x1 x2c x3 x4 hcl hx2 hxe hxj hsc hs2 y0 y1 y2 y3 y4 v0 v1 v2 v3 v4
        cases hr : passP s2 x2 (some u) with
        | false =>
          rw [hr] at HC
          have HR : Hold (oneF passP sameB (fun g => holdsF passP sameB d g doc) s (.mk k n t nm it) doc = false) := ⟨by rw [HC0.out]; exact all_false (l := nm.zip it) HZ.out hr⟩
          clear hr
          go_wp2_with fail
          refine wp_region_grow (by kernel_rfl) (by kernel_rfl) ?_
          repeat (go_big_quiet_step (exact HC.out _))
          refine wpQuiet_nil ?_
          rintro ⟨w5, hb5⟩
          replace H2 := Hold.mk (H2.out.next hb5)
          simp only
          clear hb5 g0 g1 g2 g3 g4 g5 u0 u1 u2 u3 u4 HC z5
          go_wp2_with fail
          go_ret
          exact ⟨by rw [HR.out]; rfl, H2.out.bel⟩
        | true =>
          rw [hr] at HC
          have HNX := Hold.mk (HA.out.next HZ.out hr)
          clear hr
          go_wp2_with fail
          refine wp_region_grow (by kernel_rfl) (by kernel_rfl) ?_
          repeat (go_big_quiet_step (exact HC.out _))
          refine wpQuiet_nil ?_
          rintro ⟨w5, hb5⟩
          replace H2 := Hold.mk (H2.out.next hb5)
          replace HXB := Hold.mk (kept HXB.out hb5)
          replace HXV := Hold.mk (HXV.out.mono (cle_below hb5))
          simp only
          clear hb5 g0 g1 g2 g3 g4 g5 u0 u1 u2 u3 u4 HC z5
          go_wp2_with fail
          exact ⟨⟨j + 1, by go_num, hlt, HNX.out, H2.out, HXB.out, HXV.out⟩, by simp [intOf]; omega⟩
      · have HR : Hold (oneF passP sameB (fun g => holdsF passP sameB d g doc) s (.mk k n t nm it) doc = true) := ⟨by rw [HC0.out]; exact HA.out.all (l := nm.zip it) (by rw [List.length_zip]; omega)⟩
        go_wp2_with fail
        go_ret
        exact ⟨by rw [HR.out]; rfl, H2.out.bel⟩

end Go.Proofs.YtfllnlmanopfaaaDoor
