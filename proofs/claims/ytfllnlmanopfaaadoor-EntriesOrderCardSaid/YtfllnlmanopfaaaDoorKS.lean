/- EntriesOrder, walked. -/
import Derived.Test.YtfllnlmanopfaaaDoorKK
import Derived.Test.YtfllnlmanopfaaaDoorKR
import Derived.Test.YtfllnlmanopfaaaDoorFE
import Derived.Test.YtfllnlmanopfaaaDoorEF
import Derived.Test.YtfllnlmanopfaaaDoorJC
import Derived.Deep.DeepCutAuto
import Derived.Deep.LoopGhost
namespace Go.Proofs.YtfllnlmanopfaaaDoor
open Go.RowKit

set_option maxHeartbeats 4000000 in
theorem CompareK_any (a b : JV) (x y : Value) (w : World) (ha : formedF 6 a = true) (hb : formedF 6 b = true) (hx : JAt (cf w) a x) (hy : JAt (cf w) b y) (hT : Tabs w) :
    Calls Tryd.prog 44 #[x, y] w fun e w' => e = .returned (.int .i64 (cmpF 6 a b)) ∧ Below w.heap.size w w' := by
  obtain ⟨k, n, t, nm, it, na, ncap, ia, icap, hae, rfl, _⟩ := hx.open
  obtain ⟨q, m, u, nu, ju, ma, mcap, ja, jcap, hbe, rfl, _⟩ := hy.open
  have HJ := Hold.mk hx
  have HK := Hold.mk hy
  have HT := Hold.mk hT
  have HA := Hold.mk ha
  have HB := Hold.mk hb
  have H2 := Hold.mk (Two.refl w #[.int .i64 k, .int .i64 n, .string t, .slice na nm.length ncap, .slice ia it.length icap] #[.int .i64 q, .int .i64 m, .string u, .slice ma nu.length mcap, .slice ja ju.length jcap])
  have HX := Hold.mk (Formed_any a _ _ (hx.mono (cle_below H2.out.bel)) (hT.below H2.out.bel))
  rw [ha] at HX
  clear hx hy hT ha hb hae hbe
  go_enter Tryd.func44, Tryd.ntmps44
  go_wp2_with fail
  refine HX.out.mono ?_
  rintro e w1 ⟨rfl, hb1⟩
  replace H2 := Hold.mk (H2.out.next hb1)
  clear hb1 HX
  obtain ⟨y0, y1, y2, y3, y4⟩ := cells_five H2.out.one
  obtain ⟨z0, z1, z2, z3, z4⟩ := cells_five H2.out.two
  have HX := Hold.mk (Formed_any b _ w1 (HK.out.mono (cle_below H2.out.bel)) (HT.out.below H2.out.bel))
  rw [HB.out] at HX
  go_wp2_with fail
  refine HX.out.mono ?_
  rintro e w2 ⟨rfl, hb2⟩
  replace H2 := Hold.mk (H2.out.next hb2)
  clear hb2 HX y0 y1 y2 y3 y4 z0 z1 z2 z3 z4
  obtain ⟨y0, y1, y2, y3, y4⟩ := cells_five H2.out.one
  obtain ⟨z0, z1, z2, z3, z4⟩ := cells_five H2.out.two
  go_wp2_with fail
  refine (compare_any 6 a b _ _ _ HA.out HB.out (HJ.out.mono (cle_below H2.out.bel)) (HK.out.mono (cle_below H2.out.bel))).mono ?_
  rintro e w3 ⟨rfl, hb3⟩
  replace H2 := Hold.mk (H2.out.next hb3)
  clear hb3 y0 y1 y2 y3 y4 z0 z1 z2 z3 z4
  go_wp2_with fail
  go_ret
  exact ⟨rfl, H2.out.bel⟩

theorem walk_at {c : CF} : ∀ (l : List ByteArray) (v u : JV) (x : Value), JAt c v x → walkF l v = some u → ∃ y, JAt c u y
  | [], v, u, x, hx, h => by rw [walkF] at h; cases h; exact ⟨x, hx⟩
  | s :: l, v, u, x, hx, h => by
    rw [walkF] at h
    split at h
    · cases h
    · obtain ⟨y, hy, hw⟩ := Option.bind_eq_some_iff.1 h
      obtain ⟨_, _, _, _, _, _, _, _, _, rfl, _, _, _, _, _, hit⟩ := hx.open
      obtain ⟨z, hz⟩ := JAt.item hit (List.mem_of_getElem? hy)
      exact walk_at l y u z hz hw
theorem valK_at {c : CF} {v : JV} {x : Value} (f : Fd) (h : JAt c v x) : ∃ c y, JAt c (valK v f) y := by
  unfold valK getF
  cases hs : stepsF f.1 with
  | none => exact ⟨c, _, JAt.shut (by kernel_rfl) (by kernel_rfl) (by decide) (⟨none, 0, rfl, by simp, fun i s h => by simp at h⟩ : StrsAt c (.slice none 0 0) []) (⟨none, 0, rfl, by simp, fun i s h => by simp at h⟩ : ItemsAt c (.slice none 0 0) [])⟩
  | some l =>
    simp only [Option.bind_some]
    split
    · cases hw : walkF l v with
      | none => exact ⟨c, _, JAt.shut (by kernel_rfl) (by kernel_rfl) (by decide) (⟨none, 0, rfl, by simp, fun i s h => by simp at h⟩ : StrsAt c (.slice none 0 0) []) (⟨none, 0, rfl, by simp, fun i s h => by simp at h⟩ : ItemsAt c (.slice none 0 0) [])⟩
      | some u => obtain ⟨y, hy⟩ := walk_at l v u x h hw; exact ⟨c, y, hy⟩
    · exact ⟨c, _, JAt.shut (by kernel_rfl) (by kernel_rfl) (by decide) (⟨none, 0, rfl, by simp, fun i s h => by simp at h⟩ : StrsAt c (.slice none 0 0) []) (⟨none, 0, rfl, by simp, fun i s h => by simp at h⟩ : ItemsAt c (.slice none 0 0) [])⟩

/-- the three boxes of what comes in -/
structure TB3 (w wr : World) (o0 o1 o2 : Obj) : Prop where
  bel : Below w.heap.size w wr
  one : wr.heap[w.heap.size]? = some o0
  two : wr.heap[w.heap.size + 1]? = some o1
  three : wr.heap[w.heap.size + 1 + 1]? = some o2
theorem TB3.next {w wr w2 : World} {o0 o1 o2 : Obj} (h : TB3 w wr o0 o1 o2) (hb : Below wr.heap.size wr w2) : TB3 w w2 o0 o1 o2 := ⟨h.bel.trans (hb.mono h.bel.size), kept h.one hb, kept h.two hb, kept h.three hb⟩
theorem threeE (w : World) (o0 o1 o2 : Obj) : ∃ W, W = (((w.alloc o0).alloc o1).alloc o2) ∧ TB3 w W o0 o1 o2 := by
  obtain ⟨W, hW, hB, e0, e1⟩ := twoE w o0 o1
  have hs : W.heap.size = w.heap.size + 1 + 1 := by rw [hW]; simp
  refine ⟨W.alloc o2, by rw [hW], hB.alloc hB.size o2, kept e0 ((Below.refl _ W).alloc (Nat.le_refl _) o2), kept e1 ((Below.refl _ W).alloc (Nat.le_refl _) o2), ?_⟩
  rw [← hs]; exact heap_alloc_new W o2
theorem key_ok {x : IX} {v : JV} (h1 : keyO x v = true) : keyB3 x v = entB x v ∧ x.fields.all (hasK v) = true := by
  unfold keyO at h1
  rw [Bool.and_eq_true, Bool.and_eq_true] at h1
  exact ⟨by unfold keyB3; rw [if_pos ⟨h1.1, h1.2.1, of_decide_eq_true h1.2.2⟩], h1.2.1⟩
theorem dirC_small {f : Fd} {c : Int} (h : -1 ≤ c ∧ c ≤ 1) : -1 ≤ dirC f c ∧ dirC f c ≤ 1 := by unfold dirC; split <;> omega

/-- a box that was laid in wr or behind it holds a value -/
def ValBox (c : CF) (u : JV) (wr : World) (p : Value) (wx : World) : Prop := ∃ (zb : Nat) (k n : Int) (t : ByteArray) (na : Option Addr) (nl ncap : Nat) (ia : Option Addr) (il icap : Nat), p = .pointer (some ⟨zb, 0, none⟩) ∧
  wx.heap[zb]? = some (.cells #[.int .i64 k, .int .i64 n, .string t, .slice na nl ncap, .slice ia il icap] 25 (0, 0)) ∧ JAt c u (.agg #[.int .i64 k, .int .i64 n, .string t, .slice na nl ncap, .slice ia il icap]) ∧ Below wr.heap.size wr wx

set_option maxRecDepth 100000 in
set_option maxHeartbeats 16000000 in
theorem entriesOrder_walk (x : IX) (xv : Value) (a b : JV) (av bv : Value) (w : World) (hx : IAt (cf w) x xv) (ha : JAt (cf w) a av) (hb : JAt (cf w) b bv) (hT : Tabs w) :
    Calls Tryd.prog 12 #[xv, av, bv] w fun e w' => e = .returned (.bool true) ∧ Below w.heap.size w w' := by
  have HX := Hold.mk hx
  have HA := Hold.mk ha
  have HBV := Hold.mk hb
  have HT := Hold.mk hT
  have HD : Hold (DB (entB x a) (entB x b) (fieldsC a b x.fields)) := ⟨comp_D x.fields fun f _ => put_D 6 _ _ (valK_at f ha) (valK_at f hb) (valK_formed a f) (valK_formed b f)⟩
  obtain ⟨hnm, fv, rfl, fa, fcap, rfl, hlen, hcap, hel⟩ := hx
  obtain ⟨k, n, t, nm, it, na, ncap, ia, icap, _, rfl, _⟩ := ha.open
  obtain ⟨q, m, u, nu, ju, ma, mcap, ja, jcap, _, rfl, _⟩ := hb.open
  obtain ⟨W, hW, hB⟩ := threeE w (.cells #[.string x.name, .slice fa x.fields.length fcap, .bool x.uniq] 37) (.cells #[.int .i64 k, .int .i64 n, .string t, .slice na nm.length ncap, .slice ia it.length icap] 25) (.cells #[.int .i64 q, .int .i64 m, .string u, .slice ma nu.length mcap, .slice ja ju.length jcap] 25)
  have HB := Hold.mk hB
  have HE := Hold.mk hel
  obtain ⟨xn, l, xu⟩ := x
  simp only at *
  have hll : l.length ≤ 9223372036854775807 := by omega
  clear hel hnm hT hB hlen hcap ha hb
  go_enter Tryd.func12, Tryd.ntmps12
  go_wp2_with fail
  rw [← hW]
  clear hW
  refine (awake17_any _ (HT.out.below HB.out.bel)).mono ?_
  rintro e w1 ⟨rfl, hb1⟩
  replace HB := Hold.mk (HB.out.next hb1)
  clear hb1
  obtain ⟨y0, y1, y2⟩ := cells_three HB.out.one
  go_wp2_with fail
  clear y0 y1 y2
  refine (lfew_any ⟨xn, l, xu⟩ _ _ (HX.out.mono (cle_below HB.out.bel))).mono ?_
  rintro e w2 ⟨rfl, hb2⟩
  replace HB := Hold.mk (HB.out.next hb2)
  clear hb2
  cases hfew : fewI ⟨xn, l, xu⟩ with
  | false =>
    clear hfew
    go_wp2_with fail
    refine (awake17_any _ (HT.out.below HB.out.bel)).mono ?_
    rintro e w3 ⟨rfl, hb3⟩
    replace HB := Hold.mk (HB.out.next hb3)
    clear hb3
    go_wp2_with fail
    go_ret
    exact ⟨rfl, HB.out.bel⟩
  | true =>
  have HFW := Hold.mk hfew
  clear hfew
  obtain ⟨z0, z1, z2, z3, z4⟩ := cells_five HB.out.two
  go_wp2_with fail
  clear z0 z1 z2 z3 z4
  refine (few_any (HA.out.mono (cle_below HB.out.bel)) _ (CLe.refl _)).mono ?_
  rintro e w3 ⟨rfl, hb3⟩
  replace HB := Hold.mk (HB.out.next hb3)
  clear hb3
  cases hfew : fewF a with
  | false =>
    clear hfew
    go_wp2_with fail
    refine (awake17_any _ (HT.out.below HB.out.bel)).mono ?_
    rintro e w3 ⟨rfl, hb3⟩
    replace HB := Hold.mk (HB.out.next hb3)
    clear hb3
    go_wp2_with fail
    go_ret
    exact ⟨rfl, HB.out.bel⟩
  | true =>
  clear hfew
  obtain ⟨z0, z1, z2, z3, z4⟩ := cells_five HB.out.three
  go_wp2_with fail
  clear z0 z1 z2 z3 z4
  refine (few_any (HBV.out.mono (cle_below HB.out.bel)) _ (CLe.refl _)).mono ?_
  rintro e w3 ⟨rfl, hb3⟩
  replace HB := Hold.mk (HB.out.next hb3)
  clear hb3
  cases hfew : fewF b with
  | false =>
    clear hfew
    go_wp2_with fail
    refine (awake17_any _ (HT.out.below HB.out.bel)).mono ?_
    rintro e w3 ⟨rfl, hb3⟩
    replace HB := Hold.mk (HB.out.next hb3)
    clear hb3
    go_wp2_with fail
    go_ret
    exact ⟨rfl, HB.out.bel⟩
  | true =>
  clear hfew
  obtain ⟨y0, y1, y2⟩ := cells_three HB.out.one
  obtain ⟨z0, z1, z2, z3, z4⟩ := cells_five HB.out.two
  go_wp2_with fail
  refine (EKey_any ⟨xn, l, xu⟩ _ a _ _ (HX.out.mono (cle_below HB.out.bel)) (HA.out.mono (cle_below HB.out.bel)) (fewI_small HFW.out) (by have := fewI_len HFW.out; omega) (HT.out.below HB.out.bel)).mono ?_
  rintro e w4 ⟨sa, rfl, hsa, hb4⟩
  have HSA := Hold.mk (hsa.mono (cfA_le _ _))
  replace HB := Hold.mk (HB.out.next hb4)
  clear hb4 hsa y0 y1 y2 z0 z1 z2 z3 z4
  obtain ⟨y0, y1, y2⟩ := cells_three HB.out.one
  obtain ⟨z0, z1, z2, z3, z4⟩ := cells_five HB.out.three
  generalize hea : keyE ⟨xn, l, xu⟩ a = ea
  generalize hoa : keyO ⟨xn, l, xu⟩ a = oa
  have HEA := Hold.mk hea
  have HOA := Hold.mk hoa
  clear hea hoa
  go_wp2_with fail
  refine (EKey_any ⟨xn, l, xu⟩ _ b _ _ (HX.out.mono (cle_below HB.out.bel)) (HBV.out.mono (cle_below HB.out.bel)) (fewI_small HFW.out) (by have := fewI_len HFW.out; omega) (HT.out.below HB.out.bel)).mono ?_
  rintro e w5 ⟨sb, rfl, hsb, hb4⟩
  have HSB := Hold.mk (hsb.mono (cfA_le _ _))
  replace HSA := Hold.mk (HSA.out.mono (cle_below hb4))
  replace HB := Hold.mk (HB.out.next hb4)
  clear hb4 hsb y0 y1 y2 z0 z1 z2 z3 z4
  generalize heb : keyE ⟨xn, l, xu⟩ b = eb
  generalize hob : keyO ⟨xn, l, xu⟩ b = ob
  have HOB := Hold.mk hob
  clear heb hob
  by_cases h1 : ea = 0
  case neg =>
    have h1b : (ea != 0) = true := by simpa using h1
    clear h1
    go_wp2_with fail
    go_ret
    exact ⟨rfl, HB.out.bel⟩
  subst h1
  by_cases h2 : eb = 0
  case neg =>
    have h2b : (eb != 0) = true := by simpa using h2
    clear h2
    go_wp2_with fail
    go_ret
    exact ⟨rfl, HB.out.bel⟩
  subst h2
  cases oa with
  | false =>
    go_wp2_with fail
    go_ret
    exact ⟨rfl, HB.out.bel⟩
  | true =>
  cases ob with
  | false =>
    go_wp2_with fail
    go_ret
    exact ⟨rfl, HB.out.bel⟩
  | true =>
  obtain ⟨hka, hha⟩ := key_ok HOA.out
  obtain ⟨hkb, hhb⟩ := key_ok HOB.out
  rw [hka] at HSA
  rw [hkb] at HSB
  have HHA := Hold.mk hha
  have HHB := Hold.mk hhb
  clear hka hkb hha hhb HEA HOA HOB
  go_wp2_with fail
  go_loopw [13, 14] (fun cv i wr => ∃ (j : Nat) (c : Int), i = .int .i64 j ∧ j ≤ l.length ∧ cv = .int .i64 c ∧ (-1 ≤ c ∧ c ≤ 1) ∧ fieldsC a b l = orI c (fieldsC a b (l.drop j)) ∧ Below w5.heap.size w5 wr) (fun _ i _ => l.length - (intOf i).toNat)
  case atStart => exact ⟨0, 0, rfl, Nat.zero_le _, rfl, by decide, by rw [zero_orI]; rfl, Below.refl _ _⟩
  case round =>
    obtain ⟨j, c, rfl, hj, rfl, hc, hst, hbl⟩ := hrel
    have HST := Hold.mk hst
    have HBL := Hold.mk hbl
    have HB6 := Hold.mk (HB.out.next hbl)
    obtain ⟨x0, x1, x2⟩ := cells_three HB6.out.one
    clear hst hbl
    by_cases hgo : j < l.length ∧ c = 0
    · obtain ⟨hlt, rfl⟩ := hgo
      obtain ⟨f, hf⟩ : ∃ f, l[j]? = some f := ⟨l[j], List.getElem?_eq_getElem hlt⟩
      obtain ⟨_, bb, off, rfl, z0, z1⟩ := HE.out j f hf
      have HZ := Hold.mk (And.intro z0 z1)
      have HFL := Hold.mk hf
      have HHF : Hold (hasK a f = true ∧ hasK b f = true) := ⟨List.all_eq_true.1 HHA.out f (List.mem_of_getElem? hf), List.all_eq_true.1 HHB.out f (List.mem_of_getElem? hf)⟩
      have HSF := Hold.mk (fewI_small HFW.out f (List.mem_of_getElem? hf))
      clear z0 z1 hf
      -- MARK
      obtain ⟨s, d⟩ := f
      simp only at *
      go_upto_region 11 with (fail)
      go_cut [15, 16] (fun s15 s16 wx => ValBox (cf w) (valK a (s, d)) wr s15 wx ∧ s16 = .bool true)
      case first =>
        have hcl := cle_below HB6.out.bel
        obtain ⟨y0, y1, y2, y3, y4⟩ := cells_five HB6.out.two
        obtain ⟨uu, hgv⟩ := Option.isSome_iff_exists.1 HHF.out.1
        have HGV := Hold.mk hgv
        have g0 := Grow.cell (hcl _ _ _ HZ.out.1)
        have g1 := Grow.cell x1
        have g2 := Grow.cell y0
        have g3 := Grow.cell y1
        have g4 := Grow.cell y2
        have g5 := Grow.cell y3
        have g6 := Grow.cell y4
        have HBW := Hold.mk HB6.out.bel
        clear x0 x1 x2 y0 y1 y2 y3 y4 hcl hgv
        refine wp_region_mix 14 rfl (by kernel_rfl) ?_
        rintro w3 hb3
        refine mixl_seg (by kernel_rfl) (fun _ _ d _ _ h => by cases d <;> exact h) [0, 1, 2, 3, 4, 5, 6] [_, _, _, _, _, _, _] 7 14 rfl _ _ _ rfl (by kernel_rfl) (growC hb3) ?_
        repeat (go_big_quiet_step (fail))
        refine wpQuiet_nil ?_
        clear g0 g1 g2 g3 g4 g5 g6
        have HG4 := Hold.mk hb3
        clear hb3
        refine mixl_two (i := 7) (j := 11) rfl rfl (by kernel_rfl) (growC HG4.out) rfl rfl (fun K hK => ?_) (fun K hK => ?_)
        · go_wp2_with fail
          refine (GetC_any (cf w) a _ s _ ((cle_below (HBW.out.trans (HG4.out.mono HBW.out.size))).trans (cle_cfU _)) HA.out HSF.out (HT.out.below (HBW.out.trans (HG4.out.mono HBW.out.size)))).mono ?_
          rintro e w5 ⟨hg, hb5⟩
          have HG5 : Hold (Below wr.heap.size wr w5) := ⟨HG4.out.trans (hb5.mono HG4.out.size)⟩
          clear hb5
          rw [HGV.out] at hg
          simp only at hg
          obtain ⟨y, rfl, hju⟩ := hg
          obtain ⟨k2, n2, t2, nm2, it2, na2, ncap2, ia2, icap2, _, rfl, _⟩ := hju.open
          have HJ6 : Hold (JAt (cf w) (valK a (s, d)) (.agg #[.int .i64 k2, .int .i64 n2, .string t2, .slice na2 nm2.length ncap2, .slice ia2 it2.length icap2])) := ⟨by unfold valK; rw [HGV.out]; exact hju⟩
          clear hju
          go_wp2_with fail
          refine mixl_seg (by kernel_rfl) (fun _ _ d _ _ h => by cases d <;> exact h) [8, 9, 10] [_, _, _] 3 6 rfl _ _ _ rfl (by kernel_rfl) (growC HG5.out) ?_
          repeat (go_big_quiet_step (fail))
          refine wpQuiet_nil ?_
          refine mixl_act (i := 11) rfl (by kernel_rfl) (growC HG5.out) rfl (fun K hK => ?_)
          go_wp2_with fail
          have HG6 := Hold.mk (HG5.out.alloc HG5.out.size (.cells #[.int .i64 0, .int .i64 0, .string ⟨#[]⟩, .slice none 0 0, .slice none 0 0] 25))
          have HZB := Hold.mk (heap_alloc_new w5 (.cells #[.int .i64 0, .int .i64 0, .string ⟨#[]⟩, .slice none 0 0, .slice none 0 0] 25))
          generalize w5.alloc (.cells #[.int .i64 0, .int .i64 0, .string ⟨#[]⟩, .slice none 0 0, .slice none 0 0] 25) = w6 at HG6 HZB ⊢
          have HWL : Hold (wr.heap.size ≤ w5.heap.size) := ⟨HG5.out.size⟩
          refine mixl_act (i := 12) rfl (by kernel_rfl) (growC HG6.out) rfl (fun K hK => ?_)
          obtain ⟨v0, v1, v2, v3, v4⟩ := cells_five HZB.out
          have q0 := free_box HZB.out 0
          have q1 := free_box HZB.out 1
          have q2 := free_box HZB.out 2
          have q3 := free_box HZB.out 3
          have q4 := free_box HZB.out 4
          go_wp2_with fail
          clear v0 v1 v2 v3 v4 q0 q1 q2 q3 q4
          have HZ6 := Hold.mk (set5_self (c0 := .int .i64 k2) (c1 := .int .i64 n2) (c2 := .string t2) (c3 := .slice na2 nm2.length ncap2) (c4 := .slice ia2 it2.length icap2) HZB.out)
          replace HG6 := Hold.mk (set5_below (k := w5.heap.size) (c0 := .int .i64 k2) (c1 := .int .i64 n2) (c2 := .string t2) (c3 := .slice na2 nm2.length ncap2) (c4 := .slice ia2 it2.length icap2) HG6.out HWL.out)
          unfold set5 at HZ6 HG6
          generalize hw8 : ((((w6.setCell ⟨w5.heap.size, 0, none⟩ (.int .i64 k2)).setCell ⟨w5.heap.size, 1, none⟩ (.int .i64 n2)).setCell ⟨w5.heap.size, 2, none⟩ (.string t2)).setCell ⟨w5.heap.size, 3, none⟩ (.slice na2 nm2.length ncap2)).setCell ⟨w5.heap.size, 4, none⟩ (.slice ia2 it2.length icap2) = w8 at HZ6 HG6 ⊢
          clear hw8
          refine mixl_seg (by kernel_rfl) (fun _ _ d _ _ h => by cases d <;> exact h) [13] [_] 0 1 rfl _ _ _ rfl (by kernel_rfl) (growC HG6.out) ?_
          repeat (go_big_quiet_step (fail))
          refine wpQuiet_nil ?_
          refine mix_done (by kernel_rfl) (growC HG6.out) ?_
          have HVX : Hold (ValBox (cf w) (valK a (s, d)) wr (.pointer (some ⟨w5.heap.size, 0, none⟩)) w8) := ⟨_, _, _, _, _, _, _, _, _, _, rfl, HZ6.out, HJ6.out, HG6.out⟩
          go_wp2_with fail
          go_meet
          case rel => exact ⟨HVX.out, rfl⟩
        · go_wp2_with fail
          have HZB := Hold.mk (heap_alloc_new w3 (.cells #[.int .i64 0, .int .i64 0, .string ⟨#[]⟩, .slice none 0 0, .slice none 0 0] 25))
          have HGZ := Hold.mk (HG4.out.alloc HG4.out.size (.cells #[.int .i64 0, .int .i64 0, .string ⟨#[]⟩, .slice none 0 0, .slice none 0 0] 25))
          generalize w3.alloc (.cells #[.int .i64 0, .int .i64 0, .string ⟨#[]⟩, .slice none 0 0, .slice none 0 0] 25) = wz at HZB HGZ ⊢
          have HWL : Hold (wr.heap.size ≤ w3.heap.size) := ⟨HG4.out.size⟩
          refine mixl_act (i := 7) rfl (by kernel_rfl) (growC HGZ.out) rfl (fun K hK => ?_)
          go_wp2_with fail
          refine (GetC_any (cf w) a _ s _ ((cle_below (HBW.out.trans (HGZ.out.mono HBW.out.size))).trans (cle_cfU _)) HA.out HSF.out (HT.out.below (HBW.out.trans (HGZ.out.mono HBW.out.size)))).mono ?_
          rintro e w5 ⟨hg, hb5⟩
          have HG6 : Hold (Below wr.heap.size wr w5) := ⟨HGZ.out.trans (hb5.mono HGZ.out.size)⟩
          replace HZB := Hold.mk (kept HZB.out hb5)
          clear hb5
          rw [HGV.out] at hg
          simp only at hg
          obtain ⟨y, rfl, hju⟩ := hg
          obtain ⟨k2, n2, t2, nm2, it2, na2, ncap2, ia2, icap2, _, rfl, _⟩ := hju.open
          have HJ6 : Hold (JAt (cf w) (valK a (s, d)) (.agg #[.int .i64 k2, .int .i64 n2, .string t2, .slice na2 nm2.length ncap2, .slice ia2 it2.length icap2])) := ⟨by unfold valK; rw [HGV.out]; exact hju⟩
          clear hju
          go_wp2_with fail
          refine mixl_seg (by kernel_rfl) (fun _ _ d _ _ h => by cases d <;> exact h) [8, 9, 10] [_, _, _] 2 5 rfl _ _ _ rfl (by kernel_rfl) (growC HG6.out) ?_
          repeat (go_big_quiet_step (fail))
          refine wpQuiet_nil ?_
          refine mixl_act (i := 12) rfl (by kernel_rfl) (growC HG6.out) rfl (fun K hK => ?_)
          obtain ⟨v0, v1, v2, v3, v4⟩ := cells_five HZB.out
          have q0 := free_box HZB.out 0
          have q1 := free_box HZB.out 1
          have q2 := free_box HZB.out 2
          have q3 := free_box HZB.out 3
          have q4 := free_box HZB.out 4
          go_wp2_with fail
          clear v0 v1 v2 v3 v4 q0 q1 q2 q3 q4
          have HZ6 := Hold.mk (set5_self (c0 := .int .i64 k2) (c1 := .int .i64 n2) (c2 := .string t2) (c3 := .slice na2 nm2.length ncap2) (c4 := .slice ia2 it2.length icap2) HZB.out)
          replace HG6 := Hold.mk (set5_below (k := w3.heap.size) (c0 := .int .i64 k2) (c1 := .int .i64 n2) (c2 := .string t2) (c3 := .slice na2 nm2.length ncap2) (c4 := .slice ia2 it2.length icap2) HG6.out HWL.out)
          unfold set5 at HZ6 HG6
          generalize hw8 : ((((w5.setCell ⟨w3.heap.size, 0, none⟩ (.int .i64 k2)).setCell ⟨w3.heap.size, 1, none⟩ (.int .i64 n2)).setCell ⟨w3.heap.size, 2, none⟩ (.string t2)).setCell ⟨w3.heap.size, 3, none⟩ (.slice na2 nm2.length ncap2)).setCell ⟨w3.heap.size, 4, none⟩ (.slice ia2 it2.length icap2) = w8 at HZ6 HG6 ⊢
          clear hw8
          refine mixl_seg (by kernel_rfl) (fun _ _ d _ _ h => by cases d <;> exact h) [13] [_] 0 1 rfl _ _ _ rfl (by kernel_rfl) (growC HG6.out) ?_
          repeat (go_big_quiet_step (fail))
          refine wpQuiet_nil ?_
          refine mix_done (by kernel_rfl) (growC HG6.out) ?_
          have HVX : Hold (ValBox (cf w) (valK a (s, d)) wr (.pointer (some ⟨w3.heap.size, 0, none⟩)) w8) := ⟨_, _, _, _, _, _, _, _, _, _, rfl, HZ6.out, HJ6.out, HG6.out⟩
          go_wp2_with fail
          go_meet
          case rel => exact ⟨HVX.out, rfl⟩
      case rest =>
        obtain ⟨⟨za, k3, n3, t3, na3, nl3, ncap3, ia3, il3, icap3, rfl, hba, hja, hwa⟩, rfl⟩ := hcut
        have HZA := Hold.mk hba
        have HJA := Hold.mk hja
        have HB7 := Hold.mk (HB6.out.next hwa)
        have HWA := Hold.mk hwa
        clear hba hja hwa x0 x1 x2
        generalize wc = wa at *
        obtain ⟨x0, x1, x2⟩ := cells_three HB7.out.one
        go_upto_region 12 with (fail)
        go_cut [17, 18] (fun s17 s18 wx => ValBox (cf w) (valK b (s, d)) wa s17 wx ∧ s18 = .bool true)
        case first =>
          have hcl := cle_below HB7.out.bel
          obtain ⟨y0, y1, y2, y3, y4⟩ := cells_five HB7.out.three
          obtain ⟨uu, hgv⟩ := Option.isSome_iff_exists.1 HHF.out.2
          have HGV := Hold.mk hgv
          have g0 := Grow.cell (hcl _ _ _ HZ.out.1)
          have g1 := Grow.cell x1
          have g2 := Grow.cell y0
          have g3 := Grow.cell y1
          have g4 := Grow.cell y2
          have g5 := Grow.cell y3
          have g6 := Grow.cell y4
          have HBW := Hold.mk HB7.out.bel
          clear x0 x1 x2 y0 y1 y2 y3 y4 hcl hgv
          refine wp_region_mix 14 rfl (by kernel_rfl) ?_
          rintro w3 hb3
          refine mixl_seg (by kernel_rfl) (fun _ _ d _ _ h => by cases d <;> exact h) [0, 1, 2, 3, 4, 5, 6] [_, _, _, _, _, _, _] 7 14 rfl _ _ _ rfl (by kernel_rfl) (growC hb3) ?_
          repeat (go_big_quiet_step (fail))
          refine wpQuiet_nil ?_
          clear g0 g1 g2 g3 g4 g5 g6
          have HG4 := Hold.mk hb3
          clear hb3
          refine mixl_two (i := 7) (j := 11) rfl rfl (by kernel_rfl) (growC HG4.out) rfl rfl (fun K hK => ?_) (fun K hK => ?_)
          · go_wp2_with fail
            refine (GetC_any (cf w) b _ s _ ((cle_below (HBW.out.trans (HG4.out.mono HBW.out.size))).trans (cle_cfU _)) HBV.out HSF.out (HT.out.below (HBW.out.trans (HG4.out.mono HBW.out.size)))).mono ?_
            rintro e w5 ⟨hg, hb5⟩
            have HG5 : Hold (Below wa.heap.size wa w5) := ⟨HG4.out.trans (hb5.mono HG4.out.size)⟩
            clear hb5
            rw [HGV.out] at hg
            simp only at hg
            obtain ⟨y, rfl, hju⟩ := hg
            obtain ⟨k2, n2, t2, nm2, it2, na2, ncap2, ia2, icap2, _, rfl, _⟩ := hju.open
            have HJ6 : Hold (JAt (cf w) (valK b (s, d)) (.agg #[.int .i64 k2, .int .i64 n2, .string t2, .slice na2 nm2.length ncap2, .slice ia2 it2.length icap2])) := ⟨by unfold valK; rw [HGV.out]; exact hju⟩
            clear hju
            go_wp2_with fail
            refine mixl_seg (by kernel_rfl) (fun _ _ d _ _ h => by cases d <;> exact h) [8, 9, 10] [_, _, _] 3 6 rfl _ _ _ rfl (by kernel_rfl) (growC HG5.out) ?_
            repeat (go_big_quiet_step (fail))
            refine wpQuiet_nil ?_
            refine mixl_act (i := 11) rfl (by kernel_rfl) (growC HG5.out) rfl (fun K hK => ?_)
            go_wp2_with fail
            have HG6 := Hold.mk (HG5.out.alloc HG5.out.size (.cells #[.int .i64 0, .int .i64 0, .string ⟨#[]⟩, .slice none 0 0, .slice none 0 0] 25))
            have HZB := Hold.mk (heap_alloc_new w5 (.cells #[.int .i64 0, .int .i64 0, .string ⟨#[]⟩, .slice none 0 0, .slice none 0 0] 25))
            generalize w5.alloc (.cells #[.int .i64 0, .int .i64 0, .string ⟨#[]⟩, .slice none 0 0, .slice none 0 0] 25) = w6 at HG6 HZB ⊢
            have HWL : Hold (wa.heap.size ≤ w5.heap.size) := ⟨HG5.out.size⟩
            refine mixl_act (i := 12) rfl (by kernel_rfl) (growC HG6.out) rfl (fun K hK => ?_)
            obtain ⟨v0, v1, v2, v3, v4⟩ := cells_five HZB.out
            have q0 := free_box HZB.out 0
            have q1 := free_box HZB.out 1
            have q2 := free_box HZB.out 2
            have q3 := free_box HZB.out 3
            have q4 := free_box HZB.out 4
            go_wp2_with fail
            clear v0 v1 v2 v3 v4 q0 q1 q2 q3 q4
            have HZ6 := Hold.mk (set5_self (c0 := .int .i64 k2) (c1 := .int .i64 n2) (c2 := .string t2) (c3 := .slice na2 nm2.length ncap2) (c4 := .slice ia2 it2.length icap2) HZB.out)
            replace HG6 := Hold.mk (set5_below (k := w5.heap.size) (c0 := .int .i64 k2) (c1 := .int .i64 n2) (c2 := .string t2) (c3 := .slice na2 nm2.length ncap2) (c4 := .slice ia2 it2.length icap2) HG6.out HWL.out)
            unfold set5 at HZ6 HG6
            generalize hw8 : ((((w6.setCell ⟨w5.heap.size, 0, none⟩ (.int .i64 k2)).setCell ⟨w5.heap.size, 1, none⟩ (.int .i64 n2)).setCell ⟨w5.heap.size, 2, none⟩ (.string t2)).setCell ⟨w5.heap.size, 3, none⟩ (.slice na2 nm2.length ncap2)).setCell ⟨w5.heap.size, 4, none⟩ (.slice ia2 it2.length icap2) = w8 at HZ6 HG6 ⊢
            clear hw8
            refine mixl_seg (by kernel_rfl) (fun _ _ d _ _ h => by cases d <;> exact h) [13] [_] 0 1 rfl _ _ _ rfl (by kernel_rfl) (growC HG6.out) ?_
            repeat (go_big_quiet_step (fail))
            refine wpQuiet_nil ?_
            refine mix_done (by kernel_rfl) (growC HG6.out) ?_
            have HVX : Hold (ValBox (cf w) (valK b (s, d)) wa (.pointer (some ⟨w5.heap.size, 0, none⟩)) w8) := ⟨_, _, _, _, _, _, _, _, _, _, rfl, HZ6.out, HJ6.out, HG6.out⟩
            go_wp2_with fail
            go_meet
            case rel => exact ⟨HVX.out, rfl⟩
          · go_wp2_with fail
            have HZB := Hold.mk (heap_alloc_new w3 (.cells #[.int .i64 0, .int .i64 0, .string ⟨#[]⟩, .slice none 0 0, .slice none 0 0] 25))
            have HGZ := Hold.mk (HG4.out.alloc HG4.out.size (.cells #[.int .i64 0, .int .i64 0, .string ⟨#[]⟩, .slice none 0 0, .slice none 0 0] 25))
            generalize w3.alloc (.cells #[.int .i64 0, .int .i64 0, .string ⟨#[]⟩, .slice none 0 0, .slice none 0 0] 25) = wz at HZB HGZ ⊢
            have HWL : Hold (wa.heap.size ≤ w3.heap.size) := ⟨HG4.out.size⟩
            refine mixl_act (i := 7) rfl (by kernel_rfl) (growC HGZ.out) rfl (fun K hK => ?_)
            go_wp2_with fail
            refine (GetC_any (cf w) b _ s _ ((cle_below (HBW.out.trans (HGZ.out.mono HBW.out.size))).trans (cle_cfU _)) HBV.out HSF.out (HT.out.below (HBW.out.trans (HGZ.out.mono HBW.out.size)))).mono ?_
            rintro e w5 ⟨hg, hb5⟩
            have HG6 : Hold (Below wa.heap.size wa w5) := ⟨HGZ.out.trans (hb5.mono HGZ.out.size)⟩
            replace HZB := Hold.mk (kept HZB.out hb5)
            clear hb5
            rw [HGV.out] at hg
            simp only at hg
            obtain ⟨y, rfl, hju⟩ := hg
            obtain ⟨k2, n2, t2, nm2, it2, na2, ncap2, ia2, icap2, _, rfl, _⟩ := hju.open
            have HJ6 : Hold (JAt (cf w) (valK b (s, d)) (.agg #[.int .i64 k2, .int .i64 n2, .string t2, .slice na2 nm2.length ncap2, .slice ia2 it2.length icap2])) := ⟨by unfold valK; rw [HGV.out]; exact hju⟩
            clear hju
            go_wp2_with fail
            refine mixl_seg (by kernel_rfl) (fun _ _ d _ _ h => by cases d <;> exact h) [8, 9, 10] [_, _, _] 2 5 rfl _ _ _ rfl (by kernel_rfl) (growC HG6.out) ?_
            repeat (go_big_quiet_step (fail))
            refine wpQuiet_nil ?_
            refine mixl_act (i := 12) rfl (by kernel_rfl) (growC HG6.out) rfl (fun K hK => ?_)
            obtain ⟨v0, v1, v2, v3, v4⟩ := cells_five HZB.out
            have q0 := free_box HZB.out 0
            have q1 := free_box HZB.out 1
            have q2 := free_box HZB.out 2
            have q3 := free_box HZB.out 3
            have q4 := free_box HZB.out 4
            go_wp2_with fail
            clear v0 v1 v2 v3 v4 q0 q1 q2 q3 q4
            have HZ6 := Hold.mk (set5_self (c0 := .int .i64 k2) (c1 := .int .i64 n2) (c2 := .string t2) (c3 := .slice na2 nm2.length ncap2) (c4 := .slice ia2 it2.length icap2) HZB.out)
            replace HG6 := Hold.mk (set5_below (k := w3.heap.size) (c0 := .int .i64 k2) (c1 := .int .i64 n2) (c2 := .string t2) (c3 := .slice na2 nm2.length ncap2) (c4 := .slice ia2 it2.length icap2) HG6.out HWL.out)
            unfold set5 at HZ6 HG6
            generalize hw8 : ((((w5.setCell ⟨w3.heap.size, 0, none⟩ (.int .i64 k2)).setCell ⟨w3.heap.size, 1, none⟩ (.int .i64 n2)).setCell ⟨w3.heap.size, 2, none⟩ (.string t2)).setCell ⟨w3.heap.size, 3, none⟩ (.slice na2 nm2.length ncap2)).setCell ⟨w3.heap.size, 4, none⟩ (.slice ia2 it2.length icap2) = w8 at HZ6 HG6 ⊢
            clear hw8
            refine mixl_seg (by kernel_rfl) (fun _ _ d _ _ h => by cases d <;> exact h) [13] [_] 0 1 rfl _ _ _ rfl (by kernel_rfl) (growC HG6.out) ?_
            repeat (go_big_quiet_step (fail))
            refine wpQuiet_nil ?_
            refine mix_done (by kernel_rfl) (growC HG6.out) ?_
            have HVX : Hold (ValBox (cf w) (valK b (s, d)) wa (.pointer (some ⟨w3.heap.size, 0, none⟩)) w8) := ⟨_, _, _, _, _, _, _, _, _, _, rfl, HZ6.out, HJ6.out, HG6.out⟩
            go_wp2_with fail
            go_meet
            case rel => exact ⟨HVX.out, rfl⟩
        case rest =>
          obtain ⟨⟨zb, k4, n4, t4, na4, nl4, ncap4, ia4, il4, icap4, rfl, hbb, hjb, hwb⟩, rfl⟩ := hcut
          have HZB := Hold.mk hbb
          have HJB := Hold.mk hjb
          have HB8 := Hold.mk (HB7.out.next hwb)
          have HBL8 := Hold.mk ((HBL.out.trans (HWA.out.mono HBL.out.size)).trans (hwb.mono (Nat.le_trans HBL.out.size HWA.out.size)))
          replace HZA := Hold.mk (kept HZA.out hwb)
          clear hbb hjb hwb x0 x1 x2
          generalize wc = wb at *
          obtain ⟨v0, v1, v2, v3, v4⟩ := cells_five HZA.out
          obtain ⟨q0, q1, q2, q3, q4⟩ := cells_five HZB.out
          have hcl := cle_below HB8.out.bel
          have hsm := cmpF_small 6 (valK a (s, d)) (valK b (s, d))
          have HST2 : Hold (fieldsC a b l = orI (dirC (s, d) (cmpF 6 (valK a (s, d)) (valK b (s, d)))) (fieldsC a b (l.drop (j + 1)))) := ⟨by
            obtain ⟨h1, e1⟩ := List.getElem?_eq_some_iff.1 HFL.out
            rw [HST.out, zero_orI, List.drop_eq_getElem_cons h1, e1]; rfl⟩
          go_wp2_with fail
          refine (CompareK_any (valK a (s, d)) (valK b (s, d)) _ _ _ (valK_formed a (s, d)) (valK_formed b (s, d)) (HJA.out.mono hcl) (HJB.out.mono hcl) (HT.out.below HB8.out.bel)).mono ?_
          rintro e w9 ⟨rfl, hb9⟩
          have HB9 := Hold.mk (HB8.out.next hb9)
          have HBL9 := Hold.mk (HBL8.out.trans (hb9.mono HBL8.out.size))
          clear hb9 v0 v1 v2 v3 v4 q0 q1 q2 q3 q4 hcl
          obtain ⟨x0, x1, x2⟩ := cells_three HB9.out.one
          have z1 := cle_below HB9.out.bel _ _ _ HZ.out.2
          unfold cf at z1
          generalize cmpF 6 (valK a (s, d)) (valK b (s, d)) = cc at hsm HST2 ⊢
          cases d with
          | true =>
            have hs2 : -1 ≤ -cc ∧ -cc ≤ 1 := by omega
            go_wp2_with fail
            exact ⟨⟨j + 1, -cc, by go_num, hlt, rfl, hs2, HST2.out, HBL9.out⟩, by simp [intOf]; omega⟩
          | false =>
            go_wp2_with fail
            exact ⟨⟨j + 1, cc, by go_num, hlt, rfl, hsm, HST2.out, HBL9.out⟩, by simp [intOf]; omega⟩
    · have HC : Hold (fieldsC a b l = c) := ⟨by
        by_cases h0 : c = 0
        · have : l.drop j = [] := List.drop_eq_nil_of_le (by omega)
          rw [HST.out, this, h0]; rfl
        · rw [HST.out, orI_left _ h0]⟩
      have hD := HD.out
      rw [HC.out] at hD
      have HL := Hold.mk hD.less
      have HS := Hold.mk hD.same
      have hc3 : c = -1 ∨ c = 0 ∨ c = 1 := by omega
      have HSA6 := Hold.mk (HSA.out.mono (cle_below HBL.out))
      have HSB6 := Hold.mk (HSB.out.mono (cle_below HBL.out))
      clear hD hc
      rcases hc3 with rfl | rfl | rfl
      · have HL2 : Hold (lessY (entB ⟨xn, l, xu⟩ a) (entB ⟨xn, l, xu⟩ b) = true) := ⟨HL.out⟩
        have HS2 : Hold (sameY (entB ⟨xn, l, xu⟩ a) (entB ⟨xn, l, xu⟩ b) = false) := ⟨HS.out⟩
        clear HL HS HC HST
        clear hgo
        by_cases hjn : j < l.length
        all_goals
          go_wp2_with fail
          refine (Less4_any _ _ _ _ _ HSA6.out HSB6.out).mono ?_
          rintro e w8 ⟨rfl, hb8⟩
          rw [HL2.out]
          have HB8 := Hold.mk (HB6.out.next hb8)
          replace HSA6 := Hold.mk (HSA6.out.mono (cle_below hb8))
          replace HSB6 := Hold.mk (HSB6.out.mono (cle_below hb8))
          clear hb8 x0 x1 x2
          go_wp2_with fail
          refine (Same4_any _ _ _ _ _ HSA6.out HSB6.out).mono ?_
          rintro e w9 ⟨rfl, hb9⟩
          rw [HS2.out]
          have HB9 := Hold.mk (HB8.out.next hb9)
          clear hb9
          go_wp2_with fail
          go_ret
          exact ⟨rfl, HB9.out.bel⟩
      · have HL2 : Hold (lessY (entB ⟨xn, l, xu⟩ a) (entB ⟨xn, l, xu⟩ b) = false) := ⟨HL.out⟩
        have HS2 : Hold (sameY (entB ⟨xn, l, xu⟩ a) (entB ⟨xn, l, xu⟩ b) = true) := ⟨HS.out⟩
        clear HL HS HC HST
        have hjn : ¬ j < l.length := fun h => hgo ⟨h, rfl⟩
        clear hgo
        go_wp2_with fail
        refine (Less4_any _ _ _ _ _ HSA6.out HSB6.out).mono ?_
        rintro e w8 ⟨rfl, hb8⟩
        rw [HL2.out]
        have HB8 := Hold.mk (HB6.out.next hb8)
        replace HSA6 := Hold.mk (HSA6.out.mono (cle_below hb8))
        replace HSB6 := Hold.mk (HSB6.out.mono (cle_below hb8))
        clear hb8 x0 x1 x2
        go_wp2_with fail
        refine (Same4_any _ _ _ _ _ HSA6.out HSB6.out).mono ?_
        rintro e w9 ⟨rfl, hb9⟩
        rw [HS2.out]
        have HB9 := Hold.mk (HB8.out.next hb9)
        clear hb9
        go_wp2_with fail
        go_ret
        exact ⟨rfl, HB9.out.bel⟩
      · have HL2 : Hold (lessY (entB ⟨xn, l, xu⟩ a) (entB ⟨xn, l, xu⟩ b) = false) := ⟨HL.out⟩
        have HS2 : Hold (sameY (entB ⟨xn, l, xu⟩ a) (entB ⟨xn, l, xu⟩ b) = false) := ⟨HS.out⟩
        clear HL HS HC HST
        clear hgo
        by_cases hjn : j < l.length
        all_goals
          go_wp2_with fail
          refine (Less4_any _ _ _ _ _ HSA6.out HSB6.out).mono ?_
          rintro e w8 ⟨rfl, hb8⟩
          rw [HL2.out]
          have HB8 := Hold.mk (HB6.out.next hb8)
          replace HSA6 := Hold.mk (HSA6.out.mono (cle_below hb8))
          replace HSB6 := Hold.mk (HSB6.out.mono (cle_below hb8))
          clear hb8 x0 x1 x2
          go_wp2_with fail
          refine (Same4_any _ _ _ _ _ HSA6.out HSB6.out).mono ?_
          rintro e w9 ⟨rfl, hb9⟩
          rw [HS2.out]
          have HB9 := Hold.mk (HB8.out.next hb9)
          clear hb9
          go_wp2_with fail
          go_ret
          exact ⟨rfl, HB9.out.bel⟩

end Go.Proofs.YtfllnlmanopfaaaDoor
