/- Catalogs: where an element stands that a closure asks for; Find; names that rise (printed by genXCB.py). -/
import Derived.Test.YticlnijkfclgcaaGreatDoorZ27
namespace Go.Proofs.YticlnijkfclgcaaGreatDoor
open Go.RowKit

/-- the first place of p, or -1 -/
def findI {α : Type} (p : α → Bool) (l : List α) : Int := match l.findIdx? p with
  | some i => (i : Int)
  | none => -1
theorem findI_at {α : Type} {p : α → Bool} {l : List α} {j : Nat} {x : α} (hx : l[j]? = some x) (hp : p x = true) (hall : ∀ (q : Nat) y, q < j → l[q]? = some y → p y = false) : findI p l = (j : Int) := by
  obtain ⟨hj, e⟩ := List.getElem?_eq_some_iff.1 hx
  have h : l.findIdx? p = some j := by
    rw [List.findIdx?_eq_some_iff_getElem]
    refine ⟨hj, by rw [e]; exact hp, fun q hq => ?_⟩
    rw [hall q l[q] hq (List.getElem?_eq_getElem (by omega))]; simp
  unfold findI; rw [h]
theorem findI_none {α : Type} {p : α → Bool} {l : List α} (hall : ∀ (q : Nat) y, q < l.length → l[q]? = some y → p y = false) : findI p l = -1 := by
  have h : l.findIdx? p = none := by
    rw [List.findIdx?_eq_none_iff]
    intro x hx
    obtain ⟨q, hq, e⟩ := List.getElem_of_mem hx
    exact hall q x hq (by rw [← e]; exact List.getElem?_eq_getElem hq)
  unfold findI; rw [h]
theorem findI_any {α : Type} (p : α → Bool) (l : List α) : decide (0 ≤ findI p l) = l.any p := by
  unfold findI
  cases h : l.findIdx? p with
  | none =>
    rw [List.findIdx?_eq_none_iff] at h
    have : l.any p = false := by rw [List.any_eq_false]; intro x hx; rw [h x hx]; simp
    rw [this]; rfl
  | some i =>
    rw [List.findIdx?_eq_some_iff_getElem] at h
    obtain ⟨hi, hp, _⟩ := h
    have : l.any p = true := List.any_eq_true.2 ⟨l[i], List.getElem_mem hi, hp⟩
    rw [this]; simp
/-- a closure that asks p of an element -/
def AsksQ (F : FuncId) (p : PX → Bool) (l : List PX) (w : World) : Prop := ∀ x ∈ l, ∀ (xa : Option Addr) (xcap : Nat) (wr : World), Below w.heap.size w wr → RPX (cf wr) x [.string x.ix.name, .slice xa x.ix.fields.length xcap, .bool x.ix.uniq, .int .i64 x.sp] →
  Calls Tryz.prog F #[.agg #[.string x.ix.name, .slice xa x.ix.fields.length xcap, .bool x.ix.uniq, .int .i64 x.sp]] wr fun e w' => e = .returned (.bool (p x)) ∧ Below wr.heap.size wr w'
set_option maxRecDepth 100000 in
set_option maxHeartbeats 4000000 in
theorem idxQ_any (F : FuncId) (hF : ∀ args w, (callFunc F args).run Tryz.prog w = .ok (.enter F args) w) (p : PX → Bool) (iv : Value) (it : List PX) (w : World) (hi : SAt 4 RPX (cf w) iv it) (H : AsksQ F p it w) :
    Calls Tryz.prog 99 #[iv, .func (.func F) #[] #[]] w fun e w' => e = .returned (.int .i64 (findI p it)) ∧ Below w.heap.size w w' := by
  obtain ⟨a, cap, rfl, hlen, hcap, hel⟩ := hi
  have HE := Hold.mk hel
  have HH := Hold.mk H
  clear hel H
  go_enter Tryz.func99, Tryz.ntmps99
  go_wp2_with fail
  go_loopw [8] (fun i wr => ∃ j : Nat, i = .int .i64 j ∧ j ≤ it.length ∧ (∀ (q : Nat) x, q < j → it[q]? = some x → p x = false) ∧ Below w.heap.size w wr) (fun i _ => it.length - (intOf i).toNat)
  case atStart => exact ⟨0, rfl, Nat.zero_le _, fun q x h => by omega, Below.refl _ _⟩
  case round =>
    obtain ⟨j, rfl, hj, hall, hbl⟩ := hrel
    have HA := Hold.mk hall
    have HB := Hold.mk hbl
    clear hall hbl
    by_cases hlt : j < it.length
    · obtain ⟨x, hx⟩ : ∃ x, it[j]? = some x := ⟨it[j], List.getElem?_eq_getElem hlt⟩
      obtain ⟨b, off, d, rfl, hd, hcc, hxr⟩ := HE.out j x hx
      obtain ⟨xa, xcap, rfl, _⟩ := id hxr
      have hcl := cle_below HB.out
      have z0 := hcl _ _ _ (hcc 0 _ rfl)
      have z1 := hcl _ _ _ (hcc 1 _ rfl)
      have z2 := hcl _ _ _ (hcc 2 _ rfl)
      have z3 := hcl _ _ _ (hcc 3 _ rfl)
      unfold cf at z0 z1 z2 z3
      rw [Nat.add_zero] at z0
      have HX := Hold.mk (HH.out x (List.mem_of_getElem? hx) xa xcap wr HB.out (RPX_mono _ _ _ _ hcl hxr))
      have HXE := Hold.mk hx
      clear hcc hd hxr hcl hx
      cases hfx : p x with
      | false =>
        rw [hfx] at HX
        have HF := Hold.mk hfx
        clear hfx
        go_wp2_with fail
        refine HX.out.mono ?_
        rintro e w3 ⟨rfl, hb3⟩
        replace HB := Hold.mk (HB.out.trans (hb3.mono HB.out.size))
        clear hb3 HX z0 z1 z2 z3
        go_wp2_with fail
        refine ⟨⟨j + 1, by go_num, hlt, fun q s' hq hs' => ?_, HB.out⟩, by simp [intOf]; omega⟩
        by_cases e : q = j
        · subst e; rw [HXE.out] at hs'; cases hs'; exact HF.out
        · exact HA.out q s' (by omega) hs'
      | true =>
        rw [hfx] at HX
        have HF := Hold.mk hfx
        clear hfx
        go_wp2_with fail
        refine HX.out.mono ?_
        rintro e w3 ⟨rfl, hb3⟩
        replace HB := Hold.mk (HB.out.trans (hb3.mono HB.out.size))
        clear hb3 HX z0 z1 z2 z3
        have HR := Hold.mk (findI_at HXE.out HF.out HA.out)
        go_wp2_with fail
        go_ret
        exact ⟨by rw [HR.out]; rfl, HB.out⟩
    · have HR := Hold.mk (findI_none (p := p) (l := it) (fun q x hq => HA.out q x (by omega)))
      go_wp2_with fail
      go_ret
      exact ⟨by rw [HR.out]; rfl, HB.out⟩
set_option maxRecDepth 100000 in
set_option maxHeartbeats 4000000 in
theorem nameC_any (x : CX) (xa : Option Addr) (xcap : Nat) (w : World) : Calls Tryz.prog 70 #[.agg #[.string x.name, .int .i64 x.sp, .slice xa x.ixs.length xcap]] w fun e w' => e = .returned (.string x.name) ∧ Below w.heap.size w w' := by
  have HB := Hold.mk (Boxed.refl w (.cells #[.string x.name, .int .i64 x.sp, .slice xa x.ixs.length xcap] 78))
  go_enter Tryz.func70, Tryz.ntmps70
  go_wp2_with fail
  go_ret
  exact ⟨rfl, HB.out.below⟩
set_option maxRecDepth 100000 in
set_option maxHeartbeats 8000000 in
theorem risingC_any (l : List CX) (lv : Value) (w : World) (hl : SAt 3 RCX (cf w) lv l) :
    Calls Tryz.prog 69 #[lv, .func (.func 70) #[] #[]] w fun e w' => e = .returned (.bool (rises (l.map fun x => x.name))) ∧ Below w.heap.size w w' := by
  obtain ⟨a, cap, rfl, hlen, hcap, hel⟩ := hl
  have HE := Hold.mk hel
  have HB0 := Hold.mk (Below.refl w.heap.size w)
  clear hel
  go_enter Tryz.func69, Tryz.ntmps69
  go_wp2_with fail
  go_loopw [5] (fun i wr => ∃ j : Nat, i = .int .i64 ((j : Int) + 1) ∧ (j + 1 ≤ l.length ∨ j = 0) ∧ (∀ (q : Nat) x y, q < j → l[q]? = some x → l[q + 1]? = some y → strLt x.name y.name = true) ∧ Below w.heap.size w wr) (fun i _ => l.length - (intOf i).toNat)
  case atStart => exact ⟨0, rfl, .inr rfl, fun _ _ _ h => by omega, HB0.out⟩
  case round =>
    obtain ⟨j, rfl, hj, hall, hbl⟩ := hrel
    have HA := Hold.mk hall
    have HB := Hold.mk hbl
    clear hall hbl HB0
    by_cases hlt : j + 1 < l.length
    · obtain ⟨x, hx⟩ : ∃ x, l[j]? = some x := ⟨l[j], List.getElem?_eq_getElem (by omega)⟩
      obtain ⟨y, hy⟩ : ∃ y, l[j + 1]? = some y := ⟨l[j + 1], List.getElem?_eq_getElem hlt⟩
      obtain ⟨b, off, d, rfl, hd, hcc, hxr⟩ := HE.out j x hx
      obtain ⟨xa, xcap, rfl, _⟩ := id hxr
      obtain ⟨_, _, d2, e, hd2, hcd, hyr⟩ := HE.out (j + 1) y hy
      cases e
      obtain ⟨ya, ycap, rfl, _⟩ := id hyr
      have hcl := cle_below HB.out
      have z0 := hcl _ _ _ (hcc 0 _ rfl)
      have z1 := hcl _ _ _ (hcc 1 _ rfl)
      have z2 := hcl _ _ _ (hcc 2 _ rfl)
      unfold cf at z0 z1 z2
      rw [Nat.add_zero] at z0
      have v0 := hcl _ _ _ (hcd 0 _ rfl)
      have v1 := hcl _ _ _ (hcd 1 _ rfl)
      have v2 := hcl _ _ _ (hcd 2 _ rfl)
      unfold cf at v0 v1 v2
      rw [Nat.add_zero] at v0
      have g0 := Grow.cell z0
      have g1 := Grow.cell z1
      have g2 := Grow.cell z2
      have g3 := Grow.cell v0
      have g4 := Grow.cell v1
      have g5 := Grow.cell v2
      have HX := Hold.mk hx
      have HY := Hold.mk hy
      have hjlt : (j : Int) + 1 < (l.length : Int) := by omega
      have hjm : (j : Int) + 1 - 1 = (j : Int) := by omega
      clear hx hy hcc hcd hd hd2 hxr hyr hcl
      go_upto_region 4 with (fail)
      clear z0 z1 z2 v0 v1 v2
      refine wp_region_mix 14 rfl (by kernel_rfl) ?_
      rintro w1 hb1
      refine mixl_seg (by kernel_rfl) (fun _ _ d _ _ h => by cases d <;> exact h) [0, 1, 2, 3, 4, 5, 7, 8, 9, 10, 11] [_, _, _, _, _, _, _, _, _, _, _] 3 14 rfl _ _ _ rfl (by kernel_rfl) (growC hb1) ?_
      repeat (go_big_quiet_step (fail))
      refine wpQuiet_nil ?_
      clear g0 g1 g2 g3 g4 g5
      have HB1 := Hold.mk hb1
      clear hb1
      refine mixl_act (i := 6) rfl (by kernel_rfl) (growC HB1.out) rfl (fun K hK => ?_)
      go_wp2_with fail
      refine (nameC_any x xa xcap w1).mono ?_
      rintro e w2 ⟨rfl, hb2⟩
      have HB2 := Hold.mk (HB1.out.trans (hb2.mono HB1.out.size))
      clear hb2
      go_wp2_with fail
      refine mixl_act (i := 12) rfl (by kernel_rfl) (growC HB2.out) rfl (fun K hK => ?_)
      go_wp2_with fail
      refine (nameC_any y ya ycap w2).mono ?_
      rintro e w3 ⟨rfl, hb3⟩
      have HB3 := Hold.mk (HB2.out.trans (hb3.mono HB2.out.size))
      have HBE := Hold.mk (HB.out.trans (HB3.out.mono HB.out.size))
      clear hb3
      go_wp2_with fail
      cases hlts : strLt x.name y.name with
      | true =>
        have hlt2 : Op.bytesLess x.name.toList y.name.toList = true := hlts
        have HLT := Hold.mk hlts
        have HA2 : Hold (∀ (q : Nat) x y, q < j + 1 → l[q]? = some x → l[q + 1]? = some y → strLt x.name y.name = true) := ⟨fun q x' y' hq hx' hy' => by
          by_cases e : q = j
          · subst e; rw [HX.out] at hx'; rw [HY.out] at hy'; cases hx'; cases hy'; exact HLT.out
          · exact HA.out q x' y' (by omega) hx' hy'⟩
        clear hlts
        refine mixl_seg (by kernel_rfl) (fun _ _ d _ _ h => by cases d <;> exact h) [13] [_] 0 1 rfl _ _ _ rfl (by kernel_rfl) (growC HB3.out) ?_
        repeat (go_big_quiet_step (fail))
        refine wpQuiet_nil ?_
        refine mix_done (by kernel_rfl) (growC HB3.out) ?_
        go_wp2_with fail
        exact ⟨⟨j + 1, by go_num, .inl hlt, HA2.out, HBE.out⟩, by simp [intOf]; omega⟩
      | false =>
        have hlt2 : Op.bytesLess x.name.toList y.name.toList = false := hlts
        have HR : Hold (rises (l.map fun x => x.name) = false) := ⟨rises_not (i := j) (by rw [List.getElem?_map, HX.out]; rfl) (by rw [List.getElem?_map, HY.out]; rfl) hlts⟩
        clear hlts
        refine mixl_seg (by kernel_rfl) (fun _ _ d _ _ h => by cases d <;> exact h) [13] [_] 0 1 rfl _ _ _ rfl (by kernel_rfl) (growC HB3.out) ?_
        repeat (go_big_quiet_step (fail))
        refine wpQuiet_nil ?_
        refine mix_done (by kernel_rfl) (growC HB3.out) ?_
        go_wp2_with fail
        go_ret
        exact ⟨by rw [HR.out]; rfl, HBE.out⟩
    · have hjlt : ¬ (j : Int) + 1 < (l.length : Int) := by omega
      have HR : Hold (rises (l.map fun x => x.name) = true) := ⟨rises_at (fun i a b ha hb => by
        rw [List.getElem?_map, Option.map_eq_some_iff] at ha hb
        obtain ⟨x, hx, rfl⟩ := ha
        obtain ⟨y, hy, rfl⟩ := hb
        obtain ⟨hi, _⟩ := List.getElem?_eq_some_iff.1 hy
        exact HA.out i x y (by omega) hx hy)⟩
      go_wp2_with fail
      go_ret
      exact ⟨by rw [HR.out]; rfl, HB.out⟩
set_option maxRecDepth 100000 in
set_option maxHeartbeats 4000000 in
theorem nameP_any (x : PX) (xa : Option Addr) (xcap : Nat) (w : World) : Calls Tryz.prog 73 #[.agg #[.string x.ix.name, .slice xa x.ix.fields.length xcap, .bool x.ix.uniq, .int .i64 x.sp]] w fun e w' => e = .returned (.string x.ix.name) ∧ Below w.heap.size w w' := by
  have HB := Hold.mk (Boxed.refl w (.cells #[.string x.ix.name, .slice xa x.ix.fields.length xcap, .bool x.ix.uniq, .int .i64 x.sp] 85))
  go_enter Tryz.func73, Tryz.ntmps73
  go_wp2_with fail
  go_ret
  exact ⟨rfl, HB.out.below⟩
set_option maxRecDepth 100000 in
set_option maxHeartbeats 8000000 in
theorem risingP_any (l : List PX) (lv : Value) (w : World) (hl : SAt 4 RPX (cf w) lv l) :
    Calls Tryz.prog 72 #[lv, .func (.func 73) #[] #[]] w fun e w' => e = .returned (.bool (rises (l.map fun x => x.ix.name))) ∧ Below w.heap.size w w' := by
  obtain ⟨a, cap, rfl, hlen, hcap, hel⟩ := hl
  have HE := Hold.mk hel
  have HB0 := Hold.mk (Below.refl w.heap.size w)
  clear hel
  go_enter Tryz.func72, Tryz.ntmps72
  go_wp2_with fail
  go_loopw [5] (fun i wr => ∃ j : Nat, i = .int .i64 ((j : Int) + 1) ∧ (j + 1 ≤ l.length ∨ j = 0) ∧ (∀ (q : Nat) x y, q < j → l[q]? = some x → l[q + 1]? = some y → strLt x.ix.name y.ix.name = true) ∧ Below w.heap.size w wr) (fun i _ => l.length - (intOf i).toNat)
  case atStart => exact ⟨0, rfl, .inr rfl, fun _ _ _ h => by omega, HB0.out⟩
  case round =>
    obtain ⟨j, rfl, hj, hall, hbl⟩ := hrel
    have HA := Hold.mk hall
    have HB := Hold.mk hbl
    clear hall hbl HB0
    by_cases hlt : j + 1 < l.length
    · obtain ⟨x, hx⟩ : ∃ x, l[j]? = some x := ⟨l[j], List.getElem?_eq_getElem (by omega)⟩
      obtain ⟨y, hy⟩ : ∃ y, l[j + 1]? = some y := ⟨l[j + 1], List.getElem?_eq_getElem hlt⟩
      obtain ⟨b, off, d, rfl, hd, hcc, hxr⟩ := HE.out j x hx
      obtain ⟨xa, xcap, rfl, _⟩ := id hxr
      obtain ⟨_, _, d2, e, hd2, hcd, hyr⟩ := HE.out (j + 1) y hy
      cases e
      obtain ⟨ya, ycap, rfl, _⟩ := id hyr
      have hcl := cle_below HB.out
      have z0 := hcl _ _ _ (hcc 0 _ rfl)
      have z1 := hcl _ _ _ (hcc 1 _ rfl)
      have z2 := hcl _ _ _ (hcc 2 _ rfl)
      have z3 := hcl _ _ _ (hcc 3 _ rfl)
      unfold cf at z0 z1 z2 z3
      rw [Nat.add_zero] at z0
      have v0 := hcl _ _ _ (hcd 0 _ rfl)
      have v1 := hcl _ _ _ (hcd 1 _ rfl)
      have v2 := hcl _ _ _ (hcd 2 _ rfl)
      have v3 := hcl _ _ _ (hcd 3 _ rfl)
      unfold cf at v0 v1 v2 v3
      rw [Nat.add_zero] at v0
      have g0 := Grow.cell z0
      have g1 := Grow.cell z1
      have g2 := Grow.cell z2
      have g3 := Grow.cell z3
      have g4 := Grow.cell v0
      have g5 := Grow.cell v1
      have g6 := Grow.cell v2
      have g7 := Grow.cell v3
      have HX := Hold.mk hx
      have HY := Hold.mk hy
      have hjlt : (j : Int) + 1 < (l.length : Int) := by omega
      have hjm : (j : Int) + 1 - 1 = (j : Int) := by omega
      clear hx hy hcc hcd hd hd2 hxr hyr hcl
      go_upto_region 4 with (fail)
      clear z0 z1 z2 z3 v0 v1 v2 v3
      refine wp_region_mix 14 rfl (by kernel_rfl) ?_
      rintro w1 hb1
      refine mixl_seg (by kernel_rfl) (fun _ _ d _ _ h => by cases d <;> exact h) [0, 1, 2, 3, 4, 5, 7, 8, 9, 10, 11] [_, _, _, _, _, _, _, _, _, _, _] 3 14 rfl _ _ _ rfl (by kernel_rfl) (growC hb1) ?_
      repeat (go_big_quiet_step (fail))
      refine wpQuiet_nil ?_
      clear g0 g1 g2 g3 g4 g5 g6 g7
      have HB1 := Hold.mk hb1
      clear hb1
      refine mixl_act (i := 6) rfl (by kernel_rfl) (growC HB1.out) rfl (fun K hK => ?_)
      go_wp2_with fail
      refine (nameP_any x xa xcap w1).mono ?_
      rintro e w2 ⟨rfl, hb2⟩
      have HB2 := Hold.mk (HB1.out.trans (hb2.mono HB1.out.size))
      clear hb2
      go_wp2_with fail
      refine mixl_act (i := 12) rfl (by kernel_rfl) (growC HB2.out) rfl (fun K hK => ?_)
      go_wp2_with fail
      refine (nameP_any y ya ycap w2).mono ?_
      rintro e w3 ⟨rfl, hb3⟩
      have HB3 := Hold.mk (HB2.out.trans (hb3.mono HB2.out.size))
      have HBE := Hold.mk (HB.out.trans (HB3.out.mono HB.out.size))
      clear hb3
      go_wp2_with fail
      cases hlts : strLt x.ix.name y.ix.name with
      | true =>
        have hlt2 : Op.bytesLess x.ix.name.toList y.ix.name.toList = true := hlts
        have HLT := Hold.mk hlts
        have HA2 : Hold (∀ (q : Nat) x y, q < j + 1 → l[q]? = some x → l[q + 1]? = some y → strLt x.ix.name y.ix.name = true) := ⟨fun q x' y' hq hx' hy' => by
          by_cases e : q = j
          · subst e; rw [HX.out] at hx'; rw [HY.out] at hy'; cases hx'; cases hy'; exact HLT.out
          · exact HA.out q x' y' (by omega) hx' hy'⟩
        clear hlts
        refine mixl_seg (by kernel_rfl) (fun _ _ d _ _ h => by cases d <;> exact h) [13] [_] 0 1 rfl _ _ _ rfl (by kernel_rfl) (growC HB3.out) ?_
        repeat (go_big_quiet_step (fail))
        refine wpQuiet_nil ?_
        refine mix_done (by kernel_rfl) (growC HB3.out) ?_
        go_wp2_with fail
        exact ⟨⟨j + 1, by go_num, .inl hlt, HA2.out, HBE.out⟩, by simp [intOf]; omega⟩
      | false =>
        have hlt2 : Op.bytesLess x.ix.name.toList y.ix.name.toList = false := hlts
        have HR : Hold (rises (l.map fun x => x.ix.name) = false) := ⟨rises_not (i := j) (by rw [List.getElem?_map, HX.out]; rfl) (by rw [List.getElem?_map, HY.out]; rfl) hlts⟩
        clear hlts
        refine mixl_seg (by kernel_rfl) (fun _ _ d _ _ h => by cases d <;> exact h) [13] [_] 0 1 rfl _ _ _ rfl (by kernel_rfl) (growC HB3.out) ?_
        repeat (go_big_quiet_step (fail))
        refine wpQuiet_nil ?_
        refine mix_done (by kernel_rfl) (growC HB3.out) ?_
        go_wp2_with fail
        go_ret
        exact ⟨by rw [HR.out]; rfl, HBE.out⟩
    · have hjlt : ¬ (j : Int) + 1 < (l.length : Int) := by omega
      have HR : Hold (rises (l.map fun x => x.ix.name) = true) := ⟨rises_at (fun i a b ha hb => by
        rw [List.getElem?_map, Option.map_eq_some_iff] at ha hb
        obtain ⟨x, hx, rfl⟩ := ha
        obtain ⟨y, hy, rfl⟩ := hb
        obtain ⟨hi, _⟩ := List.getElem?_eq_some_iff.1 hy
        exact HA.out i x y (by omega) hx hy)⟩
      go_wp2_with fail
      go_ret
      exact ⟨by rw [HR.out]; rfl, HB.out⟩
set_option maxHeartbeats 4000000 in
theorem anyQ_any (F : FuncId) (hF : ∀ args w, (callFunc F args).run Tryz.prog w = .ok (.enter F args) w) (p : PX → Bool) (iv : Value) (it : List PX) (w : World) (hi : SAt 4 RPX (cf w) iv it) (H : AsksQ F p it w) :
    Calls Tryz.prog 74 #[iv, .func (.func F) #[] #[]] w fun e w' => e = .returned (.bool (it.any p)) ∧ Below w.heap.size w w' := by
  have HX := Hold.mk (idxQ_any F hF p iv it w hi H)
  have HD := Hold.mk (findI_any p it)
  clear hi H
  go_enter Tryz.func74, Tryz.ntmps74
  go_wp2_with fail
  refine HX.out.mono ?_
  rintro e w1 ⟨rfl, hb1⟩
  have HB := Hold.mk hb1
  clear hb1 HX
  generalize findI p it = r at *
  go_wp2_with fail
  go_ret
  exact ⟨ret_b HD.out, HB.out⟩
end Go.Proofs.YticlnijkfclgcaaGreatDoor
