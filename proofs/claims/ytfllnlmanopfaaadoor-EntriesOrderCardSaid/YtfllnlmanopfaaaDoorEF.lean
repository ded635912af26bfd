/- Indexes: few and awake of the law; the law EntriesForms, walked. -/
import Derived.Test.YtfllnlmanopfaaaDoorEE
namespace Go.Proofs.YtfllnlmanopfaaaDoor
open Go.RowKit

def fewI (x : IX) : Bool := decide (x.fields.length ≤ 10) && shortI x
theorem fewI_len {x : IX} (h : fewI x = true) : x.fields.length ≤ 10 := by unfold fewI at h; rw [Bool.and_eq_true] at h; exact of_decide_eq_true h.1
theorem fewI_small {x : IX} (h : fewI x = true) : ∀ f ∈ x.fields, f.1.size ≤ 1000000 := fun f hf => by
  unfold fewI shortI at h
  rw [Bool.and_eq_true, Bool.and_eq_true] at h
  have := of_decide_eq_true (List.all_eq_true.1 h.2.1 f hf)
  omega

set_option maxRecDepth 100000 in
set_option maxHeartbeats 4000000 in
theorem lfew_any (x : IX) (v : Value) (w : World) (hx : IAt (cf w) x v) :
    Calls Tryd.prog 22 #[v] w fun e w' => e = .returned (.bool (fewI x)) ∧ Below w.heap.size w w' := by
  have HX := Hold.mk hx
  obtain ⟨hnm, fv, rfl, a, cap, rfl, hlen, hcap, hel⟩ := hx
  have HB := Hold.mk (Boxed.refl w (.cells #[.string x.name, .slice a x.fields.length cap, .bool x.uniq] 37))
  have HF0 : Hold (fewI x = (decide (x.fields.length ≤ 10) && shortI x)) := ⟨rfl⟩
  clear hel hnm
  by_cases h10 : x.fields.length ≤ 10
  · have HL := Hold.mk h10
    replace HF0 : Hold (fewI x = shortI x) := ⟨by rw [HF0.out, decide_eq_true h10, Bool.true_and]⟩
    have hle : (x.fields.length : Int) ≤ 10 := by omega
    go_enter Tryd.func22, Tryd.ntmps22
    go_wp2_with fail
    refine (lplain_any x _ _ (HX.out.mono (cle_below HB.out.below)) (by have := HL.out; omega)).mono ?_
    rintro e w1 ⟨y, rfl, hy, hb1⟩
    replace HB := Hold.mk (HB.out.next hb1)
    have HY := Hold.mk (rFewI_any x y w1 hy HL.out)
    clear hy hb1
    go_wp2_with fail
    refine HY.out.mono ?_
    rintro e w2 ⟨rfl, hb2⟩
    replace HB := Hold.mk (HB.out.next hb2)
    clear hb2 HY
    go_wp2_with fail
    go_ret
    exact ⟨by rw [HF0.out]; rfl, HB.out.below⟩
  · have HR : Hold (fewI x = false) := ⟨by rw [HF0.out, decide_eq_false h10]; rfl⟩
    have hle : ¬ (x.fields.length : Int) ≤ 10 := by omega
    go_enter Tryd.func22, Tryd.ntmps22
    go_wp2_with fail
    go_ret
    exact ⟨by rw [HR.out]; rfl, HB.out.below⟩

/-- the index that awake asks for -/
def wakeI : IX := ⟨⟨#[120]⟩, [(⟨#[97]⟩, false)], false⟩
theorem name_a1 : nameF ⟨#[97, 49]⟩ = true := by decide +kernel
theorem wake_formed : formI wakeI = true := by
  have h1 : stepsF ⟨#[97]⟩ = some [⟨#[97]⟩] := by kernel_rfl
  have h2 : simpleF ⟨#[97]⟩ = true := by decide +kernel
  have h3 : nameF ⟨#[120]⟩ = true := by decide +kernel
  unfold formI wakeI
  simp only [h3, goodF, pathOk, h1, h2]
  simp

set_option maxRecDepth 100000 in
set_option maxHeartbeats 4000000 in
theorem awake17_any (w : World) (hT : Tabs w) : Calls Tryd.prog 21 #[] w fun e w' => e = .returned (.bool true) ∧ Below w.heap.size w w' := by
  have HT := Hold.mk hT
  have HX := Hold.mk (Name_any ⟨#[97, 49]⟩ w (by decide))
  rw [name_a1] at HX
  clear hT
  go_enter Tryd.func21, Tryd.ntmps21
  go_wp2_with fail
  refine HX.out.mono ?_
  rintro e w1 ⟨rfl, hb1⟩
  have HB := Hold.mk hb1
  clear hb1 HX
  go_wp2_with fail
  have hB2 := (Below.refl w1.heap.size w1).alloc (Nat.le_refl _) (.cells #[.string ⟨#[97]⟩, .bool false] 71)
  have hblk : (w1.alloc (.cells #[.string ⟨#[97]⟩, .bool false] 71)).heap[w1.heap.size]? = some (.cells #[.string ⟨#[97]⟩, .bool false] 71 (0, 0)) := heap_alloc_new w1 _
  have hi : IAt (cf (w1.alloc (.cells #[.string ⟨#[97]⟩, .bool false] 71))) wakeI (.agg #[.string ⟨#[120]⟩, .slice (some ⟨w1.heap.size, 0, none⟩) 1 1, .bool false]) := by
    obtain ⟨c0, c1⟩ := cells_two hblk
    refine ⟨by decide, _, rfl, some ⟨w1.heap.size, 0, none⟩, 1, rfl, by decide, by decide, fun i p hp => ?_⟩
    match i, hp with
    | 0, hp =>
      obtain rfl : (⟨#[97]⟩, false) = p := by simpa [wakeI] using hp
      exact ⟨by decide, w1.heap.size, 0, rfl, c0, c1⟩
  have hfo := FormedI_any wakeI _ _ hi (fun f hf => by obtain rfl : f = (⟨#[97]⟩, false) := by simpa [wakeI] using hf
                                                       decide) ((HT.out.below HB.out).below hB2)
  rw [wake_formed] at hfo
  refine hfo.mono ?_
  clear hfo hi hblk
  rintro e w2 ⟨rfl, hb2⟩
  replace HB := Hold.mk ((HB.out.trans (hB2.mono HB.out.size)).trans (hb2.mono (Nat.le_trans HB.out.size hB2.size)))
  clear hb2 hB2
  go_wp2_with fail
  go_ret
  exact ⟨rfl, HB.out⟩

set_option maxRecDepth 100000 in
set_option maxHeartbeats 16000000 in
theorem entriesForms_walk (x : IX) (v : Value) (s : ByteArray) (w : World) (hx : IAt (cf w) x v) (hs : s.size ≤ 9223372036854775807) (hT : Tabs w) :
    Calls Tryd.prog 7 #[v, .string s] w fun e w' => e = .returned (.bool true) ∧ Below w.heap.size w w' := by
  have HX := Hold.mk hx
  have HT := Hold.mk hT
  obtain ⟨hnm, fv, rfl, a, cap, rfl, hlen, hcap, hel⟩ := hx
  have HB := Hold.mk (Boxed.refl w (.cells #[.string x.name, .slice a x.fields.length cap, .bool x.uniq] 37))
  clear hel hnm hT
  go_enter Tryd.func7, Tryd.ntmps7
  go_wp2_with fail
  refine (awake17_any _ (HT.out.below HB.out.below)).mono ?_
  rintro e w1 ⟨rfl, hb1⟩
  replace HB := Hold.mk (HB.out.next hb1)
  clear hb1
  obtain ⟨y0, y1, y2⟩ := cells_three HB.out.blk
  go_wp2_with fail
  refine (lfew_any x _ _ (HX.out.mono (cle_below HB.out.below))).mono ?_
  rintro e w2 ⟨rfl, hb2⟩
  replace HB := Hold.mk (HB.out.next hb2)
  clear hb2 y0 y1 y2
  cases hfew : fewI x with
  | false =>
    clear hfew
    go_wp2_with fail
    refine (awake17_any _ (HT.out.below HB.out.below)).mono ?_
    rintro e w3 ⟨rfl, hb3⟩
    replace HB := Hold.mk (HB.out.next hb3)
    clear hb3
    go_wp2_with fail
    go_ret
    exact ⟨rfl, HB.out.below⟩
  | true =>
    have HFW := Hold.mk hfew
    clear hfew
    by_cases hsz : s.size ≤ 1000
    · obtain ⟨y0, y1, y2⟩ := cells_three HB.out.blk
      have g0 := Grow.cell y0
      have g1 := Grow.cell y1
      have g2 := Grow.cell y2
      go_wp2_with fail
      clear y0 y1 y2
      refine wp_region_mix 14 rfl (by kernel_rfl) ?_
      rintro w3 hb3
      have HB3 := Hold.mk hb3
      replace HB := Hold.mk (HB.out.next hb3)
      clear hb3
      refine mixl_seg (by kernel_rfl) (fun _ _ d _ _ h => by cases d <;> exact h) [0, 2] [_, _] 12 14 rfl _ _ _ rfl (by kernel_rfl) (growC HB3.out) ?_
      repeat (go_big_quiet_step (fail))
      refine wpQuiet_nil ?_
      refine mixl_act (i := 1) rfl (by kernel_rfl) (growC HB3.out) rfl (fun K hK => ?_)
      go_wp2_with fail
      refine (FormedI_any x _ _ (HX.out.mono (cle_below HB.out.below)) (fewI_small HFW.out) (HT.out.below HB.out.below)).mono ?_
      rintro e w4 ⟨rfl, hb4⟩
      replace HB3 := Hold.mk (HB3.out.trans (hb4.mono HB3.out.size))
      replace HB := Hold.mk (HB.out.next hb4)
      clear hb4
      go_wp2_with fail
      refine mixl_act (i := 3) rfl (by kernel_rfl) (growC HB3.out) rfl (fun K hK => ?_)
      go_wp2_with fail
      refine (lplain_any x _ _ (HX.out.mono (cle_below HB.out.below)) (by have := fewI_len HFW.out; omega)).mono ?_
      rintro e w5 ⟨y, rfl, hy, hb5⟩
      replace HB3 := Hold.mk (HB3.out.trans (hb5.mono HB3.out.size))
      replace HB := Hold.mk (HB.out.next hb5)
      have HY := Hold.mk (rFormedI_any x y w5 hy (fewI_small HFW.out))
      clear hb5 hy
      go_wp2_with fail
      refine mixl_act (i := 4) rfl (by kernel_rfl) (growC HB3.out) rfl (fun K hK => ?_)
      go_wp2_with fail
      refine HY.out.mono ?_
      rintro e w6 ⟨rfl, hb6⟩
      replace HB3 := Hold.mk (HB3.out.trans (hb6.mono HB3.out.size))
      replace HB := Hold.mk (HB.out.next hb6)
      clear hb6 HY
      go_wp2_with fail
      have hbb : (formI x == formI x) = true := by simp
      generalize formI x = b at hbb ⊢
      refine mixl_seg (by kernel_rfl) (fun _ _ d _ _ h => by cases d <;> exact h) [5, 6, 7, 9] [_, _, _, _] 5 9 rfl _ _ _ rfl (by kernel_rfl) (growC HB3.out) ?_
      repeat (go_big_quiet_step (fail))
      refine wpQuiet_nil ?_
      refine mixl_act (i := 8) rfl (by kernel_rfl) (growC HB3.out) rfl (fun K hK => ?_)
      go_wp2_with fail
      refine (Name_any s _ hs).mono ?_
      rintro e w7 ⟨rfl, hb7⟩
      replace HB3 := Hold.mk (HB3.out.trans (hb7.mono HB3.out.size))
      replace HB := Hold.mk (HB.out.next hb7)
      clear hb7
      go_wp2_with fail
      refine mixl_act (i := 10) rfl (by kernel_rfl) (growC HB3.out) rfl (fun K hK => ?_)
      go_wp2_with fail
      refine (rName_any s _ hs).mono ?_
      rintro e w8 ⟨rfl, hw8⟩
      subst hw8
      go_wp2_with fail
      have hcc : (nameF s == nameF s) = true := by simp
      generalize nameF s = c at hcc ⊢
      refine mixl_seg (by kernel_rfl) (fun _ _ d _ _ h => by cases d <;> exact h) [11, 12, 13] [_, _, _] 0 3 rfl _ _ _ rfl (by kernel_rfl) (growC HB3.out) ?_
      repeat (go_big_quiet_step (fail))
      refine wpQuiet_nil ?_
      refine mix_done (by kernel_rfl) (growC HB3.out) ?_
      go_wp2_with fail
      go_ret
      exact ⟨rfl, HB.out.below⟩
    · go_wp2_with fail
      refine (awake17_any _ (HT.out.below HB.out.below)).mono ?_
      rintro e w3 ⟨rfl, hb3⟩
      replace HB := Hold.mk (HB.out.next hb3)
      clear hb3
      go_wp2_with fail
      go_ret
      exact ⟨rfl, HB.out.below⟩

end Go.Proofs.YtfllnlmanopfaaaDoor
