/- Catalogs: CatalogUndone, walked (printed by genXCV.py). -/
import Derived.Test.YtcmfanfkcbjeoaaGreatDoorCU
namespace Go.Proofs.YtcmfanfkcbjeoaaGreatDoor
open Go.Shelf Go.RowKit

theorem del_ins {α : Type} {k : Nat} {x : α} {l : List α} (h : k ≤ l.length) : delZ k (insZ k x l) = l := by
  unfold delZ insZ
  have h1 : (l.take k).length = k := by rw [List.length_take]; omega
  rw [List.take_append_of_le_length (by omega), List.take_of_length_le (by omega), List.drop_append, List.drop_eq_nil_of_le (by omega), h1]
  simp
theorem findI_first {α : Type} {p : α → Bool} {l : List α} {k : Nat} (h : findI p l = (k : Int)) : ∀ (q : Nat) y, q < k → l[q]? = some y → p y = false := by
  unfold findI at h
  split at h
  · rename_i i e
    have : i = k := by omega
    subst this
    intro q y hq hy
    have h1 := (List.findIdx?_eq_some_iff_getElem.1 e).2.2 q hq
    obtain ⟨hlt, rfl⟩ := List.getElem?_eq_some_iff.1 hy
    simpa using h1
  · omega
theorem ins_at {α : Type} {k : Nat} {x : α} {l : List α} (h : k ≤ l.length) : (insZ k x l)[k]? = some x := by
  unfold insZ
  rw [List.getElem?_append_right (by rw [List.length_take]; omega), List.length_take, Nat.min_eq_left h, Nat.sub_self]; rfl
theorem ins_lo {α : Type} {k q : Nat} {x : α} {l : List α} (hq : q < k) (h : k ≤ l.length) : (insZ k x l)[q]? = l[q]? := by
  unfold insZ
  rw [List.getElem?_append_left (by rw [List.length_take]; omega), List.getElem?_take, if_pos hq]
/-- what was created is dropped again -/
theorem create_drop {l l' : List CX} {s : ByteArray} (h : createF l s = (l', 0)) : dropF l' s = (l, 0) := by
  have hf := (create_form h).1
  obtain ⟨h1, h2, h3, h4, rfl⟩ := create_ok h
  have hk : placeZ (namesC l) s ≤ l.length := by have := placeZ_le (namesC l) s; simpa using this
  have hfi : findI (nameIs s) (insZ (placeZ (namesC l) s) ⟨s, freshZ (spacesC l), []⟩ l) = (placeZ (namesC l) s : Nat) :=
    findI_at (ins_at hk) (nameIs_iff.2 rfl) fun q y hq hy => by
      rw [ins_lo hq hk] at hy
      exact findI_neg h3 y (List.mem_of_getElem? hy)
  unfold dropF
  rw [hf, if_neg (by decide), hfi, if_neg (by omega), Int.toNat_natCast, del_ins hk]
/-- what was added is dropped again -/
theorem add_drop {l l' : List CX} {s : ByteArray} {x : IX} (h : addF l s x = (l', 0)) : dropIF l' s x.name = (l, 0) := by
  have hf := add_form h
  obtain ⟨h1, h2, k, y, h3, hy, hfo, h4, rfl⟩ := add_ok h
  have hkl := (List.getElem?_eq_some_iff.1 hy).1
  have hpl : placeZ (namesP y.ixs) x.name ≤ y.ixs.length := by have := placeZ_le (namesP y.ixs) x.name; simpa using this
  obtain ⟨z, hz⟩ : ∃ z : CX, z = ⟨y.name, y.sp, insZ (placeZ (namesP y.ixs) x.name) ⟨x, freshZ (spacesC l)⟩ y.ixs⟩ := ⟨_, rfl⟩
  rw [← hz] at hf ⊢
  have hzk : (l.set k z)[k]? = some z := List.getElem?_set_self hkl
  have hnk : nameIs s y = true := by
    rcases findI_cases (nameIs s) l with e | ⟨k2, y2, e, hy2, hp⟩
    · omega
    · have : k2 = k := by omega
      subst this
      rw [hy] at hy2
      obtain rfl := Option.some.inj hy2
      exact hp
  have hfi : findI (nameIs s) (l.set k z) = (k : Int) := findI_at hzk (by rw [hz]; exact hnk) fun q u hq hu => by
    rw [List.getElem?_set_ne (by omega)] at hu
    exact findI_first h3 q u hq hu
  have hup : upZ (namesP y.ixs) := (form_upP h1 hy).1
  have hfp : findI (nameIsP x.name) z.ixs = (placeZ (namesP y.ixs) x.name : Nat) := by
    rw [hz]
    refine findI_at (ins_at hpl) (nameIsP_iff.2 rfl) fun q u hq hu => ?_
    simp only at hu
    rw [ins_lo hq hpl] at hu
    have hlt := placeZ_lt (nm := namesP y.ixs) (s := x.name) hq (by rw [List.getElem?_map, hu]; rfl)
    cases e : nameIsP x.name u with
    | false => rfl
    | true =>
      have hlt2 : strLt u.ix.name x.name = true := hlt
      rw [nameIsP_iff.1 e, strLtZ_irrefl] at hlt2; cases hlt2
  unfold dropIF
  rw [hf, if_neg (by decide), hfi, Int.toNat_natCast, hzk]
  simp only
  rw [if_neg (by omega), hfp, if_neg (by omega), Int.toNat_natCast, hz]
  simp only
  rw [del_ins hpl, List.set_set]
  obtain ⟨hlt, rfl⟩ := List.getElem?_eq_some_iff.1 hy
  rw [List.set_getElem_self]

set_option maxRecDepth 100000 in
set_option maxHeartbeats 16000000 in
theorem catalogUndone_walk (l : List CX) (v : Value) (s : ByteArray) (x : IX) (xv : Value) (w : World) (h : CatAt (cf w) l v) (hs : s.size ≤ 9223372036854775807) (hx : IAt (cf w) x xv) (hT : Tabs w) :
    Calls Tryz.prog 6 #[v, .string s, xv] w fun e w' => e = .returned (.bool true) ∧ Below w.heap.size w w' := by
  obtain ⟨a, cap, rfl, hsat⟩ := h
  have HT := Hold.mk hT
  have HS := Hold.mk hsat
  have HIX := Hold.mk hx
  obtain ⟨hxn, fv, rfl, hfa⟩ := hx
  obtain ⟨fa, fcap, rfl⟩ : ∃ fa fcap, fv = .slice fa x.fields.length fcap := by obtain ⟨fa, fcap, e, _⟩ := id hfa; exact ⟨fa, fcap, e⟩
  obtain ⟨xn, fl, u⟩ := x
  simp only at *
  have HXN := Hold.mk hxn
  have HSS := Hold.mk hs
  obtain ⟨W0, hW0, hb0, e0, e1⟩ := twoEM w (.cells #[.slice a l.length cap] 51) (.cells #[.string xn, .slice fa fl.length fcap, .bool u] 44)
  have HB0 := Hold.mk hb0
  have HK0 := Hold.mk e0
  have HK1 := Hold.mk e1
  have HZ0 : Hold (W0.heap.size = w.heap.size + 2) := ⟨by rw [hW0]; simp⟩
  have HCA : Hold (∀ wn, Below W0.heap.size W0 wn → CatAt (cf wn) l (.agg #[.slice a l.length cap]) ∧ IAt (cf wn) ⟨xn, fl, u⟩ (.agg #[.string xn, .slice fa fl.length fcap, .bool u]) ∧ Tabs wn ∧ wn.cell? ⟨w.heap.size, 0, none⟩ = some (.slice a l.length cap) ∧ wn.cell? ⟨w.heap.size + 1, 0, none⟩ = some (.string xn) ∧ wn.cell? ⟨w.heap.size + 1, 1, none⟩ = some (.slice fa fl.length fcap) ∧ wn.cell? ⟨w.heap.size + 1, 2, none⟩ = some (.bool u) ∧ Below w.heap.size w wn) := ⟨fun wn hb => by
    have h1 := HB0.out.trans (hb.mono HB0.out.size)
    have h2 := kept HK0.out hb
    obtain ⟨c0, c1, c2⟩ := cells_three (kept HK1.out hb)
    exact ⟨⟨a, cap, rfl, HS.out.mono RCX_mono (cle_below h1)⟩, HIX.out.mono (cle_below h1), HT.out.below h1, by simp [World.cell?, h2], c0, c1, c2, h1⟩⟩
  clear hsat hT hfa hxn hs hb0 e0 e1
  go_enter Tryz.func6, Tryz.ntmps6
  go_upto_region 1 with (fail)
  rw [← hW0]
  clear hW0
  obtain ⟨hca, hix, ht, y0, x0, x1, x2, hbw⟩ := HCA.out W0 (Below.refl _ _)
  clear hca hix hbw x0 x1 x2 y0
  go_wp2_with fail
  refine (awake19_any W0 ht).mono ?_
  rintro e w1 ⟨rfl, hb1⟩
  have HB1 := Hold.mk hb1
  clear hb1 ht
  obtain ⟨hca, hix, ht, y0, x0, x1, x2, hbw⟩ := HCA.out w1 HB1.out
  have HFEW := Hold.mk (few19_any l _ w1 hca)
  clear hca hix ht hbw x0 x1 x2
  go_wp2_with fail
  refine HFEW.out.mono ?_
  rintro e w2 ⟨fb, rfl, hfb, hb2⟩
  have HB2 := Hold.mk (HB1.out.trans (hb2.mono HB1.out.size))
  clear hb2 y0 HFEW
  cases fb with
  | false =>
    have HB := Hold.mk (HB0.out.trans (HB2.out.mono HB0.out.size))
    go_wp2_with fail
    refine (awake19_any w2 (HT.out.below HB.out)).mono ?_
    rintro e w9 ⟨rfl, hb9⟩
    have HB9 := Hold.mk (HB.out.trans (hb9.mono HB.out.size))
    clear hb9
    go_wp2_with fail
    go_ret
    exact ⟨rfl, HB9.out⟩
  | true =>
  have HFS := Hold.mk (few_small (hfb rfl))
  clear hfb
  obtain ⟨hca, hix, ht, y0, x0, x1, x2, hbw⟩ := HCA.out w2 HB2.out
  clear hca hix ht hbw y0
  obtain ⟨W3, hW3⟩ : ∃ W3, W3 = w2.alloc (.cells #[.int .i64 0, .string s, .string xn, .slice fa fl.length fcap, .bool u] 62) := ⟨_, rfl⟩
  have hb3 : Below w2.heap.size w2 W3 := by rw [hW3]; exact (Below.refl _ w2).alloc (Nat.le_refl _) _
  have hk3 : W3.heap[w2.heap.size]? = some (.cells #[.int .i64 0, .string s, .string xn, .slice fa fl.length fcap, .bool u] 62 (0, 0)) := by rw [hW3]; exact heap_alloc_new w2 _
  have HB3 := Hold.mk (HB2.out.trans (hb3.mono HB2.out.size))
  have hsat3 : SAt 5 ROp (cf W3) (.slice (some ⟨w2.heap.size, 0, none⟩) 1 1) [⟨0, s, ⟨xn, fl, u⟩⟩] := by
    refine ⟨_, _, rfl, Nat.le_refl _, by decide, fun i o ho => ?_⟩
    match i, ho with
    | 0, ho =>
      obtain rfl := Option.some.inj ho
      obtain ⟨_, fv, e, hf3⟩ := (HCA.out W3 HB3.out).2.1
      simp only [Value.agg.injEq, Array.mk.injEq, List.cons.injEq, and_true, true_and] at e
      subst e
      obtain ⟨d0, d1, d2, d3, d4⟩ := cells_five hk3
      refine ⟨w2.heap.size, 0, [.int .i64 0, .string s, .string xn, .slice fa fl.length fcap, .bool u], rfl, rfl, fun j v hv => ?_, fa, fcap, rfl, HSS.out, HXN.out, hf3, show (Lit.int .i64 0).wf = true by decide⟩
      match j, hv with
      | 0, hv => obtain rfl := Option.some.inj hv; exact d0
      | 1, hv => obtain rfl := Option.some.inj hv; exact d1
      | 2, hv => obtain rfl := Option.some.inj hv; exact d2
      | 3, hv => obtain rfl := Option.some.inj hv; exact d3
      | 4, hv => obtain rfl := Option.some.inj hv; exact d4
      | j + 5, hv => simp at hv
    | i + 1, ho => simp at ho
  have HSM := Hold.mk (small_any _ _ W3 hsat3)
  clear hsat3 hb3 hk3
  go_wp2_with fail
  rw [← hW3]
  clear hW3 x0 x1 x2
  refine HSM.out.mono ?_
  rintro e w4 ⟨sb, rfl, hsb, hb4⟩
  have HB4 := Hold.mk (HB3.out.trans (hb4.mono HB3.out.size))
  clear hb4 HSM
  cases sb with
  | false =>
    have HB := Hold.mk (HB0.out.trans (HB4.out.mono HB0.out.size))
    go_wp2_with fail
    refine (awake19_any w4 (HT.out.below HB.out)).mono ?_
    rintro e w9 ⟨rfl, hb9⟩
    have HB9 := Hold.mk (HB.out.trans (hb9.mono HB.out.size))
    clear hb9
    go_wp2_with fail
    go_ret
    exact ⟨rfl, HB9.out⟩
  | true =>
  have HFI : Hold (fewI ⟨xn, fl, u⟩ = true) := ⟨((hsb rfl).2 _ (List.mem_singleton.2 rfl)).2⟩
  clear hsb
  obtain ⟨hca, hix, ht, y0, x0, x1, x2, hbw⟩ := HCA.out w4 HB4.out
  obtain ⟨⟨lr, z⟩, hrr⟩ : ∃ r, r = createF l s := ⟨_, rfl⟩
  have HRR := Hold.mk hrr
  have HCR := Hold.mk (Create_any l _ s w4 hca HFS.out.1 HFS.out.2.1 HSS.out ht)
  rw [← hrr] at HCR
  clear hca hix ht hbw x0 x1 x2 hrr
  go_wp2_with fail
  refine HCR.out.mono ?_
  rintro e w5 ⟨v1, rfl, hcat, hb5⟩
  obtain ⟨dva, dvc, rfl, hsd⟩ := hcat
  simp only at hsd ⊢
  obtain ⟨dvl, hdvl⟩ : ∃ n, n = lr.length := ⟨_, rfl⟩
  obtain ⟨db, hdb⟩ : ∃ db, db = w5.heap.size := ⟨_, rfl⟩
  obtain ⟨W6, hW6⟩ : ∃ W6, W6 = w5.alloc (.cells #[.slice dva lr.length dvc] 51) := ⟨_, rfl⟩
  have hb6 : Below w5.heap.size w5 W6 := by rw [hW6]; exact (Below.refl _ w5).alloc (Nat.le_refl _) _
  have HD6 : Hold (W6.heap[db]? = some (.cells #[.slice dva dvl dvc] 51 (0, 0))) := ⟨by rw [hW6, hdb, hdvl]; exact heap_alloc_new w5 _⟩
  have HCD : Hold (CatAt (cf W6) lr (.agg #[.slice dva lr.length dvc])) := ⟨⟨dva, dvc, rfl, hsd.mono RCX_mono (cle_below hb6)⟩⟩
  have HB6 := Hold.mk (HB4.out.trans ((hb5.trans (hb6.mono hb5.size)).mono HB4.out.size))
  have HDG : Hold (W0.heap.size ≤ db) := ⟨by rw [hdb]; exact Nat.le_trans HB4.out.size hb5.size⟩
  clear hb5 hb6 hsd y0 HCR
  go_upto_region 4 with (fail)
  rw [← hW6, ← hdb]
  clear hW6 hdb
  by_cases hz : z = 0
  · subst hz
    have HFL := Hold.mk (create_form HRR.out.symm).1
    have HDR := Hold.mk (Drop_any lr _ s W6 HCD.out (small_form HFL.out).1 (small_form HFL.out).2 (HCA.out W6 HB6.out).2.2.1)
    rw [create_drop HRR.out.symm] at HDR
    have yd : W6.cell? ⟨db, 0, none⟩ = some (.slice dva lr.length dvc) := by
      have := HD6.out
      rw [hdvl] at this
      simp [World.cell?, this]
    go_wp2_with fail
    refine HDR.out.mono ?_
    rintro e w7 ⟨v1, rfl, hcat, hb7⟩
    obtain ⟨ba, bcap, rfl, hsb⟩ := hcat
    simp only at hsb ⊢
    obtain ⟨bb, hbb⟩ : ∃ bb, bb = w7.heap.size := ⟨_, rfl⟩
    obtain ⟨W8, hW8⟩ : ∃ W8, W8 = w7.alloc (.cells #[.slice ba l.length bcap] 51) := ⟨_, rfl⟩
    have hb8 : Below w7.heap.size w7 W8 := by rw [hW8]; exact (Below.refl _ w7).alloc (Nat.le_refl _) _
    have HBK : Hold (W8.heap[bb]? = some (.cells #[.slice ba l.length bcap] 51 (0, 0))) := ⟨by rw [hW8, hbb]; exact heap_alloc_new w7 _⟩
    have HCB : Hold (CatAt (cf W8) l (.agg #[.slice ba l.length bcap])) := ⟨⟨ba, bcap, rfl, hsb.mono RCX_mono (cle_below hb8)⟩⟩
    have HW68 := Hold.mk (hb7.trans (hb8.mono hb7.size))
    have HBW : Hold (Below W0.heap.size W0 W8) := ⟨HB6.out.trans (HW68.out.mono HB6.out.size)⟩
    clear hsb hb7 hb8 yd HDR hdvl
    go_upto_region 6 with (fail)
    rw [← hW8, ← hbb]
    clear hW8 hbb
    have yb : W8.cell? ⟨bb, 0, none⟩ = some (.slice ba l.length bcap) := by
      have := HBK.out
      simp [World.cell?, this]
    obtain ⟨hca, hix, ht, y0, x0, x1, x2, hbw⟩ := HCA.out W8 HBW.out
    have g0 := GrowB.cell yb (lt_of_cell yb)
    have g1 := GrowB.cell y0 (lt_of_cell y0)
    clear hca hix ht y0 x0 x1 x2 hbw yb
    refine wp_region_mixC (GrowBC W8.heap.size W8) 10 rfl (by kernel_rfl) ?_
    have HDW := Hold.mk ((Below.refl W8.heap.size W8).drew)
    generalize W8.drew = v9 at HDW ⊢
    refine mixl_seg (by kernel_rfl) (fun _ _ d _ _ h => by cases d <;> exact h) [0, 1, 2, 3, 5] [_, _, _, _, _] 5 10 rfl _ _ _ rfl (by kernel_rfl) (growBC HDW.out) ?_
    repeat (go_big_quiet_step (fail))
    refine wpQuiet_nil ?_
    clear g0 g1
    have HP1 := Hold.mk (lplainC_any l (.agg #[.slice ba l.length bcap]) v9 (HCB.out.mono (cle_below HDW.out)) HFS.out.2.2)
    refine mixl_act (i := 4) rfl (by kernel_rfl) (growBC HDW.out) rfl (fun K hK => ?_)
    go_wp2_with fail
    refine HP1.out.mono ?_
    rintro e u1 ⟨p1, rfl, hp1, hu1⟩
    have HU1 := Hold.mk (HDW.out.trans (hu1.mono HDW.out.size))
    have HQ1 := Hold.mk hp1
    have HP2 := Hold.mk (lplainC_any l (.agg #[.slice a l.length cap]) u1 ((HCA.out u1 (HBW.out.trans (HU1.out.mono HBW.out.size))).1) HFS.out.2.2)
    clear hp1 hu1 HP1
    go_wp2_with fail
    refine mixl_act (i := 6) rfl (by kernel_rfl) (growBC HU1.out) rfl (fun K hK => ?_)
    go_wp2_with fail
    refine HP2.out.mono ?_
    rintro e u2 ⟨p2, rfl, hp2, hu2⟩
    have HU2 := Hold.mk (HU1.out.trans (hu2.mono HU1.out.size))
    have HS2 := Hold.mk (rSameC_any l p1 p2 u2 (HQ1.out.mono (cle_below hu2)) hp2)
    clear hp2 hu2 HP2
    go_wp2_with fail
    refine mixl_act (i := 7) rfl (by kernel_rfl) (growBC HU2.out) rfl (fun K hK => ?_)
    go_wp2_with fail
    refine HS2.out.mono ?_
    rintro e u3 ⟨rfl, hu3⟩
    have HU3 := Hold.mk (HU2.out.trans (hu3.mono HU2.out.size))
    have HB3 := Hold.mk (HBW.out.trans (HU3.out.mono HBW.out.size))
    clear hu3 HS2
    go_wp2_with fail
    refine mixl_seg (by kernel_rfl) (fun _ _ d _ _ h => by cases d <;> exact h) [8, 9] [_, _] 0 2 rfl _ _ _ rfl (by kernel_rfl) (growBC HU3.out) ?_
    repeat (go_big_quiet_step (fail))
    refine wpQuiet_nil ?_
    refine mix_done (by kernel_rfl) (growBC HU3.out) ?_
    have HBW8 := HB3
    have HD8 : Hold (u3.heap[db]? = some (.cells #[.slice dva dvl dvc] 51 (0, 0))) := ⟨kept HD6.out (HW68.out.trans (HU3.out.mono HW68.out.size))⟩
    clear HBW HBK HCB HU1 HU2 HU3 HB3 HQ1 HDW
    obtain ⟨hca, hix, ht, y0, x0, x1, x2, hbw⟩ := HCA.out u3 HBW8.out
    obtain ⟨⟨la, za⟩, hra⟩ : ∃ r, r = addF l s ⟨xn, fl, u⟩ := ⟨_, rfl⟩
    have HRA := Hold.mk hra
    have HAD := Hold.mk (AddIndex_any l _ s ⟨xn, fl, u⟩ _ u3 hca HFS.out.1 HFS.out.2.1 hix (fewI_small HFI.out) (by have := fewI_len HFI.out; simp only at this ⊢; omega) ht)
    rw [← hra] at HAD
    clear hca hix ht hbw hra
    go_wp2_with fail
    refine HAD.out.mono ?_
    rintro e wa ⟨v1, rfl, hcat, hba⟩
    obtain ⟨aa, acap, rfl, hsa⟩ := hcat
    simp only at hsa ⊢
    have HSA := Hold.mk hsa
    have HBWa := Hold.mk (HBW8.out.trans (hba.mono HBW8.out.size))
    have HDa := Hold.mk (kept HD8.out hba)
    have hf : wa.frozen? ⟨db, 0, none⟩ = false := free_box HDa.out 0
    have hx : wa.cell? ⟨db, 0, none⟩ = some (.slice dva dvl dvc) := by
      have := HDa.out
      simp [World.cell?, this]
    clear hsa hba y0 x0 x1 x2 HAD
    go_upto_region 9 with (fail)
    clear hf hx
    obtain ⟨WA, hWA⟩ : ∃ WA, WA = wa.setCell ⟨db, 0, none⟩ (.slice aa la.length acap) := ⟨_, rfl⟩
    rw [← hWA]
    have HBA : Hold (Below W0.heap.size W0 WA) := ⟨by rw [hWA]; exact HBWa.out.setCell (p := ⟨db, 0, none⟩) HDG.out _⟩
    have HDA : Hold (WA.heap[db]? = some (.cells #[.slice aa la.length acap] 51 (0, 0))) := ⟨by
      rw [hWA]
      have := set_self (o := 0) (c := .slice aa la.length acap) HDa.out
      simpa using this⟩
    have HCLA : Hold (CatAt (cf WA) la (.agg #[.slice aa la.length acap])) := ⟨by rw [hWA]; exact CatAt.set ⟨_, _, rfl, HSA.out⟩ HDa.out⟩
    clear hWA
    by_cases hza : za = 0
    case neg =>
      have hza' : (za != 0) = true := by simpa using hza
      go_wp2_with fail
      go_ret
      exact ⟨rfl, (HCA.out WA HBA.out).2.2.2.2.2.2.2⟩
    subst hza
    have HFA := Hold.mk (add_form HRA.out.symm)
    have HDR := Hold.mk (DropIndex_any la _ s xn WA HCLA.out (small_form HFA.out).1 (small_form HFA.out).2 (HCA.out WA HBA.out).2.2.1)
    rw [add_drop HRA.out.symm] at HDR
    have yd : WA.cell? ⟨db, 0, none⟩ = some (.slice aa la.length acap) := by
      have := HDA.out
      simp [World.cell?, this]
    obtain ⟨hca, hix, ht, y0, x0, x1, x2, hbw⟩ := HCA.out WA HBA.out
    clear hca hix ht hbw
    go_wp2_with fail
    refine HDR.out.mono ?_
    rintro e we ⟨v1, rfl, hcat, hbe⟩
    obtain ⟨ba, bcap, rfl, hsb⟩ := hcat
    simp only at hsb ⊢
    obtain ⟨bb, hbb⟩ : ∃ bb, bb = we.heap.size := ⟨_, rfl⟩
    obtain ⟨WB, hWB⟩ : ∃ WB, WB = we.alloc (.cells #[.slice ba l.length bcap] 51) := ⟨_, rfl⟩
    have hbB : Below we.heap.size we WB := by rw [hWB]; exact (Below.refl _ we).alloc (Nat.le_refl _) _
    have HBK : Hold (WB.heap[bb]? = some (.cells #[.slice ba l.length bcap] 51 (0, 0))) := ⟨by rw [hWB, hbb]; exact heap_alloc_new we _⟩
    have HCB : Hold (CatAt (cf WB) l (.agg #[.slice ba l.length bcap])) := ⟨⟨ba, bcap, rfl, hsb.mono RCX_mono (cle_below hbB)⟩⟩
    have HBW : Hold (Below W0.heap.size W0 WB) := ⟨HBA.out.trans ((hbe.trans (hbB.mono hbe.size)).mono HBA.out.size)⟩
    clear hsb hbe yd y0 x0 x1 x2 HDR
    go_upto_region 12 with (fail)
    rw [← hWB, ← hbb]
    clear hWB hbb hbB
    have yb : WB.cell? ⟨bb, 0, none⟩ = some (.slice ba l.length bcap) := by
      have := HBK.out
      simp [World.cell?, this]
    obtain ⟨hca, hix, ht, y0, x0, x1, x2, hbw⟩ := HCA.out WB HBW.out
    have g0 := GrowB.cell yb (lt_of_cell yb)
    have g1 := GrowB.cell y0 (lt_of_cell y0)
    clear hca hix ht y0 x0 x1 x2 hbw yb
    refine wp_region_mixC (GrowBC WB.heap.size WB) 10 rfl (by kernel_rfl) ?_
    have HDW := Hold.mk ((Below.refl WB.heap.size WB).drew)
    generalize WB.drew = v9 at HDW ⊢
    refine mixl_seg (by kernel_rfl) (fun _ _ d _ _ h => by cases d <;> exact h) [0, 1, 2, 3, 5] [_, _, _, _, _] 5 10 rfl _ _ _ rfl (by kernel_rfl) (growBC HDW.out) ?_
    repeat (go_big_quiet_step (fail))
    refine wpQuiet_nil ?_
    clear g0 g1
    have HP1 := Hold.mk (lplainC_any l (.agg #[.slice ba l.length bcap]) v9 (HCB.out.mono (cle_below HDW.out)) HFS.out.2.2)
    refine mixl_act (i := 4) rfl (by kernel_rfl) (growBC HDW.out) rfl (fun K hK => ?_)
    go_wp2_with fail
    refine HP1.out.mono ?_
    rintro e u1 ⟨p1, rfl, hp1, hu1⟩
    have HU1 := Hold.mk (HDW.out.trans (hu1.mono HDW.out.size))
    have HQ1 := Hold.mk hp1
    have HP2 := Hold.mk (lplainC_any l (.agg #[.slice a l.length cap]) u1 ((HCA.out u1 (HBW.out.trans (HU1.out.mono HBW.out.size))).1) HFS.out.2.2)
    clear hp1 hu1 HP1
    go_wp2_with fail
    refine mixl_act (i := 6) rfl (by kernel_rfl) (growBC HU1.out) rfl (fun K hK => ?_)
    go_wp2_with fail
    refine HP2.out.mono ?_
    rintro e u2 ⟨p2, rfl, hp2, hu2⟩
    have HU2 := Hold.mk (HU1.out.trans (hu2.mono HU1.out.size))
    have HS2 := Hold.mk (rSameC_any l p1 p2 u2 (HQ1.out.mono (cle_below hu2)) hp2)
    clear hp2 hu2 HP2
    go_wp2_with fail
    refine mixl_act (i := 7) rfl (by kernel_rfl) (growBC HU2.out) rfl (fun K hK => ?_)
    go_wp2_with fail
    refine HS2.out.mono ?_
    rintro e u3 ⟨rfl, hu3⟩
    have HU3 := Hold.mk (HU2.out.trans (hu3.mono HU2.out.size))
    have HB3 := Hold.mk (HBW.out.trans (HU3.out.mono HBW.out.size))
    clear hu3 HS2
    go_wp2_with fail
    refine mixl_seg (by kernel_rfl) (fun _ _ d _ _ h => by cases d <;> exact h) [8, 9] [_, _] 0 2 rfl _ _ _ rfl (by kernel_rfl) (growBC HU3.out) ?_
    repeat (go_big_quiet_step (fail))
    refine wpQuiet_nil ?_
    refine mix_done (by kernel_rfl) (growBC HU3.out) ?_
    go_wp2_with fail
    go_ret
    exact ⟨rfl, (HCA.out u3 HB3.out).2.2.2.2.2.2.2⟩
  · have hz' : (z == 0) = false := by simpa using hz
    have HBW8 := HB6
    have HD8 := HD6
    clear hdvl
    obtain ⟨hca, hix, ht, y0, x0, x1, x2, hbw⟩ := HCA.out W6 HBW8.out
    obtain ⟨⟨la, za⟩, hra⟩ : ∃ r, r = addF l s ⟨xn, fl, u⟩ := ⟨_, rfl⟩
    have HRA := Hold.mk hra
    have HAD := Hold.mk (AddIndex_any l _ s ⟨xn, fl, u⟩ _ W6 hca HFS.out.1 HFS.out.2.1 hix (fewI_small HFI.out) (by have := fewI_len HFI.out; simp only at this ⊢; omega) ht)
    rw [← hra] at HAD
    clear hca hix ht hbw hra
    go_wp2_with fail
    refine HAD.out.mono ?_
    rintro e wa ⟨v1, rfl, hcat, hba⟩
    obtain ⟨aa, acap, rfl, hsa⟩ := hcat
    simp only at hsa ⊢
    have HSA := Hold.mk hsa
    have HBWa := Hold.mk (HBW8.out.trans (hba.mono HBW8.out.size))
    have HDa := Hold.mk (kept HD8.out hba)
    have hf : wa.frozen? ⟨db, 0, none⟩ = false := free_box HDa.out 0
    have hx : wa.cell? ⟨db, 0, none⟩ = some (.slice dva dvl dvc) := by
      have := HDa.out
      simp [World.cell?, this]
    clear hsa hba y0 x0 x1 x2 HAD
    go_upto_region 9 with (fail)
    clear hf hx
    obtain ⟨WA, hWA⟩ : ∃ WA, WA = wa.setCell ⟨db, 0, none⟩ (.slice aa la.length acap) := ⟨_, rfl⟩
    rw [← hWA]
    have HBA : Hold (Below W0.heap.size W0 WA) := ⟨by rw [hWA]; exact HBWa.out.setCell (p := ⟨db, 0, none⟩) HDG.out _⟩
    have HDA : Hold (WA.heap[db]? = some (.cells #[.slice aa la.length acap] 51 (0, 0))) := ⟨by
      rw [hWA]
      have := set_self (o := 0) (c := .slice aa la.length acap) HDa.out
      simpa using this⟩
    have HCLA : Hold (CatAt (cf WA) la (.agg #[.slice aa la.length acap])) := ⟨by rw [hWA]; exact CatAt.set ⟨_, _, rfl, HSA.out⟩ HDa.out⟩
    clear hWA
    by_cases hza : za = 0
    case neg =>
      have hza' : (za != 0) = true := by simpa using hza
      go_wp2_with fail
      go_ret
      exact ⟨rfl, (HCA.out WA HBA.out).2.2.2.2.2.2.2⟩
    subst hza
    have HFA := Hold.mk (add_form HRA.out.symm)
    have HDR := Hold.mk (DropIndex_any la _ s xn WA HCLA.out (small_form HFA.out).1 (small_form HFA.out).2 (HCA.out WA HBA.out).2.2.1)
    rw [add_drop HRA.out.symm] at HDR
    have yd : WA.cell? ⟨db, 0, none⟩ = some (.slice aa la.length acap) := by
      have := HDA.out
      simp [World.cell?, this]
    obtain ⟨hca, hix, ht, y0, x0, x1, x2, hbw⟩ := HCA.out WA HBA.out
    clear hca hix ht hbw
    go_wp2_with fail
    refine HDR.out.mono ?_
    rintro e we ⟨v1, rfl, hcat, hbe⟩
    obtain ⟨ba, bcap, rfl, hsb⟩ := hcat
    simp only at hsb ⊢
    obtain ⟨bb, hbb⟩ : ∃ bb, bb = we.heap.size := ⟨_, rfl⟩
    obtain ⟨WB, hWB⟩ : ∃ WB, WB = we.alloc (.cells #[.slice ba l.length bcap] 51) := ⟨_, rfl⟩
    have hbB : Below we.heap.size we WB := by rw [hWB]; exact (Below.refl _ we).alloc (Nat.le_refl _) _
    have HBK : Hold (WB.heap[bb]? = some (.cells #[.slice ba l.length bcap] 51 (0, 0))) := ⟨by rw [hWB, hbb]; exact heap_alloc_new we _⟩
    have HCB : Hold (CatAt (cf WB) l (.agg #[.slice ba l.length bcap])) := ⟨⟨ba, bcap, rfl, hsb.mono RCX_mono (cle_below hbB)⟩⟩
    have HBW : Hold (Below W0.heap.size W0 WB) := ⟨HBA.out.trans ((hbe.trans (hbB.mono hbe.size)).mono HBA.out.size)⟩
    clear hsb hbe yd y0 x0 x1 x2 HDR
    go_upto_region 12 with (fail)
    rw [← hWB, ← hbb]
    clear hWB hbb hbB
    have yb : WB.cell? ⟨bb, 0, none⟩ = some (.slice ba l.length bcap) := by
      have := HBK.out
      simp [World.cell?, this]
    obtain ⟨hca, hix, ht, y0, x0, x1, x2, hbw⟩ := HCA.out WB HBW.out
    have g0 := GrowB.cell yb (lt_of_cell yb)
    have g1 := GrowB.cell y0 (lt_of_cell y0)
    clear hca hix ht y0 x0 x1 x2 hbw yb
    refine wp_region_mixC (GrowBC WB.heap.size WB) 10 rfl (by kernel_rfl) ?_
    have HDW := Hold.mk ((Below.refl WB.heap.size WB).drew)
    generalize WB.drew = v9 at HDW ⊢
    refine mixl_seg (by kernel_rfl) (fun _ _ d _ _ h => by cases d <;> exact h) [0, 1, 2, 3, 5] [_, _, _, _, _] 5 10 rfl _ _ _ rfl (by kernel_rfl) (growBC HDW.out) ?_
    repeat (go_big_quiet_step (fail))
    refine wpQuiet_nil ?_
    clear g0 g1
    have HP1 := Hold.mk (lplainC_any l (.agg #[.slice ba l.length bcap]) v9 (HCB.out.mono (cle_below HDW.out)) HFS.out.2.2)
    refine mixl_act (i := 4) rfl (by kernel_rfl) (growBC HDW.out) rfl (fun K hK => ?_)
    go_wp2_with fail
    refine HP1.out.mono ?_
    rintro e u1 ⟨p1, rfl, hp1, hu1⟩
    have HU1 := Hold.mk (HDW.out.trans (hu1.mono HDW.out.size))
    have HQ1 := Hold.mk hp1
    have HP2 := Hold.mk (lplainC_any l (.agg #[.slice a l.length cap]) u1 ((HCA.out u1 (HBW.out.trans (HU1.out.mono HBW.out.size))).1) HFS.out.2.2)
    clear hp1 hu1 HP1
    go_wp2_with fail
    refine mixl_act (i := 6) rfl (by kernel_rfl) (growBC HU1.out) rfl (fun K hK => ?_)
    go_wp2_with fail
    refine HP2.out.mono ?_
    rintro e u2 ⟨p2, rfl, hp2, hu2⟩
    have HU2 := Hold.mk (HU1.out.trans (hu2.mono HU1.out.size))
    have HS2 := Hold.mk (rSameC_any l p1 p2 u2 (HQ1.out.mono (cle_below hu2)) hp2)
    clear hp2 hu2 HP2
    go_wp2_with fail
    refine mixl_act (i := 7) rfl (by kernel_rfl) (growBC HU2.out) rfl (fun K hK => ?_)
    go_wp2_with fail
    refine HS2.out.mono ?_
    rintro e u3 ⟨rfl, hu3⟩
    have HU3 := Hold.mk (HU2.out.trans (hu3.mono HU2.out.size))
    have HB3 := Hold.mk (HBW.out.trans (HU3.out.mono HBW.out.size))
    clear hu3 HS2
    go_wp2_with fail
    refine mixl_seg (by kernel_rfl) (fun _ _ d _ _ h => by cases d <;> exact h) [8, 9] [_, _] 0 2 rfl _ _ _ rfl (by kernel_rfl) (growBC HU3.out) ?_
    repeat (go_big_quiet_step (fail))
    refine wpQuiet_nil ?_
    refine mix_done (by kernel_rfl) (growBC HU3.out) ?_
    go_wp2_with fail
    go_ret
    exact ⟨rfl, (HCA.out u3 HB3.out).2.2.2.2.2.2.2⟩

end Go.Proofs.YtcmfanfkcbjeoaaGreatDoor
