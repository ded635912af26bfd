/- Catalogs: CatalogPlays, walked (printed by genXCAC.py). -/
import Derived.Test.YtcmfanfkcbjeoaaGreatDoorCAB
namespace Go.Proofs.YtcmfanfkcbjeoaaGreatDoor
open Go.Shelf Go.RowKit

/-- a catalog that the script may reach -/
def GoodC (l : List CX) : Prop := FewC l ∨ formC l = true
theorem spaces_few {l : List CX} (h : FewC l) : (spacesC l).length ≤ 100 := by
  have h0 := h.1
  have : ∀ l : List CX, (∀ x ∈ l, x.ixs.length ≤ 8) → (spacesC l).length ≤ 9 * l.length := by
    intro l
    induction l with
    | nil => intro _; simp [spacesC]
    | cons x l ih =>
      intro h
      have h4 := ih fun y hy => h y (List.mem_cons_of_mem _ hy)
      have h5 := h x (List.mem_cons_self ..)
      unfold spacesC at h4 ⊢
      rw [List.flatMap_cons, List.length_append, List.length_cons]
      simp only [spacesX, List.length_cons, List.length_map]
      omega
  have := this l fun x hx => (h.2 x hx).1
  omega
theorem good_small {l : List CX} (h : GoodC l) : SmallC l ∧ Sized l ∧ SizedP l ∧ (spacesC l).length ≤ 1000000 := by
  rcases h with h | h
  · obtain ⟨h1, h2, h3⟩ := few_small h
    exact ⟨h1, h2, h3, by have := spaces_few h; omega⟩
  · obtain ⟨h1, h2⟩ := small_form h
    refine ⟨h1, h2, ⟨h2.1, fun x hx => ⟨(h2.2 x hx).1, fun p hp => ?_⟩⟩, by have := spaces_four h; omega⟩
    have := (form_fields ((formX_iff.1 ((formC_iff.1 h).2.2.1 x hx)).2.2.2 p hp)).1
    omega
theorem good_keep {l : List CX} {r : List CX × Int} (h : GoodC l) (hr : ∀ l', r = (l', 0) → formC l' = true) : GoodC (keepR l r).1 := by
  unfold keepR
  split
  · rename_i e; exact .inr (hr r.1 (by rw [← e]))
  · exact h
theorem good_act {l : List CX} {o : OpX} (h : GoodC l) : GoodC (actF l o).1 := by
  unfold actF
  split
  · exact good_keep h fun l' e => (create_form e).1
  · split
    · exact good_keep h fun l' e => drop_form e
    · split
      · exact good_keep h fun l' e => add_form e
      · split
        · exact good_keep h fun l' e => dropI_form e
        · exact h
/-- where the law stands: two catalogs, alike -/
structure CJ (w wr : World) (wb : Nat) (l : List CX) (a : Option Addr) (cap : Nat) (a2 : Option Addr) (cap2 : Nat) : Prop where
  good : GoodC l
  bel : Below w.heap.size w wr
  ge : w.heap.size < wb
  cbox : wr.heap[w.heap.size]? = some (.cells #[.slice a l.length cap] 51 (0, 0))
  wbox : wr.heap[wb]? = some (.cells #[.slice a2 l.length cap2] 57 (0, 0))
  cat : CatAt (cf wr) l (.agg #[.slice a l.length cap])
  cat2 : CatAt (cf wr) l (.agg #[.slice a2 l.length cap2])
theorem CJ.next {w wr wz : World} {wb : Nat} {l lr : List CX} {a a1 a2 a3 : Option Addr} {cap cap1 cap2 cap3 : Nat} (h : CJ w wr wb l a cap a2 cap2) (hf : GoodC lr) (hb : Below wr.heap.size wr wz) (hc : CatAt (cf wz) lr (.agg #[.slice a1 lr.length cap1])) (hc2 : CatAt (cf wz) lr (.agg #[.slice a3 lr.length cap3])) :
    CJ w ((wz.setCell ⟨w.heap.size, 0, none⟩ (.slice a1 lr.length cap1)).setCell ⟨wb, 0, none⟩ (.slice a3 lr.length cap3)) wb lr a1 cap1 a3 cap3 := by
  have hk := kept h.cbox hb
  have hk2 := kept h.wbox hb
  have hge := h.ge
  have hw2 : (wz.setCell ⟨w.heap.size, 0, none⟩ (.slice a1 lr.length cap1)).heap[wb]? = some (.cells #[.slice a2 l.length cap2] 57 (0, 0)) := by
    rw [Below.heap_setCell _ _ _ _ (show wb ≠ w.heap.size by omega)]; exact hk2
  have hw1 : (wz.setCell ⟨w.heap.size, 0, none⟩ (.slice a1 lr.length cap1)).heap[w.heap.size]? = some (.cells #[.slice a1 lr.length cap1] 51 (0, 0)) := by
    have := set_self (o := 0) (c := .slice a1 lr.length cap1) hk
    simpa using this
  refine ⟨hf, ((h.bel.trans (hb.mono h.bel.size)).setCell (p := ⟨w.heap.size, 0, none⟩) (Nat.le_refl _) _).setCell (p := ⟨wb, 0, none⟩) (Nat.le_of_lt hge) _, hge, ?_, ?_, (hc.set hk).set hw2, (hc2.set hk).set hw2⟩
  · rw [Below.heap_setCell _ _ _ _ (show w.heap.size ≠ wb by omega)]; exact hw1
  · have := set_self (o := 0) (c := .slice a3 lr.length cap3) hw2
    simpa using this
/-- the worlds in which two boxes stand -/
def BoxT2 (x y : Nat) (w : World) : Type := { w' : World // w'.heap[x]? = w.heap[x]? ∧ w'.heap[y]? = w.heap[y]? }
instance (x y : Nat) (w : World) : Nonempty (BoxT2 x y w) := ⟨⟨w, rfl, rfl⟩⟩
theorem BoxT2.fst {x y : Nat} {w : World} {o : Nat} {v : Value} (h : w.cell? ⟨x, o, none⟩ = some v) (e : BoxT2 x y w) : e.val.cell? ⟨x, o, none⟩ = some v := by
  rw [World.cell?_of_block (w := w) e.property.1]; exact h
theorem BoxT2.snd {x y : Nat} {w : World} {o : Nat} {v : Value} (h : w.cell? ⟨y, o, none⟩ = some v) (e : BoxT2 x y w) : e.val.cell? ⟨y, o, none⟩ = some v := by
  rw [World.cell?_of_block (w := w) e.property.2]; exact h
abbrev BoxC2 (x y : Nat) (w : World) : World → Prop := fun w' => ∃ e : BoxT2 x y w, w' = e.val
theorem boxC2 {x y : Nat} {w w' : World} (h : w'.heap[x]? = w.heap[x]?) (k : w'.heap[y]? = w.heap[y]?) : BoxC2 x y w w' := ⟨⟨w', h, k⟩, rfl⟩

set_option maxRecDepth 100000 in
set_option maxHeartbeats 64000000 in
theorem catalogPlays_walk (l0 : List CX) (v : Value) (ops : List OpX) (sv : Value) (w : World) (h : CatAt (cf w) l0 v) (ho : SAt 5 ROp (cf w) sv ops) (hT : Tabs w) :
    Calls Tryz.prog 4 #[v, sv] w fun e w' => e = .returned (.bool true) ∧ Below w.heap.size w w' := by
  have HT := Hold.mk hT
  have HCV := Hold.mk h
  have HV := Hold.mk ho
  obtain ⟨sa, scap, rfl, hlen, hcap, hel⟩ := ho
  obtain ⟨a0, cap0, rfl, _⟩ := h
  have HE := Hold.mk hel
  obtain ⟨W0, hW0⟩ : ∃ W0, W0 = w.alloc (.cells #[.slice a0 l0.length cap0] 51) := ⟨_, rfl⟩
  have hb0 : Below w.heap.size w W0 := by rw [hW0]; exact (Below.refl _ w).alloc (Nat.le_refl _) _
  have hk0 : W0.heap[w.heap.size]? = some (.cells #[.slice a0 l0.length cap0] 51 (0, 0)) := by rw [hW0]; exact heap_alloc_new w _
  have HB0 := Hold.mk hb0
  have HK0 := Hold.mk hk0
  have HCA : Hold (∀ wn, Below W0.heap.size W0 wn → CatAt (cf wn) l0 (.agg #[.slice a0 l0.length cap0]) ∧ wn.cell? ⟨w.heap.size, 0, none⟩ = some (.slice a0 l0.length cap0) ∧ Below w.heap.size w wn) := ⟨fun wn hb => by
    have h1 := HB0.out.trans (hb.mono HB0.out.size)
    have h2 := kept HK0.out hb
    exact ⟨HCV.out.mono (cle_below h1), by simp [World.cell?, h2], h1⟩⟩
  clear hel hT hb0 hk0
  go_enter Tryz.func4, Tryz.ntmps4
  go_upto_region 1 with (fail)
  rw [← hW0]
  clear hW0
  go_wp2_with fail
  refine (awake19_any W0 (HT.out.below HB0.out)).mono ?_
  rintro e w1 ⟨rfl, hb1⟩
  have HB1 := Hold.mk hb1
  obtain ⟨hca, y0, hbw⟩ := HCA.out w1 hb1
  have HFEW := Hold.mk (few19_any l0 _ w1 hca)
  clear hb1 hca hbw
  go_wp2_with fail
  refine HFEW.out.mono ?_
  rintro e w2 ⟨fb, rfl, hfb, hb2⟩
  have HB2 := Hold.mk (HB1.out.trans (hb2.mono HB1.out.size))
  clear hb2 y0 HFEW
  cases fb with
  | false =>
    have HBN := Hold.mk (HB0.out.trans (HB2.out.mono HB0.out.size))
    go_wp2_with fail
    refine (awake19_any w2 (HT.out.below HBN.out)).mono ?_
    rintro e w9 ⟨rfl, hb9⟩
    have HB9 := Hold.mk (HBN.out.trans (hb9.mono HBN.out.size))
    clear hb9
    go_wp2_with fail
    go_ret
    exact ⟨rfl, HB9.out⟩
  | true =>
  have HFC := Hold.mk (hfb rfl)
  have HSM := Hold.mk (small_any ops _ w2 (HV.out.mono ROp_mono (cle_below (HB0.out.trans (HB2.out.mono HB0.out.size)))))
  clear hfb
  go_wp2_with fail
  refine HSM.out.mono ?_
  rintro e w3 ⟨sm, rfl, hsm, hb3⟩
  have HB3 := Hold.mk (HB2.out.trans (hb3.mono HB2.out.size))
  clear hb3 HSM
  cases sm with
  | false =>
    have HBN := Hold.mk (HB0.out.trans (HB3.out.mono HB0.out.size))
    go_wp2_with fail
    refine (awake19_any w3 (HT.out.below HBN.out)).mono ?_
    rintro e w9 ⟨rfl, hb9⟩
    have HB9 := Hold.mk (HBN.out.trans (hb9.mono HBN.out.size))
    clear hb9
    go_wp2_with fail
    go_ret
    exact ⟨rfl, HB9.out⟩
  | true =>
  have HOPS := Hold.mk (hsm rfl)
  obtain ⟨hca, y0, hbw⟩ := HCA.out w3 HB3.out
  have HPL := Hold.mk (lplainC_any l0 _ w3 hca (few_small HFC.out).2.2)
  clear hsm hca hbw
  go_wp2_with fail
  refine HPL.out.mono ?_
  rintro e w4 ⟨pv, rfl, hpv, hb4⟩
  obtain ⟨a5, cap5, rfl, hps⟩ := hpv
  obtain ⟨wb, hwb⟩ : ∃ wb, wb = w4.heap.size := ⟨_, rfl⟩
  obtain ⟨W5, hW5⟩ : ∃ W5, W5 = w4.alloc (.cells #[.slice a5 l0.length cap5] 57) := ⟨_, rfl⟩
  have hb5 : Below w4.heap.size w4 W5 := by rw [hW5]; exact (Below.refl _ w4).alloc (Nat.le_refl _) _
  have HI5 : Hold (CJ w W5 wb l0 a0 cap0 a5 cap5) := ⟨by
    have h5 : Below W0.heap.size W0 W5 := (HB3.out.trans (hb4.mono HB3.out.size)).trans (hb5.mono (Nat.le_trans HB3.out.size hb4.size))
    have h6 := HCA.out W5 h5
    exact ⟨.inl HFC.out, h6.2.2, by rw [hwb]; have := heap_lt HK0.out; have := HB3.out.size; have := hb4.size; omega, kept HK0.out h5, by rw [hW5, hwb]; exact heap_alloc_new w4 _, h6.1, ⟨a5, cap5, rfl, hps.mono RCX_mono (cle_below hb5)⟩⟩⟩
  clear hb4 hb5 hps y0 HPL
  go_upto_region 4 with (fail)
  rw [← hW5, ← hwb]
  clear hW5 hwb
  go_wp2_with fail
  go_loopw [6] (fun i wr => ∃ j : Nat, i = .int .i64 j ∧ j ≤ ops.length ∧ ∃ l a cap a2 cap2, CJ w wr wb l a cap a2 cap2) (fun i _ => ops.length - (intOf i).toNat)
  case atStart => exact ⟨0, rfl, Nat.zero_le _, _, _, _, _, _, HI5.out⟩
  case round =>
    obtain ⟨j, rfl, hj, l, a, cap, a2, cap2, hci⟩ := hrel
    have HCI := Hold.mk hci
    clear hci HI5
    by_cases hlt : j < ops.length
    · obtain ⟨o, ho⟩ : ∃ o, ops[j]? = some o := ⟨ops[j], List.getElem?_eq_getElem hlt⟩
      obtain ⟨b, off, d, rfl, hd, hcc, fa, fcap, rfl, hn, hxn, hf, hk⟩ := HE.out j o ho
      have HFW : Hold (fewI o.x = true) := ⟨(HOPS.out.2 o (List.mem_of_getElem? ho)).2⟩
      have HNM := Hold.mk hn
      obtain ⟨kd, nm, ⟨xn, fl, u⟩⟩ := o
      simp only at *
      have hcl := cle_below HCI.out.bel
      have HX : Hold (IAt (cf wr) ⟨xn, fl, u⟩ (.agg #[.string xn, .slice fa fl.length fcap, .bool u])) := ⟨⟨hxn, _, rfl, hf.mono hcl⟩⟩
      have HOC : Hold (∀ (q : Nat) u', [Value.int .i64 kd, .string nm, .string xn, .slice fa fl.length fcap, .bool u][q]? = some u' → wr.cell? ⟨b, off + j * 5 + q, none⟩ = some u') := ⟨fun q u' hq => hcl _ _ _ (hcc q u' hq)⟩
      have HBX1 := Hold.mk HCI.out.cbox
      clear hcc hcl hd hf hk hxn hn ho
      have y0 : wr.cell? ⟨w.heap.size, 0, none⟩ = some (.slice a l.length cap) := by
        have := HBX1.out
        simp [World.cell?, this]
      have k0 : wr.cell? ⟨b, off + j * 5, none⟩ = some (.int .i64 kd) := cle_below (Below.refl _ _) _ _ _ (HOC.out 0 _ rfl)
      have k1 := cle_below (Below.refl _ _) _ _ _ (HOC.out 1 _ rfl)
      have k2 := cle_below (Below.refl _ _) _ _ _ (HOC.out 2 _ rfl)
      have k3 := cle_below (Below.refl _ _) _ _ _ (HOC.out 3 _ rfl)
      have k4 := cle_below (Below.refl _ _) _ _ _ (HOC.out 4 _ rfl)
      unfold cf at k1 k2 k3 k4
      have g0 := GrowB.cell y0 (lt_of_cell y0)
      have g1 := GrowB.cell k0 (lt_of_cell k0)
      have g2 := GrowB.cell k1 (lt_of_cell k1)
      have g3 := GrowB.cell k2 (lt_of_cell k2)
      have g4 := GrowB.cell k3 (lt_of_cell k3)
      have g5 := GrowB.cell k4 (lt_of_cell k4)
      clear y0 k0 k1 k2 k3 k4
      go_upto_region 7 with (fail)
      refine wp_region_mixC (GrowBC wr.heap.size wr) 12 rfl (by kernel_rfl) ?_
      have HDW := Hold.mk ((Below.refl wr.heap.size wr).drew)
      generalize wr.drew = v9 at HDW ⊢
      refine mixl_seg (by kernel_rfl) (fun _ _ d _ _ h => by cases d <;> exact h) [0, 1, 2, 3, 4] [_, _, _, _, _] 7 12 rfl _ _ _ rfl (by kernel_rfl) (growBC HDW.out) ?_
      repeat (go_big_quiet_step (fail))
      refine wpQuiet_nil ?_
      clear g0 g1 g2 g3 g4 g5
      refine mixl_two (i := 5) (j := 9) rfl rfl (by kernel_rfl) (growBC HDW.out) rfl rfl (fun K hK => ?_) (fun K hK => ?_)
      · have HAC := Hold.mk (act_any l (.agg #[.slice a l.length cap]) ⟨kd, nm, ⟨xn, fl, u⟩⟩ fa fcap v9 (HCI.out.cat.mono (cle_below HDW.out)) (good_small HCI.out.good).1 (good_small HCI.out.good).2.1 HNM.out (HX.out.mono (cle_below HDW.out)) (fewI_small HFW.out) (by have := fewI_len HFW.out; simp only at this ⊢; omega) ((HT.out.below HCI.out.bel).below HDW.out))
        go_wp2_with fail
        refine HAC.out.mono ?_
        rintro e w4 ⟨v1, rfl, hcat, hb4⟩
        obtain ⟨⟨lr, z⟩, hrr⟩ : ∃ r, r = actF l ⟨kd, nm, ⟨xn, fl, u⟩⟩ := ⟨_, rfl⟩
        have HRR := Hold.mk hrr
        rw [← hrr] at hcat ⊢
        obtain ⟨a1, cap1, rfl, hs1⟩ := hcat
        have HGL : Hold (GoodC lr) := ⟨by
          have := good_act (l := l) (o := ⟨kd, nm, ⟨xn, fl, u⟩⟩) HCI.out.good
          rw [← hrr] at this; exact this⟩
        have hc4 : CatAt (cf w4) lr (.agg #[.slice a1 lr.length cap1]) := ⟨a1, cap1, rfl, hs1⟩
        simp only
        clear HAC hs1 hrr
        have HB4 := Hold.mk (HDW.out.trans (hb4.mono HDW.out.size))
        clear hb4
        go_wp2_with fail
        refine mixl_seg (by kernel_rfl) (fun _ _ d _ _ h => by cases d <;> exact h) [6, 7, 8] [_, _, _] 3 6 rfl _ _ _ rfl (by kernel_rfl) (growBC HB4.out) ?_
        repeat (go_big_quiet_step (fail))
        refine wpQuiet_nil ?_
        refine mixl_act (i := 9) rfl (by kernel_rfl) (growBC HB4.out) rfl (fun K hK => ?_)
        go_wp2_with fail
        obtain ⟨db1, hdb⟩ : ∃ db, db = w4.heap.size := ⟨_, rfl⟩
        obtain ⟨W5, hW5⟩ : ∃ W5, W5 = w4.alloc (.cells #[.slice none 0 0] 51) := ⟨_, rfl⟩
        rw [← hW5, ← hdb]
        have hb5 : Below w4.heap.size w4 W5 := by rw [hW5]; exact (Below.refl _ w4).alloc (Nat.le_refl _) _
        have hk5 : W5.heap[db1]? = some (.cells #[.slice none 0 0] 51 (0, 0)) := by rw [hW5, hdb]; exact heap_alloc_new w4 _
        have HK5 := Hold.mk hk5
        have HC5 := Hold.mk (hc4.mono (cle_below hb5))
        have HB5 := Hold.mk (HB4.out.trans (hb5.mono HB4.out.size))
        have hf : W5.frozen? ⟨db1, 0, none⟩ = false := free_box hk5 0
        have hx : W5.cell? ⟨db1, 0, none⟩ = some (.slice none 0 0) := by simp [World.cell?, hk5]
        have hle4 : wr.heap.size ≤ db1 := by rw [hdb]; exact HB4.out.size
        have HLE1 := Hold.mk hle4
        clear hW5 hb5 hk5 hc4 hdb hle4
        refine mixl_act (i := 10) rfl (by kernel_rfl) (growBC HB5.out) rfl (fun K hK => ?_)
        go_wp2_with fail
        clear hf hx
        obtain ⟨wz1, hwz⟩ : ∃ wz, wz = W5.setCell ⟨db1, 0, none⟩ (.slice a1 lr.length cap1) := ⟨_, rfl⟩
        rw [← hwz]
        have HDX1 : Hold (wz1.heap[db1]? = some (.cells #[.slice a1 lr.length cap1] 51 (0, 0))) := ⟨by
          rw [hwz]
          have := set_self (o := 0) (c := .slice a1 lr.length cap1) HK5.out
          simpa using this⟩
        have HRZ1 : Hold (Below wr.heap.size wr wz1) := ⟨by rw [hwz]; exact HB5.out.setCell (p := ⟨db1, 0, none⟩) HLE1.out _⟩
        have HCZ1 : Hold (CatAt (cf wz1) lr (.agg #[.slice a1 lr.length cap1])) := ⟨by rw [hwz]; exact HC5.out.set HK5.out⟩
        clear hwz
        refine mixl_seg (by kernel_rfl) (fun _ _ d _ _ h => by cases d <;> exact h) [11] [_] 0 1 rfl _ _ _ rfl (by kernel_rfl) (growBC HRZ1.out) ?_
        repeat (go_big_quiet_step (fail))
        refine wpQuiet_nil ?_
        refine mix_done (by kernel_rfl) (growBC HRZ1.out) ?_
        clear HK5 HC5 HB5 HB4 HDW
        have HGE1 : Hold (wr.heap.size ≤ db1) := HLE1
        have HBX2 := Hold.mk (kept HCI.out.wbox HRZ1.out)
        have y0 : wz1.cell? ⟨wb, 0, none⟩ = some (.slice a2 l.length cap2) := by
          have := HBX2.out
          simp [World.cell?, this]
        have k0 : wz1.cell? ⟨b, off + j * 5, none⟩ = some (.int .i64 kd) := cle_below HRZ1.out _ _ _ (HOC.out 0 _ rfl)
        have k1 := cle_below HRZ1.out _ _ _ (HOC.out 1 _ rfl)
        have k2 := cle_below HRZ1.out _ _ _ (HOC.out 2 _ rfl)
        have k3 := cle_below HRZ1.out _ _ _ (HOC.out 3 _ rfl)
        have k4 := cle_below HRZ1.out _ _ _ (HOC.out 4 _ rfl)
        unfold cf at k1 k2 k3 k4
        have g0 := GrowB.cell y0 (lt_of_cell y0)
        have g1 := GrowB.cell k0 (lt_of_cell k0)
        have g2 := GrowB.cell k1 (lt_of_cell k1)
        have g3 := GrowB.cell k2 (lt_of_cell k2)
        have g4 := GrowB.cell k3 (lt_of_cell k3)
        have g5 := GrowB.cell k4 (lt_of_cell k4)
        clear y0 k0 k1 k2 k3 k4
        go_upto_region 8 with (fail)
        refine wp_region_mixC (GrowBC wz1.heap.size wz1) 12 rfl (by kernel_rfl) ?_
        have HDW := Hold.mk ((Below.refl wz1.heap.size wz1).drew)
        generalize wz1.drew = v9 at HDW ⊢
        refine mixl_seg (by kernel_rfl) (fun _ _ d _ _ h => by cases d <;> exact h) [0, 1, 2, 3, 4] [_, _, _, _, _] 7 12 rfl _ _ _ rfl (by kernel_rfl) (growBC HDW.out) ?_
        repeat (go_big_quiet_step (fail))
        refine wpQuiet_nil ?_
        clear g0 g1 g2 g3 g4 g5
        refine mixl_two (i := 5) (j := 9) rfl rfl (by kernel_rfl) (growBC HDW.out) rfl rfl (fun K hK => ?_) (fun K hK => ?_)
        · have HAC := Hold.mk (acted_any l (.agg #[.slice a2 l.length cap2]) ⟨kd, nm, ⟨xn, fl, u⟩⟩ fa fcap v9 (HCI.out.cat2.mono (cle_below (HRZ1.out.trans (HDW.out.mono HRZ1.out.size)))) (good_small HCI.out.good).1 (good_small HCI.out.good).2.2.2 HNM.out (HX.out.mono (cle_below (HRZ1.out.trans (HDW.out.mono HRZ1.out.size)))) (fewI_small HFW.out) (by have := fewI_len HFW.out; simp only at this ⊢; omega))
          go_wp2_with fail
          refine HAC.out.mono ?_
          rintro e w4 ⟨v1, rfl, hcat, hb4⟩
          rw [← HRR.out] at hcat ⊢
          obtain ⟨a3, cap3, rfl, hs1⟩ := hcat
          have hc4 : CatAt (cf w4) lr (.agg #[.slice a3 lr.length cap3]) := ⟨a3, cap3, rfl, hs1⟩
          simp only
          clear HAC hs1
          have HB4 := Hold.mk (HDW.out.trans (hb4.mono HDW.out.size))
          clear hb4
          go_wp2_with fail
          refine mixl_seg (by kernel_rfl) (fun _ _ d _ _ h => by cases d <;> exact h) [6, 7, 8] [_, _, _] 3 6 rfl _ _ _ rfl (by kernel_rfl) (growBC HB4.out) ?_
          repeat (go_big_quiet_step (fail))
          refine wpQuiet_nil ?_
          refine mixl_act (i := 9) rfl (by kernel_rfl) (growBC HB4.out) rfl (fun K hK => ?_)
          go_wp2_with fail
          obtain ⟨db2, hdb⟩ : ∃ db, db = w4.heap.size := ⟨_, rfl⟩
          obtain ⟨W5, hW5⟩ : ∃ W5, W5 = w4.alloc (.cells #[.slice none 0 0] 57) := ⟨_, rfl⟩
          rw [← hW5, ← hdb]
          have hb5 : Below w4.heap.size w4 W5 := by rw [hW5]; exact (Below.refl _ w4).alloc (Nat.le_refl _) _
          have hk5 : W5.heap[db2]? = some (.cells #[.slice none 0 0] 57 (0, 0)) := by rw [hW5, hdb]; exact heap_alloc_new w4 _
          have HK5 := Hold.mk hk5
          have HC5 := Hold.mk (hc4.mono (cle_below hb5))
          have HB5 := Hold.mk (HB4.out.trans (hb5.mono HB4.out.size))
          have hf : W5.frozen? ⟨db2, 0, none⟩ = false := free_box hk5 0
          have hx : W5.cell? ⟨db2, 0, none⟩ = some (.slice none 0 0) := by simp [World.cell?, hk5]
          have hle4 : wz1.heap.size ≤ db2 := by rw [hdb]; exact HB4.out.size
          have HLE2 := Hold.mk hle4
          clear hW5 hb5 hk5 hc4 hdb hle4
          refine mixl_act (i := 10) rfl (by kernel_rfl) (growBC HB5.out) rfl (fun K hK => ?_)
          go_wp2_with fail
          clear hf hx
          obtain ⟨wz2, hwz⟩ : ∃ wz, wz = W5.setCell ⟨db2, 0, none⟩ (.slice a3 lr.length cap3) := ⟨_, rfl⟩
          rw [← hwz]
          have HDX2 : Hold (wz2.heap[db2]? = some (.cells #[.slice a3 lr.length cap3] 57 (0, 0))) := ⟨by
            rw [hwz]
            have := set_self (o := 0) (c := .slice a3 lr.length cap3) HK5.out
            simpa using this⟩
          have HRZ2 : Hold (Below wz1.heap.size wz1 wz2) := ⟨by rw [hwz]; exact HB5.out.setCell (p := ⟨db2, 0, none⟩) HLE2.out _⟩
          have HCZ2 : Hold (CatAt (cf wz2) lr (.agg #[.slice a3 lr.length cap3])) := ⟨by rw [hwz]; exact HC5.out.set HK5.out⟩
          clear hwz
          refine mixl_seg (by kernel_rfl) (fun _ _ d _ _ h => by cases d <;> exact h) [11] [_] 0 1 rfl _ _ _ rfl (by kernel_rfl) (growBC HRZ2.out) ?_
          repeat (go_big_quiet_step (fail))
          refine wpQuiet_nil ?_
          refine mix_done (by kernel_rfl) (growBC HRZ2.out) ?_
          clear HK5 HC5 HB5 HB4 HDW
          have HGE2 : Hold (wz1.heap.size ≤ db2) := HLE2
          have HR12 := Hold.mk (HRZ1.out.trans (HRZ2.out.mono HRZ1.out.size))
          have HD1 := Hold.mk (kept HDX1.out HRZ2.out)
          have HC1 := Hold.mk (HCZ1.out.mono (cle_below HRZ2.out))
          have yd : wz2.cell? ⟨db1, 0, none⟩ = some (.slice a1 lr.length cap1) := by
            have := HD1.out
            simp [World.cell?, this]
          have yv : wz2.cell? ⟨db2, 0, none⟩ = some (.slice a3 lr.length cap3) := by
            have := HDX2.out
            simp [World.cell?, this]
          have k1 := cle_below HR12.out _ _ _ (HOC.out 1 _ rfl)
          unfold cf at k1
          have g0 := GrowB.cell yd (lt_of_cell yd)
          have g1 := GrowB.cell yv (lt_of_cell yv)
          have g2 := GrowB.cell k1 (lt_of_cell k1)
          clear yd yv k1
          go_upto_region 9 with (fail)
          refine wp_region_mixC (GrowBC wz2.heap.size wz2) 35 rfl (by kernel_rfl) ?_
          have HDW := Hold.mk ((Below.refl wz2.heap.size wz2).drew)
          generalize wz2.drew = v9 at HDW ⊢
          refine mixl_seg (by kernel_rfl) (fun _ _ d _ _ h => by cases d <;> exact h) [0, 1, 2, 3, 4, 6] [_, _, _, _, _, _] 29 35 rfl _ _ _ rfl (by kernel_rfl) (growBC HDW.out) ?_
          repeat (go_big_quiet_step (fail))
          refine wpQuiet_nil ?_
          have HP1 := Hold.mk (lplainC_any lr (.agg #[.slice a1 lr.length cap1]) v9 (HC1.out.mono (cle_below HDW.out)) (good_small HGL.out).2.2.1)
          refine mixl_act (i := 5) rfl (by kernel_rfl) (growBC HDW.out) rfl (fun K hK => ?_)
          go_wp2_with fail
          refine HP1.out.mono ?_
          rintro e u1 ⟨p1, rfl, hp1, hu1⟩
          have HU1 := Hold.mk (HDW.out.trans (hu1.mono HDW.out.size))
          have HS1 := Hold.mk (rSameC_any lr p1 (.agg #[.slice a3 lr.length cap3]) u1 hp1 (HCZ2.out.mono (cle_below HU1.out)))
          clear hp1 hu1 HP1
          go_wp2_with fail
          refine mixl_act (i := 7) rfl (by kernel_rfl) (growBC HU1.out) rfl (fun K hK => ?_)
          go_wp2_with fail
          refine HS1.out.mono ?_
          rintro e u2 ⟨rfl, hu2⟩
          have HU2 := Hold.mk (HU1.out.trans (hu2.mono HU1.out.size))
          clear hu2 HS1
          go_wp2_with fail
          refine mixl_seg (by kernel_rfl) (fun _ _ d _ _ h => by cases d <;> exact h) [8, 9, 10, 11, 12, 13, 14, 15, 16, 18, 19, 20, 21, 22, 23] [_, _, _, _, _, _, _, _, _, _, _, _, _, _, _] 12 27 rfl _ _ _ rfl (by kernel_rfl) (growBC HU2.out) ?_
          repeat (go_big_quiet_step (fail))
          refine wpQuiet_nil ?_
          have HF1 := Hold.mk (Find_any lr (.agg #[.slice a1 lr.length cap1]) nm u2 (HC1.out.mono (cle_below HU2.out)))
          refine mixl_act (i := 17) rfl (by kernel_rfl) (growBC HU2.out) rfl (fun K hK => ?_)
          go_wp2_with fail
          refine HF1.out.mono ?_
          rintro e u3 ⟨rfl, hu3⟩
          have HU3 := Hold.mk (HU2.out.trans (hu3.mono HU2.out.size))
          have HF2 := Hold.mk (rFind_any lr (.agg #[.slice a3 lr.length cap3]) nm u3 (HCZ2.out.mono (cle_below HU3.out)))
          clear hu3 HF1
          generalize findI (nameIs nm) lr = fi at *
          go_wp2_with fail
          refine mixl_act (i := 24) rfl (by kernel_rfl) (growBC HU3.out) rfl (fun K hK => ?_)
          go_wp2_with fail
          refine HF2.out.mono ?_
          rintro e u4 ⟨rfl, hu4⟩
          have HU4 := Hold.mk (HU3.out.trans (hu4.mono HU3.out.size))
          clear hu4 HF2
          go_wp2_with fail
          refine mixl_seg (by kernel_rfl) (fun _ _ d _ _ h => by cases d <;> exact h) [25, 26, 27, 28, 30] [_, _, _, _, _] 5 10 rfl _ _ _ rfl (by kernel_rfl) (growBC HU4.out) ?_
          repeat (go_big_quiet_step (fail))
          refine wpQuiet_nil ?_
          have HP3 := Hold.mk (Spaces_any lr (.agg #[.slice a1 lr.length cap1]) u4 (HC1.out.mono (cle_below HU4.out)) (good_small HGL.out).2.2.2)
          refine mixl_act (i := 29) rfl (by kernel_rfl) (growBC HU4.out) rfl (fun K hK => ?_)
          go_wp2_with fail
          refine HP3.out.mono ?_
          rintro e u5 ⟨s1, n1, c1, rfl, hs1, hu5⟩
          have HU5 := Hold.mk (HU4.out.trans (hu5.mono HU4.out.size))
          have HO1 := Hold.mk (hs1.at_ RInt_mono)
          have HP4 := Hold.mk (rSpaces_any lr (.agg #[.slice a3 lr.length cap3]) u5 (HCZ2.out.mono (cle_below HU5.out)) (good_small HGL.out).2.2.2)
          clear hs1 hu5 HP3
          go_wp2_with fail
          refine mixl_act (i := 31) rfl (by kernel_rfl) (growBC HU5.out) rfl (fun K hK => ?_)
          go_wp2_with fail
          refine HP4.out.mono ?_
          rintro e u6 ⟨s2, n2, c2, rfl, hs2, hu6⟩
          have HU6 := Hold.mk (HU5.out.trans (hu6.mono HU5.out.size))
          have HIN := Hold.mk (ints_any (spacesC lr) s1 s2 u6 (HO1.out.mono RInt_mono (cle_below hu6)) (hs2.at_ RInt_mono))
          clear hs2 hu6 HP4
          go_wp2_with fail
          refine mixl_act (i := 32) rfl (by kernel_rfl) (growBC HU6.out) rfl (fun K hK => ?_)
          go_wp2_with fail
          refine HIN.out.mono ?_
          rintro e u7 ⟨rfl, hu7⟩
          have HU7 := Hold.mk (HU6.out.trans (hu7.mono HU6.out.size))
          clear hu7 HIN
          go_wp2_with fail
          refine mixl_seg (by kernel_rfl) (fun _ _ d _ _ h => by cases d <;> exact h) [33, 34] [_, _] 0 2 rfl _ _ _ rfl (by kernel_rfl) (growBC HU7.out) ?_
          repeat (go_big_quiet_step (fail))
          refine wpQuiet_nil ?_
          refine mix_done (by kernel_rfl) (growBC HU7.out) ?_
          clear g0 g1 g2
          have HB7 := Hold.mk (HR12.out.trans (HU7.out.mono HR12.out.size))
          have hd1 := kept HD1.out HU7.out
          have hd2 := kept HDX2.out HU7.out
          have yd : u7.cell? ⟨db1, 0, none⟩ = some (.slice a1 lr.length cap1) := by simp [World.cell?, hd1]
          have yv : u7.cell? ⟨db2, 0, none⟩ = some (.slice a3 lr.length cap3) := by simp [World.cell?, hd2]
          have g0 := BoxT2.fst (y := db2) yd
          have g1 := BoxT2.snd (x := db1) yv
          have HN := Hold.mk (HCI.out.next HGL.out HB7.out (HC1.out.mono (cle_below HU7.out)) (HCZ2.out.mono (cle_below HU7.out)))
          have HNE : Hold (db1 ≠ w.heap.size ∧ db2 ≠ w.heap.size ∧ db1 ≠ wb ∧ db2 ≠ wb) := ⟨by
            have h1 := heap_lt HCI.out.cbox
            have h2 := heap_lt HCI.out.wbox
            have h3 := HGE1.out
            have h4 := HGE2.out
            have h5 := HRZ1.out.size
            omega⟩
          have hck := kept HCI.out.cbox HB7.out
          have hwk := kept HCI.out.wbox HB7.out
          have HWK := Hold.mk hwk
          clear yd yv hd1 hd2 hwk
          go_upto_region 11 with (fail)
          refine wp_region_mixC (BoxC2 db1 db2 u7) 4 rfl (by kernel_rfl) ?_
          obtain ⟨w9, hw9⟩ : ∃ w9, w9 = u7.drew := ⟨_, rfl⟩
          rw [← hw9]
          have hc9 : w9.heap[w.heap.size]? = some (.cells #[.slice a l.length cap] 51 (0, 0)) := by rw [hw9]; exact hck
          have HW9 : Hold (w9.heap[wb]? = some (.cells #[.slice a2 l.length cap2] 57 (0, 0))) := ⟨by rw [hw9]; exact HWK.out⟩
          have H9 : Hold (w9.heap[db1]? = u7.heap[db1]? ∧ w9.heap[db2]? = u7.heap[db2]?) := ⟨by rw [hw9]; exact ⟨rfl, rfl⟩⟩
          have HN9 : Hold (CJ w ((w9.setCell ⟨w.heap.size, 0, none⟩ (.slice a1 lr.length cap1)).setCell ⟨wb, 0, none⟩ (.slice a3 lr.length cap3)) wb lr a1 cap1 a3 cap3) := ⟨by
            have hb : Below u7.heap.size u7 w9 := by rw [hw9]; exact (Below.refl _ _).drew
            exact HCI.out.next HGL.out (HB7.out.trans (hb.mono HB7.out.size)) ((HC1.out.mono (cle_below HU7.out)).mono (cle_below hb)) ((HCZ2.out.mono (cle_below HU7.out)).mono (cle_below hb))⟩
          clear hw9 hck HN
          refine mixl_seg (by kernel_rfl) (fun _ _ d _ _ h => by cases d <;> exact h) [0, 1] [_, _] 2 4 rfl _ _ _ rfl (by kernel_rfl) (boxC2 H9.out.1 H9.out.2) ?_
          repeat (go_big_quiet_step (fail))
          refine wpQuiet_nil ?_
          clear g0 g1
          have hf1 : w9.frozen? ⟨w.heap.size, 0, none⟩ = false := free_box hc9 0
          have hx1 : w9.cell? ⟨w.heap.size, 0, none⟩ = some (.slice a l.length cap) := by simp [World.cell?, hc9]
          refine mixl_act (i := 2) rfl (by kernel_rfl) (boxC2 H9.out.1 H9.out.2) rfl (fun K hK => ?_)
          go_wp2_with fail
          clear hf1 hx1 hc9
          obtain ⟨wA, hwA⟩ : ∃ wA, wA = w9.setCell ⟨w.heap.size, 0, none⟩ (.slice a1 lr.length cap1) := ⟨_, rfl⟩
          rw [← hwA] at HN9 ⊢
          have hwk : wA.heap[wb]? = some (.cells #[.slice a2 l.length cap2] 57 (0, 0)) := by
            rw [hwA, Below.heap_setCell _ _ _ _ (show wb ≠ w.heap.size by have := HCI.out.ge; omega)]; exact HW9.out
          have HA : Hold (wA.heap[db1]? = u7.heap[db1]? ∧ wA.heap[db2]? = u7.heap[db2]?) := ⟨by
            rw [hwA, Below.heap_setCell _ _ _ _ HNE.out.1, Below.heap_setCell _ _ _ _ HNE.out.2.1]; exact H9.out⟩
          have hf1 : wA.frozen? ⟨wb, 0, none⟩ = false := free_box hwk 0
          have hx1 : wA.cell? ⟨wb, 0, none⟩ = some (.slice a2 l.length cap2) := by simp [World.cell?, hwk]
          clear hwA hwk
          refine mixl_act (i := 3) rfl (by kernel_rfl) (boxC2 HA.out.1 HA.out.2) rfl (fun K hK => ?_)
          go_wp2_with fail
          clear hf1 hx1
          refine mix_done (by kernel_rfl) (boxC2 (by rw [Below.heap_setCell _ _ _ _ HNE.out.2.2.1]; exact HA.out.1) (by rw [Below.heap_setCell _ _ _ _ HNE.out.2.2.2]; exact HA.out.2)) ?_
          go_wp2_with fail
          exact ⟨⟨j + 1, by go_num, hlt, lr, a1, cap1, a3, cap3, HN9.out⟩, by simp [intOf]; omega⟩
        · go_wp2_with fail
          obtain ⟨db2, hdb⟩ : ∃ db, db = v9.heap.size := ⟨_, rfl⟩
          obtain ⟨W5, hW5⟩ : ∃ W5, W5 = v9.alloc (.cells #[.slice none 0 0] 57) := ⟨_, rfl⟩
          rw [← hW5, ← hdb]
          have hb5 : Below v9.heap.size v9 W5 := by rw [hW5]; exact (Below.refl _ v9).alloc (Nat.le_refl _) _
          have hk5 : W5.heap[db2]? = some (.cells #[.slice none 0 0] 57 (0, 0)) := by rw [hW5, hdb]; exact heap_alloc_new v9 _
          have HK5 := Hold.mk hk5
          have HB5 := Hold.mk (HDW.out.trans (hb5.mono HDW.out.size))
          have HLE2 : Hold (wz1.heap.size ≤ db2) := ⟨by rw [hdb]; exact HDW.out.size⟩
          clear hW5 hb5 hk5 hdb
          have HAC := Hold.mk (acted_any l (.agg #[.slice a2 l.length cap2]) ⟨kd, nm, ⟨xn, fl, u⟩⟩ fa fcap W5 (HCI.out.cat2.mono (cle_below (HRZ1.out.trans (HB5.out.mono HRZ1.out.size)))) (good_small HCI.out.good).1 (good_small HCI.out.good).2.2.2 HNM.out (HX.out.mono (cle_below (HRZ1.out.trans (HB5.out.mono HRZ1.out.size)))) (fewI_small HFW.out) (by have := fewI_len HFW.out; simp only at this ⊢; omega))
          refine mixl_act (i := 5) rfl (by kernel_rfl) (growBC HB5.out) rfl (fun K hK => ?_)
          go_wp2_with fail
          refine HAC.out.mono ?_
          rintro e w4 ⟨v1, rfl, hcat, hb4⟩
          rw [← HRR.out] at hcat ⊢
          obtain ⟨a3, cap3, rfl, hs1⟩ := hcat
          have hc4 : CatAt (cf w4) lr (.agg #[.slice a3 lr.length cap3]) := ⟨a3, cap3, rfl, hs1⟩
          simp only
          clear HAC hs1
          have HB4 := Hold.mk (HB5.out.trans (hb4.mono HB5.out.size))
          have HC4 := Hold.mk hc4
          have hk4 := kept HK5.out hb4
          have HK4 := Hold.mk hk4
          clear hb4 hc4
          go_wp2_with fail
          refine mixl_seg (by kernel_rfl) (fun _ _ d _ _ h => by cases d <;> exact h) [6, 7, 8] [_, _, _] 2 5 rfl _ _ _ rfl (by kernel_rfl) (growBC HB4.out) ?_
          repeat (go_big_quiet_step (fail))
          refine wpQuiet_nil ?_
          have hf : w4.frozen? ⟨db2, 0, none⟩ = false := free_box hk4 0
          have hx : w4.cell? ⟨db2, 0, none⟩ = some (.slice none 0 0) := by simp [World.cell?, hk4]
          clear hk4
          refine mixl_act (i := 10) rfl (by kernel_rfl) (growBC HB4.out) rfl (fun K hK => ?_)
          go_wp2_with fail
          clear hf hx
          obtain ⟨wz2, hwz⟩ : ∃ wz, wz = w4.setCell ⟨db2, 0, none⟩ (.slice a3 lr.length cap3) := ⟨_, rfl⟩
          rw [← hwz]
          have HDX2 : Hold (wz2.heap[db2]? = some (.cells #[.slice a3 lr.length cap3] 57 (0, 0))) := ⟨by
            rw [hwz]
            have := set_self (o := 0) (c := .slice a3 lr.length cap3) HK4.out
            simpa using this⟩
          have HRZ2 : Hold (Below wz1.heap.size wz1 wz2) := ⟨by rw [hwz]; exact HB4.out.setCell (p := ⟨db2, 0, none⟩) HLE2.out _⟩
          have HCZ2 : Hold (CatAt (cf wz2) lr (.agg #[.slice a3 lr.length cap3])) := ⟨by rw [hwz]; exact HC4.out.set HK4.out⟩
          clear hwz
          refine mixl_seg (by kernel_rfl) (fun _ _ d _ _ h => by cases d <;> exact h) [11] [_] 0 1 rfl _ _ _ rfl (by kernel_rfl) (growBC HRZ2.out) ?_
          repeat (go_big_quiet_step (fail))
          refine wpQuiet_nil ?_
          refine mix_done (by kernel_rfl) (growBC HRZ2.out) ?_
          clear HK5 HK4 HC4 HB5 HB4 HDW
          have HGE2 : Hold (wz1.heap.size ≤ db2) := HLE2
          have HR12 := Hold.mk (HRZ1.out.trans (HRZ2.out.mono HRZ1.out.size))
          have HD1 := Hold.mk (kept HDX1.out HRZ2.out)
          have HC1 := Hold.mk (HCZ1.out.mono (cle_below HRZ2.out))
          have yd : wz2.cell? ⟨db1, 0, none⟩ = some (.slice a1 lr.length cap1) := by
            have := HD1.out
            simp [World.cell?, this]
          have yv : wz2.cell? ⟨db2, 0, none⟩ = some (.slice a3 lr.length cap3) := by
            have := HDX2.out
            simp [World.cell?, this]
          have k1 := cle_below HR12.out _ _ _ (HOC.out 1 _ rfl)
          unfold cf at k1
          have g0 := GrowB.cell yd (lt_of_cell yd)
          have g1 := GrowB.cell yv (lt_of_cell yv)
          have g2 := GrowB.cell k1 (lt_of_cell k1)
          clear yd yv k1
          go_upto_region 9 with (fail)
          refine wp_region_mixC (GrowBC wz2.heap.size wz2) 35 rfl (by kernel_rfl) ?_
          have HDW := Hold.mk ((Below.refl wz2.heap.size wz2).drew)
          generalize wz2.drew = v9 at HDW ⊢
          refine mixl_seg (by kernel_rfl) (fun _ _ d _ _ h => by cases d <;> exact h) [0, 1, 2, 3, 4, 6] [_, _, _, _, _, _] 29 35 rfl _ _ _ rfl (by kernel_rfl) (growBC HDW.out) ?_
          repeat (go_big_quiet_step (fail))
          refine wpQuiet_nil ?_
          have HP1 := Hold.mk (lplainC_any lr (.agg #[.slice a1 lr.length cap1]) v9 (HC1.out.mono (cle_below HDW.out)) (good_small HGL.out).2.2.1)
          refine mixl_act (i := 5) rfl (by kernel_rfl) (growBC HDW.out) rfl (fun K hK => ?_)
          go_wp2_with fail
          refine HP1.out.mono ?_
          rintro e u1 ⟨p1, rfl, hp1, hu1⟩
          have HU1 := Hold.mk (HDW.out.trans (hu1.mono HDW.out.size))
          have HS1 := Hold.mk (rSameC_any lr p1 (.agg #[.slice a3 lr.length cap3]) u1 hp1 (HCZ2.out.mono (cle_below HU1.out)))
          clear hp1 hu1 HP1
          go_wp2_with fail
          refine mixl_act (i := 7) rfl (by kernel_rfl) (growBC HU1.out) rfl (fun K hK => ?_)
          go_wp2_with fail
          refine HS1.out.mono ?_
          rintro e u2 ⟨rfl, hu2⟩
          have HU2 := Hold.mk (HU1.out.trans (hu2.mono HU1.out.size))
          clear hu2 HS1
          go_wp2_with fail
          refine mixl_seg (by kernel_rfl) (fun _ _ d _ _ h => by cases d <;> exact h) [8, 9, 10, 11, 12, 13, 14, 15, 16, 18, 19, 20, 21, 22, 23] [_, _, _, _, _, _, _, _, _, _, _, _, _, _, _] 12 27 rfl _ _ _ rfl (by kernel_rfl) (growBC HU2.out) ?_
          repeat (go_big_quiet_step (fail))
          refine wpQuiet_nil ?_
          have HF1 := Hold.mk (Find_any lr (.agg #[.slice a1 lr.length cap1]) nm u2 (HC1.out.mono (cle_below HU2.out)))
          refine mixl_act (i := 17) rfl (by kernel_rfl) (growBC HU2.out) rfl (fun K hK => ?_)
          go_wp2_with fail
          refine HF1.out.mono ?_
          rintro e u3 ⟨rfl, hu3⟩
          have HU3 := Hold.mk (HU2.out.trans (hu3.mono HU2.out.size))
          have HF2 := Hold.mk (rFind_any lr (.agg #[.slice a3 lr.length cap3]) nm u3 (HCZ2.out.mono (cle_below HU3.out)))
          clear hu3 HF1
          generalize findI (nameIs nm) lr = fi at *
          go_wp2_with fail
          refine mixl_act (i := 24) rfl (by kernel_rfl) (growBC HU3.out) rfl (fun K hK => ?_)
          go_wp2_with fail
          refine HF2.out.mono ?_
          rintro e u4 ⟨rfl, hu4⟩
          have HU4 := Hold.mk (HU3.out.trans (hu4.mono HU3.out.size))
          clear hu4 HF2
          go_wp2_with fail
          refine mixl_seg (by kernel_rfl) (fun _ _ d _ _ h => by cases d <;> exact h) [25, 26, 27, 28, 30] [_, _, _, _, _] 5 10 rfl _ _ _ rfl (by kernel_rfl) (growBC HU4.out) ?_
          repeat (go_big_quiet_step (fail))
          refine wpQuiet_nil ?_
          have HP3 := Hold.mk (Spaces_any lr (.agg #[.slice a1 lr.length cap1]) u4 (HC1.out.mono (cle_below HU4.out)) (good_small HGL.out).2.2.2)
          refine mixl_act (i := 29) rfl (by kernel_rfl) (growBC HU4.out) rfl (fun K hK => ?_)
          go_wp2_with fail
          refine HP3.out.mono ?_
          rintro e u5 ⟨s1, n1, c1, rfl, hs1, hu5⟩
          have HU5 := Hold.mk (HU4.out.trans (hu5.mono HU4.out.size))
          have HO1 := Hold.mk (hs1.at_ RInt_mono)
          have HP4 := Hold.mk (rSpaces_any lr (.agg #[.slice a3 lr.length cap3]) u5 (HCZ2.out.mono (cle_below HU5.out)) (good_small HGL.out).2.2.2)
          clear hs1 hu5 HP3
          go_wp2_with fail
          refine mixl_act (i := 31) rfl (by kernel_rfl) (growBC HU5.out) rfl (fun K hK => ?_)
          go_wp2_with fail
          refine HP4.out.mono ?_
          rintro e u6 ⟨s2, n2, c2, rfl, hs2, hu6⟩
          have HU6 := Hold.mk (HU5.out.trans (hu6.mono HU5.out.size))
          have HIN := Hold.mk (ints_any (spacesC lr) s1 s2 u6 (HO1.out.mono RInt_mono (cle_below hu6)) (hs2.at_ RInt_mono))
          clear hs2 hu6 HP4
          go_wp2_with fail
          refine mixl_act (i := 32) rfl (by kernel_rfl) (growBC HU6.out) rfl (fun K hK => ?_)
          go_wp2_with fail
          refine HIN.out.mono ?_
          rintro e u7 ⟨rfl, hu7⟩
          have HU7 := Hold.mk (HU6.out.trans (hu7.mono HU6.out.size))
          clear hu7 HIN
          go_wp2_with fail
          refine mixl_seg (by kernel_rfl) (fun _ _ d _ _ h => by cases d <;> exact h) [33, 34] [_, _] 0 2 rfl _ _ _ rfl (by kernel_rfl) (growBC HU7.out) ?_
          repeat (go_big_quiet_step (fail))
          refine wpQuiet_nil ?_
          refine mix_done (by kernel_rfl) (growBC HU7.out) ?_
          clear g0 g1 g2
          have HB7 := Hold.mk (HR12.out.trans (HU7.out.mono HR12.out.size))
          have hd1 := kept HD1.out HU7.out
          have hd2 := kept HDX2.out HU7.out
          have yd : u7.cell? ⟨db1, 0, none⟩ = some (.slice a1 lr.length cap1) := by simp [World.cell?, hd1]
          have yv : u7.cell? ⟨db2, 0, none⟩ = some (.slice a3 lr.length cap3) := by simp [World.cell?, hd2]
          have g0 := BoxT2.fst (y := db2) yd
          have g1 := BoxT2.snd (x := db1) yv
          have HN := Hold.mk (HCI.out.next HGL.out HB7.out (HC1.out.mono (cle_below HU7.out)) (HCZ2.out.mono (cle_below HU7.out)))
          have HNE : Hold (db1 ≠ w.heap.size ∧ db2 ≠ w.heap.size ∧ db1 ≠ wb ∧ db2 ≠ wb) := ⟨by
            have h1 := heap_lt HCI.out.cbox
            have h2 := heap_lt HCI.out.wbox
            have h3 := HGE1.out
            have h4 := HGE2.out
            have h5 := HRZ1.out.size
            omega⟩
          have hck := kept HCI.out.cbox HB7.out
          have hwk := kept HCI.out.wbox HB7.out
          have HWK := Hold.mk hwk
          clear yd yv hd1 hd2 hwk
          go_upto_region 11 with (fail)
          refine wp_region_mixC (BoxC2 db1 db2 u7) 4 rfl (by kernel_rfl) ?_
          obtain ⟨w9, hw9⟩ : ∃ w9, w9 = u7.drew := ⟨_, rfl⟩
          rw [← hw9]
          have hc9 : w9.heap[w.heap.size]? = some (.cells #[.slice a l.length cap] 51 (0, 0)) := by rw [hw9]; exact hck
          have HW9 : Hold (w9.heap[wb]? = some (.cells #[.slice a2 l.length cap2] 57 (0, 0))) := ⟨by rw [hw9]; exact HWK.out⟩
          have H9 : Hold (w9.heap[db1]? = u7.heap[db1]? ∧ w9.heap[db2]? = u7.heap[db2]?) := ⟨by rw [hw9]; exact ⟨rfl, rfl⟩⟩
          have HN9 : Hold (CJ w ((w9.setCell ⟨w.heap.size, 0, none⟩ (.slice a1 lr.length cap1)).setCell ⟨wb, 0, none⟩ (.slice a3 lr.length cap3)) wb lr a1 cap1 a3 cap3) := ⟨by
            have hb : Below u7.heap.size u7 w9 := by rw [hw9]; exact (Below.refl _ _).drew
            exact HCI.out.next HGL.out (HB7.out.trans (hb.mono HB7.out.size)) ((HC1.out.mono (cle_below HU7.out)).mono (cle_below hb)) ((HCZ2.out.mono (cle_below HU7.out)).mono (cle_below hb))⟩
          clear hw9 hck HN
          refine mixl_seg (by kernel_rfl) (fun _ _ d _ _ h => by cases d <;> exact h) [0, 1] [_, _] 2 4 rfl _ _ _ rfl (by kernel_rfl) (boxC2 H9.out.1 H9.out.2) ?_
          repeat (go_big_quiet_step (fail))
          refine wpQuiet_nil ?_
          clear g0 g1
          have hf1 : w9.frozen? ⟨w.heap.size, 0, none⟩ = false := free_box hc9 0
          have hx1 : w9.cell? ⟨w.heap.size, 0, none⟩ = some (.slice a l.length cap) := by simp [World.cell?, hc9]
          refine mixl_act (i := 2) rfl (by kernel_rfl) (boxC2 H9.out.1 H9.out.2) rfl (fun K hK => ?_)
          go_wp2_with fail
          clear hf1 hx1 hc9
          obtain ⟨wA, hwA⟩ : ∃ wA, wA = w9.setCell ⟨w.heap.size, 0, none⟩ (.slice a1 lr.length cap1) := ⟨_, rfl⟩
          rw [← hwA] at HN9 ⊢
          have hwk : wA.heap[wb]? = some (.cells #[.slice a2 l.length cap2] 57 (0, 0)) := by
            rw [hwA, Below.heap_setCell _ _ _ _ (show wb ≠ w.heap.size by have := HCI.out.ge; omega)]; exact HW9.out
          have HA : Hold (wA.heap[db1]? = u7.heap[db1]? ∧ wA.heap[db2]? = u7.heap[db2]?) := ⟨by
            rw [hwA, Below.heap_setCell _ _ _ _ HNE.out.1, Below.heap_setCell _ _ _ _ HNE.out.2.1]; exact H9.out⟩
          have hf1 : wA.frozen? ⟨wb, 0, none⟩ = false := free_box hwk 0
          have hx1 : wA.cell? ⟨wb, 0, none⟩ = some (.slice a2 l.length cap2) := by simp [World.cell?, hwk]
          clear hwA hwk
          refine mixl_act (i := 3) rfl (by kernel_rfl) (boxC2 HA.out.1 HA.out.2) rfl (fun K hK => ?_)
          go_wp2_with fail
          clear hf1 hx1
          refine mix_done (by kernel_rfl) (boxC2 (by rw [Below.heap_setCell _ _ _ _ HNE.out.2.2.1]; exact HA.out.1) (by rw [Below.heap_setCell _ _ _ _ HNE.out.2.2.2]; exact HA.out.2)) ?_
          go_wp2_with fail
          exact ⟨⟨j + 1, by go_num, hlt, lr, a1, cap1, a3, cap3, HN9.out⟩, by simp [intOf]; omega⟩
      · go_wp2_with fail
        obtain ⟨db1, hdb⟩ : ∃ db, db = v9.heap.size := ⟨_, rfl⟩
        obtain ⟨W5, hW5⟩ : ∃ W5, W5 = v9.alloc (.cells #[.slice none 0 0] 51) := ⟨_, rfl⟩
        rw [← hW5, ← hdb]
        have hb5 : Below v9.heap.size v9 W5 := by rw [hW5]; exact (Below.refl _ v9).alloc (Nat.le_refl _) _
        have hk5 : W5.heap[db1]? = some (.cells #[.slice none 0 0] 51 (0, 0)) := by rw [hW5, hdb]; exact heap_alloc_new v9 _
        have HK5 := Hold.mk hk5
        have HB5 := Hold.mk (HDW.out.trans (hb5.mono HDW.out.size))
        have HLE1 : Hold (wr.heap.size ≤ db1) := ⟨by rw [hdb]; exact HDW.out.size⟩
        clear hW5 hb5 hk5 hdb
        have HAC := Hold.mk (act_any l (.agg #[.slice a l.length cap]) ⟨kd, nm, ⟨xn, fl, u⟩⟩ fa fcap W5 (HCI.out.cat.mono (cle_below HB5.out)) (good_small HCI.out.good).1 (good_small HCI.out.good).2.1 HNM.out (HX.out.mono (cle_below HB5.out)) (fewI_small HFW.out) (by have := fewI_len HFW.out; simp only at this ⊢; omega) ((HT.out.below HCI.out.bel).below HB5.out))
        refine mixl_act (i := 5) rfl (by kernel_rfl) (growBC HB5.out) rfl (fun K hK => ?_)
        go_wp2_with fail
        refine HAC.out.mono ?_
        rintro e w4 ⟨v1, rfl, hcat, hb4⟩
        obtain ⟨⟨lr, z⟩, hrr⟩ : ∃ r, r = actF l ⟨kd, nm, ⟨xn, fl, u⟩⟩ := ⟨_, rfl⟩
        have HRR := Hold.mk hrr
        rw [← hrr] at hcat ⊢
        obtain ⟨a1, cap1, rfl, hs1⟩ := hcat
        have HGL : Hold (GoodC lr) := ⟨by
          have := good_act (l := l) (o := ⟨kd, nm, ⟨xn, fl, u⟩⟩) HCI.out.good
          rw [← hrr] at this; exact this⟩
        have hc4 : CatAt (cf w4) lr (.agg #[.slice a1 lr.length cap1]) := ⟨a1, cap1, rfl, hs1⟩
        simp only
        clear HAC hs1 hrr
        have HB4 := Hold.mk (HB5.out.trans (hb4.mono HB5.out.size))
        have HC4 := Hold.mk hc4
        have hk4 := kept HK5.out hb4
        have HK4 := Hold.mk hk4
        clear hb4 hc4
        go_wp2_with fail
        refine mixl_seg (by kernel_rfl) (fun _ _ d _ _ h => by cases d <;> exact h) [6, 7, 8] [_, _, _] 2 5 rfl _ _ _ rfl (by kernel_rfl) (growBC HB4.out) ?_
        repeat (go_big_quiet_step (fail))
        refine wpQuiet_nil ?_
        have hf : w4.frozen? ⟨db1, 0, none⟩ = false := free_box hk4 0
        have hx : w4.cell? ⟨db1, 0, none⟩ = some (.slice none 0 0) := by simp [World.cell?, hk4]
        clear hk4
        refine mixl_act (i := 10) rfl (by kernel_rfl) (growBC HB4.out) rfl (fun K hK => ?_)
        go_wp2_with fail
        clear hf hx
        obtain ⟨wz1, hwz⟩ : ∃ wz, wz = w4.setCell ⟨db1, 0, none⟩ (.slice a1 lr.length cap1) := ⟨_, rfl⟩
        rw [← hwz]
        have HDX1 : Hold (wz1.heap[db1]? = some (.cells #[.slice a1 lr.length cap1] 51 (0, 0))) := ⟨by
          rw [hwz]
          have := set_self (o := 0) (c := .slice a1 lr.length cap1) HK4.out
          simpa using this⟩
        have HRZ1 : Hold (Below wr.heap.size wr wz1) := ⟨by rw [hwz]; exact HB4.out.setCell (p := ⟨db1, 0, none⟩) HLE1.out _⟩
        have HCZ1 : Hold (CatAt (cf wz1) lr (.agg #[.slice a1 lr.length cap1])) := ⟨by rw [hwz]; exact HC4.out.set HK4.out⟩
        clear hwz
        refine mixl_seg (by kernel_rfl) (fun _ _ d _ _ h => by cases d <;> exact h) [11] [_] 0 1 rfl _ _ _ rfl (by kernel_rfl) (growBC HRZ1.out) ?_
        repeat (go_big_quiet_step (fail))
        refine wpQuiet_nil ?_
        refine mix_done (by kernel_rfl) (growBC HRZ1.out) ?_
        clear HK5 HK4 HC4 HB5 HB4 HDW
        have HGE1 : Hold (wr.heap.size ≤ db1) := HLE1
        have HBX2 := Hold.mk (kept HCI.out.wbox HRZ1.out)
        have y0 : wz1.cell? ⟨wb, 0, none⟩ = some (.slice a2 l.length cap2) := by
          have := HBX2.out
          simp [World.cell?, this]
        have k0 : wz1.cell? ⟨b, off + j * 5, none⟩ = some (.int .i64 kd) := cle_below HRZ1.out _ _ _ (HOC.out 0 _ rfl)
        have k1 := cle_below HRZ1.out _ _ _ (HOC.out 1 _ rfl)
        have k2 := cle_below HRZ1.out _ _ _ (HOC.out 2 _ rfl)
        have k3 := cle_below HRZ1.out _ _ _ (HOC.out 3 _ rfl)
        have k4 := cle_below HRZ1.out _ _ _ (HOC.out 4 _ rfl)
        unfold cf at k1 k2 k3 k4
        have g0 := GrowB.cell y0 (lt_of_cell y0)
        have g1 := GrowB.cell k0 (lt_of_cell k0)
        have g2 := GrowB.cell k1 (lt_of_cell k1)
        have g3 := GrowB.cell k2 (lt_of_cell k2)
        have g4 := GrowB.cell k3 (lt_of_cell k3)
        have g5 := GrowB.cell k4 (lt_of_cell k4)
        clear y0 k0 k1 k2 k3 k4
        go_upto_region 8 with (fail)
        refine wp_region_mixC (GrowBC wz1.heap.size wz1) 12 rfl (by kernel_rfl) ?_
        have HDW := Hold.mk ((Below.refl wz1.heap.size wz1).drew)
        generalize wz1.drew = v9 at HDW ⊢
        refine mixl_seg (by kernel_rfl) (fun _ _ d _ _ h => by cases d <;> exact h) [0, 1, 2, 3, 4] [_, _, _, _, _] 7 12 rfl _ _ _ rfl (by kernel_rfl) (growBC HDW.out) ?_
        repeat (go_big_quiet_step (fail))
        refine wpQuiet_nil ?_
        clear g0 g1 g2 g3 g4 g5
        refine mixl_two (i := 5) (j := 9) rfl rfl (by kernel_rfl) (growBC HDW.out) rfl rfl (fun K hK => ?_) (fun K hK => ?_)
        · have HAC := Hold.mk (acted_any l (.agg #[.slice a2 l.length cap2]) ⟨kd, nm, ⟨xn, fl, u⟩⟩ fa fcap v9 (HCI.out.cat2.mono (cle_below (HRZ1.out.trans (HDW.out.mono HRZ1.out.size)))) (good_small HCI.out.good).1 (good_small HCI.out.good).2.2.2 HNM.out (HX.out.mono (cle_below (HRZ1.out.trans (HDW.out.mono HRZ1.out.size)))) (fewI_small HFW.out) (by have := fewI_len HFW.out; simp only at this ⊢; omega))
          go_wp2_with fail
          refine HAC.out.mono ?_
          rintro e w4 ⟨v1, rfl, hcat, hb4⟩
          rw [← HRR.out] at hcat ⊢
          obtain ⟨a3, cap3, rfl, hs1⟩ := hcat
          have hc4 : CatAt (cf w4) lr (.agg #[.slice a3 lr.length cap3]) := ⟨a3, cap3, rfl, hs1⟩
          simp only
          clear HAC hs1
          have HB4 := Hold.mk (HDW.out.trans (hb4.mono HDW.out.size))
          clear hb4
          go_wp2_with fail
          refine mixl_seg (by kernel_rfl) (fun _ _ d _ _ h => by cases d <;> exact h) [6, 7, 8] [_, _, _] 3 6 rfl _ _ _ rfl (by kernel_rfl) (growBC HB4.out) ?_
          repeat (go_big_quiet_step (fail))
          refine wpQuiet_nil ?_
          refine mixl_act (i := 9) rfl (by kernel_rfl) (growBC HB4.out) rfl (fun K hK => ?_)
          go_wp2_with fail
          obtain ⟨db2, hdb⟩ : ∃ db, db = w4.heap.size := ⟨_, rfl⟩
          obtain ⟨W5, hW5⟩ : ∃ W5, W5 = w4.alloc (.cells #[.slice none 0 0] 57) := ⟨_, rfl⟩
          rw [← hW5, ← hdb]
          have hb5 : Below w4.heap.size w4 W5 := by rw [hW5]; exact (Below.refl _ w4).alloc (Nat.le_refl _) _
          have hk5 : W5.heap[db2]? = some (.cells #[.slice none 0 0] 57 (0, 0)) := by rw [hW5, hdb]; exact heap_alloc_new w4 _
          have HK5 := Hold.mk hk5
          have HC5 := Hold.mk (hc4.mono (cle_below hb5))
          have HB5 := Hold.mk (HB4.out.trans (hb5.mono HB4.out.size))
          have hf : W5.frozen? ⟨db2, 0, none⟩ = false := free_box hk5 0
          have hx : W5.cell? ⟨db2, 0, none⟩ = some (.slice none 0 0) := by simp [World.cell?, hk5]
          have hle4 : wz1.heap.size ≤ db2 := by rw [hdb]; exact HB4.out.size
          have HLE2 := Hold.mk hle4
          clear hW5 hb5 hk5 hc4 hdb hle4
          refine mixl_act (i := 10) rfl (by kernel_rfl) (growBC HB5.out) rfl (fun K hK => ?_)
          go_wp2_with fail
          clear hf hx
          obtain ⟨wz2, hwz⟩ : ∃ wz, wz = W5.setCell ⟨db2, 0, none⟩ (.slice a3 lr.length cap3) := ⟨_, rfl⟩
          rw [← hwz]
          have HDX2 : Hold (wz2.heap[db2]? = some (.cells #[.slice a3 lr.length cap3] 57 (0, 0))) := ⟨by
            rw [hwz]
            have := set_self (o := 0) (c := .slice a3 lr.length cap3) HK5.out
            simpa using this⟩
          have HRZ2 : Hold (Below wz1.heap.size wz1 wz2) := ⟨by rw [hwz]; exact HB5.out.setCell (p := ⟨db2, 0, none⟩) HLE2.out _⟩
          have HCZ2 : Hold (CatAt (cf wz2) lr (.agg #[.slice a3 lr.length cap3])) := ⟨by rw [hwz]; exact HC5.out.set HK5.out⟩
          clear hwz
          refine mixl_seg (by kernel_rfl) (fun _ _ d _ _ h => by cases d <;> exact h) [11] [_] 0 1 rfl _ _ _ rfl (by kernel_rfl) (growBC HRZ2.out) ?_
          repeat (go_big_quiet_step (fail))
          refine wpQuiet_nil ?_
          refine mix_done (by kernel_rfl) (growBC HRZ2.out) ?_
          clear HK5 HC5 HB5 HB4 HDW
          have HGE2 : Hold (wz1.heap.size ≤ db2) := HLE2
          have HR12 := Hold.mk (HRZ1.out.trans (HRZ2.out.mono HRZ1.out.size))
          have HD1 := Hold.mk (kept HDX1.out HRZ2.out)
          have HC1 := Hold.mk (HCZ1.out.mono (cle_below HRZ2.out))
          have yd : wz2.cell? ⟨db1, 0, none⟩ = some (.slice a1 lr.length cap1) := by
            have := HD1.out
            simp [World.cell?, this]
          have yv : wz2.cell? ⟨db2, 0, none⟩ = some (.slice a3 lr.length cap3) := by
            have := HDX2.out
            simp [World.cell?, this]
          have k1 := cle_below HR12.out _ _ _ (HOC.out 1 _ rfl)
          unfold cf at k1
          have g0 := GrowB.cell yd (lt_of_cell yd)
          have g1 := GrowB.cell yv (lt_of_cell yv)
          have g2 := GrowB.cell k1 (lt_of_cell k1)
          clear yd yv k1
          go_upto_region 9 with (fail)
          refine wp_region_mixC (GrowBC wz2.heap.size wz2) 35 rfl (by kernel_rfl) ?_
          have HDW := Hold.mk ((Below.refl wz2.heap.size wz2).drew)
          generalize wz2.drew = v9 at HDW ⊢
          refine mixl_seg (by kernel_rfl) (fun _ _ d _ _ h => by cases d <;> exact h) [0, 1, 2, 3, 4, 6] [_, _, _, _, _, _] 29 35 rfl _ _ _ rfl (by kernel_rfl) (growBC HDW.out) ?_
          repeat (go_big_quiet_step (fail))
          refine wpQuiet_nil ?_
          have HP1 := Hold.mk (lplainC_any lr (.agg #[.slice a1 lr.length cap1]) v9 (HC1.out.mono (cle_below HDW.out)) (good_small HGL.out).2.2.1)
          refine mixl_act (i := 5) rfl (by kernel_rfl) (growBC HDW.out) rfl (fun K hK => ?_)
          go_wp2_with fail
          refine HP1.out.mono ?_
          rintro e u1 ⟨p1, rfl, hp1, hu1⟩
          have HU1 := Hold.mk (HDW.out.trans (hu1.mono HDW.out.size))
          have HS1 := Hold.mk (rSameC_any lr p1 (.agg #[.slice a3 lr.length cap3]) u1 hp1 (HCZ2.out.mono (cle_below HU1.out)))
          clear hp1 hu1 HP1
          go_wp2_with fail
          refine mixl_act (i := 7) rfl (by kernel_rfl) (growBC HU1.out) rfl (fun K hK => ?_)
          go_wp2_with fail
          refine HS1.out.mono ?_
          rintro e u2 ⟨rfl, hu2⟩
          have HU2 := Hold.mk (HU1.out.trans (hu2.mono HU1.out.size))
          clear hu2 HS1
          go_wp2_with fail
          refine mixl_seg (by kernel_rfl) (fun _ _ d _ _ h => by cases d <;> exact h) [8, 9, 10, 11, 12, 13, 14, 15, 16, 18, 19, 20, 21, 22, 23] [_, _, _, _, _, _, _, _, _, _, _, _, _, _, _] 12 27 rfl _ _ _ rfl (by kernel_rfl) (growBC HU2.out) ?_
          repeat (go_big_quiet_step (fail))
          refine wpQuiet_nil ?_
          have HF1 := Hold.mk (Find_any lr (.agg #[.slice a1 lr.length cap1]) nm u2 (HC1.out.mono (cle_below HU2.out)))
          refine mixl_act (i := 17) rfl (by kernel_rfl) (growBC HU2.out) rfl (fun K hK => ?_)
          go_wp2_with fail
          refine HF1.out.mono ?_
          rintro e u3 ⟨rfl, hu3⟩
          have HU3 := Hold.mk (HU2.out.trans (hu3.mono HU2.out.size))
          have HF2 := Hold.mk (rFind_any lr (.agg #[.slice a3 lr.length cap3]) nm u3 (HCZ2.out.mono (cle_below HU3.out)))
          clear hu3 HF1
          generalize findI (nameIs nm) lr = fi at *
          go_wp2_with fail
          refine mixl_act (i := 24) rfl (by kernel_rfl) (growBC HU3.out) rfl (fun K hK => ?_)
          go_wp2_with fail
          refine HF2.out.mono ?_
          rintro e u4 ⟨rfl, hu4⟩
          have HU4 := Hold.mk (HU3.out.trans (hu4.mono HU3.out.size))
          clear hu4 HF2
          go_wp2_with fail
          refine mixl_seg (by kernel_rfl) (fun _ _ d _ _ h => by cases d <;> exact h) [25, 26, 27, 28, 30] [_, _, _, _, _] 5 10 rfl _ _ _ rfl (by kernel_rfl) (growBC HU4.out) ?_
          repeat (go_big_quiet_step (fail))
          refine wpQuiet_nil ?_
          have HP3 := Hold.mk (Spaces_any lr (.agg #[.slice a1 lr.length cap1]) u4 (HC1.out.mono (cle_below HU4.out)) (good_small HGL.out).2.2.2)
          refine mixl_act (i := 29) rfl (by kernel_rfl) (growBC HU4.out) rfl (fun K hK => ?_)
          go_wp2_with fail
          refine HP3.out.mono ?_
          rintro e u5 ⟨s1, n1, c1, rfl, hs1, hu5⟩
          have HU5 := Hold.mk (HU4.out.trans (hu5.mono HU4.out.size))
          have HO1 := Hold.mk (hs1.at_ RInt_mono)
          have HP4 := Hold.mk (rSpaces_any lr (.agg #[.slice a3 lr.length cap3]) u5 (HCZ2.out.mono (cle_below HU5.out)) (good_small HGL.out).2.2.2)
          clear hs1 hu5 HP3
          go_wp2_with fail
          refine mixl_act (i := 31) rfl (by kernel_rfl) (growBC HU5.out) rfl (fun K hK => ?_)
          go_wp2_with fail
          refine HP4.out.mono ?_
          rintro e u6 ⟨s2, n2, c2, rfl, hs2, hu6⟩
          have HU6 := Hold.mk (HU5.out.trans (hu6.mono HU5.out.size))
          have HIN := Hold.mk (ints_any (spacesC lr) s1 s2 u6 (HO1.out.mono RInt_mono (cle_below hu6)) (hs2.at_ RInt_mono))
          clear hs2 hu6 HP4
          go_wp2_with fail
          refine mixl_act (i := 32) rfl (by kernel_rfl) (growBC HU6.out) rfl (fun K hK => ?_)
          go_wp2_with fail
          refine HIN.out.mono ?_
          rintro e u7 ⟨rfl, hu7⟩
          have HU7 := Hold.mk (HU6.out.trans (hu7.mono HU6.out.size))
          clear hu7 HIN
          go_wp2_with fail
          refine mixl_seg (by kernel_rfl) (fun _ _ d _ _ h => by cases d <;> exact h) [33, 34] [_, _] 0 2 rfl _ _ _ rfl (by kernel_rfl) (growBC HU7.out) ?_
          repeat (go_big_quiet_step (fail))
          refine wpQuiet_nil ?_
          refine mix_done (by kernel_rfl) (growBC HU7.out) ?_
          clear g0 g1 g2
          have HB7 := Hold.mk (HR12.out.trans (HU7.out.mono HR12.out.size))
          have hd1 := kept HD1.out HU7.out
          have hd2 := kept HDX2.out HU7.out
          have yd : u7.cell? ⟨db1, 0, none⟩ = some (.slice a1 lr.length cap1) := by simp [World.cell?, hd1]
          have yv : u7.cell? ⟨db2, 0, none⟩ = some (.slice a3 lr.length cap3) := by simp [World.cell?, hd2]
          have g0 := BoxT2.fst (y := db2) yd
          have g1 := BoxT2.snd (x := db1) yv
          have HN := Hold.mk (HCI.out.next HGL.out HB7.out (HC1.out.mono (cle_below HU7.out)) (HCZ2.out.mono (cle_below HU7.out)))
          have HNE : Hold (db1 ≠ w.heap.size ∧ db2 ≠ w.heap.size ∧ db1 ≠ wb ∧ db2 ≠ wb) := ⟨by
            have h1 := heap_lt HCI.out.cbox
            have h2 := heap_lt HCI.out.wbox
            have h3 := HGE1.out
            have h4 := HGE2.out
            have h5 := HRZ1.out.size
            omega⟩
          have hck := kept HCI.out.cbox HB7.out
          have hwk := kept HCI.out.wbox HB7.out
          have HWK := Hold.mk hwk
          clear yd yv hd1 hd2 hwk
          go_upto_region 11 with (fail)
          refine wp_region_mixC (BoxC2 db1 db2 u7) 4 rfl (by kernel_rfl) ?_
          obtain ⟨w9, hw9⟩ : ∃ w9, w9 = u7.drew := ⟨_, rfl⟩
          rw [← hw9]
          have hc9 : w9.heap[w.heap.size]? = some (.cells #[.slice a l.length cap] 51 (0, 0)) := by rw [hw9]; exact hck
          have HW9 : Hold (w9.heap[wb]? = some (.cells #[.slice a2 l.length cap2] 57 (0, 0))) := ⟨by rw [hw9]; exact HWK.out⟩
          have H9 : Hold (w9.heap[db1]? = u7.heap[db1]? ∧ w9.heap[db2]? = u7.heap[db2]?) := ⟨by rw [hw9]; exact ⟨rfl, rfl⟩⟩
          have HN9 : Hold (CJ w ((w9.setCell ⟨w.heap.size, 0, none⟩ (.slice a1 lr.length cap1)).setCell ⟨wb, 0, none⟩ (.slice a3 lr.length cap3)) wb lr a1 cap1 a3 cap3) := ⟨by
            have hb : Below u7.heap.size u7 w9 := by rw [hw9]; exact (Below.refl _ _).drew
            exact HCI.out.next HGL.out (HB7.out.trans (hb.mono HB7.out.size)) ((HC1.out.mono (cle_below HU7.out)).mono (cle_below hb)) ((HCZ2.out.mono (cle_below HU7.out)).mono (cle_below hb))⟩
          clear hw9 hck HN
          refine mixl_seg (by kernel_rfl) (fun _ _ d _ _ h => by cases d <;> exact h) [0, 1] [_, _] 2 4 rfl _ _ _ rfl (by kernel_rfl) (boxC2 H9.out.1 H9.out.2) ?_
          repeat (go_big_quiet_step (fail))
          refine wpQuiet_nil ?_
          clear g0 g1
          have hf1 : w9.frozen? ⟨w.heap.size, 0, none⟩ = false := free_box hc9 0
          have hx1 : w9.cell? ⟨w.heap.size, 0, none⟩ = some (.slice a l.length cap) := by simp [World.cell?, hc9]
          refine mixl_act (i := 2) rfl (by kernel_rfl) (boxC2 H9.out.1 H9.out.2) rfl (fun K hK => ?_)
          go_wp2_with fail
          clear hf1 hx1 hc9
          obtain ⟨wA, hwA⟩ : ∃ wA, wA = w9.setCell ⟨w.heap.size, 0, none⟩ (.slice a1 lr.length cap1) := ⟨_, rfl⟩
          rw [← hwA] at HN9 ⊢
          have hwk : wA.heap[wb]? = some (.cells #[.slice a2 l.length cap2] 57 (0, 0)) := by
            rw [hwA, Below.heap_setCell _ _ _ _ (show wb ≠ w.heap.size by have := HCI.out.ge; omega)]; exact HW9.out
          have HA : Hold (wA.heap[db1]? = u7.heap[db1]? ∧ wA.heap[db2]? = u7.heap[db2]?) := ⟨by
            rw [hwA, Below.heap_setCell _ _ _ _ HNE.out.1, Below.heap_setCell _ _ _ _ HNE.out.2.1]; exact H9.out⟩
          have hf1 : wA.frozen? ⟨wb, 0, none⟩ = false := free_box hwk 0
          have hx1 : wA.cell? ⟨wb, 0, none⟩ = some (.slice a2 l.length cap2) := by simp [World.cell?, hwk]
          clear hwA hwk
          refine mixl_act (i := 3) rfl (by kernel_rfl) (boxC2 HA.out.1 HA.out.2) rfl (fun K hK => ?_)
          go_wp2_with fail
          clear hf1 hx1
          refine mix_done (by kernel_rfl) (boxC2 (by rw [Below.heap_setCell _ _ _ _ HNE.out.2.2.1]; exact HA.out.1) (by rw [Below.heap_setCell _ _ _ _ HNE.out.2.2.2]; exact HA.out.2)) ?_
          go_wp2_with fail
          exact ⟨⟨j + 1, by go_num, hlt, lr, a1, cap1, a3, cap3, HN9.out⟩, by simp [intOf]; omega⟩
        · go_wp2_with fail
          obtain ⟨db2, hdb⟩ : ∃ db, db = v9.heap.size := ⟨_, rfl⟩
          obtain ⟨W5, hW5⟩ : ∃ W5, W5 = v9.alloc (.cells #[.slice none 0 0] 57) := ⟨_, rfl⟩
          rw [← hW5, ← hdb]
          have hb5 : Below v9.heap.size v9 W5 := by rw [hW5]; exact (Below.refl _ v9).alloc (Nat.le_refl _) _
          have hk5 : W5.heap[db2]? = some (.cells #[.slice none 0 0] 57 (0, 0)) := by rw [hW5, hdb]; exact heap_alloc_new v9 _
          have HK5 := Hold.mk hk5
          have HB5 := Hold.mk (HDW.out.trans (hb5.mono HDW.out.size))
          have HLE2 : Hold (wz1.heap.size ≤ db2) := ⟨by rw [hdb]; exact HDW.out.size⟩
          clear hW5 hb5 hk5 hdb
          have HAC := Hold.mk (acted_any l (.agg #[.slice a2 l.length cap2]) ⟨kd, nm, ⟨xn, fl, u⟩⟩ fa fcap W5 (HCI.out.cat2.mono (cle_below (HRZ1.out.trans (HB5.out.mono HRZ1.out.size)))) (good_small HCI.out.good).1 (good_small HCI.out.good).2.2.2 HNM.out (HX.out.mono (cle_below (HRZ1.out.trans (HB5.out.mono HRZ1.out.size)))) (fewI_small HFW.out) (by have := fewI_len HFW.out; simp only at this ⊢; omega))
          refine mixl_act (i := 5) rfl (by kernel_rfl) (growBC HB5.out) rfl (fun K hK => ?_)
          go_wp2_with fail
          refine HAC.out.mono ?_
          rintro e w4 ⟨v1, rfl, hcat, hb4⟩
          rw [← HRR.out] at hcat ⊢
          obtain ⟨a3, cap3, rfl, hs1⟩ := hcat
          have hc4 : CatAt (cf w4) lr (.agg #[.slice a3 lr.length cap3]) := ⟨a3, cap3, rfl, hs1⟩
          simp only
          clear HAC hs1
          have HB4 := Hold.mk (HB5.out.trans (hb4.mono HB5.out.size))
          have HC4 := Hold.mk hc4
          have hk4 := kept HK5.out hb4
          have HK4 := Hold.mk hk4
          clear hb4 hc4
          go_wp2_with fail
          refine mixl_seg (by kernel_rfl) (fun _ _ d _ _ h => by cases d <;> exact h) [6, 7, 8] [_, _, _] 2 5 rfl _ _ _ rfl (by kernel_rfl) (growBC HB4.out) ?_
          repeat (go_big_quiet_step (fail))
          refine wpQuiet_nil ?_
          have hf : w4.frozen? ⟨db2, 0, none⟩ = false := free_box hk4 0
          have hx : w4.cell? ⟨db2, 0, none⟩ = some (.slice none 0 0) := by simp [World.cell?, hk4]
          clear hk4
          refine mixl_act (i := 10) rfl (by kernel_rfl) (growBC HB4.out) rfl (fun K hK => ?_)
          go_wp2_with fail
          clear hf hx
          obtain ⟨wz2, hwz⟩ : ∃ wz, wz = w4.setCell ⟨db2, 0, none⟩ (.slice a3 lr.length cap3) := ⟨_, rfl⟩
          rw [← hwz]
          have HDX2 : Hold (wz2.heap[db2]? = some (.cells #[.slice a3 lr.length cap3] 57 (0, 0))) := ⟨by
            rw [hwz]
            have := set_self (o := 0) (c := .slice a3 lr.length cap3) HK4.out
            simpa using this⟩
          have HRZ2 : Hold (Below wz1.heap.size wz1 wz2) := ⟨by rw [hwz]; exact HB4.out.setCell (p := ⟨db2, 0, none⟩) HLE2.out _⟩
          have HCZ2 : Hold (CatAt (cf wz2) lr (.agg #[.slice a3 lr.length cap3])) := ⟨by rw [hwz]; exact HC4.out.set HK4.out⟩
          clear hwz
          refine mixl_seg (by kernel_rfl) (fun _ _ d _ _ h => by cases d <;> exact h) [11] [_] 0 1 rfl _ _ _ rfl (by kernel_rfl) (growBC HRZ2.out) ?_
          repeat (go_big_quiet_step (fail))
          refine wpQuiet_nil ?_
          refine mix_done (by kernel_rfl) (growBC HRZ2.out) ?_
          clear HK5 HK4 HC4 HB5 HB4 HDW
          have HGE2 : Hold (wz1.heap.size ≤ db2) := HLE2
          have HR12 := Hold.mk (HRZ1.out.trans (HRZ2.out.mono HRZ1.out.size))
          have HD1 := Hold.mk (kept HDX1.out HRZ2.out)
          have HC1 := Hold.mk (HCZ1.out.mono (cle_below HRZ2.out))
          have yd : wz2.cell? ⟨db1, 0, none⟩ = some (.slice a1 lr.length cap1) := by
            have := HD1.out
            simp [World.cell?, this]
          have yv : wz2.cell? ⟨db2, 0, none⟩ = some (.slice a3 lr.length cap3) := by
            have := HDX2.out
            simp [World.cell?, this]
          have k1 := cle_below HR12.out _ _ _ (HOC.out 1 _ rfl)
          unfold cf at k1
          have g0 := GrowB.cell yd (lt_of_cell yd)
          have g1 := GrowB.cell yv (lt_of_cell yv)
          have g2 := GrowB.cell k1 (lt_of_cell k1)
          clear yd yv k1
          go_upto_region 9 with (fail)
          refine wp_region_mixC (GrowBC wz2.heap.size wz2) 35 rfl (by kernel_rfl) ?_
          have HDW := Hold.mk ((Below.refl wz2.heap.size wz2).drew)
          generalize wz2.drew = v9 at HDW ⊢
          refine mixl_seg (by kernel_rfl) (fun _ _ d _ _ h => by cases d <;> exact h) [0, 1, 2, 3, 4, 6] [_, _, _, _, _, _] 29 35 rfl _ _ _ rfl (by kernel_rfl) (growBC HDW.out) ?_
          repeat (go_big_quiet_step (fail))
          refine wpQuiet_nil ?_
          have HP1 := Hold.mk (lplainC_any lr (.agg #[.slice a1 lr.length cap1]) v9 (HC1.out.mono (cle_below HDW.out)) (good_small HGL.out).2.2.1)
          refine mixl_act (i := 5) rfl (by kernel_rfl) (growBC HDW.out) rfl (fun K hK => ?_)
          go_wp2_with fail
          refine HP1.out.mono ?_
          rintro e u1 ⟨p1, rfl, hp1, hu1⟩
          have HU1 := Hold.mk (HDW.out.trans (hu1.mono HDW.out.size))
          have HS1 := Hold.mk (rSameC_any lr p1 (.agg #[.slice a3 lr.length cap3]) u1 hp1 (HCZ2.out.mono (cle_below HU1.out)))
          clear hp1 hu1 HP1
          go_wp2_with fail
          refine mixl_act (i := 7) rfl (by kernel_rfl) (growBC HU1.out) rfl (fun K hK => ?_)
          go_wp2_with fail
          refine HS1.out.mono ?_
          rintro e u2 ⟨rfl, hu2⟩
          have HU2 := Hold.mk (HU1.out.trans (hu2.mono HU1.out.size))
          clear hu2 HS1
          go_wp2_with fail
          refine mixl_seg (by kernel_rfl) (fun _ _ d _ _ h => by cases d <;> exact h) [8, 9, 10, 11, 12, 13, 14, 15, 16, 18, 19, 20, 21, 22, 23] [_, _, _, _, _, _, _, _, _, _, _, _, _, _, _] 12 27 rfl _ _ _ rfl (by kernel_rfl) (growBC HU2.out) ?_
          repeat (go_big_quiet_step (fail))
          refine wpQuiet_nil ?_
          have HF1 := Hold.mk (Find_any lr (.agg #[.slice a1 lr.length cap1]) nm u2 (HC1.out.mono (cle_below HU2.out)))
          refine mixl_act (i := 17) rfl (by kernel_rfl) (growBC HU2.out) rfl (fun K hK => ?_)
          go_wp2_with fail
          refine HF1.out.mono ?_
          rintro e u3 ⟨rfl, hu3⟩
          have HU3 := Hold.mk (HU2.out.trans (hu3.mono HU2.out.size))
          have HF2 := Hold.mk (rFind_any lr (.agg #[.slice a3 lr.length cap3]) nm u3 (HCZ2.out.mono (cle_below HU3.out)))
          clear hu3 HF1
          generalize findI (nameIs nm) lr = fi at *
          go_wp2_with fail
          refine mixl_act (i := 24) rfl (by kernel_rfl) (growBC HU3.out) rfl (fun K hK => ?_)
          go_wp2_with fail
          refine HF2.out.mono ?_
          rintro e u4 ⟨rfl, hu4⟩
          have HU4 := Hold.mk (HU3.out.trans (hu4.mono HU3.out.size))
          clear hu4 HF2
          go_wp2_with fail
          refine mixl_seg (by kernel_rfl) (fun _ _ d _ _ h => by cases d <;> exact h) [25, 26, 27, 28, 30] [_, _, _, _, _] 5 10 rfl _ _ _ rfl (by kernel_rfl) (growBC HU4.out) ?_
          repeat (go_big_quiet_step (fail))
          refine wpQuiet_nil ?_
          have HP3 := Hold.mk (Spaces_any lr (.agg #[.slice a1 lr.length cap1]) u4 (HC1.out.mono (cle_below HU4.out)) (good_small HGL.out).2.2.2)
          refine mixl_act (i := 29) rfl (by kernel_rfl) (growBC HU4.out) rfl (fun K hK => ?_)
          go_wp2_with fail
          refine HP3.out.mono ?_
          rintro e u5 ⟨s1, n1, c1, rfl, hs1, hu5⟩
          have HU5 := Hold.mk (HU4.out.trans (hu5.mono HU4.out.size))
          have HO1 := Hold.mk (hs1.at_ RInt_mono)
          have HP4 := Hold.mk (rSpaces_any lr (.agg #[.slice a3 lr.length cap3]) u5 (HCZ2.out.mono (cle_below HU5.out)) (good_small HGL.out).2.2.2)
          clear hs1 hu5 HP3
          go_wp2_with fail
          refine mixl_act (i := 31) rfl (by kernel_rfl) (growBC HU5.out) rfl (fun K hK => ?_)
          go_wp2_with fail
          refine HP4.out.mono ?_
          rintro e u6 ⟨s2, n2, c2, rfl, hs2, hu6⟩
          have HU6 := Hold.mk (HU5.out.trans (hu6.mono HU5.out.size))
          have HIN := Hold.mk (ints_any (spacesC lr) s1 s2 u6 (HO1.out.mono RInt_mono (cle_below hu6)) (hs2.at_ RInt_mono))
          clear hs2 hu6 HP4
          go_wp2_with fail
          refine mixl_act (i := 32) rfl (by kernel_rfl) (growBC HU6.out) rfl (fun K hK => ?_)
          go_wp2_with fail
          refine HIN.out.mono ?_
          rintro e u7 ⟨rfl, hu7⟩
          have HU7 := Hold.mk (HU6.out.trans (hu7.mono HU6.out.size))
          clear hu7 HIN
          go_wp2_with fail
          refine mixl_seg (by kernel_rfl) (fun _ _ d _ _ h => by cases d <;> exact h) [33, 34] [_, _] 0 2 rfl _ _ _ rfl (by kernel_rfl) (growBC HU7.out) ?_
          repeat (go_big_quiet_step (fail))
          refine wpQuiet_nil ?_
          refine mix_done (by kernel_rfl) (growBC HU7.out) ?_
          clear g0 g1 g2
          have HB7 := Hold.mk (HR12.out.trans (HU7.out.mono HR12.out.size))
          have hd1 := kept HD1.out HU7.out
          have hd2 := kept HDX2.out HU7.out
          have yd : u7.cell? ⟨db1, 0, none⟩ = some (.slice a1 lr.length cap1) := by simp [World.cell?, hd1]
          have yv : u7.cell? ⟨db2, 0, none⟩ = some (.slice a3 lr.length cap3) := by simp [World.cell?, hd2]
          have g0 := BoxT2.fst (y := db2) yd
          have g1 := BoxT2.snd (x := db1) yv
          have HN := Hold.mk (HCI.out.next HGL.out HB7.out (HC1.out.mono (cle_below HU7.out)) (HCZ2.out.mono (cle_below HU7.out)))
          have HNE : Hold (db1 ≠ w.heap.size ∧ db2 ≠ w.heap.size ∧ db1 ≠ wb ∧ db2 ≠ wb) := ⟨by
            have h1 := heap_lt HCI.out.cbox
            have h2 := heap_lt HCI.out.wbox
            have h3 := HGE1.out
            have h4 := HGE2.out
            have h5 := HRZ1.out.size
            omega⟩
          have hck := kept HCI.out.cbox HB7.out
          have hwk := kept HCI.out.wbox HB7.out
          have HWK := Hold.mk hwk
          clear yd yv hd1 hd2 hwk
          go_upto_region 11 with (fail)
          refine wp_region_mixC (BoxC2 db1 db2 u7) 4 rfl (by kernel_rfl) ?_
          obtain ⟨w9, hw9⟩ : ∃ w9, w9 = u7.drew := ⟨_, rfl⟩
          rw [← hw9]
          have hc9 : w9.heap[w.heap.size]? = some (.cells #[.slice a l.length cap] 51 (0, 0)) := by rw [hw9]; exact hck
          have HW9 : Hold (w9.heap[wb]? = some (.cells #[.slice a2 l.length cap2] 57 (0, 0))) := ⟨by rw [hw9]; exact HWK.out⟩
          have H9 : Hold (w9.heap[db1]? = u7.heap[db1]? ∧ w9.heap[db2]? = u7.heap[db2]?) := ⟨by rw [hw9]; exact ⟨rfl, rfl⟩⟩
          have HN9 : Hold (CJ w ((w9.setCell ⟨w.heap.size, 0, none⟩ (.slice a1 lr.length cap1)).setCell ⟨wb, 0, none⟩ (.slice a3 lr.length cap3)) wb lr a1 cap1 a3 cap3) := ⟨by
            have hb : Below u7.heap.size u7 w9 := by rw [hw9]; exact (Below.refl _ _).drew
            exact HCI.out.next HGL.out (HB7.out.trans (hb.mono HB7.out.size)) ((HC1.out.mono (cle_below HU7.out)).mono (cle_below hb)) ((HCZ2.out.mono (cle_below HU7.out)).mono (cle_below hb))⟩
          clear hw9 hck HN
          refine mixl_seg (by kernel_rfl) (fun _ _ d _ _ h => by cases d <;> exact h) [0, 1] [_, _] 2 4 rfl _ _ _ rfl (by kernel_rfl) (boxC2 H9.out.1 H9.out.2) ?_
          repeat (go_big_quiet_step (fail))
          refine wpQuiet_nil ?_
          clear g0 g1
          have hf1 : w9.frozen? ⟨w.heap.size, 0, none⟩ = false := free_box hc9 0
          have hx1 : w9.cell? ⟨w.heap.size, 0, none⟩ = some (.slice a l.length cap) := by simp [World.cell?, hc9]
          refine mixl_act (i := 2) rfl (by kernel_rfl) (boxC2 H9.out.1 H9.out.2) rfl (fun K hK => ?_)
          go_wp2_with fail
          clear hf1 hx1 hc9
          obtain ⟨wA, hwA⟩ : ∃ wA, wA = w9.setCell ⟨w.heap.size, 0, none⟩ (.slice a1 lr.length cap1) := ⟨_, rfl⟩
          rw [← hwA] at HN9 ⊢
          have hwk : wA.heap[wb]? = some (.cells #[.slice a2 l.length cap2] 57 (0, 0)) := by
            rw [hwA, Below.heap_setCell _ _ _ _ (show wb ≠ w.heap.size by have := HCI.out.ge; omega)]; exact HW9.out
          have HA : Hold (wA.heap[db1]? = u7.heap[db1]? ∧ wA.heap[db2]? = u7.heap[db2]?) := ⟨by
            rw [hwA, Below.heap_setCell _ _ _ _ HNE.out.1, Below.heap_setCell _ _ _ _ HNE.out.2.1]; exact H9.out⟩
          have hf1 : wA.frozen? ⟨wb, 0, none⟩ = false := free_box hwk 0
          have hx1 : wA.cell? ⟨wb, 0, none⟩ = some (.slice a2 l.length cap2) := by simp [World.cell?, hwk]
          clear hwA hwk
          refine mixl_act (i := 3) rfl (by kernel_rfl) (boxC2 HA.out.1 HA.out.2) rfl (fun K hK => ?_)
          go_wp2_with fail
          clear hf1 hx1
          refine mix_done (by kernel_rfl) (boxC2 (by rw [Below.heap_setCell _ _ _ _ HNE.out.2.2.1]; exact HA.out.1) (by rw [Below.heap_setCell _ _ _ _ HNE.out.2.2.2]; exact HA.out.2)) ?_
          go_wp2_with fail
          exact ⟨⟨j + 1, by go_num, hlt, lr, a1, cap1, a3, cap3, HN9.out⟩, by simp [intOf]; omega⟩
    · have HFA : Hold (∀ e : Grow wr, Calls Tryz.prog 29 #[.agg #[.slice a l.length cap]] e.val fun r w' => r = .returned (.bool (formC l)) ∧ Below e.val.heap.size e.val w') := ⟨fun e => FormedC_any l _ e.val (HCI.out.cat.mono (cle_below e.2)) (good_small HCI.out.good).1 ((HT.out.below HCI.out.bel).below e.2)⟩
      have HFB : Hold (∀ e : Grow wr, Calls Tryz.prog 30 #[.agg #[.slice a2 l.length cap2]] e.val fun r w' => r = .returned (.bool (formC l)) ∧ Below e.val.heap.size e.val w') := ⟨fun e => rFormedC_any l _ e.val (HCI.out.cat2.mono (cle_below e.2)) (good_small HCI.out.good).1 (good_small HCI.out.good).2.2.2⟩
      replace HFA := Hold.mk (Calls.grow HFA.out)
      replace HFB := Hold.mk (Calls.grow HFB.out)
      have y0 : wr.cell? ⟨w.heap.size, 0, none⟩ = some (.slice a l.length cap) := by
        have := HCI.out.cbox
        simp [World.cell?, this]
      have y1 : wr.cell? ⟨wb, 0, none⟩ = some (.slice a2 l.length cap2) := by
        have := HCI.out.wbox
        simp [World.cell?, this]
      have g0 := Grow.cell y0
      have g1 := Grow.cell y1
      clear y0 y1
      generalize formC l = fc at *
      go_upto_region 12 with (fail)
      refine wp_region_grow (by kernel_rfl) (by kernel_rfl) ?_
      repeat (go_big_quiet_step (first | exact HFA.out _ | exact HFB.out _))
      refine wpQuiet_nil ?_
      rintro ⟨w9, hb9⟩
      simp only
      have HB9 := Hold.mk (HCI.out.bel.trans (hb9.mono HCI.out.bel.size))
      clear g0 g1 hb9 HFA HFB
      go_wp2_with fail
      go_ret
      exact ⟨by simp, HB9.out⟩

end Go.Proofs.YtcmfanfkcbjeoaaGreatDoor
