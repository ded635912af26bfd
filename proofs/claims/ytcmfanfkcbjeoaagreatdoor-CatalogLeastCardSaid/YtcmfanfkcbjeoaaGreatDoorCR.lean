/- Catalogs: CatalogFormed, walked (printed by genXCR.py). -/
import Derived.Test.YtcmfanfkcbjeoaaGreatDoorCQ
namespace Go.Proofs.YtcmfanfkcbjeoaaGreatDoor
open Go.Shelf Go.RowKit

/-- where the law stands: its catalog is formed -/
structure CI (w wr : World) (cb : Nat) (l : List CX) (a : Option Addr) (cap : Nat) : Prop where
  form : formC l = true
  bel : Below w.heap.size w wr
  ge : w.heap.size ≤ cb
  box : wr.heap[cb]? = some (.cells #[.slice a l.length cap] 51 (0, 0))
  cat : CatAt (cf wr) l (.agg #[.slice a l.length cap])
theorem CI.next {w wr wz : World} {cb : Nat} {l lr : List CX} {a a1 : Option Addr} {cap cap1 : Nat} (h : CI w wr cb l a cap) (hf : formC lr = true) (hb : Below wr.heap.size wr wz) (hc : CatAt (cf wz) lr (.agg #[.slice a1 lr.length cap1])) : CI w (wz.setCell ⟨cb, 0, none⟩ (.slice a1 lr.length cap1)) cb lr a1 cap1 := by
  have hk := kept h.box hb
  have hcb := h.ge
  refine ⟨hf, (h.bel.trans (hb.mono h.bel.size)).setCell (p := ⟨cb, 0, none⟩) h.ge _, h.ge, ?_, hc.set hk⟩
  have := set_self (o := 0) (c := .slice a1 lr.length cap1) hk
  simpa using this

set_option maxRecDepth 100000 in
set_option maxHeartbeats 16000000 in
theorem catalogFormed_walk (ops : List OpX) (v : Value) (w : World) (h : SAt 5 ROp (cf w) v ops) (hT : Tabs w) :
    Calls Tryz.prog 5 #[v] w fun e w' => e = .returned (.bool true) ∧ Below w.heap.size w w' := by
  have HV := Hold.mk h
  obtain ⟨sa, scap, rfl, hlen, hcap, hel⟩ := h
  have HT := Hold.mk hT
  have HE := Hold.mk hel
  clear hel hT
  go_enter Tryz.func5, Tryz.ntmps5
  go_wp2_with fail
  refine (awake19_any w HT.out).mono ?_
  rintro e w1 ⟨rfl, hb1⟩
  have HB1 := Hold.mk hb1
  have HSM := Hold.mk (small_any ops _ w1 (HV.out.mono ROp_mono (cle_below hb1)))
  clear hb1
  go_wp2_with fail
  refine HSM.out.mono ?_
  rintro e w2 ⟨sm, rfl, hsm, hb2⟩
  have HB2 := Hold.mk (HB1.out.trans (hb2.mono HB1.out.size))
  clear hb2 HSM
  cases sm with
  | false =>
    go_wp2_with fail
    refine (awake19_any w2 (HT.out.below HB2.out)).mono ?_
    rintro e w3 ⟨rfl, hb3⟩
    have HB3 := Hold.mk (HB2.out.trans (hb3.mono HB2.out.size))
    clear hb3
    go_wp2_with fail
    go_ret
    exact ⟨rfl, HB3.out⟩
  | true =>
  have HOPS := Hold.mk (hsm rfl)
  clear hsm
  obtain ⟨cb, hcb⟩ : ∃ cb, cb = w2.heap.size := ⟨_, rfl⟩
  obtain ⟨W3, hW3⟩ : ∃ W3, W3 = w2.alloc (.cells #[.slice none 0 0] 51) := ⟨_, rfl⟩
  have HI3 : Hold (CI w W3 cb [] none 0) := ⟨by
    subst hW3 hcb
    exact ⟨form_nil, HB2.out.alloc HB2.out.size _, HB2.out.size, heap_alloc_new w2 _, ⟨none, 0, rfl, SAt.none _ _ _⟩⟩⟩
  go_upto_region 4 with (fail)
  rw [← hW3, ← hcb]
  clear hW3 hcb
  go_wp2_with fail
  go_loopw [4] (fun i wr => ∃ j : Nat, i = .int .i64 j ∧ j ≤ ops.length ∧ ∃ l a cap, CI w wr cb l a cap) (fun i _ => ops.length - (intOf i).toNat)
  case atStart => exact ⟨0, rfl, Nat.zero_le _, _, _, _, HI3.out⟩
  case round =>
    obtain ⟨j, rfl, hj, l, a, cap, hci⟩ := hrel
    have HCI := Hold.mk hci
    clear hci HI3
    by_cases hlt : j < ops.length
    · obtain ⟨o, ho⟩ : ∃ o, ops[j]? = some o := ⟨ops[j], List.getElem?_eq_getElem hlt⟩
      obtain ⟨b, off, d, rfl, hd, hcc, fa, fcap, rfl, hn, hxn, hf, hk⟩ := HE.out j o ho
      have HFW : Hold (fewI o.x = true) := ⟨(HOPS.out.2 o (List.mem_of_getElem? ho)).2⟩
      have HNM := Hold.mk hn
      obtain ⟨kd, nm, ⟨xn, fl, u⟩⟩ := o
      simp only at *
      have hcl := cle_below HCI.out.bel
      have HX : Hold (IAt (cf wr) ⟨xn, fl, u⟩ (.agg #[.string xn, .slice fa fl.length fcap, .bool u])) := ⟨⟨hxn, _, rfl, hf.mono hcl⟩⟩
      have HOC : Hold (∀ (q : Nat) u', [Value.int .i64 kd, .string nm, .string xn, .slice fa fl.length fcap, .bool u][q]? = some u' → wr.cell? ⟨b, off + j * 5 + q, none⟩ = some u') := ⟨fun q u' hq => hcl _ _ _ (hcc q u' hq)⟩
      have y0 : wr.cell? ⟨cb, 0, none⟩ = some (.slice a l.length cap) := by
        have := HCI.out.box
        simp [World.cell?, this]
      have g0 := GrowB.cell y0 (lt_of_cell y0)
      have g1 := GrowB.cell (show wr.cell? ⟨b, off + j * 5, none⟩ = some (.int .i64 kd) from HOC.out 0 _ rfl) (lt_of_cell (HOC.out 0 _ rfl))
      have g2 := GrowB.cell (HOC.out 1 _ rfl) (lt_of_cell (HOC.out 0 _ rfl))
      have g3 := GrowB.cell (HOC.out 2 _ rfl) (lt_of_cell (HOC.out 0 _ rfl))
      have g4 := GrowB.cell (HOC.out 3 _ rfl) (lt_of_cell (HOC.out 0 _ rfl))
      have g5 := GrowB.cell (HOC.out 4 _ rfl) (lt_of_cell (HOC.out 0 _ rfl))
      clear hcc hcl hd hf hk hxn hn ho y0
      go_upto_region 7 with (fail)
      refine wp_region_mixC (GrowBC wr.heap.size wr) 12 rfl (by kernel_rfl) ?_
      have HDW := Hold.mk ((Below.refl wr.heap.size wr).drew)
      generalize wr.drew = v9 at HDW ⊢
      refine mixl_seg (by kernel_rfl) (fun _ _ d _ _ h => by cases d <;> exact h) [0, 1, 2, 3, 4] [_, _, _, _, _] 7 12 rfl _ _ _ rfl (by kernel_rfl) (growBC HDW.out) ?_
      repeat (go_big_quiet_step (fail))
      refine wpQuiet_nil ?_
      clear g0 g1 g2 g3 g4 g5
      refine mixl_two (i := 5) (j := 9) rfl rfl (by kernel_rfl) (growBC HDW.out) rfl rfl (fun K hK => ?_) (fun K hK => ?_)
      · have HAC := Hold.mk (act_any l (.agg #[.slice a l.length cap]) ⟨kd, nm, ⟨xn, fl, u⟩⟩ fa fcap v9 (HCI.out.cat.mono (cle_below HDW.out)) (small_form HCI.out.form).1 (small_form HCI.out.form).2 HNM.out (HX.out.mono (cle_below HDW.out)) (fewI_small HFW.out) (by have := fewI_len HFW.out; simp only at this ⊢; omega) ((HT.out.below HCI.out.bel).below HDW.out))
        go_wp2_with fail
        refine HAC.out.mono ?_
        rintro e w4 ⟨v1, rfl, hcat, hb4⟩
        obtain ⟨⟨lr, z⟩, hrr⟩ : ∃ r, r = actF l ⟨kd, nm, ⟨xn, fl, u⟩⟩ := ⟨_, rfl⟩
        have HRR := Hold.mk hrr
        rw [← hrr] at hcat ⊢
        obtain ⟨a1, cap1, rfl, hs1⟩ := hcat
        have HFL : Hold (formC lr = true) := ⟨by
          have := act_form (l := l) (o := ⟨kd, nm, ⟨xn, fl, u⟩⟩) HCI.out.form
          rw [← hrr] at this; exact this⟩
        have hc4 : CatAt (cf w4) lr (.agg #[.slice a1 lr.length cap1]) := ⟨a1, cap1, rfl, hs1⟩
        simp only
        clear HAC hs1 hrr
        have HB4 := Hold.mk (HDW.out.trans (hb4.mono HDW.out.size))
        clear hb4
        go_wp2_with fail
        refine mixl_seg (by kernel_rfl) (fun _ _ d _ _ h => by cases d <;> exact h) [6, 7, 8] [_, _, _] 3 6 rfl _ _ _ rfl (by kernel_rfl) (growBC HB4.out) ?_
        repeat (go_big_quiet_step (fail))
        refine wpQuiet_nil ?_
        refine mixl_act (i := 9) rfl (by kernel_rfl) (growBC HB4.out) rfl (fun K hK => ?_)
        go_wp2_with fail
        obtain ⟨W5, hW5⟩ : ∃ W5, W5 = w4.alloc (.cells #[.slice none 0 0] 51) := ⟨_, rfl⟩
        rw [← hW5]
        have hb5 : Below w4.heap.size w4 W5 := by rw [hW5]; exact (Below.refl _ w4).alloc (Nat.le_refl _) _
        have hk5 : W5.heap[w4.heap.size]? = some (.cells #[.slice none 0 0] 51 (0, 0)) := by rw [hW5]; exact heap_alloc_new w4 _
        have HK5 := Hold.mk hk5
        have HC5 := Hold.mk (hc4.mono (cle_below hb5))
        have HB5 := Hold.mk (HB4.out.trans (hb5.mono HB4.out.size))
        have hf : W5.frozen? ⟨w4.heap.size, 0, none⟩ = false := free_box hk5 0
        have hx : W5.cell? ⟨w4.heap.size, 0, none⟩ = some (.slice none 0 0) := by simp [World.cell?, hk5]
        have hle4 := HB4.out.size
        clear hW5 hb5 hk5 hc4
        refine mixl_act (i := 10) rfl (by kernel_rfl) (growBC HB5.out) rfl (fun K hK => ?_)
        go_wp2_with fail
        clear hf hx
        obtain ⟨wz, hwz⟩ : ∃ wz, wz = W5.setCell ⟨w4.heap.size, 0, none⟩ (.slice a1 lr.length cap1) := ⟨_, rfl⟩
        rw [← hwz]
        have HDX : Hold (wz.heap[w4.heap.size]? = some (.cells #[.slice a1 lr.length cap1] 51 (0, 0))) := ⟨by
          rw [hwz]
          have := set_self (o := 0) (c := .slice a1 lr.length cap1) HK5.out
          simpa using this⟩
        have HRZ : Hold (Below wr.heap.size wr wz) := ⟨by rw [hwz]; exact HB5.out.setCell (p := ⟨w4.heap.size, 0, none⟩) hle4 _⟩
        have HCZ : Hold (CatAt (cf wz) lr (.agg #[.slice a1 lr.length cap1])) := ⟨by rw [hwz]; exact HC5.out.set HK5.out⟩
        have HOZ : Hold (∀ (q : Nat) u', [Value.int .i64 kd, .string nm, .string xn, .slice fa fl.length fcap, .bool u][q]? = some u' → wz.cell? ⟨b, off + j * 5 + q, none⟩ = some u') := ⟨fun q u' hq => cle_below HRZ.out _ _ _ (HOC.out q u' hq)⟩
        clear hwz hle4
        refine mixl_seg (by kernel_rfl) (fun _ _ d _ _ h => by cases d <;> exact h) [11] [_] 0 1 rfl _ _ _ rfl (by kernel_rfl) (growBC HRZ.out) ?_
        repeat (go_big_quiet_step (fail))
        refine wpQuiet_nil ?_
        refine mix_done (by kernel_rfl) (growBC HRZ.out) ?_
        have HSF : Hold (∀ e : Grow wz, Calls Tryz.prog 29 #[.agg #[.slice a1 lr.length cap1]] e.val fun r w' => r = .returned (.bool true) ∧ Below e.val.heap.size e.val w') := ⟨fun e => by
          have := FormedC_any lr _ e.val (HCZ.out.mono (cle_below e.2)) (small_form HFL.out).1 ((HT.out.below (HCI.out.bel.trans (HRZ.out.mono HCI.out.bel.size))).below e.2)
          rw [HFL.out] at this; exact this⟩
        replace HSF := Hold.mk (Calls.grow HSF.out)
        have yd : wz.cell? ⟨w4.heap.size, 0, none⟩ = some (.slice a1 lr.length cap1) := by
          have := HDX.out
          simp [World.cell?, this]
        have gd := Grow.cell yd
        have gk := Grow.cell (show wz.cell? ⟨b, off + j * 5, none⟩ = some (.int .i64 kd) from HOZ.out 0 _ rfl)
        have gn := Grow.cell (HOZ.out 1 _ rfl)
        clear yd
        by_cases hz : z = 0
        · subst hz
          by_cases hk : kd = 1
          · subst hk
            obtain ⟨fi, hfi⟩ : ∃ fi, fi = findI (nameIs nm) lr := ⟨_, rfl⟩
            have HF0 : Hold (0 ≤ fi) := ⟨by
              have h1 := act_found (l := l) (o := ⟨1, nm, ⟨xn, fl, u⟩⟩) rfl (by rw [← HRR.out])
              rw [← HRR.out] at h1
              rw [hfi]; exact h1⟩
            have HSI : Hold (∀ e : Grow wz, Calls Tryz.prog 24 #[.agg #[.slice a1 lr.length cap1], .string nm] e.val fun r w' => r = .returned (.int .i64 fi) ∧ Below e.val.heap.size e.val w') := ⟨fun e => by
              rw [hfi]; exact Find_any lr _ nm e.val (HCZ.out.mono (cle_below e.2))⟩
            replace HSI := Hold.mk (Calls.grow HSI.out)
            have hf0 : ¬ fi < 0 := by have := HF0.out; omega
            clear hfi
            go_upto_region 8 with (fail)
            refine wp_region_grow (by kernel_rfl) (by kernel_rfl) ?_
            repeat (go_big_quiet_step (first | exact HSF.out _ | exact HSI.out _))
            refine wpQuiet_nil ?_
            rintro ⟨w9, hb9⟩
            simp only
            clear gd gk gn hf0 HSI HSF
            have HB9 := Hold.mk (HRZ.out.trans (hb9.mono HRZ.out.size))
            have HN := Hold.mk (HCI.out.next HFL.out HB9.out (HCZ.out.mono (cle_below hb9)))
            have y0 : w9.cell? ⟨w4.heap.size, 0, none⟩ = some (.slice a1 lr.length cap1) := by
              have := kept HDX.out hb9
              simp [World.cell?, this]
            have hck := kept HCI.out.box HB9.out
            have hf1 : w9.frozen? ⟨cb, 0, none⟩ = false := free_box hck 0
            have hx1 : w9.cell? ⟨cb, 0, none⟩ = some (.slice a l.length cap) := by simp [World.cell?, hck]
            clear hck hb9
            go_wp2_with fail
            exact ⟨⟨j + 1, by go_num, hlt, lr, a1, cap1, HN.out⟩, by simp [intOf]; omega⟩
          · have hk' : (kd == 1) = false := by simpa using hk
            go_upto_region 8 with (fail)
            refine wp_region_grow (by kernel_rfl) (by kernel_rfl) ?_
            repeat (go_big_quiet_step (first | exact HSF.out _))
            refine wpQuiet_nil ?_
            rintro ⟨w9, hb9⟩
            simp only
            clear gd gk gn HSF
            have HB9 := Hold.mk (HRZ.out.trans (hb9.mono HRZ.out.size))
            have HN := Hold.mk (HCI.out.next HFL.out HB9.out (HCZ.out.mono (cle_below hb9)))
            have y0 : w9.cell? ⟨w4.heap.size, 0, none⟩ = some (.slice a1 lr.length cap1) := by
              have := kept HDX.out hb9
              simp [World.cell?, this]
            have hck := kept HCI.out.box HB9.out
            have hf1 : w9.frozen? ⟨cb, 0, none⟩ = false := free_box hck 0
            have hx1 : w9.cell? ⟨cb, 0, none⟩ = some (.slice a l.length cap) := by simp [World.cell?, hck]
            clear hck hb9
            go_wp2_with fail
            exact ⟨⟨j + 1, by go_num, hlt, lr, a1, cap1, HN.out⟩, by simp [intOf]; omega⟩
        · have hz' : (z == 0) = false := by simpa using hz
          go_upto_region 8 with (fail)
          refine wp_region_grow (by kernel_rfl) (by kernel_rfl) ?_
          repeat (go_big_quiet_step (first | exact HSF.out _))
          refine wpQuiet_nil ?_
          rintro ⟨w9, hb9⟩
          simp only
          clear gd gk gn HSF
          have HB9 := Hold.mk (HRZ.out.trans (hb9.mono HRZ.out.size))
          have HN := Hold.mk (HCI.out.next HFL.out HB9.out (HCZ.out.mono (cle_below hb9)))
          have y0 : w9.cell? ⟨w4.heap.size, 0, none⟩ = some (.slice a1 lr.length cap1) := by
            have := kept HDX.out hb9
            simp [World.cell?, this]
          have hck := kept HCI.out.box HB9.out
          have hf1 : w9.frozen? ⟨cb, 0, none⟩ = false := free_box hck 0
          have hx1 : w9.cell? ⟨cb, 0, none⟩ = some (.slice a l.length cap) := by simp [World.cell?, hck]
          clear hck hb9
          go_wp2_with fail
          exact ⟨⟨j + 1, by go_num, hlt, lr, a1, cap1, HN.out⟩, by simp [intOf]; omega⟩
      · go_wp2_with fail
        obtain ⟨W5, hW5⟩ : ∃ W5, W5 = v9.alloc (.cells #[.slice none 0 0] 51) := ⟨_, rfl⟩
        rw [← hW5]
        have hb5 : Below v9.heap.size v9 W5 := by rw [hW5]; exact (Below.refl _ v9).alloc (Nat.le_refl _) _
        have hk5 : W5.heap[v9.heap.size]? = some (.cells #[.slice none 0 0] 51 (0, 0)) := by rw [hW5]; exact heap_alloc_new v9 _
        have HK5 := Hold.mk hk5
        have HB5 := Hold.mk (HDW.out.trans (hb5.mono HDW.out.size))
        clear hW5 hb5 hk5
        have HAC := Hold.mk (act_any l (.agg #[.slice a l.length cap]) ⟨kd, nm, ⟨xn, fl, u⟩⟩ fa fcap W5 (HCI.out.cat.mono (cle_below HB5.out)) (small_form HCI.out.form).1 (small_form HCI.out.form).2 HNM.out (HX.out.mono (cle_below HB5.out)) (fewI_small HFW.out) (by have := fewI_len HFW.out; simp only at this ⊢; omega) ((HT.out.below HCI.out.bel).below HB5.out))
        refine mixl_act (i := 5) rfl (by kernel_rfl) (growBC HB5.out) rfl (fun K hK => ?_)
        go_wp2_with fail
        refine HAC.out.mono ?_
        rintro e w4 ⟨v1, rfl, hcat, hb4⟩
        obtain ⟨⟨lr, z⟩, hrr⟩ : ∃ r, r = actF l ⟨kd, nm, ⟨xn, fl, u⟩⟩ := ⟨_, rfl⟩
        have HRR := Hold.mk hrr
        rw [← hrr] at hcat ⊢
        obtain ⟨a1, cap1, rfl, hs1⟩ := hcat
        have HFL : Hold (formC lr = true) := ⟨by
          have := act_form (l := l) (o := ⟨kd, nm, ⟨xn, fl, u⟩⟩) HCI.out.form
          rw [← hrr] at this; exact this⟩
        have hc4 : CatAt (cf w4) lr (.agg #[.slice a1 lr.length cap1]) := ⟨a1, cap1, rfl, hs1⟩
        simp only
        clear HAC hs1 hrr
        have HB4 := Hold.mk (HB5.out.trans (hb4.mono HB5.out.size))
        have HC4 := Hold.mk hc4
        have hk4 := kept HK5.out hb4
        have HK4 := Hold.mk hk4
        clear hb4 hc4
        go_wp2_with fail
        refine mixl_seg (by kernel_rfl) (fun _ _ d _ _ h => by cases d <;> exact h) [6, 7, 8] [_, _, _] 2 5 rfl _ _ _ rfl (by kernel_rfl) (growBC HB4.out) ?_
        repeat (go_big_quiet_step (fail))
        refine wpQuiet_nil ?_
        have hf : w4.frozen? ⟨v9.heap.size, 0, none⟩ = false := free_box hk4 0
        have hx : w4.cell? ⟨v9.heap.size, 0, none⟩ = some (.slice none 0 0) := by simp [World.cell?, hk4]
        have hle4 := HDW.out.size
        clear hk4
        refine mixl_act (i := 10) rfl (by kernel_rfl) (growBC HB4.out) rfl (fun K hK => ?_)
        go_wp2_with fail
        clear hf hx
        obtain ⟨wz, hwz⟩ : ∃ wz, wz = w4.setCell ⟨v9.heap.size, 0, none⟩ (.slice a1 lr.length cap1) := ⟨_, rfl⟩
        rw [← hwz]
        have HDX : Hold (wz.heap[v9.heap.size]? = some (.cells #[.slice a1 lr.length cap1] 51 (0, 0))) := ⟨by
          rw [hwz]
          have := set_self (o := 0) (c := .slice a1 lr.length cap1) HK4.out
          simpa using this⟩
        have HRZ : Hold (Below wr.heap.size wr wz) := ⟨by rw [hwz]; exact HB4.out.setCell (p := ⟨v9.heap.size, 0, none⟩) hle4 _⟩
        have HCZ : Hold (CatAt (cf wz) lr (.agg #[.slice a1 lr.length cap1])) := ⟨by rw [hwz]; exact HC4.out.set HK4.out⟩
        have HOZ : Hold (∀ (q : Nat) u', [Value.int .i64 kd, .string nm, .string xn, .slice fa fl.length fcap, .bool u][q]? = some u' → wz.cell? ⟨b, off + j * 5 + q, none⟩ = some u') := ⟨fun q u' hq => cle_below HRZ.out _ _ _ (HOC.out q u' hq)⟩
        clear hwz hle4
        refine mixl_seg (by kernel_rfl) (fun _ _ d _ _ h => by cases d <;> exact h) [11] [_] 0 1 rfl _ _ _ rfl (by kernel_rfl) (growBC HRZ.out) ?_
        repeat (go_big_quiet_step (fail))
        refine wpQuiet_nil ?_
        refine mix_done (by kernel_rfl) (growBC HRZ.out) ?_
        have HSF : Hold (∀ e : Grow wz, Calls Tryz.prog 29 #[.agg #[.slice a1 lr.length cap1]] e.val fun r w' => r = .returned (.bool true) ∧ Below e.val.heap.size e.val w') := ⟨fun e => by
          have := FormedC_any lr _ e.val (HCZ.out.mono (cle_below e.2)) (small_form HFL.out).1 ((HT.out.below (HCI.out.bel.trans (HRZ.out.mono HCI.out.bel.size))).below e.2)
          rw [HFL.out] at this; exact this⟩
        replace HSF := Hold.mk (Calls.grow HSF.out)
        have yd : wz.cell? ⟨v9.heap.size, 0, none⟩ = some (.slice a1 lr.length cap1) := by
          have := HDX.out
          simp [World.cell?, this]
        have gd := Grow.cell yd
        have gk := Grow.cell (show wz.cell? ⟨b, off + j * 5, none⟩ = some (.int .i64 kd) from HOZ.out 0 _ rfl)
        have gn := Grow.cell (HOZ.out 1 _ rfl)
        clear yd
        by_cases hz : z = 0
        · subst hz
          by_cases hk : kd = 1
          · subst hk
            obtain ⟨fi, hfi⟩ : ∃ fi, fi = findI (nameIs nm) lr := ⟨_, rfl⟩
            have HF0 : Hold (0 ≤ fi) := ⟨by
              have h1 := act_found (l := l) (o := ⟨1, nm, ⟨xn, fl, u⟩⟩) rfl (by rw [← HRR.out])
              rw [← HRR.out] at h1
              rw [hfi]; exact h1⟩
            have HSI : Hold (∀ e : Grow wz, Calls Tryz.prog 24 #[.agg #[.slice a1 lr.length cap1], .string nm] e.val fun r w' => r = .returned (.int .i64 fi) ∧ Below e.val.heap.size e.val w') := ⟨fun e => by
              rw [hfi]; exact Find_any lr _ nm e.val (HCZ.out.mono (cle_below e.2))⟩
            replace HSI := Hold.mk (Calls.grow HSI.out)
            have hf0 : ¬ fi < 0 := by have := HF0.out; omega
            clear hfi
            go_upto_region 8 with (fail)
            refine wp_region_grow (by kernel_rfl) (by kernel_rfl) ?_
            repeat (go_big_quiet_step (first | exact HSF.out _ | exact HSI.out _))
            refine wpQuiet_nil ?_
            rintro ⟨w9, hb9⟩
            simp only
            clear gd gk gn hf0 HSI HSF
            have HB9 := Hold.mk (HRZ.out.trans (hb9.mono HRZ.out.size))
            have HN := Hold.mk (HCI.out.next HFL.out HB9.out (HCZ.out.mono (cle_below hb9)))
            have y0 : w9.cell? ⟨v9.heap.size, 0, none⟩ = some (.slice a1 lr.length cap1) := by
              have := kept HDX.out hb9
              simp [World.cell?, this]
            have hck := kept HCI.out.box HB9.out
            have hf1 : w9.frozen? ⟨cb, 0, none⟩ = false := free_box hck 0
            have hx1 : w9.cell? ⟨cb, 0, none⟩ = some (.slice a l.length cap) := by simp [World.cell?, hck]
            clear hck hb9
            go_wp2_with fail
            exact ⟨⟨j + 1, by go_num, hlt, lr, a1, cap1, HN.out⟩, by simp [intOf]; omega⟩
          · have hk' : (kd == 1) = false := by simpa using hk
            go_upto_region 8 with (fail)
            refine wp_region_grow (by kernel_rfl) (by kernel_rfl) ?_
            repeat (go_big_quiet_step (first | exact HSF.out _))
            refine wpQuiet_nil ?_
            rintro ⟨w9, hb9⟩
            simp only
            clear gd gk gn HSF
            have HB9 := Hold.mk (HRZ.out.trans (hb9.mono HRZ.out.size))
            have HN := Hold.mk (HCI.out.next HFL.out HB9.out (HCZ.out.mono (cle_below hb9)))
            have y0 : w9.cell? ⟨v9.heap.size, 0, none⟩ = some (.slice a1 lr.length cap1) := by
              have := kept HDX.out hb9
              simp [World.cell?, this]
            have hck := kept HCI.out.box HB9.out
            have hf1 : w9.frozen? ⟨cb, 0, none⟩ = false := free_box hck 0
            have hx1 : w9.cell? ⟨cb, 0, none⟩ = some (.slice a l.length cap) := by simp [World.cell?, hck]
            clear hck hb9
            go_wp2_with fail
            exact ⟨⟨j + 1, by go_num, hlt, lr, a1, cap1, HN.out⟩, by simp [intOf]; omega⟩
        · have hz' : (z == 0) = false := by simpa using hz
          go_upto_region 8 with (fail)
          refine wp_region_grow (by kernel_rfl) (by kernel_rfl) ?_
          repeat (go_big_quiet_step (first | exact HSF.out _))
          refine wpQuiet_nil ?_
          rintro ⟨w9, hb9⟩
          simp only
          clear gd gk gn HSF
          have HB9 := Hold.mk (HRZ.out.trans (hb9.mono HRZ.out.size))
          have HN := Hold.mk (HCI.out.next HFL.out HB9.out (HCZ.out.mono (cle_below hb9)))
          have y0 : w9.cell? ⟨v9.heap.size, 0, none⟩ = some (.slice a1 lr.length cap1) := by
            have := kept HDX.out hb9
            simp [World.cell?, this]
          have hck := kept HCI.out.box HB9.out
          have hf1 : w9.frozen? ⟨cb, 0, none⟩ = false := free_box hck 0
          have hx1 : w9.cell? ⟨cb, 0, none⟩ = some (.slice a l.length cap) := by simp [World.cell?, hck]
          clear hck hb9
          go_wp2_with fail
          exact ⟨⟨j + 1, by go_num, hlt, lr, a1, cap1, HN.out⟩, by simp [intOf]; omega⟩
    · have HB := Hold.mk HCI.out.bel
      go_wp2_with fail
      go_ret
      exact ⟨rfl, HB.out⟩

end Go.Proofs.YtcmfanfkcbjeoaaGreatDoor
