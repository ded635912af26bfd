/- Catalogs: CatalogLeast, walked (printed by genXCS.py). -/
import Derived.Test.YtcmfanfkcbjeoaaGreatDoorCR
namespace Go.Proofs.YtcmfanfkcbjeoaaGreatDoor
open Go.Shelf Go.RowKit

/-- the table of the spaces that are taken -/
structure TK (wr : World) (tb : Nat) (T : TypeId) (zs : List Int) : Prop where
  box : ∃ arr, wr.heap[tb]? = some (.cells arr T (0, 0)) ∧ arr.size = 256 ∧ ∀ q : Nat, q < 256 → arr[q]? = some (.bool (decide ((q : Int) ∈ zs)))
theorem zero_table : Tryz.zeroCells81 = Array.replicate 256 (.bool false) := by kernel_rfl
theorem TK.cell {wr : World} {tb : Nat} {T : TypeId} {zs : List Int} (h : TK wr tb T zs) {q : Nat} (hq : q < 256) : wr.cell? ⟨tb, q, none⟩ = some (.bool (decide ((q : Int) ∈ zs))) := by
  obtain ⟨arr, h1, h2, h3⟩ := h.box
  simp only [World.cell?, h1]
  exact h3 q hq
theorem TK.free {wr : World} {tb : Nat} {T : TypeId} {zs : List Int} (h : TK wr tb T zs) (q : Nat) : wr.frozen? ⟨tb, q, none⟩ = false := by
  obtain ⟨arr, h1, h2, h3⟩ := h.box
  exact free_box h1 q
theorem TK.set {wr : World} {tb : Nat} {T : TypeId} {zs : List Int} (h : TK wr tb T zs) {q : Nat} (hq : q < 256) : TK (wr.setCell ⟨tb, q, none⟩ (.bool true)) tb T (zs ++ [(q : Int)]) := by
  obtain ⟨arr, h1, h2, h3⟩ := h.box
  refine ⟨_, set_self (o := q) (c := .bool true) h1, by simp [h2], fun r hr => ?_⟩
  by_cases e : q = r
  · subst e
    simp [h2, hq]
  · rw [show arr.set! q (Value.bool true) = arr.setIfInBounds q (Value.bool true) from rfl, Array.getElem?_setIfInBounds_ne e, h3 r hr]
    have : decide ((r : Int) ∈ zs ++ [(q : Int)]) = decide ((r : Int) ∈ zs) := by
      apply decide_eq_decide.2
      rw [List.mem_append, List.mem_singleton]
      constructor
      · rintro (h | h)
        · exact h
        · omega
      · exact .inl
    rw [this]
theorem TK.kept {wr wn : World} {tb : Nat} {T : TypeId} {zs : List Int} (h : TK wr tb T zs) (hb : Below wr.heap.size wr wn) : TK wn tb T zs := by
  obtain ⟨arr, h1, h2⟩ := h.box
  exact ⟨arr, Go.Proofs.YtcmfanfkcbjeoaaGreatDoor.kept h1 hb, h2⟩

set_option maxRecDepth 100000 in
set_option maxHeartbeats 16000000 in
theorem catalogLeast_walk (ops : List OpX) (v : Value) (s : ByteArray) (w : World) (h : SAt 5 ROp (cf w) v ops) (hs : s.size ≤ 9223372036854775807) (hT : Tabs w) :
    Calls Tryz.prog 7 #[v, .string s] w fun e w' => e = .returned (.bool true) ∧ Below w.heap.size w w' := by
  have HV := Hold.mk h
  obtain ⟨sa, scap, rfl, hlen, hcap, hel⟩ := h
  have HT := Hold.mk hT
  have HE := Hold.mk hel
  have HSS := Hold.mk hs
  have hsi : (s.size : Int) ≤ 9223372036854775807 := by omega
  clear hel hT hs
  go_enter Tryz.func7, Tryz.ntmps7
  go_wp2_with fail
  refine (awake19_any w HT.out).mono ?_
  rintro e w1 ⟨rfl, hb1⟩
  have HB1 := Hold.mk hb1
  have HSM := Hold.mk (small_any ops _ w1 (HV.out.mono ROp_mono (cle_below hb1)))
  clear hb1
  go_wp2_with fail
  refine HSM.out.mono ?_
  rintro e w2 ⟨sm, rfl, hsm, hb2⟩
  have HB2 := Hold.mk (HB1.out.trans (hb2.mono HB1.out.size))
  clear hb2 HSM
  cases sm with
  | false =>
    go_wp2_with fail
    refine (awake19_any w2 (HT.out.below HB2.out)).mono ?_
    rintro e w3 ⟨rfl, hb3⟩
    have HB3 := Hold.mk (HB2.out.trans (hb3.mono HB2.out.size))
    clear hb3
    go_wp2_with fail
    go_ret
    exact ⟨rfl, HB3.out⟩
  | true =>
  have HOPS := Hold.mk (hsm rfl)
  clear hsm
  by_cases hs1 : s.size ≤ 1000
  case neg =>
    have hs2 : (1000 : Int) < (s.size : Int) := by omega
    go_wp2_with fail
    refine (awake19_any w2 (HT.out.below HB2.out)).mono ?_
    rintro e w3 ⟨rfl, hb3⟩
    have HB3 := Hold.mk (HB2.out.trans (hb3.mono HB2.out.size))
    clear hb3
    go_wp2_with fail
    go_ret
    exact ⟨rfl, HB3.out⟩
  have hs2 : ¬ (1000 : Int) < (s.size : Int) := by omega
  obtain ⟨cb, hcb⟩ : ∃ cb, cb = w2.heap.size := ⟨_, rfl⟩
  obtain ⟨W3, hW3⟩ : ∃ W3, W3 = w2.alloc (.cells #[.slice none 0 0] 51) := ⟨_, rfl⟩
  have HI3 : Hold (CI w W3 cb [] none 0) := ⟨by
    subst hW3 hcb
    exact ⟨form_nil, HB2.out.alloc HB2.out.size _, HB2.out.size, heap_alloc_new w2 _, ⟨none, 0, rfl, SAt.none _ _ _⟩⟩⟩
  go_upto_region 4 with (fail)
  rw [← hW3, ← hcb]
  clear hW3 hcb hs2
  go_wp2_with fail
  go_loopw [6] (fun i wr => ∃ j : Nat, i = .int .i64 j ∧ j ≤ ops.length ∧ ∃ l a cap, CI w wr cb l a cap) (fun i _ => ops.length - (intOf i).toNat)
  case atStart => exact ⟨0, rfl, Nat.zero_le _, _, _, _, HI3.out⟩
  case round =>
    obtain ⟨j, rfl, hj, l, a, cap, hci⟩ := hrel
    have HCI := Hold.mk hci
    clear hci HI3
    by_cases hlt : j < ops.length
    · obtain ⟨o, ho⟩ : ∃ o, ops[j]? = some o := ⟨ops[j], List.getElem?_eq_getElem hlt⟩
      obtain ⟨b, off, d, rfl, hd, hcc, fa, fcap, rfl, hn, hxn, hf, hk⟩ := HE.out j o ho
      have HFW : Hold (fewI o.x = true) := ⟨(HOPS.out.2 o (List.mem_of_getElem? ho)).2⟩
      have HNM := Hold.mk hn
      obtain ⟨kd, nm, ⟨xn, fl, u⟩⟩ := o
      simp only at *
      have hcl := cle_below HCI.out.bel
      have HX : Hold (IAt (cf wr) ⟨xn, fl, u⟩ (.agg #[.string xn, .slice fa fl.length fcap, .bool u])) := ⟨⟨hxn, _, rfl, hf.mono hcl⟩⟩
      have hbl : b < w.heap.size := lt_of_cell (hcc 0 _ rfl)
      have HOC : Hold (∀ (q : Nat) u', [Value.int .i64 kd, .string nm, .string xn, .slice fa fl.length fcap, .bool u][q]? = some u' → wr.cell? ⟨b, off + j * 5 + q, none⟩ = some u') := ⟨fun q u' hq => hcl _ _ _ (hcc q u' hq)⟩
      have HY0 : Hold (wr.cell? ⟨cb, 0, none⟩ = some (.slice a l.length cap)) := ⟨by
        have := HCI.out.box
        simp [World.cell?, this]⟩
      have g1 := GrowB.cell (show wr.cell? ⟨b, off + j * 5, none⟩ = some (.int .i64 kd) from HOC.out 0 _ rfl) hbl
      have g2 := GrowB.cell (HOC.out 1 _ rfl) hbl
      have g3 := GrowB.cell (HOC.out 2 _ rfl) hbl
      have g4 := GrowB.cell (HOC.out 3 _ rfl) hbl
      have g5 := GrowB.cell (HOC.out 4 _ rfl) hbl
      clear hcc hcl hd hf hk hxn hn ho hbl
      go_upto_region 7 with (fail)
      refine wp_region_mixC (GrowBC w.heap.size wr) 10 rfl (by kernel_rfl) ?_
      have HDW := Hold.mk ((Below.refl wr.heap.size wr).drew)
      generalize wr.drew = v9 at HDW ⊢
      have HDB : Hold (Below w.heap.size wr v9) := ⟨HDW.out.mono HCI.out.bel.size⟩
      refine mixl_seg (by kernel_rfl) (fun _ _ d _ _ h => by cases d <;> exact h) [1, 2, 3, 4] [_, _, _, _] 6 10 rfl _ _ _ rfl (by kernel_rfl) (growBC HDB.out) ?_
      repeat (go_big_quiet_step (fail))
      refine wpQuiet_nil ?_
      clear g1 g2 g3 g4 g5
      have y0 : v9.cell? ⟨cb, 0, none⟩ = some (.slice a l.length cap) := cle_below HDW.out _ _ _ HY0.out
      refine mixl_act (i := 0) rfl (by kernel_rfl) (growBC HDB.out) rfl (fun K hK => ?_)
      go_wp2_with fail
      clear y0
      have HAC := Hold.mk (act_any l (.agg #[.slice a l.length cap]) ⟨kd, nm, ⟨xn, fl, u⟩⟩ fa fcap v9 (HCI.out.cat.mono (cle_below HDW.out)) (small_form HCI.out.form).1 (small_form HCI.out.form).2 HNM.out (HX.out.mono (cle_below HDW.out)) (fewI_small HFW.out) (by have := fewI_len HFW.out; simp only at this ⊢; omega) ((HT.out.below HCI.out.bel).below HDW.out))
      refine mixl_act (i := 5) rfl (by kernel_rfl) (growBC HDB.out) rfl (fun K hK => ?_)
      go_wp2_with fail
      refine HAC.out.mono ?_
      rintro e w4 ⟨v1, rfl, hcat, hb4⟩
      obtain ⟨⟨lr, z⟩, hrr⟩ : ∃ r, r = actF l ⟨kd, nm, ⟨xn, fl, u⟩⟩ := ⟨_, rfl⟩
      have HRR := Hold.mk hrr
      rw [← hrr] at hcat ⊢
      obtain ⟨a1, cap1, rfl, hs1⟩ := hcat
      have HFL : Hold (formC lr = true) := ⟨by
        have := act_form (l := l) (o := ⟨kd, nm, ⟨xn, fl, u⟩⟩) HCI.out.form
        rw [← hrr] at this; exact this⟩
      have hc4 : CatAt (cf w4) lr (.agg #[.slice a1 lr.length cap1]) := ⟨a1, cap1, rfl, hs1⟩
      simp only
      clear HAC hs1 hrr
      have HB4 := Hold.mk (HDW.out.trans (hb4.mono HDW.out.size))
      have HDB4 : Hold (Below w.heap.size wr w4) := ⟨HB4.out.mono HCI.out.bel.size⟩
      have HN := Hold.mk (HCI.out.next HFL.out HB4.out hc4)
      have hck := kept HCI.out.box HB4.out
      clear hb4 hc4
      go_wp2_with fail
      refine mixl_seg (by kernel_rfl) (fun _ _ d _ _ h => by cases d <;> exact h) [6, 7, 8] [_, _, _] 1 4 rfl _ _ _ rfl (by kernel_rfl) (growBC HDB4.out) ?_
      repeat (go_big_quiet_step (fail))
      refine wpQuiet_nil ?_
      have hf1 : w4.frozen? ⟨cb, 0, none⟩ = false := free_box hck 0
      have hx1 : w4.cell? ⟨cb, 0, none⟩ = some (.slice a l.length cap) := by simp [World.cell?, hck]
      clear hck
      refine mixl_act (i := 9) rfl (by kernel_rfl) (growBC HDB4.out) rfl (fun K hK => ?_)
      go_wp2_with fail
      clear hf1 hx1
      refine mix_done (by kernel_rfl) (growBC (HDB4.out.setCell (p := ⟨cb, 0, none⟩) HCI.out.ge _)) ?_
      go_wp2_with fail
      exact ⟨⟨j + 1, by go_num, hlt, lr, a1, cap1, HN.out⟩, by simp [intOf]; omega⟩
    · obtain ⟨⟨lr, z⟩, hrr⟩ : ∃ r, r = createF l s := ⟨_, rfl⟩
      have HRR := Hold.mk hrr
      have HCR := Hold.mk (Create_any l _ s wr HCI.out.cat (small_form HCI.out.form).1 (small_form HCI.out.form).2 HSS.out (HT.out.below HCI.out.bel))
      rw [← hrr] at HCR
      have y0 : wr.cell? ⟨cb, 0, none⟩ = some (.slice a l.length cap) := by
        have := HCI.out.box
        simp [World.cell?, this]
      clear hrr
      go_wp2_with fail
      refine HCR.out.mono ?_
      rintro e w4 ⟨v1, rfl, hcat, hb4⟩
      obtain ⟨a1, cap1, rfl, hs1'⟩ := hcat
      simp only at *
      have HBR := Hold.mk (HCI.out.bel.trans (hb4.mono HCI.out.bel.size))
      have HKC := Hold.mk (kept HCI.out.box hb4)
      have HCL := Hold.mk (HCI.out.cat.mono (cle_below hb4))
      obtain ⟨W5, hW5⟩ : ∃ W5, W5 = w4.alloc (.cells #[.slice a1 lr.length cap1] 51) := ⟨_, rfl⟩
      obtain ⟨db, hdb⟩ : ∃ db, db = w4.heap.size := ⟨_, rfl⟩
      have hb5 : Below w4.heap.size w4 W5 := by rw [hW5]; exact (Below.refl _ w4).alloc (Nat.le_refl _) _
      have HD5 : Hold (W5.heap[db]? = some (.cells #[.slice a1 lr.length cap1] 51 (0, 0))) := ⟨by rw [hW5, hdb]; exact heap_alloc_new w4 _⟩
      have HC5 : Hold (CatAt (cf W5) lr (.agg #[.slice a1 lr.length cap1])) := ⟨⟨a1, cap1, rfl, hs1'.mono RCX_mono (cle_below hb5)⟩⟩
      have HK5 := Hold.mk (kept HKC.out hb5)
      have HL5 := Hold.mk (HCL.out.mono (cle_below hb5))
      have HB5 := Hold.mk (HBR.out.trans (hb5.mono HBR.out.size))
      clear hb4 hb5 hs1' y0 HCR HKC HCL HBR
      go_upto_region 9 with (fail)
      rw [← hW5, ← hdb]
      clear hW5 hdb
      by_cases hz : z = 0
      · subst hz
        obtain ⟨k, n, hk, hkx, hfr, hn21, hlen'⟩ := create_least HRR.out.symm
        have HLEN := Hold.mk hlen'
        have HFR := Hold.mk hfr
        have HFI := Hold.mk (Find_any lr _ s W5 HC5.out)
        rw [hk] at HFI
        have yd : W5.cell? ⟨db, 0, none⟩ = some (.slice a1 lr.length cap1) := by
          have := HD5.out
          simp [World.cell?, this]
        obtain ⟨_, _, e1, hst⟩ := HC5.out
        cases e1
        obtain ⟨_, _, e3, hlec, hcapc, hel⟩ := hst
        cases e3
        obtain ⟨b, off, d, rfl, hd, hcc, xa, xcap, rfl, hxn, hxw, hxs⟩ := hel k _ hkx
        have HCE : Hold (∀ wn, Below W5.heap.size W5 wn → wn.cell? ⟨db, 0, none⟩ = some (.slice (some ⟨b, off, none⟩) lr.length cap1) ∧ wn.cell? ⟨b, off + k * 3 + 1, none⟩ = some (.int .i64 (n : Int)) ∧ wn.cell? ⟨b, off + k * 3 + 2, none⟩ = some (.slice xa 0 xcap)) := ⟨fun wn hb => ⟨by
          have := kept HD5.out hb
          simp [World.cell?, this], cle_below hb _ _ _ (hcc 1 _ rfl), cle_below hb _ _ _ (hcc 2 _ rfl)⟩⟩
        have hkl : k < lr.length := (List.getElem?_eq_some_iff.1 hkx).1
        have hkz : (k : Int) < (lr.length : Int) := by omega
        have HKL := Hold.mk hkl
        have HLC := Hold.mk hlec
        clear hk hfr hlen' hd hcc hxn hxw hxs hel hkx hlec hcapc
        go_wp2_with fail
        refine HFI.out.mono ?_
        rintro e w6 ⟨rfl, hb6⟩
        have HB6 := Hold.mk hb6
        obtain ⟨c0, c1, c2⟩ := HCE.out w6 hb6
        clear hb6 HFI yd
        go_upto_region 15 with (fail)
        obtain ⟨tb, htb⟩ : ∃ tb, tb = w6.heap.size := ⟨_, rfl⟩
        obtain ⟨W7, hW7⟩ : ∃ W7, W7 = w6.alloc (.cells Tryz.zeroCells81 81) := ⟨_, rfl⟩
        have hb7 : Below w6.heap.size w6 W7 := by rw [hW7]; exact (Below.refl _ w6).alloc (Nat.le_refl _) _
        have HTK : Hold (TK W7 tb 81 []) := ⟨⟨_, by rw [hW7, htb]; exact heap_alloc_new w6 _, by rw [zero_table]; simp, fun q hq => by rw [zero_table]; simp [hq]⟩⟩
        rw [← hW7, ← htb]
        have HB7 := Hold.mk (HB6.out.trans (hb7.mono HB6.out.size))
        have HTB : Hold (W5.heap.size ≤ tb) := ⟨by rw [htb]; exact HB6.out.size⟩
        clear c0 c1 c2 hW7 hb7 htb
        have hkc := kept HK5.out HB7.out
        have y0 : W7.cell? ⟨cb, 0, none⟩ = some (.slice a l.length cap) := by simp [World.cell?, hkc]
        have HSP := Hold.mk (Spaces_any l (.agg #[.slice a l.length cap]) W7 (HL5.out.mono (cle_below HB7.out)) (by have := spaces_four HCI.out.form; omega))
        have HZB : Hold (∀ z ∈ spacesC l, ∃ m : Nat, z = (m : Int) ∧ 1 ≤ m ∧ m ≤ 200) := ⟨fun z hz => by
          have := (spacesOk_iff.1 (formC_iff.1 HCI.out.form).2.2.2).2 z hz
          exact ⟨z.toNat, by omega, by omega, by omega⟩⟩
        have HZN : Hold ((spacesC l).length ≤ 20) := ⟨spaces_four HCI.out.form⟩
        obtain ⟨zs, hzs⟩ : ∃ zs, zs = spacesC l := ⟨_, rfl⟩
        rw [← hzs] at HSP HZB HZN HFR HLEN
        clear hkc hzs
        go_wp2_with fail
        refine HSP.out.mono ?_
        rintro e w8 ⟨sv, p, cs, rfl, hown, hb8⟩
        obtain ⟨sva, svcap, rfl⟩ := hown.shape
        have hpl := hown.len
        have HOI := Hold.mk (owns_ints hown)
        have HOW := Hold.mk hown.own
        subst hpl
        have HT8 := Hold.mk (HTK.out.kept hb8)
        have HB8 := Hold.mk (HB7.out.trans (hb8.mono HB7.out.size))
        have hsvc : zs.length ≤ svcap ∧ svcap ≤ 9223372036854775807 := by
          rcases hown.own.2 with ⟨hv, hn⟩ | ⟨g, cap, cur, hv, _, _, h2, h3, _⟩
          · injection hv with _ e2 e3; omega
          · injection hv with _ e2 e3; unfold maxLen at h3; omega
        obtain ⟨hsvc1, hsvc2⟩ := hsvc
        clear hown hb8 HSP y0 HTK
        go_wp2_with fail
        go_loopw [12] (fun i wr => ∃ q : Nat, i = .int .i64 q ∧ q ≤ zs.length ∧ w8.grownBy wr (some tb) ∧ TK wr tb 81 (zs.take q)) (fun i _ => zs.length - (intOf i).toNat)
        case atStart => exact ⟨0, rfl, Nat.zero_le _, grownZ_below (Below.refl _ _), HT8.out⟩
        case round =>
          rename World => wq
          obtain ⟨q, rfl, hq, hgq, htk⟩ := hrel
          have HGQ := Hold.mk hgq
          have HTQ := Hold.mk htk
          clear hgq htk
          by_cases hlq : q < zs.length
          · obtain ⟨m, hm, hm1, hm2⟩ := HZB.out zs[q] (List.getElem_mem _)
            have hzq : zs[q]? = some (m : Int) := by rw [List.getElem?_eq_getElem hlq, hm]
            obtain ⟨sg, rfl⟩ := own_placeZ HOW.out (by omega)
            have hcell : wq.cell? ⟨sg, q, none⟩ = some (.int .i64 (m : Int)) := by
              have hk := HOW.out.kept HGQ.out (.inr (fun e => by
                obtain ⟨arr, h1, _⟩ := HT8.out.box
                exact own_ne HOW.out h1 (by decide) sg rfl (Option.some.inj e).symm))
              have := hk.cells (g := sg) rfl q (.int .i64 (m : Int)) (by rw [HOI.out, List.getElem?_map, hzq]; rfl)
              rw [addr_at] at this
              exact this
            have hm3 : m < 256 := by omega
            have hme : m % 256 = m := Nat.mod_eq_of_lt hm3
            have HN : Hold (TK (wq.setCell ⟨tb, m % 256, none⟩ (.bool true)) tb 81 (zs.take (q + 1))) := ⟨by
              rw [take_succ hzq, hme]; exact HTQ.out.set hm3⟩
            have HGN : Hold (w8.grownBy (wq.setCell ⟨tb, m % 256, none⟩ (.bool true)) (some tb)) := ⟨grownZ_trans HGQ.out (grownZ_set _ _ _ _)⟩
            have hf := HTQ.out.free (m % 256)
            have hx := TK.cell HTQ.out (q := m % 256) (by omega)
            clear hm hzq hm1 hm2 hm3 hme
            go_wp2_with fail
            exact ⟨⟨q + 1, by go_num, hlq, HGN.out, HN.out⟩, by simp [intOf]; omega⟩
          · obtain rfl : q = zs.length := by omega
            have HTA : Hold (TK wq tb 81 zs) := ⟨by have := HTQ.out; rw [List.take_of_length_le (Nat.le_refl _)] at this; exact this⟩
            have HB9 : Hold (Below W5.heap.size W5 wq) := ⟨HB8.out.trans (below_grownZ HGQ.out HTB.out HB8.out.size)⟩
            obtain ⟨c0, c1, c2⟩ := HCE.out wq HB9.out
            have hn1 := HFR.out.pos
            clear HGQ HTQ
            go_wp2_with fail
            go_loopw [13] (fun i wr => ∃ m : Nat, i = .int .i64 m ∧ 1 ≤ m ∧ m ≤ n ∧ wr = wq) (fun i _ => n - (intOf i).toNat)
            case atStart => exact ⟨1, rfl, Nat.le_refl _, hn1, rfl⟩
            case round =>
              obtain ⟨m, rfl, hm1, hm2, rfl⟩ := hrel
              have hm3 : m < 256 := by omega
              have hme : m % 256 = m := Nat.mod_eq_of_lt hm3
              have hx := TK.cell HTA.out hm3
              rw [← hme] at hx
              by_cases hlm : m < n
              · rw [hme, decide_eq_true (HFR.out.all m hm1 hlm)] at hx
                rw [← hme] at hx
                clear hme hm3
                go_wp2_with fail
                exact ⟨⟨m + 1, by go_num, by omega, hlm, trivial⟩, by simp [intOf]; omega⟩
              · obtain rfl : m = n := by omega
                rw [hme, decide_eq_false HFR.out.not_] at hx
                rw [← hme] at hx
                clear hme hm3
                have HS2 := Hold.mk (Spaces_any lr (.agg #[.slice (some ⟨b, off, none⟩) lr.length cap1]) _ (HC5.out.mono (cle_below HB9.out)) (by have := HLEN.out; have := HZN.out; omega))
                go_wp2_with fail
                refine HS2.out.mono ?_
                rintro e w10 ⟨sv2, p2, cs2, rfl, hown2, hb10⟩
                obtain ⟨s2a, s2c, rfl⟩ := hown2.shape
                have hl2 := hown2.len
                rw [HLEN.out] at hl2
                subst hl2
                have HBE : Hold (Below w.heap.size w w10) := ⟨(HB5.out.trans (HB9.out.mono HB5.out.size)).trans (hb10.mono (Nat.le_trans HB5.out.size HB9.out.size))⟩
                clear hown2 hb10 HS2
                go_wp2_with fail
                go_ret
                exact ⟨by have := HZN.out; simp; unfold wrap64; omega, HBE.out⟩
      · have HRN : Hold (lr = []) := ⟨by
          have := create_err (l := l) (s := s) (by rw [← HRR.out]; exact hz)
          rw [← HRR.out] at this; exact this⟩
        have h0 : lr.length = 0 := by rw [HRN.out]; rfl
        have yd : W5.cell? ⟨db, 0, none⟩ = some (.slice a1 lr.length cap1) := by
          have := HD5.out
          simp [World.cell?, this]
        rw [h0] at yd
        go_wp2_with fail
        go_ret
        exact ⟨rfl, HB5.out⟩

end Go.Proofs.YtcmfanfkcbjeoaaGreatDoor
