/- Records: plain, few and awake of the law; RecordCuts walked (printed by genXVH.py). -/
import Derived.Test.YticlnijkfclgcaaGreatDoorZ46
namespace Go.Proofs.YticlnijkfclgcaaGreatDoor
open Go.Shelf Go.RowKit

theorem infoWQ : (Tryz.prog.info? 51).map (fun i => (i.zero, i.size, i.bytes)) = some (some (.agg #[.int .i64 0, .string ⟨#[]⟩, .bool false, .string ⟨#[]⟩]), 4, 48) := by kernel_rfl
/-- the record under way, in its box -/
structure PLV (ob : Nat) (W0 wr : World) (z : Nat) (ct : ByteArray) (sl : Value) (j : Nat) (xs : List WR) (cs : List Value) : Prop where
  bel : Below ob W0 wr
  box : wr.heap[ob]? = some (.cells #[.int .u64 (z : Int), .string ct, sl] 41 (0, 0))
  own : OwnS 4 RW 51 (ob + 1) wr sl j xs cs
theorem PLV.push {ob : Nat} {W0 wr w9 wA : World} {z j j2 : Nat} {ct : ByteArray} {sl sl2 : Value} {xs xs2 : List WR} {cs cs2 : List Value} (h : PLV ob W0 wr z ct sl j xs cs) (hb : Below wr.heap.size wr w9) (ho : OwnS 4 RW 51 (ob + 1) wA sl2 j2 xs2 cs2) (hg : Grew w9 wA sl sl2) :
    PLV ob W0 (wA.setCell ⟨ob, 2, none⟩ sl2) z ct sl2 j2 xs2 cs2 ∧ wA.heap[ob]? = some (.cells #[.int .u64 (z : Int), .string ct, sl] 41 (0, 0)) := by
  have hlt := heap_lt h.box
  have h9 := h.own.quiet RW_mono hb
  have hk : wA.heap[ob]? = some (.cells #[.int .u64 (z : Int), .string ct, sl] 41 (0, 0)) := hg.kept (kept h.box hb) (fun g hg e => by have := (h9.low g hg).1; omega)
  refine ⟨⟨?_, ?_, rws_keep ho (turned_set _ _ _ _).2 fun g hg => by have := (ho.low g hg).1; omega⟩, hk⟩
  · exact ((h.bel.trans (hb.mono (Nat.le_of_lt hlt))).trans (hg.below (Nat.le_trans (Nat.le_of_lt hlt) hb.size) fun g hg => Nat.le_of_succ_le (h9.low g hg).1)).setCell (p := ⟨ob, 2, none⟩) (Nat.le_refl _) _
  · have := set_self (o := 2) (c := sl2) hk
    simpa using this
set_option maxRecDepth 100000 in
set_option maxHeartbeats 16000000 in
theorem plain21_any (r : RCD) (v : Value) (w : World) (hr : RcdAt (cf w) r v) (hn : r.ws.length ≤ 1000) :
    Calls Tryz.prog 9 #[v] w fun e w' => ∃ sv, e = .returned (.agg #[.int .u64 (r.time : Int), .string r.cat, sv]) ∧ SAt 4 RW (cf w') sv r.ws ∧ Below w.heap.size w w' := by
  obtain ⟨lv, rfl, hl⟩ := hr
  obtain ⟨la, lcap, rfl, hle, hcap, hel⟩ := id hl
  obtain ⟨z, ct, ws⟩ := r
  simp only at *
  have HEL := Hold.mk hel
  obtain ⟨W0, hW0, hB, e0, e1, e2⟩ := threeE w (.cells #[.int .u64 (z : Int), .string ct, .slice la ws.length lcap] 25) (.cells zeroRc 41) (.cells #[.int .u64 (z : Int), .string ct, .slice none 0 0] 41)
  have HB0 := Hold.mk hB
  have HE0 := Hold.mk e0
  have HE1 := Hold.mk e1
  have HP0 : Hold (PLV (w.heap.size + 1 + 1) W0 W0 z ct (.slice none 0 0) 0 [] []) := ⟨⟨Below.refl _ _, e2, OwnS.start _ _ _ (by rw [hW0]; simp)⟩⟩
  have HZ0 : Hold (W0.heap.size = w.heap.size + 3) := ⟨by rw [hW0]; simp⟩
  obtain ⟨W1, hW1⟩ : ∃ W1, W1 = (w.alloc (.cells #[.int .u64 (z : Int), .string ct, .slice la ws.length lcap] 25)).alloc (.cells zeroRc 41) := ⟨_, rfl⟩
  have hb1 : Below w.heap.size w W1 := by rw [hW1]; exact ((Below.refl _ w).alloc (Nat.le_refl _) _).alloc (by simp) _
  have hx1 : W1.heap[w.heap.size]? = some (.cells #[.int .u64 (z : Int), .string ct, .slice la ws.length lcap] 25 (0, 0)) := by
    rw [hW1]
    exact kept (heap_alloc_new w _) ((Below.refl _ _).alloc (Nat.le_refl _) _)
  obtain ⟨y0, y1, y2⟩ := cells_three hx1
  have hs1 : W1.heap.size = w.heap.size + 1 + 1 := by rw [hW1]; simp
  rw [← hW1] at hW0
  clear hB e0 e1 e2 hel hl hb1 hx1
  go_enter Tryz.func9, Tryz.ntmps9
  go_upto_region 1 with (fail)
  rw [show (#[Value.int .u64 0, .string ⟨#[]⟩, .slice none 0 0] : Array Value) = zeroRc from rfl, ← hW1]
  clear hW1
  go_upto_region 2 with (fail)
  rw [← hW0]
  clear hW0 y0 y1 y2 hs1
  go_wp2_with fail
  go_loopw [4] (fun i wr => ∃ (j : Nat) (sl : Value) (cs : List Value), i = .int .i64 j ∧ j ≤ ws.length ∧ PLV (w.heap.size + 1 + 1) W0 wr z ct sl j (ws.take j) cs) (fun i _ => ws.length - (intOf i).toNat)
  case atStart => exact ⟨0, _, _, rfl, Nat.zero_le _, HP0.out⟩
  case round =>
    clear HP0
    obtain ⟨j, sl, cs, rfl, hj, hps⟩ := hrel
    obtain ⟨sa, scap, rfl⟩ := hps.own.shape
    obtain ⟨ks, hks⟩ : ∃ ks, ks = ws.take j := ⟨_, rfl⟩
    rw [← hks] at hps
    have HKS := Hold.mk hks
    have HPS := Hold.mk hps
    have HX := Hold.mk (keptB HE0.out (by omega) hps.bel)
    have HR := Hold.mk (keptB HE1.out (by omega) hps.bel)
    have HBX : Hold (Below w.heap.size w wr) := ⟨HB0.out.trans (hps.bel.mono (by omega))⟩
    clear hps hks
    obtain ⟨_, _, y2⟩ := cells_three HX.out
    by_cases hlt : j < ws.length
    · obtain ⟨x, hx⟩ : ∃ x, ws[j]? = some x := ⟨ws[j], List.getElem?_eq_getElem hlt⟩
      obtain ⟨b, off, d, rfl, hd, hcc, hxi⟩ := HEL.out j x hx
      have HRI : Hold (∀ c : CF, RW c x [.int .i64 x.sp, .string x.id, .bool x.gone, .string x.text]) := ⟨fun _ => ⟨rfl, hxi.2⟩⟩
      obtain ⟨rfl, _, _, _⟩ := hxi
      have HTK : Hold (ws.take (j + 1) = ks ++ [x]) := ⟨by rw [take_nextW hx, ← HKS.out]⟩
      obtain ⟨sp, id, gone, tx⟩ := x
      have hcl := cle_below HBX.out
      have z0 := hcl _ _ _ (hcc 0 _ rfl)
      have z1 := hcl _ _ _ (hcc 1 _ rfl)
      have z2 := hcl _ _ _ (hcc 2 _ rfl)
      have z3 := hcl _ _ _ (hcc 3 _ rfl)
      have hbo : b < w.heap.size := lt_of_cell (hcc 0 _ rfl)
      unfold cf at z0 z1 z2 z3
      rw [Nat.add_zero] at z0
      obtain ⟨_, _, o2⟩ := cells_three HPS.out.box
      have hlow := HPS.out.own.low
      have g0 := OthT.cell (zb := w.heap.size + 1 + 1) (sv := (.slice sa j scap)) z0 (by omega) (fun e => by have := (hlow _ e).1; omega)
      have g1 := OthT.cell (zb := w.heap.size + 1 + 1) (sv := (.slice sa j scap)) z1 (by omega) (fun e => by have := (hlow _ e).1; omega)
      have g2 := OthT.cell (zb := w.heap.size + 1 + 1) (sv := (.slice sa j scap)) z2 (by omega) (fun e => by have := (hlow _ e).1; omega)
      have g3 := OthT.cell (zb := w.heap.size + 1 + 1) (sv := (.slice sa j scap)) z3 (by omega) (fun e => by have := (hlow _ e).1; omega)
      have g4 := OthT.cell (zb := w.heap.size + 1 + 1) (sv := (.slice sa j scap)) y2 (by omega) (fun e => by have := (hlow _ e).1; omega)
      have h1 : ∀ e : BoxOT (w.heap.size + 1 + 1) wr, e.val.cell? ⟨w.heap.size + 1 + 1, 2, none⟩ = some (.slice sa j scap) := BoxOT.cell o2
      have hj9 : j ≤ 1000 := by omega
      clear hx hd hcc hcl hbo z0 z1 z2 z3 o2 hlow
      go_upto_region 5 with (fail)
      clear y2
      refine wp_region_mixL (KeepO (w.heap.size + 1 + 1) (.slice sa j scap) wr [8]) 11 rfl (by kernel_rfl) ?_
      obtain ⟨w9, hw9⟩ : ∃ w9, w9 = wr.drew := ⟨_, rfl⟩
      have hb9 : Below wr.heap.size wr w9 := by rw [hw9]; exact (Below.refl _ _).drew
      have HB9 := Hold.mk hb9
      rw [← hw9]
      clear hw9 hb9
      have hgl := heap_lt HPS.out.box
      refine mixL_seg (by kernel_rfl) (fun _ _ d _ _ h => by cases d <;> exact h) (OthC (w.heap.size + 1 + 1) (.slice sa j scap) wr) keepO_base [0, 2, 3, 4, 5, 6] (keepO_back rfl) [_, _, _, _, _, _] 5 11 rfl _ _ _ rfl (by kernel_rfl) ?_
      repeat (go_big_quiet_step (fail))
      refine wpQuiet_nil ?_
      refine mixL_one (by kernel_rfl) (fun _ _ d _ _ h => by cases d <;> exact h) (BoxOC (w.heap.size + 1 + 1) wr) 8 (keepO_box (by decide)) 1 (fun l w => keepO_back (is := [1]) rfl 1 (by simp) l w) _ 4 _ _ _ rfl (by kernel_rfl) (by kernel_rfl) (by kernel_rfl) ?_
      repeat (go_big_quiet_step (fail))
      refine wpQuiet_nil ?_
      clear h1 g0 g1 g2 g3 g4
      have HOS := Hold.mk (HPS.out.own.quiet RW_mono HB9.out)
      refine mixL_act (i := 7) rfl (by kernel_rfl) (keepO_on (fun b hb _ _ => HB9.out.block b hb) (HB9.out.block (w.heap.size + 1 + 1) hgl)) rfl (fun K hK => ?_)
      go_wp2_with fail
      have HB11 : Hold (Below wr.heap.size wr (w9.alloc (.cells #[.int .i64 sp, .string id, .bool gone, .string tx] 51))) := ⟨HB9.out.alloc HB9.out.size _⟩
      refine mixL_act (i := 8) rfl (by kernel_rfl) (keepO_on (fun b hb _ _ => HB11.out.block b hb) (HB11.out.block (w.heap.size + 1 + 1) hgl)) rfl (fun K hK => ?_)
      refine wp_push RW_mono _ _ rfl infoWQ Tryz.underlying39 rfl (by decide) _ w9 _ j _ cs HOS.out rfl #[.int .i64 sp, .string id, .bool gone, .string tx] [.int .i64 sp, .string id, .bool gone, .string tx] rfl rfl (by simp [Value.oneCell']) ⟨sp, id, gone, tx⟩ (HRI.out _) _ rfl rfl (by omega) (by decide) ?_
      intro sl2 wA hoA hgA
      obtain ⟨pa, pc, rfl⟩ := hoA.shape
      have HN := Hold.mk (HPS.out.push HB9.out hoA hgA)
      rw [← HTK.out] at HN
      have HOA : Hold (∀ b, b < wr.heap.size → b ≠ w.heap.size + 1 + 1 → (Value.slice sa j scap).ownBlock ≠ some b → wA.heap[b]? = wr.heap[b]?) := ⟨fun b hb _ h2 => by
        rw [hgA.by_.block b (Nat.lt_of_lt_of_le hb HB9.out.size) (fun e => h2 e.symm)]; exact HB9.out.block b hb⟩
      clear hoA hgA
      go_wp2_with fail
      refine mixL_seg (by kernel_rfl) (fun _ _ d _ _ h => by cases d <;> exact h) (OthC (w.heap.size + 1 + 1) (.slice sa j scap) wr) keepO_base [9] (keepO_back rfl) [_] 1 2 rfl _ _ _ rfl (by kernel_rfl) ?_
      repeat (go_big_quiet_step (fail))
      refine wpQuiet_nil ?_
      refine mixL_act (i := 10) rfl (by kernel_rfl) (keepO_off HOA.out (by kernel_rfl)) rfl (fun K hK => ?_)
      have f4 := free_box HN.out.2 2
      obtain ⟨_, _, v4⟩ := cells_three HN.out.2
      go_wp2_with fail
      clear f4 v4
      obtain ⟨wB, hwB⟩ : ∃ wB, wB = wA.setCell ⟨w.heap.size + 1 + 1, 2, none⟩ (.slice pa (j + 1) pc) := ⟨_, rfl⟩
      rw [← hwB]
      have HN2 : Hold (PLV (w.heap.size + 1 + 1) W0 wB z ct (.slice pa (j + 1) pc) (j + 1) (ws.take (j + 1)) _) := ⟨by rw [hwB]; exact HN.out.1⟩
      have HOB : Hold (∀ b, b < wr.heap.size → b ≠ w.heap.size + 1 + 1 → (Value.slice sa j scap).ownBlock ≠ some b → wB.heap[b]? = wr.heap[b]?) := ⟨fun b h1 h2 h3 => by
        rw [hwB, Below.heap_setCell _ _ _ _ h2]; exact HOA.out b h1 h2 h3⟩
      clear hwB HOA HN
      refine mixL_done (by kernel_rfl) (keepO_off HOB.out (by kernel_rfl)) ?_
      clear HOB
      go_wp2_with fail
      exact ⟨⟨j + 1, _, _, by go_num, hlt, HN2.out⟩, by simp [intOf]; omega⟩
    · obtain rfl : j = ws.length := by omega
      have HM := Hold.mk (HPS.out.own.at_ RW_mono)
      have HK1 : Hold (ks = ws) := ⟨by rw [HKS.out, List.take_of_length_le (Nat.le_refl _)]⟩
      rw [HK1.out] at HM
      obtain ⟨o0, o1, o2⟩ := cells_three HPS.out.box
      obtain ⟨r0, r1, r2⟩ := cells_three HR.out
      have f0 := free_box HR.out 0
      have f1 := free_box HR.out 1
      have f2 := free_box HR.out 2
      go_wp2_with fail
      obtain ⟨W8, hW8⟩ : ∃ W8, W8 = (((wr.setCell ⟨w.heap.size + 1, 0, none⟩ (.int .u64 (z : Int))).setCell ⟨w.heap.size + 1, 1, none⟩ (.string ct)).setCell ⟨w.heap.size + 1, 2, none⟩ (.slice sa ws.length scap)) := ⟨_, rfl⟩
      rw [← hW8]
      have hk8 : W8.heap[w.heap.size + 1]? = some (.cells #[.int .u64 (z : Int), .string ct, .slice sa ws.length scap] 41 (0, 0)) := by rw [hW8]; exact set3V_self HR.out
      have hb8 : Below w.heap.size w W8 := by rw [hW8]; exact set3V_below HBX.out (Nat.le_succ _)
      have HSA : Hold (SAt 4 RW (cf W8) (.slice sa ws.length scap) ws) := ⟨by
        have hr : ∀ (b o : Nat) (v : Value), b ≠ w.heap.size + 1 → wr.cell? ⟨b, o, none⟩ = some v → W8.cell? ⟨b, o, none⟩ = some v := fun b o v hb hv => by
          rw [World.cell?_of_block (show W8.heap[b]? = wr.heap[b]? by rw [hW8, Below.heap_setCell _ _ _ _ hb, Below.heap_setCell _ _ _ _ hb, Below.heap_setCell _ _ _ _ hb])]; exact hv
        obtain ⟨a, cap, e, h1, h2, h3⟩ := HM.out
        refine ⟨a, cap, e, h1, h2, fun i x hx => ?_⟩
        obtain ⟨b, off, d, q1, q2, q3, q4⟩ := h3 i x hx
        refine ⟨b, off, d, q1, q2, fun q u hu => hr _ _ _ (fun eb => ?_) (q3 q u hu), q4⟩
        cases e
        subst q1
        have := (HPS.out.own.low b rfl).1
        omega⟩
      clear f0 f1 f2 r0 r1 r2 o0 o1 o2
      obtain ⟨v0, v1, v2⟩ := cells_three hk8
      refine bodyPost_ret (v := .agg #[.int .u64 (z : Int), .string ct, .slice sa ws.length scap]) (by simp [results, Tryz.results9, go_sem, v0, v1, v2]) rfl ?_
      exact ⟨_, rfl, HSA.out, hb8⟩
set_option maxRecDepth 100000 in
set_option maxHeartbeats 16000000 in
theorem few21_any (r : RCD) (v : Value) (w : World) (hr : RcdAt (cf w) r v) :
    Calls Tryz.prog 5 #[v] w (FewPostW (r.ws.length ≤ 30 ∧ r.cat.size ≤ 10000 ∧ smallW r.ws) w) := by
  obtain ⟨lv, rfl, hl⟩ := hr
  obtain ⟨la, lcap, rfl, _⟩ := id hl
  obtain ⟨z, ct, ws⟩ := r
  simp only at *
  obtain ⟨W, hW⟩ : ∃ W, W = w.alloc (.cells #[.int .u64 (z : Int), .string ct, .slice la ws.length lcap] 25) := ⟨_, rfl⟩
  have hb : Below w.heap.size w W := by rw [hW]; exact (Below.refl _ w).alloc (Nat.le_refl _) _
  have HX : Hold (W.heap[w.heap.size]? = some (.cells #[.int .u64 (z : Int), .string ct, .slice la ws.length lcap] 25 (0, 0))) := ⟨by rw [hW]; exact heap_alloc_new w _⟩
  have HB := Hold.mk hb
  have HL := Hold.mk (hl.mono RW_mono (cle_below hb))
  obtain ⟨y0, y1, y2⟩ := cells_three HX.out
  clear hb hl
  by_cases h1 : ws.length ≤ 30
  · by_cases h2 : ct.size ≤ 10000
    · have k1 : (ws.length : Int) ≤ 30 := by omega
      have k2 : (ct.size : Int) ≤ 10000 := by omega
      have HPL := Hold.mk (plain21_any ⟨z, ct, ws⟩ _ W ⟨_, rfl, HL.out⟩ (by simp only; omega))
      have H1 := Hold.mk h1
      have H2 := Hold.mk h2
      clear h1 h2
      go_enter Tryz.func5, Tryz.ntmps5
      go_upto_region 1 with (fail)
      rw [← hW]
      clear hW
      go_wp2_with fail
      refine HPL.out.mono ?_
      rintro e w2 ⟨sv, rfl, hsv, hb2⟩
      obtain ⟨sva, svc, rfl, _⟩ := id hsv
      have HB2 := Hold.mk (HB.out.trans (hb2.mono HB.out.size))
      have HFW := Hold.mk (wrFew_any ws _ w2 hsv H1.out)
      have hfd : ∀ wn : World, (Instr.field 41 (.agg #[.int .u64 (z : Int), .string ct, .slice sva ws.length svc]) 2).run Tryz.prog wn = .ok (.slice sva ws.length svc) wn := fun _ => by kernel_rfl
      clear hsv hb2 HPL
      go_wp2_with fail
      refine HFW.out.mono ?_
      rintro e w3 ⟨fb, rfl, hfb, hb3⟩
      have HB3 := Hold.mk (HB2.out.trans (hb3.mono HB2.out.size))
      have HFB := Hold.mk hfb
      clear hfb hb3 HFW
      go_wp2_with fail
      go_ret
      exact fewW_mk (fun h => ⟨H1.out, H2.out, HFB.out h⟩) rfl HB3.out
    · have k1 : (ws.length : Int) ≤ 30 := by omega
      have k2 : ¬ (ct.size : Int) ≤ 10000 := by omega
      go_enter Tryz.func5, Tryz.ntmps5
      go_upto_region 1 with (fail)
      rw [← hW]
      clear hW
      go_wp2_with fail
      go_ret
      exact fewW_no HB.out
  · have k1 : ¬ (ws.length : Int) ≤ 30 := by omega
    go_enter Tryz.func5, Tryz.ntmps5
    go_upto_region 1 with (fail)
    rw [← hW]
    clear hW
    go_wp2_with fail
    go_ret
    exact fewW_no HB.out
def oneV : RCD := ⟨5, ⟨#[]⟩, [⟨1, ⟨#[97]⟩, true, ⟨#[]⟩⟩]⟩
open Classical in
theorem oneV_form : formedR oneV = true := by
  unfold formedR
  rw [if_pos (show oneV.cat.size = 0 from rfl)]
  have h1 : oneF ⟨1, ⟨#[97]⟩, true, ⟨#[]⟩⟩ = true := by
    unfold oneF idF wtextF
    have hv : Lib.validD (⟨#[97]⟩ : ByteArray).data.toList = true := by
      have h2 := Lib.valid_skip (⟨#[97]⟩ : ByteArray) 1 (fun b hb => by
        have : b = 97 := by simpa using List.mem_of_mem_take hb
        subst this; decide)
      rw [← h2, ByteArray.data_extract]
      simp [Lib.validD_nil]
    rw [hv]; rfl
  have h2 : formedW [⟨1, ⟨#[97]⟩, true, ⟨#[]⟩⟩] = true := by
    unfold formedW
    refine decide_eq_true ⟨⟨fun i x hi hx => ?_, fun i a b hi _ _ => by simp at hi⟩, by decide⟩
    match i, hx with
    | 0, hx => obtain rfl := Option.some.inj hx; exact h1
    | i + 1, hx => simp at hx
  rw [show oneV.ws = [⟨1, ⟨#[97]⟩, true, ⟨#[]⟩⟩] from rfl, h2]; rfl
theorem oneV_len : (encR oneV).length = 17 := by
  unfold oneV encR encW be16 be64R
  simp
set_option maxRecDepth 100000 in
set_option maxHeartbeats 16000000 in
theorem awake21_any (w : World) (hT : Tabs w) (hP : Pow w.heap.size w) (hE : Errs w.heap.size w) :
    Calls Tryz.prog 4 #[] w fun e w' => e = .returned (.bool true) ∧ Below w.heap.size w w' := by
  obtain ⟨W, hW⟩ : ∃ W, W = w.alloc (.cells #[.int .i64 1, .string ⟨#[97]⟩, .bool true, .string ⟨#[]⟩] 37) := ⟨_, rfl⟩
  have hb : Below w.heap.size w W := by rw [hW]; exact (Below.refl _ w).alloc (Nat.le_refl _) _
  have hx : W.heap[w.heap.size]? = some (.cells #[.int .i64 1, .string ⟨#[97]⟩, .bool true, .string ⟨#[]⟩] 37 (0, 0)) := by rw [hW]; exact heap_alloc_new w _
  have HB := Hold.mk hb
  have HWR := Hold.mk (Write21_any oneV (.agg #[.int .u64 5, .string ⟨#[]⟩, .slice (some ⟨w.heap.size, 0, none⟩) 1 1]) W ⟨_, rfl, by
    refine ⟨_, _, rfl, Nat.le_refl _, by decide, fun i x hi => ?_⟩
    match i, hi with
    | 0, hi =>
      obtain rfl := Option.some.inj hi
      obtain ⟨d0, d1, d2, d3⟩ := cells4W hx
      refine ⟨w.heap.size, 0, _, rfl, rfl, fun q u hu => ?_, rfl, by decide, by decide, by decide⟩
      match q, hu with
      | 0, hu => obtain rfl := Option.some.inj hu; exact d0
      | 1, hu => obtain rfl := Option.some.inj hu; exact d1
      | 2, hu => obtain rfl := Option.some.inj hu; exact d2
      | 3, hu => obtain rfl := Option.some.inj hu; exact d3
      | q + 4, hu => simp [WR.cells] at hu
    | i + 1, hi => simp [oneV] at hi⟩ ⟨by decide, by decide, fun x hx => by
      have : x = ⟨1, ⟨#[97]⟩, true, ⟨#[]⟩⟩ := by simpa [oneV] using hx
      subst this; decide⟩ (hT.below hb) (Pow.below hP hb) (errs_after hE hb))
  clear hb hx hT hP hE
  go_enter Tryz.func4, Tryz.ntmps4
  go_wp2_with fail
  rw [← hW]
  clear hW
  refine HWR.out.mono ?_
  rintro e w2 ⟨hpo, hb2⟩
  rw [if_pos oneV_form] at hpo
  obtain ⟨sv, rfl, hbr⟩ := hpo
  obtain ⟨sa, sc, rfl, _⟩ := hbr.bytesC
  have HB2 := Hold.mk (HB.out.trans (hb2.mono HB.out.size))
  rw [oneV_len]
  clear hb2 hbr HWR
  go_wp2_with fail
  go_ret
  exact ⟨rfl, HB2.out⟩
end Go.Proofs.YticlnijkfclgcaaGreatDoor
