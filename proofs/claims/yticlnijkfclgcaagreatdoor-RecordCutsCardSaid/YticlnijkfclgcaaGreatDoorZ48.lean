/- RecordCuts, walked. -/
import Derived.Test.YticlnijkfclgcaaGreatDoorZ47
namespace Go.Proofs.YticlnijkfclgcaaGreatDoor
open Go.Shelf Go.RowKit

set_option maxRecDepth 100000 in
theorem app_srcV {ops : Array Oper} {rest : List Oper} {o : Oper} {a : Act} {Q : Exit → Act → World → Prop} (hgd : o.guard = none) (s x : Operand) (ho : o.op = .call { callee := .builtin .append, args := #[s, x], argTypes := #[29, 29] })
    (B : Nat) (w : World) (sv : Value) (l : List UInt8) (hb : BRow B w sv l) (hs : a.eval s = sv) (b off cap : Nat) (m : List UInt8) (hx : a.eval x = .slice (some ⟨b, off, none⟩) m.length cap) (hm : BytesC (cf w) (some ⟨b, off, none⟩) m.length cap m) (hp : 0 < m.length) (hlen : l.length + m.length ≤ 140737488355328)
    (h : ∀ sv' w', BRow B w' sv' (l ++ m) → Grew w w' sv sv' → wpList Tryz.prog ops Q rest (a.put o.dst sv') w') : wpList Tryz.prog ops Q (o :: rest) a w := by
  obtain ⟨i0, hi, hz0, hz1, hz2⟩ := info_parts infoB
  refine wpList_append_lies w hgd s x 29 ho B 5 i0 (.int .u8 0) 1 1 Tryz.underlying29 hi hz0 hz1 hz2 rfl (by decide) sv l.length (bv l) hs hb.own ⟨b, off, none⟩ m.length cap (bv m) hx (by rw [bv_len]; omega) (fun j u hu => ?_) (bv_one m) hp (by unfold maxLen; omega) (by omega) hb.le _ rfl ?_
  · unfold bv at hu
    rw [List.getElem?_map] at hu
    obtain ⟨y, hy, rfl⟩ := Option.map_eq_some_iff.1 hu
    have := (hm.2.2.2.2 b off none rfl).2 j y hy
    unfold cf at this
    rw [← this]
    congr 1
    unfold Addr.add; split
    · simp_all
    · rfl
  · intro g cap w' ho' hg hgg _
    refine h _ w' ⟨by rw [List.length_append, bv_app]; exact ho', Nat.le_trans hb.le hg.size⟩ ⟨hg, fun q hq => ?_⟩
    obtain rfl : g = q := by simpa [Value.ownBlock] using hq
    rcases hgg with h1 | h1
    · exact .inl h1
    · exact .inr (by omega)
theorem encs_small : ∀ l : List WR, (∀ x ∈ l, x.id.size ≤ 16 ∧ x.text.size ≤ 240) → (l.flatMap encW).length ≤ l.length * 261
  | [], _ => by simp
  | x :: l, h => by
    have h1 := h x (List.mem_cons_self ..)
    have h2 := encs_small l fun y hy => h y (List.mem_cons_of_mem _ hy)
    have h3 := encW_len x
    rw [List.flatMap_cons, List.length_append, List.length_cons]
    omega
theorem encR_le {r : RCD} (h : formedR r = true) (hc : r.cat.size ≤ 10000) : (encR r).length ≤ 20000 := by
  obtain ⟨h1, h2⟩ := formedR_parts h
  have h3 := encs_small r.ws fun x hx => (h2 x hx).2.2
  unfold encR be16 be64R
  simp only [List.length_append, List.length_cons, List.length_nil, len_list]
  omega
set_option maxRecDepth 100000 in
set_option maxHeartbeats 16000000 in
theorem recordCuts_walk (r : RCD) (rv : Value) (atn more : Nat) (w : World) (hr : RcdAt (cf w) r rv) (_ha : atn < 65536) (hm : more < 256) (hT : Tabs w) (hP : Pow w.heap.size w) (hE : Errs w.heap.size w) :
    Calls Tryz.prog 3 #[rv, .int .u16 (atn : Int), .int .u8 (more : Int)] w fun e w' => e = .returned (.bool true) ∧ Below w.heap.size w w' := by
  have HR := Hold.mk hr
  obtain ⟨lv, rfl, hl⟩ := hr
  obtain ⟨la, lcap, rfl, _⟩ := id hl
  obtain ⟨z, ct, ws⟩ := r
  simp only at *
  have HT := Hold.mk hT
  have HP := Hold.mk hP
  have HE := Hold.mk hE
  have HM := Hold.mk hm
  obtain ⟨W, hW⟩ : ∃ W, W = w.alloc (.cells #[.int .u64 (z : Int), .string ct, .slice la ws.length lcap] 25) := ⟨_, rfl⟩
  have hb : Below w.heap.size w W := by rw [hW]; exact (Below.refl _ w).alloc (Nat.le_refl _) _
  have hx : W.heap[w.heap.size]? = some (.cells #[.int .u64 (z : Int), .string ct, .slice la ws.length lcap] 25 (0, 0)) := by rw [hW]; exact heap_alloc_new w _
  have HCA : Hold (∀ wn, Below W.heap.size W wn → RcdAt (cf wn) ⟨z, ct, ws⟩ (.agg #[.int .u64 (z : Int), .string ct, .slice la ws.length lcap]) ∧ Tabs wn ∧ Pow wn.heap.size wn ∧ Errs wn.heap.size wn ∧ Below w.heap.size w wn ∧ wn.cell? ⟨w.heap.size, 0, none⟩ = some (.int .u64 (z : Int)) ∧ wn.cell? ⟨w.heap.size, 1, none⟩ = some (.string ct) ∧ wn.cell? ⟨w.heap.size, 2, none⟩ = some (.slice la ws.length lcap)) := ⟨fun wn hbn => by
    have h1 := hb.trans (hbn.mono hb.size)
    obtain ⟨_, e, h2⟩ := HR.out
    have e2 := Value.agg.inj e
    simp only [Array.mk.injEq, List.cons.injEq, and_true, true_and] at e2
    subst e2
    exact ⟨⟨_, rfl, h2.mono RW_mono (cle_below h1)⟩, HT.out.below h1, Pow.below HP.out h1, errs_after HE.out h1, h1, cells_three (kept hx hbn)⟩⟩
  clear hl hT hP hE hm hb hx HR
  go_enter Tryz.func3, Tryz.ntmps3
  go_upto_region 1 with (fail)
  rw [← hW]
  clear hW
  obtain ⟨ra, ta, pa, ea, ba, y0, y1, y2⟩ := HCA.out W (Below.refl _ _)
  have HAW := Hold.mk (awake21_any W ta pa ea)
  clear ra ta pa ea ba y0 y1 y2
  go_wp2_with fail
  refine HAW.out.mono ?_
  rintro e w1 ⟨rfl, hb1⟩
  have HB1 := Hold.mk hb1
  obtain ⟨ra, ta, pa, ea, ba, y0, y1, y2⟩ := HCA.out w1 hb1
  have HFW := Hold.mk (few21_any ⟨z, ct, ws⟩ _ w1 ra)
  clear ra ta pa ea ba hb1 HAW
  go_wp2_with fail
  clear y0 y1 y2
  refine HFW.out.mono ?_
  rintro e w2 ⟨fb, rfl, hfb, hb2⟩
  have HB2 := Hold.mk (HB1.out.trans (hb2.mono HB1.out.size))
  clear hb2 HFW
  cases fb with
  | false =>
    clear hfb
    obtain ⟨ra, ta, pa, ea, ba, y0, y1, y2⟩ := HCA.out w2 HB2.out
    have HAW := Hold.mk (awake21_any w2 ta pa ea)
    clear ra ta pa ea ba y0 y1 y2
    go_wp2_with fail
    refine HAW.out.mono ?_
    rintro e w3 ⟨rfl, hb3⟩
    have HB3 := Hold.mk (HB2.out.trans (hb3.mono HB2.out.size))
    clear hb3 HAW
    go_wp2_with fail
    go_ret
    exact ⟨rfl, (HCA.out w3 HB3.out).2.2.2.2.1⟩
  | true =>
    obtain ⟨hf1, hf2, hf3⟩ := hfb rfl
    have HF2 := Hold.mk hf2
    have HSM : Hold (SmallR ⟨z, ct, ws⟩) := ⟨⟨by simp only at hf2 ⊢; omega, by simp only at hf1 ⊢; omega, fun x hx => by have := hf3 x hx; exact ⟨by omega, by omega⟩⟩⟩
    clear hfb hf1 hf2 hf3
    obtain ⟨ra, ta, pa, ea, ba, y0, y1, y2⟩ := HCA.out w2 HB2.out
    have HWR := Hold.mk (Write21_any ⟨z, ct, ws⟩ _ w2 ra HSM.out ta pa ea)
    clear ra ta pa ea ba
    go_wp2_with fail
    clear y0 y1 y2
    refine HWR.out.mono ?_
    rintro e w3 ⟨hpo, hb3⟩
    have HB3 := Hold.mk (HB2.out.trans (hb3.mono HB2.out.size))
    clear hb3 HWR
    cases hf : formedR ⟨z, ct, ws⟩ with
    | false =>
      rw [if_neg (by rw [hf]; decide)] at hpo
      subst hpo
      clear hf
      go_wp2_with fail
      go_ret
      exact ⟨rfl, (HCA.out w3 HB3.out).2.2.2.2.1⟩
    | true =>
      rw [if_pos hf] at hpo
      obtain ⟨sv, rfl, hbr⟩ := hpo
      have HSZ := Hold.mk (formedR_size hf (by have := HF2.out; simp only at this ⊢; omega))
      have HPL := Hold.mk (encR_pos ⟨z, ct, ws⟩)
      have HLE := Hold.mk (encR_le hf HF2.out)
      have HBR := Hold.mk hbr
      obtain ⟨bs, hbs⟩ : ∃ bs, bs = encR ⟨z, ct, ws⟩ := ⟨_, rfl⟩
      rw [← hbs] at HBR HPL HLE hbr
      have HBS := Hold.mk hbs
      obtain ⟨sa, sc, rfl, hsb⟩ := hbr.bytesC
      have HSB := Hold.mk hsb
      clear hf hbr hbs hsb
      have hL0 : (bs.length : Int) ≠ 0 := by have := HPL.out; omega
      obtain ⟨k, hk⟩ : ∃ k, k = atn % bs.length := ⟨_, rfl⟩
      have hkl : k < bs.length := by rw [hk]; exact Nat.mod_lt _ (by have := HPL.out; omega)
      have HKL := Hold.mk hkl
      have hrem : ((atn : Int)).tmod (bs.length : Int) = (k : Int) := by rw [hk]; exact (Int.ofNat_tmod atn bs.length).symm
      have hrem2 : ((atn : Int)) % (bs.length : Int) = (k : Int) := by rw [hk]; omega
      have hsc : (bs.length : Int) ≤ (sc : Int) := by have := HSB.out.2.1; omega
      have hkc : (k : Int) ≤ (sc : Int) := by omega
      have hbl : ∀ b off, sa = some ⟨b, off, none⟩ → b < w3.heap.size := fun b off e => by
        have h1 := (HSB.out.2.2.2.2 b off none e).2 0 _ (List.getElem?_eq_getElem (by omega))
        exact lt_of_cell (cfA_le _ _ _ _ _ h1)
      have HBL := Hold.mk hbl
      obtain ⟨ra, ta, pa, ea, ba, y0, y1, y2⟩ := HCA.out w3 HB3.out
      have HRD := Hold.mk (Read21_any sa k sc (bs.take k) w3 (bytesC_take (HSB.out.mono (cfA_le _ _)) (by omega)) hbl ta pa ea)
      clear hk hkl hbl ra ta pa ea ba y0 y1 y2
      go_upto_region 6 with (fail)
      go_wp2_with fail
      refine HRD.out.mono ?_
      rintro e w4 ⟨⟨z4, c4, a4, n4, q4, h4⟩, hb4⟩
      have h5 : e = .returned (.tuple #[.agg #[.int .u64 z4, .string c4, .slice a4 n4 q4], .int .i64 11]) := by
        rcases h4 with h4 | ⟨_, r', hs', hbe⟩
        · exact h4
        · rw [HBS.out] at hbe
          exact (record_cut HSZ.out hs' (by rw [← HBS.out]; exact HKL.out) hbe).elim
      subst h5
      have HB4 := Hold.mk (HB3.out.trans (hb4.mono HB3.out.size))
      have HSB4 := Hold.mk ((HSB.out.mono (cfA_le _ _)).mono (cle_below hb4))
      have HR4 := Hold.mk (HBR.out.quiet hb4)
      obtain ⟨pb, po, rfl⟩ : ∃ pb po, sa = some ⟨pb, po, none⟩ := by
        cases sa with
        | none => have := HSB.out.2.2.2.1 rfl; have := HPL.out; simp_all
        | some p =>
          obtain ⟨pb, po, tl⟩ := p
          obtain rfl := (HSB.out.2.2.2.2 pb po tl rfl).1
          exact ⟨pb, po, rfl⟩
      clear h4 hb4 HRD hrem hrem2 hsc hkc hL0 HSB
      obtain ⟨W5, hW5⟩ : ∃ W5, W5 = w4.alloc (.cells #[.int .u64 z4, .string c4, .slice a4 n4 q4] 25) := ⟨_, rfl⟩
      have hb5 : Below w4.heap.size w4 W5 := by rw [hW5]; exact (Below.refl _ w4).alloc (Nat.le_refl _) _
      have HB5 := Hold.mk (HB4.out.trans (hb5.mono HB4.out.size))
      have HSB5 := Hold.mk (HSB4.out.mono (cle_below hb5))
      have HE5 : Hold (BRow W5.heap.size W5 (.slice none 0 0) []) := ⟨BRow.empty W5⟩
      have HZ5 : Hold (W.heap.size ≤ W5.heap.size) := ⟨HB5.out.size⟩
      clear hb5 HSB4 HR4 HB4 HBR
      go_upto_region 7 with (fail)
      rw [← hW5]
      clear hW5
      go_upto_region 8 with (fail)
      go_wp2_with (at_builtin; refine app_srcV rfl _ _ rfl W5.heap.size _ _ _ HE5.out rfl pb po sc bs rfl HSB5.out (by have := HPL.out; omega) (by have := HLE.out; simp; omega) ?_)
      intro s6 w6 hr6 hg6
      have HR6 := Hold.mk hr6
      have HB6 := Hold.mk (HB5.out.trans ((HE5.out.below hg6).mono HB5.out.size))
      obtain ⟨s6a, s6c, rfl, _⟩ := hr6.shape
      clear hr6 hg6 HSB5 HE5 HB5
      have HMO : Hold ((((more.toUInt8).toNat : Nat) : Int) = (more : Int)) := ⟨by have := HM.out; simp; omega⟩
      go_wp2_with (at_builtin; refine app_new rfl _ _ rfl _ _ _ _ HR6.out rfl _ [more.toUInt8] (by simp only [bv, List.map_cons, List.map_nil]; rw [HMO.out]) _ rfl (by simp) (Nat.succ_pos _) (by have := HLE.out; simp; omega) ?_)
      intro s7 w7 hr7 hg7
      have HB7 := Hold.mk (HB6.out.trans ((HR6.out.below hg7).mono HZ5.out))
      obtain ⟨ls, hls⟩ : ∃ ls, ls = bs ++ [more.toUInt8] := ⟨_, rfl⟩
      have HLS := Hold.mk hls
      have hlp : 0 < ls.length := by rw [hls]; simp
      rw [← hls] at hr7
      clear hls
      obtain ⟨s7a, s7c, rfl, hs7⟩ := hr7.bytesC
      have hbl7 : ∀ b off, s7a = some ⟨b, off, none⟩ → b < w7.heap.size := fun b off e => by
        have h1 := (hs7.2.2.2.2 b off none e).2 0 _ (List.getElem?_eq_getElem hlp)
        exact lt_of_cell (cfA_le _ _ _ _ _ h1)
      obtain ⟨ra, ta, pa, ea, ba, y0, y1, y2⟩ := HCA.out w7 HB7.out
      have HRD := Hold.mk (Read21_any s7a _ s7c ls w7 (hs7.mono (cfA_le _ _)) hbl7 ta pa ea)
      clear hlp hr7 hg7 hs7 hbl7 HR6 HB6 HZ5 ra ta pa ea ba y0 y1 y2
      go_wp2_with fail
      refine HRD.out.mono ?_
      rintro e w8 ⟨⟨z8, c8, a8, n8, q8, h8⟩, hb8⟩
      have h5 : e = .returned (.tuple #[.agg #[.int .u64 z8, .string c8, .slice a8 n8 q8], .int .i64 11]) := by
        rcases h8 with h8 | ⟨_, r', hs', hbe⟩
        · exact h8
        · rw [HLS.out, HBS.out] at hbe
          exact (record_long HSZ.out hs' hbe).elim
      subst h5
      have HB8 := Hold.mk (HB7.out.trans (hb8.mono HB7.out.size))
      clear h8 hb8 HRD
      obtain ⟨W9, hW9⟩ : ∃ W9, W9 = w8.alloc (.cells #[.int .u64 z8, .string c8, .slice a8 n8 q8] 25) := ⟨_, rfl⟩
      have HB9 : Hold (Below W.heap.size W W9) := ⟨by rw [hW9]; exact HB8.out.alloc HB8.out.size _⟩
      go_upto_region 11 with (fail)
      rw [← hW9]
      clear hW9
      go_wp2_with fail
      go_ret
      exact ⟨rfl, (HCA.out W9 HB9.out).2.2.2.2.1⟩
end Go.Proofs.YticlnijkfclgcaaGreatDoor
