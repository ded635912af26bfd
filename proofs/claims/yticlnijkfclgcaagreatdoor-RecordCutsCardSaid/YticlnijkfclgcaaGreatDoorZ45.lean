/- Records: Write of the program. -/
import Derived.Test.YticlnijkfclgcaaGreatDoorZ44
namespace Go.Proofs.YticlnijkfclgcaaGreatDoor
open Go.Shelf Go.RowKit

theorem be16_mod (x : Nat) : be16 (x % 65536) = be16 x := by
  unfold be16
  have h1 : (x % 65536 / 256).toUInt8 = (x / 256).toUInt8 := by
    apply UInt8.toNat_inj.1; simp; omega
  have h2 : (x % 65536).toUInt8 = x.toUInt8 := by
    apply UInt8.toNat_inj.1; simp
  rw [h1, h2]
theorem append16S_any (B : Nat) (sv : Value) (l : List UInt8) (x : Nat) (w : World) (hb : BRow B w sv l) (hl : l.length + 2 ≤ 140737488355328) :
    Calls Tryz.prog 12 #[sv, .int .u16 (IntKind.u16.wrap (x : Int))] w (RowPost B sv (l ++ be16 x) w) := by
  have h := append16R_any B sv l (x % 65536) w (by omega) hb hl
  rw [be16_mod] at h
  have e : IntKind.u16.wrap (x : Int) = ((x % 65536 : Nat) : Int) := by simp [IntKind.wrap, IntKind.bits, IntKind.signed]
  rw [e]; exact h
theorem u8_cell (x : Nat) : ((x.toUInt8.toNat : Nat) : Int) = (x : Int) % 256 := by simp
theorem sp_cell {s : Int} (h : 0 ≤ s) : ((s.toNat.toUInt8.toNat : Nat) : Int) = s % 256 := by
  obtain ⟨n, rfl⟩ := Int.eq_ofNat_of_zero_le h
  rw [Int.toNat_natCast]; exact u8_cell n
set_option maxRecDepth 100000 in
set_option maxHeartbeats 16000000 in
theorem Write21_any (r : RCD) (v : Value) (w : World) (hr : RcdAt (cf w) r v) (hsm : SmallR r) (hT : Tabs w) (hP : Pow w.heap.size w) (hE : Errs w.heap.size w) :
    Calls Tryz.prog 6 #[v] w (WritePost r w) := by
  obtain ⟨lv, rfl, hl⟩ := hr
  obtain ⟨la, lcap, rfl, hle, hcap, hel⟩ := id hl
  have HSM := Hold.mk hsm
  obtain ⟨tm, ct, ws⟩ := r
  simp only at *
  obtain ⟨W, hW⟩ : ∃ W, W = w.alloc (.cells #[.int .u64 (tm : Int), .string ct, .slice la ws.length lcap] 25) := ⟨_, rfl⟩
  have hb : Below w.heap.size w W := by rw [hW]; exact (Below.refl _ w).alloc (Nat.le_refl _) _
  have HX : Hold (W.heap[w.heap.size]? = some (.cells #[.int .u64 (tm : Int), .string ct, .slice la ws.length lcap] 25 (0, 0))) := ⟨by rw [hW]; exact heap_alloc_new w _⟩
  have HB := Hold.mk hb
  have HEL := Hold.mk hel
  have HFO := Hold.mk (Formed21_any ⟨tm, ct, ws⟩ _ W ⟨_, rfl, hl.mono RW_mono (cle_below hb)⟩ HSM.out (hT.below hb) (Pow.below hP hb) (errs_after hE hb))
  obtain ⟨z0, z1, z2⟩ := cells_three HX.out
  clear hb hT hP hE hsm hl hel
  go_enter Tryz.func6, Tryz.ntmps6
  go_upto_region 1 with (fail)
  rw [← hW]
  clear hW
  go_wp2_with fail
  refine HFO.out.mono ?_
  rintro e w1 ⟨rfl, hb1⟩
  have HB1 := Hold.mk (HB.out.trans (hb1.mono HB.out.size))
  have HX1 := Hold.mk (kept HX.out hb1)
  clear hb1 HFO z0 z1 z2
  cases hf : formedR ⟨tm, ct, ws⟩ with
  | false =>
    have HF := Hold.mk hf
    clear hf
    go_wp2_with fail
    refine bodyPost_ret (v := .tuple #[.slice none 0 0, .int .i64 2]) (by simp [results, Tryz.results6, go_sem]) rfl ?_
    exact ⟨by rw [if_neg (by rw [HF.out]; decide)], HB1.out⟩
  | true =>
    have HF := Hold.mk hf
    have HSQ := Hold.mk (formedR_parts hf).2
    clear hf
    obtain ⟨z0, z1, z2⟩ := cells_three HX1.out
    have HN : Hold (w.heap.size + 1 ≤ w1.heap.size) := ⟨by have := heap_lt HX1.out; omega⟩
    obtain ⟨N, hN⟩ : ∃ N, N = w1.heap.size := ⟨_, rfl⟩
    have HR0 : Hold (BRow N w1 (.slice none 0 0) []) := ⟨by rw [hN]; exact BRow.empty w1⟩
    have HA := Hold.mk (append64R_any N _ [] tm w1 HR0.out (by decide))
    have HNN : Hold (w.heap.size < N) := ⟨by rw [hN]; have := HN.out; omega⟩
    clear hN HN
    have HCL : Hold (ct.size ≤ 1000000 ∧ ws.length ≤ 1000) := ⟨⟨HSM.out.1, HSM.out.2.1⟩⟩
    go_upto_region 3 with (fail)
    go_wp2_with fail
    refine HA.out.mono ?_
    rintro e w2 ⟨s2, rfl, hr2, hg2⟩
    have hk2 : w2.heap[w.heap.size]? = some (.cells #[.int .u64 (tm : Int), .string ct, .slice la ws.length lcap] 25 (0, 0)) := HR0.out.keepBox HX1.out (by decide) hg2.by_
    have hb2 := HR0.out.turn hr2 hg2.by_
    have HR2 := Hold.mk hr2
    have HX2 := Hold.mk hk2
    have HB2 := Hold.mk hb2
    have HA2 := Hold.mk (append16S_any N s2 ([] ++ be64 tm) ct.size w2 hr2 (by simp [be64_len]))
    clear hr2 hg2 hk2 hb2 HA HR0 HX1 z0 z1 z2
    obtain ⟨z0, z1, z2⟩ := cells_three HX2.out
    have hcs : (ct.size : Int) ≤ 1000000 := by have := HCL.out; omega
    go_upto_region 4 with (fail)
    go_wp2_with fail
    refine HA2.out.mono ?_
    rintro e w3 ⟨s3, rfl, hr3, hg3⟩
    have hk3 := HR2.out.keepBox HX2.out (by decide) hg3
    have HB3 := Hold.mk (HB2.out.trans (HR2.out.turn hr3 hg3))
    have HR3 := Hold.mk hr3
    have HX3 := Hold.mk hk3
    clear hr3 hg3 hk3 HA2 HR2 HX2 HB2 z0 z1 z2
    obtain ⟨l3, hl3⟩ : ∃ l3, l3 = [] ++ be64 tm ++ be16 ct.size := ⟨_, rfl⟩
    rw [← hl3] at HR3
    have HL3 : Hold (l3.length = 10) := ⟨by rw [hl3]; simp [be64_len, be16]⟩
    have HE3 := Hold.mk hl3
    clear hl3
    obtain ⟨z0, z1, z2⟩ := cells_three HX3.out
    go_upto_region 5 with (fail)
    go_wp2_with (at_builtin; refine app_str rfl _ _ rfl N _ _ _ HR3.out rfl ct rfl (by have := HL3.out; have := HCL.out; omega) ?_)
    intro s4 w4 hr4 hg4
    have hk4 := HR3.out.keepBox HX3.out (by decide) hg4
    have HB4 := Hold.mk (HB3.out.trans (HR3.out.turn hr4 hg4))
    obtain ⟨l4, hl4⟩ : ∃ l4, l4 = l3 ++ ct.data.toList := ⟨_, rfl⟩
    rw [← hl4] at hr4
    have HR4 := Hold.mk hr4
    have HX4 := Hold.mk hk4
    have HL4 : Hold (l4.length ≤ 1000010) := ⟨by rw [hl4, List.length_append, len_list]; have := HL3.out; have := HCL.out; omega⟩
    have HE4 := Hold.mk hl4
    obtain ⟨s4a, s4c, rfl, _⟩ := hr4.shape
    clear hr4 hg4 hk4 hl4 HR3 HX3 HB3 HL3 z0 z1 z2
    obtain ⟨z0, z1, z2⟩ := cells_three HX4.out
    have hwl : (ws.length : Int) ≤ 1000 := by have := HCL.out; omega
    go_wp2_with (at_builtin; refine app_new rfl _ _ rfl N _ _ _ HR4.out rfl _ [ws.length.toUInt8] (by simp only [bv, List.map_cons, List.map_nil]; rw [u8_cell]) _ rfl (by simp) (Nat.succ_pos _) (by have := HL4.out; simp; omega) ?_)
    intro s5 w5 hr5 hg5
    have hk5 := HR4.out.keepBox HX4.out (by decide) hg5.by_
    have HB5 := Hold.mk (HB4.out.trans (HR4.out.turn hr5 hg5.by_))
    obtain ⟨l5, hl5⟩ : ∃ l5, l5 = l4 ++ [ws.length.toUInt8] := ⟨_, rfl⟩
    rw [← hl5] at hr5
    have HR5 := Hold.mk hr5
    have HX5 := Hold.mk hk5
    have HL5 : Hold (l5.length ≤ 1000011) := ⟨by rw [hl5, List.length_append]; have := HL4.out; simp; omega⟩
    have HE5 : Hold (encR ⟨tm, ct, ws⟩ = l5 ++ ws.flatMap encW) := ⟨by rw [hl5, HE4.out, HE3.out, List.nil_append]; rfl⟩
    clear hr5 hg5 hk5 hl5 HR4 HX4 HB4 HL4 HE4 HE3 z0 z1 z2
    obtain ⟨z0, z1, z2⟩ := cells_three HX5.out
    go_upto_region 8 with (fail)
    clear z0 z1 z2
    have HS5 : Hold (BRow N w5 s5 (l5 ++ (ws.take 0).flatMap encW)) := ⟨by simpa using HR5.out⟩
    clear HR5 HX5
    go_loopw [4, 34] (fun v i wr => ∃ j : Nat, i = .int .i64 j ∧ j ≤ ws.length ∧ BRow N wr v (l5 ++ (ws.take j).flatMap encW) ∧ Below N w1 wr) (fun _ i _ => ws.length - (intOf i).toNat)
    case atStart => exact ⟨0, rfl, Nat.zero_le _, HS5.out, HB5.out⟩
    case round =>
      clear HS5 HB5
      obtain ⟨j, rfl, hj, hbr, hbl⟩ := hrel
      have HBL := Hold.mk hbl
      have HBR := Hold.mk hbr
      have HBW : Hold (Below w.heap.size w wr) := ⟨HB1.out.trans (hbl.mono (by have := HNN.out; omega))⟩
      clear hbr hbl
      by_cases hlt : j < ws.length
      · obtain ⟨x, hx⟩ : ∃ x, ws[j]? = some x := ⟨ws[j], List.getElem?_eq_getElem hlt⟩
        obtain ⟨b, off, d, rfl, hd, hcc, hxi⟩ := HEL.out j x hx
        obtain ⟨rfl, _, _, _⟩ := hxi
        have HTK : Hold (l5 ++ (ws.take (j + 1)).flatMap encW = l5 ++ (ws.take j).flatMap encW ++ encW x) := ⟨by rw [take_nextW hx, List.flatMap_append, List.append_assoc]; simp⟩
        have HXS := Hold.mk (HSQ.out x (List.mem_of_getElem? hx))
        have HLN : Hold ((l5 ++ (ws.take j).flatMap encW).length ≤ 3000000000) := ⟨by
          have h1 := encs_len (ws.take j) (fun y hy => HSM.out.2.2 y (List.mem_of_mem_take hy))
          have h2 : (ws.take j).length ≤ 1000 := by rw [List.length_take]; have := HCL.out; omega
          rw [List.length_append]; have := HL5.out; omega⟩
        obtain ⟨lj, hlj⟩ : ∃ lj, lj = l5 ++ (ws.take j).flatMap encW := ⟨_, rfl⟩
        rw [← hlj] at HBR HTK HLN
        obtain ⟨sp, id, gone, tx⟩ := x
        simp only at HXS
        have hcl := cle_below HBW.out
        have z0 := hcl _ _ _ (hcc 0 _ rfl)
        have z1 := hcl _ _ _ (hcc 1 _ rfl)
        have z2 := hcl _ _ _ (hcc 2 _ rfl)
        have z3 := hcl _ _ _ (hcc 3 _ rfl)
        unfold cf at z0 z1 z2 z3
        rw [Nat.add_zero] at z0
        clear hx hd hcc hcl hlj
        obtain ⟨W2, hW2⟩ : ∃ W2, W2 = wr.alloc (.cells #[.int .i64 sp, .string id, .bool gone, .string tx] 37) := ⟨_, rfl⟩
        have hb2 : Below wr.heap.size wr W2 := by rw [hW2]; exact (Below.refl _ wr).alloc (Nat.le_refl _) _
        have HY : Hold (W2.heap[wr.heap.size]? = some (.cells #[.int .i64 sp, .string id, .bool gone, .string tx] 37 (0, 0))) := ⟨by rw [hW2]; exact heap_alloc_new wr _⟩
        have HB2 := Hold.mk (HBL.out.trans (hb2.mono HBR.out.le))
        have HR2 := Hold.mk (HBR.out.quiet hb2)
        obtain ⟨yb, hyb⟩ : ∃ yb, yb = wr.heap.size := ⟨_, rfl⟩
        rw [← hyb] at HY
        obtain ⟨va, vc, rfl, _⟩ := HR2.out.shape
        clear hb2 HBR HBL HBW
        go_upto_region 10 with (fail)
        rw [← hW2, ← hyb]
        clear hW2 hyb z0 z1 z2 z3
        obtain ⟨z0, z1, z2, z3⟩ := cells4W HY.out
        obtain ⟨gb, hgb⟩ : ∃ gb : UInt8, gb = goneB gone := ⟨_, rfl⟩
        have HGB := Hold.mk hgb
        have HC0 : Hold (((sp.toNat.toUInt8.toNat : Nat) : Int) = sp % 256) := ⟨sp_cell (by have := HXS.out; omega)⟩
        have HIT : Hold (id.size ≤ 16 ∧ tx.size ≤ 240) := ⟨⟨by have := HXS.out; omega, by have := HXS.out; omega⟩⟩
        have HENC : Hold (lj ++ encW ⟨sp, id, gone, tx⟩ = lj ++ [sp.toNat.toUInt8, gb, id.size.toUInt8] ++ id.data.toList ++ be16 tx.size ++ tx.data.toList) := ⟨by rw [hgb]; simp [encW]⟩
        clear hgb
        cases gone
        all_goals
          go_upto_region 13 with (fail)
          go_wp2_with (at_builtin; refine app_new rfl _ _ rfl N _ _ _ HR2.out rfl _ [sp.toNat.toUInt8, gb, id.size.toUInt8] (by simp only [bv, List.map_cons, List.map_nil]; rw [HC0.out, u8_cell, HGB.out]; rfl) _ rfl (by simp) (Nat.succ_pos _) (by have := HLN.out; simp; omega) ?_)
          intro s3 w3 hr3 hg3
          have hk3 := HR2.out.keepBox HY.out (by decide) hg3.by_
          have HB3 := Hold.mk (HB2.out.trans (HR2.out.turn hr3 hg3.by_))
          have HR3 := Hold.mk hr3
          have HY3 := Hold.mk hk3
          clear hr3 hg3 hk3 HR2 HY HB2 z0 z1 z2 z3
          obtain ⟨z0, z1, z2, z3⟩ := cells4W HY3.out
          go_wp2_with (at_builtin; refine app_str rfl _ _ rfl N _ _ _ HR3.out rfl id rfl (by have := HLN.out; have := HIT.out; simp; omega) ?_)
          intro s4 w4 hr4 hg4
          have hk4 := HR3.out.keepBox HY3.out (by decide) hg4
          have HB4 := Hold.mk (HB3.out.trans (HR3.out.turn hr4 hg4))
          have HR4 := Hold.mk hr4
          have HY4 := Hold.mk hk4
          have HA5 := Hold.mk (append16S_any N s4 _ tx.size w4 hr4 (by have := HLN.out; have := HIT.out; simp; omega))
          clear hr4 hg4 hk4 HR3 HY3 HB3 z0 z1 z2 z3
          obtain ⟨z0, z1, z2, z3⟩ := cells4W HY4.out
          go_wp2_with fail
          refine HA5.out.mono ?_
          rintro e w5 ⟨s5, rfl, hr5, hg5⟩
          have hk5 := HR4.out.keepBox HY4.out (by decide) hg5
          have HB5 := Hold.mk (HB4.out.trans (HR4.out.turn hr5 hg5))
          have HR5 := Hold.mk hr5
          have HY5 := Hold.mk hk5
          clear hr5 hg5 hk5 HR4 HY4 HB4 HA5 z0 z1 z2 z3
          obtain ⟨z0, z1, z2, z3⟩ := cells4W HY5.out
          go_wp2_with (at_builtin; refine app_str rfl _ _ rfl N _ _ _ HR5.out rfl tx rfl (by have := HLN.out; have := HIT.out; simp [be16]; omega) ?_)
          intro s6 w6 hr6 hg6
          have HB6 := Hold.mk (HB5.out.trans (HR5.out.turn hr6 hg6))
          have HR6 : Hold (BRow N w6 s6 (l5 ++ (ws.take (j + 1)).flatMap encW)) := ⟨by
            rw [HTK.out, HENC.out]; simpa using hr6⟩
          clear hr6 hg6 HR5 HY5 HB5 z0 z1 z2 z3
          go_wp2_with fail
          exact ⟨⟨j + 1, by go_num, hlt, HR6.out, HB6.out⟩, by simp [intOf]; omega⟩
      · obtain rfl : j = ws.length := by omega
        obtain ⟨va, vc, rfl, _⟩ := HBR.out.shape
        have HR6 : Hold (BRow w.heap.size wr (.slice va (l5 ++ List.flatMap encW (List.take ws.length ws)).length vc) (encR ⟨tm, ct, ws⟩)) := ⟨by
          rw [HE5.out]
          have := HBR.out.low0 (show w.heap.size ≤ N by have := HNN.out; omega)
          have e : List.take ws.length ws = ws := List.take_of_length_le (Nat.le_refl _)
          rw [e] at this ⊢
          exact this⟩
        go_wp2_with fail
        refine bodyPost_ret (v := .tuple #[.slice va (l5 ++ List.flatMap encW (List.take ws.length ws)).length vc, .int .i64 0]) (by simp [results, Tryz.results6, go_sem]) rfl ?_
        exact ⟨by rw [if_pos HF.out]; exact ⟨_, rfl, HR6.out⟩, HBW.out⟩
end Go.Proofs.YticlnijkfclgcaaGreatDoor
