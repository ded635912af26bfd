/- Entries: Key of the reference. -/
import Derived.Test.YtfllnlmanopfaaaDoorKJ
import Derived.Test.YtfllnlmanopfaaaDoorKG
import Derived.Test.YtfllnlmanopfaaaDoorEE
namespace Go.Proofs.YtfllnlmanopfaaaDoor
open Go.RowKit

theorem BRow.beside {B B2 : Nat} {w w' : World} {s0 s1 sp : Value} {l : List UInt8} (h : BRow B w sp l) (hg : Grew w w' s0 s1) (hne : ∀ g, sp.ownBlock = some g → s0.ownBlock ≠ some g) (_ : B2 ≤ B) : BRow B w' sp l :=
  ⟨h.own.kept hg.by_ (by cases hd : sp.ownBlock with
    | none => exact .inl rfl
    | some g => exact .inr (fun e => hne g hd e.symm)), Nat.le_trans h.le hg.by_.size⟩
def dirK (d : Bool) (p : List UInt8) : List UInt8 := if d then p.map notB else p
theorem dir_true {p : List UInt8} {k : Nat} {c : UInt8} (hc : p[k]? = some c) : (dirK true p).take (k + 1) = (dirK true p).take k ++ [notB c] := take_succ (show (dirK true p)[k]? = some (notB c) by simp [dirK, hc])
theorem dir_false {p : List UInt8} {k : Nat} {c : UInt8} (hc : p[k]? = some c) : (dirK false p).take (k + 1) = (dirK false p).take k ++ [c] := take_succ (show (dirK false p)[k]? = some c by simp [dirK, hc])
theorem dir_len (d : Bool) (p : List UInt8) : (dirK d p).length = p.length := by cases d <;> simp [dirK]

set_option maxRecDepth 100000 in
set_option maxHeartbeats 16000000 in
theorem rEKey_any (x : IX) (xv : Value) (v : JV) (vv : Value) (w : World) (hx : IAt (cf w) x xv) (hv : JAt (cf w) v vv) (hsm : ∀ f ∈ x.fields, f.1.size ≤ 1000000) (h100 : x.fields.length ≤ 100) :
    Calls Tryd.prog 36 #[xv, vv] w (EKPost x v w) := by
  have HX := Hold.mk hx
  have HV := Hold.mk hv
  obtain ⟨hnm, fv, rfl, a, cap, rfl, hlen, hcap, hel⟩ := hx
  obtain ⟨k, n, t, nm, it, na, ncap, ia, icap, hve, rfl, _⟩ := hv.open
  obtain ⟨W, hW, hB, e0, e1⟩ := twoE w (.cells #[.string x.name, .slice a x.fields.length cap, .bool x.uniq] 42) (.cells #[.int .i64 k, .int .i64 n, .string t, .slice na nm.length ncap, .slice ia it.length icap] 25)
  have HB := Hold.mk hB
  have HXB := Hold.mk e0
  have HVB := Hold.mk e1
  have HE := Hold.mk hel
  have HS := Hold.mk hsm
  have H100 := Hold.mk h100
  have HKK : Hold (v.kind = k) := ⟨by rw [hve]; rfl⟩
  obtain ⟨xn, l, u⟩ := x
  simp only at *
  clear hel hsm hB e0 e1 hnm hve hv h100
  go_enter Tryd.func36, Tryd.ntmps36
  go_wp2_with fail
  rw [← hW]
  clear hW
  refine (rFormedI_any ⟨xn, l, u⟩ _ _ (HX.out.mono (cle_below HB.out)) HS.out).mono ?_
  rintro e w1 ⟨rfl, hb1⟩
  replace HXB := Hold.mk (kept HXB.out hb1)
  replace HVB := Hold.mk (kept HVB.out hb1)
  replace HB := Hold.mk (HB.out.trans (hb1.mono HB.out.size))
  clear hb1
  cases hf : formI ⟨xn, l, u⟩ with
  | false =>
    have HA : Hold (askK ⟨xn, l, u⟩ v = false) := ⟨by unfold askK; rw [hf]; rfl⟩
    clear hf
    go_wp2_with fail
    go_ret3
    exact EK_bad HA.out HB.out
  | true =>
  have HFI := Hold.mk hf
  clear hf
  obtain ⟨y0, y1, y2, y3, y4⟩ := cells_five HVB.out
  go_wp2_with fail
  refine (rFormed_law v _ _ (HV.out.mono (cle_below HB.out))).mono ?_
  rintro e w2 ⟨rfl, hb1⟩
  replace HXB := Hold.mk (kept HXB.out hb1)
  replace HVB := Hold.mk (kept HVB.out hb1)
  replace HB := Hold.mk (HB.out.trans (hb1.mono HB.out.size))
  clear hb1 y0 y1 y2 y3 y4
  cases hf : formedF 6 v with
  | false =>
    have HA : Hold (askK ⟨xn, l, u⟩ v = false) := ⟨by unfold askK; rw [hf]; simp⟩
    clear hf
    go_wp2_with fail
    go_ret3
    exact EK_bad HA.out HB.out
  | true =>
  obtain ⟨y0, y1, y2, y3, y4⟩ := cells_five HVB.out
  by_cases hk : k = 6
  case neg =>
    have hkb : (k != 6) = true := by simpa using hk
    have HA : Hold (askK ⟨xn, l, u⟩ v = false) := ⟨by unfold askK; rw [HKK.out, decide_eq_false hk]; simp⟩
    clear hk hf
    go_wp2_with fail
    go_ret3
    exact EK_bad HA.out HB.out
  subst hk
  have HA : Hold (askK ⟨xn, l, u⟩ v = true) := ⟨by unfold askK; rw [hf, HFI.out, HKK.out]; rfl⟩
  clear hf
  go_wp2_with fail
  clear y0 y1 y2 y3 y4
  go_loopw [7, 8] (fun bv i wr => ∃ j : Nat, i = .int .i64 j ∧ j ≤ l.length ∧ (l.take j).all (hasK v) = true ∧ BRow w2.heap.size wr bv (compF ((l.take j).map (valK v)) ((l.take j).map (·.2))) ∧ Below w2.heap.size w2 wr) (fun _ i _ => l.length - (intOf i).toNat)
  case atStart => exact ⟨0, rfl, Nat.zero_le _, rfl, BRow.empty w2, Below.refl _ _⟩
  case round =>
    obtain ⟨j, rfl, hj, hall, hbr, hbl⟩ := hrel
    have HLEN : Hold ((compF ((l.take j).map (valK v)) ((l.take j).map (·.2))).length ≤ 20000000000000) := ⟨by
      have := comp_len (l := (l.take j).map (valK v)) (fun x hx => by obtain ⟨f, _, rfl⟩ := List.mem_map.1 hx; exact valK_formed v f) ((l.take j).map (·.2))
      rw [List.length_map, List.length_take] at this
      have := H100.out; omega⟩
    obtain ⟨acc, hacc⟩ : ∃ acc, acc = compF ((l.take j).map (valK v)) ((l.take j).map (·.2)) := ⟨_, rfl⟩
    rw [← hacc] at hbr HLEN
    obtain ⟨sa, scap, rfl, _⟩ := hbr.shape
    have HR := Hold.mk hbr
    have HBL := Hold.mk hbl
    have HALL := Hold.mk hall
    have HACC := Hold.mk hacc
    obtain ⟨x0, x1, x2⟩ := cells_three (kept HXB.out hbl)
    obtain ⟨y0, y1, y2, y3, y4⟩ := cells_five (kept HVB.out hbl)
    have hlow := heap_lt (kept HVB.out hbl)
    clear hall hbr hbl hacc
    by_cases hlt : j < l.length
    · obtain ⟨f, hf⟩ : ∃ f, l[j]? = some f := ⟨l[j], List.getElem?_eq_getElem hlt⟩
      obtain ⟨hfz, b, off, rfl, z0, z1⟩ := HE.out j f hf
      have HB3 : Hold (Below w.heap.size w wr) := ⟨HB.out.trans (HBL.out.mono HB.out.size)⟩
      have hcl := cle_below HB3.out
      have g0 := Grow.cell (hcl _ _ _ z0)
      have g1 := Grow.cell x1
      have g2 := Grow.cell y0
      have g3 := Grow.cell y1
      have g4 := Grow.cell y2
      have g5 := Grow.cell y3
      have g6 := Grow.cell y4
      have HD1 := Hold.mk z1
      have HST : Hold (compF ((l.take (j + 1)).map (valK v)) ((l.take (j + 1)).map (·.2)) = acc ++ partK (valK v f) f.2) := ⟨by rw [take_succ hf, List.map_append, List.map_append, List.map_singleton, List.map_singleton, comp_snoc _ _ _ _ (by simp), ← HACC.out]⟩
      have HFL := Hold.mk hf
      have HSF := Hold.mk (HS.out f (List.mem_of_getElem? hf))
      obtain ⟨s, d⟩ := f
      simp only at *
      clear z0 z1 hf hcl
      go_wp2_with fail
      clear x0 x1 x2 y0 y1 y2 y3 y4
      refine wp_region_mix 14 rfl (by kernel_rfl) ?_
      rintro w3 hb3
      refine mixl_seg (by kernel_rfl) (fun _ _ d _ _ h => by cases d <;> exact h) [0, 1, 2, 3, 4, 5, 6] [_, _, _, _, _, _, _] 7 14 rfl _ _ _ rfl (by kernel_rfl) (growC hb3) ?_
      repeat (go_big_quiet_step (fail))
      refine wpQuiet_nil ?_
      clear g0 g1 g2 g3 g4 g5 g6
      have HB4 := Hold.mk hb3
      have HBW := Hold.mk (HB3.out.trans (hb3.mono HB3.out.size))
      clear hb3
      refine mixl_two (i := 7) (j := 11) rfl rfl (by kernel_rfl) (growC HB4.out) rfl rfl (fun K hK => ?_) (fun K hK => ?_)
      · go_wp2_with fail
        refine (rGetC_any (cf w) v _ s _ ((cle_below HBW.out).trans (cle_cfU _)) HV.out HSF.out).mono ?_
        rintro e w5 ⟨hg, hb5⟩
        have HB5 : Hold (Below wr.heap.size wr w5) := ⟨HB4.out.trans (hb5.mono HB4.out.size)⟩
        clear hb5
        cases hgv : getF v s with
        | none =>
          rw [hgv] at hg
          simp only at hg
          subst hg
          have HN : Hold (l.all (hasK v) = false) := ⟨all_false HFL.out (by unfold hasK; rw [hgv]; rfl)⟩
          clear hgv
          go_wp2_with fail
          refine mixl_seg (by kernel_rfl) (fun _ _ d _ _ h => by cases d <;> exact h) [8, 9, 10] [_, _, _] 3 6 rfl _ _ _ rfl (by kernel_rfl) (growC HB5.out) ?_
          repeat (go_big_quiet_step (fail))
          refine wpQuiet_nil ?_
          refine mixl_act (i := 11) rfl (by kernel_rfl) (growC HB5.out) rfl (fun K hK => ?_)
          go_wp2_with fail
          have HB6 := Hold.mk (HB5.out.alloc HB5.out.size (.cells #[.int .i64 0, .int .i64 0, .string ⟨#[]⟩, .slice none 0 0, .slice none 0 0] 25))
          have HZB := Hold.mk (heap_alloc_new w5 (.cells #[.int .i64 0, .int .i64 0, .string ⟨#[]⟩, .slice none 0 0, .slice none 0 0] 25))
          generalize w5.alloc (.cells #[.int .i64 0, .int .i64 0, .string ⟨#[]⟩, .slice none 0 0, .slice none 0 0] 25) = w6 at HB6 HZB ⊢
          have HWL : Hold (wr.heap.size ≤ w5.heap.size) := ⟨HB5.out.size⟩
          refine mixl_act (i := 12) rfl (by kernel_rfl) (growC HB6.out) rfl (fun K hK => ?_)
          obtain ⟨u0, u1, u2, u3, u4⟩ := cells_five HZB.out
          have q0 := free_box HZB.out 0
          have q1 := free_box HZB.out 1
          have q2 := free_box HZB.out 2
          have q3 := free_box HZB.out 3
          have q4 := free_box HZB.out 4
          go_wp2_with fail
          clear u0 u1 u2 u3 u4 q0 q1 q2 q3 q4
          have HZ6 := Hold.mk (set5_self (c0 := .int .i64 0) (c1 := .int .i64 0) (c2 := .string ⟨#[]⟩) (c3 := .slice none 0 0) (c4 := .slice none 0 0) HZB.out)
          replace HB6 := Hold.mk (set5_below (k := w5.heap.size) (c0 := .int .i64 0) (c1 := .int .i64 0) (c2 := .string ⟨#[]⟩) (c3 := .slice none 0 0) (c4 := .slice none 0 0) HB6.out HWL.out)
          unfold set5 at HZ6 HB6
          generalize hw8 : ((((w6.setCell ⟨w5.heap.size, 0, none⟩ (.int .i64 0)).setCell ⟨w5.heap.size, 1, none⟩ (.int .i64 0)).setCell ⟨w5.heap.size, 2, none⟩ (.string ⟨#[]⟩)).setCell ⟨w5.heap.size, 3, none⟩ (.slice none 0 0)).setCell ⟨w5.heap.size, 4, none⟩ (.slice none 0 0) = w8 at HZ6 HB6 ⊢
          clear hw8
          refine mixl_seg (by kernel_rfl) (fun _ _ d _ _ h => by cases d <;> exact h) [13] [_] 0 1 rfl _ _ _ rfl (by kernel_rfl) (growC HB6.out) ?_
          repeat (go_big_quiet_step (fail))
          refine wpQuiet_nil ?_
          refine mix_done (by kernel_rfl) (growC HB6.out) ?_
          obtain ⟨v0, v1, v2, v3, v4⟩ := cells_five HZ6.out
          have HZL := Hold.mk (heap_lt HZ6.out)
          go_wp2_with fail
          go_ret3
          exact EK_none HA.out HN.out (HB3.out.trans (HB6.out.mono HB3.out.size))
        | some uu =>
          rw [hgv] at hg
          simp only at hg
          obtain ⟨y, rfl, hju⟩ := hg
          obtain ⟨k2, n2, t2, nm2, it2, na2, ncap2, ia2, icap2, _, rfl, _⟩ := hju.open
          have HALL2 : Hold ((l.take (j + 1)).all (hasK v) = true) := ⟨by rw [take_succ HFL.out, List.all_append, HALL.out]; simp [hasK, hgv]⟩
          have HJ6 : Hold (JAt (cf w) (valK v (s, d)) (.agg #[.int .i64 k2, .int .i64 n2, .string t2, .slice na2 nm2.length ncap2, .slice ia2 it2.length icap2])) := ⟨by unfold valK; rw [hgv]; exact hju⟩
          clear hgv hju
          go_wp2_with fail
          refine mixl_seg (by kernel_rfl) (fun _ _ d _ _ h => by cases d <;> exact h) [8, 9, 10] [_, _, _] 3 6 rfl _ _ _ rfl (by kernel_rfl) (growC HB5.out) ?_
          repeat (go_big_quiet_step (fail))
          refine wpQuiet_nil ?_
          refine mixl_act (i := 11) rfl (by kernel_rfl) (growC HB5.out) rfl (fun K hK => ?_)
          go_wp2_with fail
          have HB6 := Hold.mk (HB5.out.alloc HB5.out.size (.cells #[.int .i64 0, .int .i64 0, .string ⟨#[]⟩, .slice none 0 0, .slice none 0 0] 25))
          have HZB := Hold.mk (heap_alloc_new w5 (.cells #[.int .i64 0, .int .i64 0, .string ⟨#[]⟩, .slice none 0 0, .slice none 0 0] 25))
          generalize w5.alloc (.cells #[.int .i64 0, .int .i64 0, .string ⟨#[]⟩, .slice none 0 0, .slice none 0 0] 25) = w6 at HB6 HZB ⊢
          have HWL : Hold (wr.heap.size ≤ w5.heap.size) := ⟨HB5.out.size⟩
          refine mixl_act (i := 12) rfl (by kernel_rfl) (growC HB6.out) rfl (fun K hK => ?_)
          obtain ⟨u0, u1, u2, u3, u4⟩ := cells_five HZB.out
          have q0 := free_box HZB.out 0
          have q1 := free_box HZB.out 1
          have q2 := free_box HZB.out 2
          have q3 := free_box HZB.out 3
          have q4 := free_box HZB.out 4
          go_wp2_with fail
          clear u0 u1 u2 u3 u4 q0 q1 q2 q3 q4
          have HZ6 := Hold.mk (set5_self (c0 := .int .i64 k2) (c1 := .int .i64 n2) (c2 := .string t2) (c3 := .slice na2 nm2.length ncap2) (c4 := .slice ia2 it2.length icap2) HZB.out)
          replace HB6 := Hold.mk (set5_below (k := w5.heap.size) (c0 := .int .i64 k2) (c1 := .int .i64 n2) (c2 := .string t2) (c3 := .slice na2 nm2.length ncap2) (c4 := .slice ia2 it2.length icap2) HB6.out HWL.out)
          unfold set5 at HZ6 HB6
          generalize hw8 : ((((w6.setCell ⟨w5.heap.size, 0, none⟩ (.int .i64 k2)).setCell ⟨w5.heap.size, 1, none⟩ (.int .i64 n2)).setCell ⟨w5.heap.size, 2, none⟩ (.string t2)).setCell ⟨w5.heap.size, 3, none⟩ (.slice na2 nm2.length ncap2)).setCell ⟨w5.heap.size, 4, none⟩ (.slice ia2 it2.length icap2) = w8 at HZ6 HB6 ⊢
          clear hw8
          refine mixl_seg (by kernel_rfl) (fun _ _ d _ _ h => by cases d <;> exact h) [13] [_] 0 1 rfl _ _ _ rfl (by kernel_rfl) (growC HB6.out) ?_
          repeat (go_big_quiet_step (fail))
          refine wpQuiet_nil ?_
          refine mix_done (by kernel_rfl) (growC HB6.out) ?_
          obtain ⟨v0, v1, v2, v3, v4⟩ := cells_five HZ6.out
          have HZL := Hold.mk (heap_lt HZ6.out)
          go_wp2_with fail
          refine (rplain_any 6 (valK v (s, d)) _ _ (valK_formed v (s, d)) keyB_six (HJ6.out.mono (cle_below (HB3.out.trans (HB6.out.mono HB3.out.size))))).mono ?_
          rintro e w7 ⟨sp, rfl, hsp, hb7⟩
          clear v0 v1 v2 v3 v4
          obtain ⟨pt, hpt⟩ : ∃ pt, pt = putF (valK v (s, d)) := ⟨_, rfl⟩
          rw [← hpt] at hsp
          have HPT := Hold.mk hpt
          have HPL : Hold (pt.length ≤ 200000000000) := ⟨by rw [hpt]; exact Nat.le_trans (putF_len 6 _ (valK_formed v (s, d))) keyB_six⟩
          obtain ⟨pa, pcap, rfl, _⟩ := hsp.shape
          have HSP := Hold.mk hsp
          have HR7 := Hold.mk ((HR.out.quiet HB6.out).quiet hb7)
          have HBL7 : Hold (Below w2.heap.size w2 w7) := ⟨(HBL.out.trans (HB6.out.mono HBL.out.size)).trans (hb7.mono (Nat.le_trans HBL.out.size HB6.out.size))⟩
          have HNE : Hold (∀ g, (Value.slice pa pt.length pcap).ownBlock = some g → (Value.slice sa acc.length scap).ownBlock ≠ some g) := ⟨fun g h1 h2 => by
            have q1 := (HSP.out.low g h1).1
            have q2 := ((HR.out.quiet HB6.out).low g h2).2
            omega⟩
          clear hsp hb7 hpt
          go_wp2_with fail
          go_loopw [7, 12] (fun bv q wq => ∃ m : Nat, q = .int .i64 m ∧ m ≤ pt.length ∧ BRow w2.heap.size wq bv (acc ++ (dirK d pt).take m) ∧ Grew w7 wq (.slice sa acc.length scap) bv) (fun _ q _ => pt.length - (intOf q).toNat)
          case atStart => exact ⟨0, rfl, Nat.zero_le _, by rw [List.take_zero, List.append_nil]; exact HR7.out, Grew.refl _ _⟩
          case round =>
            obtain ⟨m, rfl, hm, hbr, hgr⟩ := hrel
            obtain ⟨l3, hl3⟩ : ∃ l3, l3 = acc ++ (dirK d pt).take m := ⟨_, rfl⟩
            rw [← hl3] at hbr
            obtain ⟨ja, jcap, rfl, _⟩ := hbr.shape
            have HR9 := Hold.mk hbr
            have HG9 := Hold.mk hgr
            have HL3 := Hold.mk hl3
            have HFIT : Hold (l3.length + 1 ≤ 140737488355328) := ⟨by
              rw [hl3, List.length_append, List.length_take]; have := HLEN.out; have := HPL.out
              have h3 : min m (dirK d pt).length ≤ m := Nat.min_le_left _ _
              omega⟩
            have hbl9 : Below w2.heap.size w2 wr := HBL7.out.trans (HR7.out.below hgr)
            have HBL9 := Hold.mk hbl9
            obtain ⟨x0, x1, x2⟩ := cells_three (kept HXB.out hbl9)
            have z1 := cle_below (HB.out.trans (hbl9.mono HB.out.size)) _ _ _ HD1.out
            unfold cf at z1
            have HSP9 := Hold.mk (HSP.out.beside hgr HNE.out (Nat.zero_le _))
            clear hbr hgr hl3 hbl9
            by_cases hlt2 : m < pt.length
            · obtain ⟨c, hc⟩ : ∃ c, pt[m]? = some c := ⟨pt[m], List.getElem?_eq_getElem hlt2⟩
              obtain ⟨g, rfl, _, hgl, p0⟩ := HSP9.out.get hc
              have HPC := Hold.mk hc
              clear hc
              cases d with
              | true =>
                have HPS := Hold.mk (dir_true HPC.out)
                have HCV : Hold (255 - ((c.toNat : Nat) : Int) = (((notB c).toNat : Nat) : Int)) := ⟨not_val c⟩
                have hcl1 := c.toNat_lt
                go_wp2_with (at_builtin; refine app_new rfl _ _ rfl _ _ _ _ HR9.out rfl _ [notB c] (by simp only [bv, List.map_cons, List.map_nil]; rw [HCV.out]) _ rfl (by simp) (Nat.succ_pos _) (by have := HFIT.out; simp; omega) ?_)
                intro s9 w9 hb9 hg9
                have HN : Hold (BRow w2.heap.size w9 s9 (acc ++ (dirK true pt).take (m + 1))) := ⟨by rw [HPS.out, ← List.append_assoc, ← HL3.out]; exact hb9⟩
                replace HG9 := Hold.mk (HG9.out.trans hg9)
                clear hb9 hg9 x0 x1 x2 z1 p0
                go_wp2_with fail
                exact ⟨⟨m + 1, by go_num, hlt2, HN.out, HG9.out⟩, by simp [intOf]; omega⟩
              | false =>
                have HPS := Hold.mk (dir_false HPC.out)
                go_wp2_with (at_builtin; refine app_new rfl _ _ rfl _ _ _ _ HR9.out rfl _ [c] rfl _ rfl (by simp) (Nat.succ_pos _) (by have := HFIT.out; simp; omega) ?_)
                intro s9 w9 hb9 hg9
                have HN : Hold (BRow w2.heap.size w9 s9 (acc ++ (dirK false pt).take (m + 1))) := ⟨by rw [HPS.out, ← List.append_assoc, ← HL3.out]; exact hb9⟩
                replace HG9 := Hold.mk (HG9.out.trans hg9)
                clear hb9 hg9 x0 x1 x2 z1 p0
                go_wp2_with fail
                exact ⟨⟨m + 1, by go_num, hlt2, HN.out, HG9.out⟩, by simp [intOf]; omega⟩
            · have HN : Hold (BRow w2.heap.size wr (.slice ja l3.length jcap) (compF ((l.take (j + 1)).map (valK v)) ((l.take (j + 1)).map (·.2)))) := ⟨by
                have e : l3 = compF ((l.take (j + 1)).map (valK v)) ((l.take (j + 1)).map (·.2)) := by
                  rw [HST.out, HL3.out, List.take_of_length_le (by rw [dir_len]; omega)]; unfold partK dirK; rw [HPT.out]
                rw [← e]; exact HR9.out⟩
              go_wp2_with fail
              exact ⟨⟨j + 1, by go_num, hlt, HALL2.out, HN.out, HBL9.out⟩, by simp [intOf]; omega⟩
      · go_wp2_with fail
        have HZB := Hold.mk (heap_alloc_new w3 (.cells #[.int .i64 0, .int .i64 0, .string ⟨#[]⟩, .slice none 0 0, .slice none 0 0] 25))
        have HBZ := Hold.mk (HB4.out.alloc HB4.out.size (.cells #[.int .i64 0, .int .i64 0, .string ⟨#[]⟩, .slice none 0 0, .slice none 0 0] 25))
        generalize w3.alloc (.cells #[.int .i64 0, .int .i64 0, .string ⟨#[]⟩, .slice none 0 0, .slice none 0 0] 25) = wz at HZB HBZ ⊢
        have HWL : Hold (wr.heap.size ≤ w3.heap.size) := ⟨HB4.out.size⟩
        refine mixl_act (i := 7) rfl (by kernel_rfl) (growC HBZ.out) rfl (fun K hK => ?_)
        go_wp2_with fail
        refine (rGetC_any (cf w) v _ s _ ((cle_below (HB3.out.trans (HBZ.out.mono HB3.out.size))).trans (cle_cfU _)) HV.out HSF.out).mono ?_
        rintro e w5 ⟨hg, hb5⟩
        have HB6 : Hold (Below wr.heap.size wr w5) := ⟨HBZ.out.trans (hb5.mono HBZ.out.size)⟩
        replace HZB := Hold.mk (kept HZB.out hb5)
        clear hb5
        cases hgv : getF v s with
        | none =>
          rw [hgv] at hg
          simp only at hg
          subst hg
          have HN : Hold (l.all (hasK v) = false) := ⟨all_false HFL.out (by unfold hasK; rw [hgv]; rfl)⟩
          clear hgv
          go_wp2_with fail
          refine mixl_seg (by kernel_rfl) (fun _ _ d _ _ h => by cases d <;> exact h) [8, 9, 10] [_, _, _] 2 5 rfl _ _ _ rfl (by kernel_rfl) (growC HB6.out) ?_
          repeat (go_big_quiet_step (fail))
          refine wpQuiet_nil ?_
          refine mixl_act (i := 12) rfl (by kernel_rfl) (growC HB6.out) rfl (fun K hK => ?_)
          obtain ⟨u0, u1, u2, u3, u4⟩ := cells_five HZB.out
          have q0 := free_box HZB.out 0
          have q1 := free_box HZB.out 1
          have q2 := free_box HZB.out 2
          have q3 := free_box HZB.out 3
          have q4 := free_box HZB.out 4
          go_wp2_with fail
          clear u0 u1 u2 u3 u4 q0 q1 q2 q3 q4
          have HZ6 := Hold.mk (set5_self (c0 := .int .i64 0) (c1 := .int .i64 0) (c2 := .string ⟨#[]⟩) (c3 := .slice none 0 0) (c4 := .slice none 0 0) HZB.out)
          replace HB6 := Hold.mk (set5_below (k := w3.heap.size) (c0 := .int .i64 0) (c1 := .int .i64 0) (c2 := .string ⟨#[]⟩) (c3 := .slice none 0 0) (c4 := .slice none 0 0) HB6.out HWL.out)
          unfold set5 at HZ6 HB6
          generalize hw8 : ((((w5.setCell ⟨w3.heap.size, 0, none⟩ (.int .i64 0)).setCell ⟨w3.heap.size, 1, none⟩ (.int .i64 0)).setCell ⟨w3.heap.size, 2, none⟩ (.string ⟨#[]⟩)).setCell ⟨w3.heap.size, 3, none⟩ (.slice none 0 0)).setCell ⟨w3.heap.size, 4, none⟩ (.slice none 0 0) = w8 at HZ6 HB6 ⊢
          clear hw8
          refine mixl_seg (by kernel_rfl) (fun _ _ d _ _ h => by cases d <;> exact h) [13] [_] 0 1 rfl _ _ _ rfl (by kernel_rfl) (growC HB6.out) ?_
          repeat (go_big_quiet_step (fail))
          refine wpQuiet_nil ?_
          refine mix_done (by kernel_rfl) (growC HB6.out) ?_
          obtain ⟨v0, v1, v2, v3, v4⟩ := cells_five HZ6.out
          have HZL := Hold.mk (heap_lt HZ6.out)
          go_wp2_with fail
          go_ret3
          exact EK_none HA.out HN.out (HB3.out.trans (HB6.out.mono HB3.out.size))
        | some uu =>
          rw [hgv] at hg
          simp only at hg
          obtain ⟨y, rfl, hju⟩ := hg
          obtain ⟨k2, n2, t2, nm2, it2, na2, ncap2, ia2, icap2, _, rfl, _⟩ := hju.open
          have HALL2 : Hold ((l.take (j + 1)).all (hasK v) = true) := ⟨by rw [take_succ HFL.out, List.all_append, HALL.out]; simp [hasK, hgv]⟩
          have HJ6 : Hold (JAt (cf w) (valK v (s, d)) (.agg #[.int .i64 k2, .int .i64 n2, .string t2, .slice na2 nm2.length ncap2, .slice ia2 it2.length icap2])) := ⟨by unfold valK; rw [hgv]; exact hju⟩
          clear hgv hju
          go_wp2_with fail
          refine mixl_seg (by kernel_rfl) (fun _ _ d _ _ h => by cases d <;> exact h) [8, 9, 10] [_, _, _] 2 5 rfl _ _ _ rfl (by kernel_rfl) (growC HB6.out) ?_
          repeat (go_big_quiet_step (fail))
          refine wpQuiet_nil ?_
          refine mixl_act (i := 12) rfl (by kernel_rfl) (growC HB6.out) rfl (fun K hK => ?_)
          obtain ⟨u0, u1, u2, u3, u4⟩ := cells_five HZB.out
          have q0 := free_box HZB.out 0
          have q1 := free_box HZB.out 1
          have q2 := free_box HZB.out 2
          have q3 := free_box HZB.out 3
          have q4 := free_box HZB.out 4
          go_wp2_with fail
          clear u0 u1 u2 u3 u4 q0 q1 q2 q3 q4
          have HZ6 := Hold.mk (set5_self (c0 := .int .i64 k2) (c1 := .int .i64 n2) (c2 := .string t2) (c3 := .slice na2 nm2.length ncap2) (c4 := .slice ia2 it2.length icap2) HZB.out)
          replace HB6 := Hold.mk (set5_below (k := w3.heap.size) (c0 := .int .i64 k2) (c1 := .int .i64 n2) (c2 := .string t2) (c3 := .slice na2 nm2.length ncap2) (c4 := .slice ia2 it2.length icap2) HB6.out HWL.out)
          unfold set5 at HZ6 HB6
          generalize hw8 : ((((w5.setCell ⟨w3.heap.size, 0, none⟩ (.int .i64 k2)).setCell ⟨w3.heap.size, 1, none⟩ (.int .i64 n2)).setCell ⟨w3.heap.size, 2, none⟩ (.string t2)).setCell ⟨w3.heap.size, 3, none⟩ (.slice na2 nm2.length ncap2)).setCell ⟨w3.heap.size, 4, none⟩ (.slice ia2 it2.length icap2) = w8 at HZ6 HB6 ⊢
          clear hw8
          refine mixl_seg (by kernel_rfl) (fun _ _ d _ _ h => by cases d <;> exact h) [13] [_] 0 1 rfl _ _ _ rfl (by kernel_rfl) (growC HB6.out) ?_
          repeat (go_big_quiet_step (fail))
          refine wpQuiet_nil ?_
          refine mix_done (by kernel_rfl) (growC HB6.out) ?_
          obtain ⟨v0, v1, v2, v3, v4⟩ := cells_five HZ6.out
          have HZL := Hold.mk (heap_lt HZ6.out)
          go_wp2_with fail
          refine (rplain_any 6 (valK v (s, d)) _ _ (valK_formed v (s, d)) keyB_six (HJ6.out.mono (cle_below (HB3.out.trans (HB6.out.mono HB3.out.size))))).mono ?_
          rintro e w7 ⟨sp, rfl, hsp, hb7⟩
          clear v0 v1 v2 v3 v4
          obtain ⟨pt, hpt⟩ : ∃ pt, pt = putF (valK v (s, d)) := ⟨_, rfl⟩
          rw [← hpt] at hsp
          have HPT := Hold.mk hpt
          have HPL : Hold (pt.length ≤ 200000000000) := ⟨by rw [hpt]; exact Nat.le_trans (putF_len 6 _ (valK_formed v (s, d))) keyB_six⟩
          obtain ⟨pa, pcap, rfl, _⟩ := hsp.shape
          have HSP := Hold.mk hsp
          have HR7 := Hold.mk ((HR.out.quiet HB6.out).quiet hb7)
          have HBL7 : Hold (Below w2.heap.size w2 w7) := ⟨(HBL.out.trans (HB6.out.mono HBL.out.size)).trans (hb7.mono (Nat.le_trans HBL.out.size HB6.out.size))⟩
          have HNE : Hold (∀ g, (Value.slice pa pt.length pcap).ownBlock = some g → (Value.slice sa acc.length scap).ownBlock ≠ some g) := ⟨fun g h1 h2 => by
            have q1 := (HSP.out.low g h1).1
            have q2 := ((HR.out.quiet HB6.out).low g h2).2
            omega⟩
          clear hsp hb7 hpt
          go_wp2_with fail
          go_loopw [7, 12] (fun bv q wq => ∃ m : Nat, q = .int .i64 m ∧ m ≤ pt.length ∧ BRow w2.heap.size wq bv (acc ++ (dirK d pt).take m) ∧ Grew w7 wq (.slice sa acc.length scap) bv) (fun _ q _ => pt.length - (intOf q).toNat)
          case atStart => exact ⟨0, rfl, Nat.zero_le _, by rw [List.take_zero, List.append_nil]; exact HR7.out, Grew.refl _ _⟩
          case round =>
            obtain ⟨m, rfl, hm, hbr, hgr⟩ := hrel
            obtain ⟨l3, hl3⟩ : ∃ l3, l3 = acc ++ (dirK d pt).take m := ⟨_, rfl⟩
            rw [← hl3] at hbr
            obtain ⟨ja, jcap, rfl, _⟩ := hbr.shape
            have HR9 := Hold.mk hbr
            have HG9 := Hold.mk hgr
            have HL3 := Hold.mk hl3
            have HFIT : Hold (l3.length + 1 ≤ 140737488355328) := ⟨by
              rw [hl3, List.length_append, List.length_take]; have := HLEN.out; have := HPL.out
              have h3 : min m (dirK d pt).length ≤ m := Nat.min_le_left _ _
              omega⟩
            have hbl9 : Below w2.heap.size w2 wr := HBL7.out.trans (HR7.out.below hgr)
            have HBL9 := Hold.mk hbl9
            obtain ⟨x0, x1, x2⟩ := cells_three (kept HXB.out hbl9)
            have z1 := cle_below (HB.out.trans (hbl9.mono HB.out.size)) _ _ _ HD1.out
            unfold cf at z1
            have HSP9 := Hold.mk (HSP.out.beside hgr HNE.out (Nat.zero_le _))
            clear hbr hgr hl3 hbl9
            by_cases hlt2 : m < pt.length
            · obtain ⟨c, hc⟩ : ∃ c, pt[m]? = some c := ⟨pt[m], List.getElem?_eq_getElem hlt2⟩
              obtain ⟨g, rfl, _, hgl, p0⟩ := HSP9.out.get hc
              have HPC := Hold.mk hc
              clear hc
              cases d with
              | true =>
                have HPS := Hold.mk (dir_true HPC.out)
                have HCV : Hold (255 - ((c.toNat : Nat) : Int) = (((notB c).toNat : Nat) : Int)) := ⟨not_val c⟩
                have hcl1 := c.toNat_lt
                go_wp2_with (at_builtin; refine app_new rfl _ _ rfl _ _ _ _ HR9.out rfl _ [notB c] (by simp only [bv, List.map_cons, List.map_nil]; rw [HCV.out]) _ rfl (by simp) (Nat.succ_pos _) (by have := HFIT.out; simp; omega) ?_)
                intro s9 w9 hb9 hg9
                have HN : Hold (BRow w2.heap.size w9 s9 (acc ++ (dirK true pt).take (m + 1))) := ⟨by rw [HPS.out, ← List.append_assoc, ← HL3.out]; exact hb9⟩
                replace HG9 := Hold.mk (HG9.out.trans hg9)
                clear hb9 hg9 x0 x1 x2 z1 p0
                go_wp2_with fail
                exact ⟨⟨m + 1, by go_num, hlt2, HN.out, HG9.out⟩, by simp [intOf]; omega⟩
              | false =>
                have HPS := Hold.mk (dir_false HPC.out)
                go_wp2_with (at_builtin; refine app_new rfl _ _ rfl _ _ _ _ HR9.out rfl _ [c] rfl _ rfl (by simp) (Nat.succ_pos _) (by have := HFIT.out; simp; omega) ?_)
                intro s9 w9 hb9 hg9
                have HN : Hold (BRow w2.heap.size w9 s9 (acc ++ (dirK false pt).take (m + 1))) := ⟨by rw [HPS.out, ← List.append_assoc, ← HL3.out]; exact hb9⟩
                replace HG9 := Hold.mk (HG9.out.trans hg9)
                clear hb9 hg9 x0 x1 x2 z1 p0
                go_wp2_with fail
                exact ⟨⟨m + 1, by go_num, hlt2, HN.out, HG9.out⟩, by simp [intOf]; omega⟩
            · have HN : Hold (BRow w2.heap.size wr (.slice ja l3.length jcap) (compF ((l.take (j + 1)).map (valK v)) ((l.take (j + 1)).map (·.2)))) := ⟨by
                have e : l3 = compF ((l.take (j + 1)).map (valK v)) ((l.take (j + 1)).map (·.2)) := by
                  rw [HST.out, HL3.out, List.take_of_length_le (by rw [dir_len]; omega)]; unfold partK dirK; rw [HPT.out]
                rw [← e]; exact HR9.out⟩
              go_wp2_with fail
              exact ⟨⟨j + 1, by go_num, hlt, HALL2.out, HN.out, HBL9.out⟩, by simp [intOf]; omega⟩
    · obtain rfl : j = l.length := by omega
      have HEE : Hold (acc = entB ⟨xn, l, u⟩ v) := ⟨by rw [HACC.out, List.take_of_length_le (Nat.le_refl _)]; rfl⟩
      have HALL3 : Hold (l.all (hasK v) = true) := ⟨by have := HALL.out; rw [List.take_of_length_le (Nat.le_refl _)] at this; exact this⟩
      have HB4 : Hold (Below w.heap.size w wr) := ⟨HB.out.trans (HBL.out.mono HB.out.size)⟩
      have HSV : Hold (BytesAt (cfA w.heap.size wr) (.slice sa acc.length scap) (entB ⟨xn, l, u⟩ v)) := ⟨by rw [← HEE.out]; exact HR.out.bytesA.mono (cfA_anti _ HB.out.size)⟩
      by_cases h90 : acc.length ≤ 90
      · have H90 : Hold ((entB ⟨xn, l, u⟩ v).length ≤ 90) := ⟨by rw [← HEE.out]; exact h90⟩
        go_wp2_with fail
        go_ret3
        exact EK_ok HA.out HALL3.out H90.out HSV.out HB4.out
      · have H90 : Hold (¬ (entB ⟨xn, l, u⟩ v).length ≤ 90) := ⟨by rw [← HEE.out]; exact h90⟩
        go_wp2_with fail
        go_ret3
        exact EK_long HA.out HALL3.out H90.out HB4.out

end Go.Proofs.YtfllnlmanopfaaaDoor
