/- the law FilterTests, walked. -/
import Derived.Test.YtfllnlmanopfaaaDoorFW
import Derived.Test.YtfllnlmanopfaaaDoorFV
namespace Go.Proofs.YtfllnlmanopfaaaDoor
open Go.RowKit

theorem ask_is (doc v : JV) (p s : ByteArray) (x y : Value) (w : World) (b g : Bool) (hb : HoldsP (askJ p s v) doc = b) (hg : (checkF (askJ p s v) == 0) = g) (hp : p.size ≤ 9223372036854775807) (hs : s.size ≤ 9223372036854775807) (hx : JAt (cf w) doc x) (hy : JAt (cf w) v y) (hT : Tabs w) :
    Calls Tryd.prog 19 #[x, .string p, .string s, y] w fun e w' => e = .returned (.tuple #[.bool b, .bool g]) ∧ Below w.heap.size w w' := by
  subst hb hg
  exact ask_any doc v p s x y w hp hs hx hy hT

/-- the six answers -/
inductive Six : Bool → Bool → Bool → Bool → Bool → Bool → Prop
  | lt : Six true false false true false true
  | eq : Six false true false true true false
  | gt : Six false false true false true true
theorem six_of (c : Int) : Six (decide (c < 0)) (decide (c = 0)) (decide (0 < c)) (decide (c ≤ 0)) (decide (0 ≤ c)) (decide (c ≠ 0)) := by
  rcases Int.lt_trichotomy c 0 with h | h | h
  · rw [decide_eq_true h, decide_eq_false (by omega : ¬ c = 0), decide_eq_false (by omega : ¬ 0 < c), decide_eq_true (by omega : c ≤ 0), decide_eq_false (by omega : ¬ 0 ≤ c), decide_eq_true (by omega : c ≠ 0)]; exact .lt
  · subst h; exact .eq
  · rw [decide_eq_false (by omega : ¬ c < 0), decide_eq_false (by omega : ¬ c = 0), decide_eq_true h, decide_eq_false (by omega : ¬ c ≤ 0), decide_eq_true (by omega : 0 ≤ c), decide_eq_true (by omega : c ≠ 0)]; exact .gt
theorem ck_true {f : JV} (h : checkF f = 0) : (checkF f == 0) = true := by rw [h]; rfl

theorem kind_at (k : Int) (c : CF) (hk : (Lit.int .i64 k).wf = true) : JAt c (.mk k 0 ⟨#[]⟩ [] []) (.agg #[.int .i64 k, .int .i64 0, .string ⟨#[]⟩, .slice none 0 0, .slice none 0 0]) :=
  JAt.shut hk (by kernel_rfl) (by simp [ByteArray.size]) (strs0 c) (items0 c)

set_option maxRecDepth 100000 in
set_option maxHeartbeats 32000000 in
theorem filterTests_walk (x v : JV) (xv vv : Value) (w : World) (hx : JAt (cf w) x xv) (hv : JAt (cf w) v vv) (hT : Tabs w) :
    Calls Tryd.prog 5 #[xv, vv] w fun e w' => e = .returned (.bool true) ∧ Below w.heap.size w w' := by
  obtain ⟨k, n, t, nm, it, na, ncap, ia, icap, hxe, rfl, _⟩ := hx.open
  obtain ⟨k2, n2, t2, nm2, it2, na2, ncap2, ia2, icap2, hve, rfl, _⟩ := hv.open
  have HXK := Hold.mk (show x.kind = k by rw [hxe]; rfl)
  have HX := Hold.mk hx
  have HV := Hold.mk hv
  have HT := Hold.mk hT
  have H3 := Hold.mk (((Bx.nil w).add w.heap.size rfl (A5 k n t na nm.length ncap ia it.length icap)).add (w.heap.size + 1) (by simp) (A5 k2 n2 t2 na2 nm2.length ncap2 ia2 it2.length icap2))
  clear hx hv hT hxe hve
  go_enter Tryd.func5, Tryd.ntmps5
  go_wp2_with fail
  refine (awake15_any _ (HT.out.below H3.out.bel)).mono ?_
  rintro e w1 ⟨rfl, hb1⟩
  replace H3 := Hold.mk (H3.out.next hb1)
  clear hb1
  obtain ⟨y0, y1, y2, y3, y4⟩ := cells_five H3.out.tl.hd
  obtain ⟨z0, z1, z2, z3, z4⟩ := cells_five H3.out.hd
  go_wp2_with fail
  have hf3 := few15_any _ [x, v] _ (items2 (t := 25) (fr := (0, 0)) (al_new (w := w1) rfl) ((HX.out.mono (cle_below H3.out.bel)).mono (cle_alloc _ _)) ((HV.out.mono (cle_below H3.out.bel)).mono (cle_alloc _ _)))
  refine hf3.mono ?_
  clear hf3
  rintro e w2 ⟨rfl, hb2⟩
  replace H3 := Hold.mk ((H3.out.next ((Below.refl _ w1).alloc (Nat.le_refl _) _)).next hb2)
  clear hb2 y0 y1 y2 y3 y4 z0 z1 z2 z3 z4
  cases hfew : [x, v].all fewF with
  | false =>
    clear hfew
    go_wp2_with fail
    refine (awake15_any _ (HT.out.below H3.out.bel)).mono ?_
    rintro e w3 ⟨rfl, hb3⟩
    replace H3 := Hold.mk (H3.out.next hb3)
    clear hb3
    go_wp2_with fail
    go_ret
    exact ⟨rfl, H3.out.bel⟩
  | true =>
    clear hfew
    obtain ⟨y0, y1, y2, y3, y4⟩ := cells_five H3.out.tl.hd
    go_wp2_with fail
    refine (Formed_any x _ _ (HX.out.mono (cle_below H3.out.bel)) (HT.out.below H3.out.bel)).mono ?_
    rintro e w3 ⟨rfl, hb3⟩
    replace H3 := Hold.mk (H3.out.next hb3)
    clear hb3 y0 y1 y2 y3 y4
    cases hfx : formedF 6 x with
    | false =>
      clear hfx
      go_wp2_with fail
      refine (awake15_any _ (HT.out.below H3.out.bel)).mono ?_
      rintro e w4 ⟨rfl, hb4⟩
      replace H3 := Hold.mk (H3.out.next hb4)
      clear hb4
      go_wp2_with fail
      go_ret
      exact ⟨rfl, H3.out.bel⟩
    | true =>
      clear hfx
      obtain ⟨y0, y1, y2, y3, y4⟩ := cells_five H3.out.hd
      go_wp2_with fail
      refine (Formed_any v _ _ (HV.out.mono (cle_below H3.out.bel)) (HT.out.below H3.out.bel)).mono ?_
      rintro e w3 ⟨rfl, hb3⟩
      replace H3 := Hold.mk (H3.out.next hb3)
      clear hb3 y0 y1 y2 y3 y4
      cases hfv : formedF 6 v with
      | false =>
        clear hfv
        go_wp2_with fail
        refine (awake15_any _ (HT.out.below H3.out.bel)).mono ?_
        rintro e w4 ⟨rfl, hb4⟩
        replace H3 := Hold.mk (H3.out.next hb4)
        clear hb4
        go_wp2_with fail
        go_ret
        exact ⟨rfl, H3.out.bel⟩
      | true =>
        clear hfv
        obtain ⟨y0, y1, y2, y3, y4⟩ := cells_five H3.out.tl.hd
        have hlt1 := heap_lt H3.out.tl.hd
        go_wp2_with fail
        obtain ⟨W, hW, hB, e0, e1, e2⟩ := three w3 (.cells #[.string ⟨#[97]⟩] 9) (.cells #[.int .i64 k, .int .i64 n, .string t, .slice na nm.length ncap, .slice ia it.length icap] 25) (.cells #[.int .i64 6, .int .i64 0, .string ⟨#[]⟩, .slice (some ⟨w3.heap.size, 0, none⟩) 1 1, .slice (some ⟨w3.heap.size + 1, 0, none⟩) 1 1] 25)
        rw [← hW]
        replace H3 := Hold.mk (H3.out.next hB)
        have HJD := Hold.mk (one_at e0 (by simp [ByteArray.size]) e1 (HX.out.mono (cle_below H3.out.bel)))
        have HD := Hold.mk e2
        clear hW hB e0 e1 e2 y0 y1 y2 y3 y4 hlt1
        have HFM := Hold.mk (Formed_any (oneJ nA x) _ W HJD.out (HT.out.below H3.out.bel))
        cases hf : formedF 6 (oneJ nA x) with
        | false =>
          rw [hf] at HFM
          clear hf
          refine HFM.out.mono ?_
          rintro e w4 ⟨rfl, hb4⟩
          replace H3 := Hold.mk (H3.out.next hb4)
          clear hb4 HFM
          go_wp2_with fail
          go_ret
          exact ⟨rfl, H3.out.bel⟩
        | true =>
          rw [hf] at HFM
          have HF := Hold.mk hf
          clear hf
          refine HFM.out.mono ?_
          rintro e w4 ⟨rfl, hb4⟩
          replace H3 := Hold.mk (H3.out.next hb4)
          replace HJD := Hold.mk (HJD.out.mono (cle_below hb4))
          replace HD := Hold.mk (kept HD.out hb4)
          clear hb4 HFM
          cases hok : (checkF (askJ nA nLt v) == 0) with
          | false =>
            obtain ⟨blt, hblt⟩ : ∃ b, HoldsP (askJ nA nLt v) (oneJ nA x) = b := ⟨_, rfl⟩
            have HL := Hold.mk (And.intro hblt hok)
            clear hblt hok
            obtain ⟨y0, y1, y2, y3, y4⟩ := cells_five HD.out
            obtain ⟨z0, z1, z2, z3, z4⟩ := cells_five H3.out.hd
            go_wp2_with fail
            refine (ask_is (oneJ nA x) v nA nLt _ _ _ blt false HL.out.1 HL.out.2 (by simp [ByteArray.size]) (by simp [ByteArray.size]) HJD.out (HV.out.mono (cle_below H3.out.bel)) (HT.out.below H3.out.bel)).mono ?_
            rintro e w5 ⟨rfl, hb5⟩
            replace H3 := Hold.mk (H3.out.next hb5)
            replace HJD := Hold.mk (HJD.out.mono (cle_below hb5))
            replace HD := Hold.mk (kept HD.out hb5)
            clear hb5 y0 y1 y2 y3 y4 z0 z1 z2 z3 z4
            clear HL
            go_wp2_with fail
            go_ret
            exact ⟨rfl, H3.out.bel⟩
          | true =>
            have HOK := Hold.mk (show checkF (askJ nA nLt v) = 0 by simpa using hok)
            have HL := Hold.mk hok
            clear hok
            obtain ⟨blt, hblt⟩ : ∃ b, decide (cmpF 6 x v < 0) = b := ⟨_, rfl⟩
            obtain ⟨beq, hbeq⟩ : ∃ b, decide (cmpF 6 x v = 0) = b := ⟨_, rfl⟩
            obtain ⟨bgt, hbgt⟩ : ∃ b, decide (0 < cmpF 6 x v) = b := ⟨_, rfl⟩
            obtain ⟨ble, hble⟩ : ∃ b, decide (cmpF 6 x v ≤ 0) = b := ⟨_, rfl⟩
            obtain ⟨bge, hbge⟩ : ∃ b, decide (0 ≤ cmpF 6 x v) = b := ⟨_, rfl⟩
            obtain ⟨bne, hbne⟩ : ∃ b, decide (cmpF 6 x v ≠ 0) = b := ⟨_, rfl⟩
            have h6 := six_of (cmpF 6 x v)
            rw [hblt, hbeq, hbgt, hble, hbge, hbne] at h6
            have H6 := Hold.mk h6
            have HE := Hold.mk hbeq
            have T1 := Hold.mk ((tests_lt HF.out HOK.out).trans hblt)
            have T2 := Hold.mk ((tests_eq HF.out HOK.out).trans hbeq)
            have T3 := Hold.mk ((tests_gt HF.out HOK.out).trans hbgt)
            have T4 := Hold.mk ((tests_le HF.out HOK.out).trans hble)
            have T5 := Hold.mk ((tests_ge HF.out HOK.out).trans hbge)
            have T6 := Hold.mk ((tests_ne HF.out HOK.out).trans hbne)
            clear hblt hbeq hbgt hble hbge hbne h6
            obtain ⟨y0, y1, y2, y3, y4⟩ := cells_five HD.out
            obtain ⟨z0, z1, z2, z3, z4⟩ := cells_five H3.out.hd
            go_wp2_with fail
            refine (ask_is (oneJ nA x) v nA nLt _ _ _ blt true T1.out (ck_true (tests_ck HOK.out (.inl rfl) six_text.1 (by decide +kernel) (test_six _ _ (.inl rfl)))) (by simp [ByteArray.size]) (by simp [ByteArray.size]) HJD.out (HV.out.mono (cle_below H3.out.bel)) (HT.out.below H3.out.bel)).mono ?_
            rintro e w5 ⟨rfl, hb5⟩
            replace H3 := Hold.mk (H3.out.next hb5)
            replace HJD := Hold.mk (HJD.out.mono (cle_below hb5))
            replace HD := Hold.mk (kept HD.out hb5)
            clear hb5 y0 y1 y2 y3 y4 z0 z1 z2 z3 z4
            obtain ⟨y0, y1, y2, y3, y4⟩ := cells_five HD.out
            obtain ⟨z0, z1, z2, z3, z4⟩ := cells_five H3.out.hd
            go_wp2_with fail
            refine (ask_is (oneJ nA x) v nA nEq _ _ _ beq true T2.out (ck_true (tests_ck HOK.out (.inl rfl) six_text.2.1 (by decide +kernel) (test_six _ _ (.inr (.inl rfl))))) (by simp [ByteArray.size]) (by simp [ByteArray.size]) HJD.out (HV.out.mono (cle_below H3.out.bel)) (HT.out.below H3.out.bel)).mono ?_
            rintro e w5 ⟨rfl, hb5⟩
            replace H3 := Hold.mk (H3.out.next hb5)
            replace HJD := Hold.mk (HJD.out.mono (cle_below hb5))
            replace HD := Hold.mk (kept HD.out hb5)
            clear hb5 y0 y1 y2 y3 y4 z0 z1 z2 z3 z4
            obtain ⟨y0, y1, y2, y3, y4⟩ := cells_five HD.out
            obtain ⟨z0, z1, z2, z3, z4⟩ := cells_five H3.out.hd
            go_wp2_with fail
            refine (ask_is (oneJ nA x) v nA nGt _ _ _ bgt true T3.out (ck_true (tests_ck HOK.out (.inl rfl) six_text.2.2.1 (by decide +kernel) (test_six _ _ (.inr (.inr (.inl rfl)))))) (by simp [ByteArray.size]) (by simp [ByteArray.size]) HJD.out (HV.out.mono (cle_below H3.out.bel)) (HT.out.below H3.out.bel)).mono ?_
            rintro e w5 ⟨rfl, hb5⟩
            replace H3 := Hold.mk (H3.out.next hb5)
            replace HJD := Hold.mk (HJD.out.mono (cle_below hb5))
            replace HD := Hold.mk (kept HD.out hb5)
            clear hb5 y0 y1 y2 y3 y4 z0 z1 z2 z3 z4
            obtain ⟨y0, y1, y2, y3, y4⟩ := cells_five HD.out
            obtain ⟨z0, z1, z2, z3, z4⟩ := cells_five H3.out.hd
            go_wp2_with fail
            refine (ask_is (oneJ nA x) v nA nLe _ _ _ ble true T4.out (ck_true (tests_ck HOK.out (.inl rfl) six_text.2.2.2.1 (by decide +kernel) (test_six _ _ (.inr (.inr (.inr (.inl rfl))))))) (by simp [ByteArray.size]) (by simp [ByteArray.size]) HJD.out (HV.out.mono (cle_below H3.out.bel)) (HT.out.below H3.out.bel)).mono ?_
            rintro e w5 ⟨rfl, hb5⟩
            replace H3 := Hold.mk (H3.out.next hb5)
            replace HJD := Hold.mk (HJD.out.mono (cle_below hb5))
            replace HD := Hold.mk (kept HD.out hb5)
            clear hb5 y0 y1 y2 y3 y4 z0 z1 z2 z3 z4
            obtain ⟨y0, y1, y2, y3, y4⟩ := cells_five HD.out
            obtain ⟨z0, z1, z2, z3, z4⟩ := cells_five H3.out.hd
            go_wp2_with fail
            refine (ask_is (oneJ nA x) v nA nGe _ _ _ bge true T5.out (ck_true (tests_ck HOK.out (.inl rfl) six_text.2.2.2.2.1 (by decide +kernel) (test_six _ _ (.inr (.inr (.inr (.inr (.inl rfl)))))))) (by simp [ByteArray.size]) (by simp [ByteArray.size]) HJD.out (HV.out.mono (cle_below H3.out.bel)) (HT.out.below H3.out.bel)).mono ?_
            rintro e w5 ⟨rfl, hb5⟩
            replace H3 := Hold.mk (H3.out.next hb5)
            replace HJD := Hold.mk (HJD.out.mono (cle_below hb5))
            replace HD := Hold.mk (kept HD.out hb5)
            clear hb5 y0 y1 y2 y3 y4 z0 z1 z2 z3 z4
            obtain ⟨y0, y1, y2, y3, y4⟩ := cells_five HD.out
            obtain ⟨z0, z1, z2, z3, z4⟩ := cells_five H3.out.hd
            go_wp2_with fail
            refine (ask_is (oneJ nA x) v nA nNe _ _ _ bne true T6.out (ck_true (tests_ck HOK.out (.inl rfl) six_text.2.2.2.2.2.1 (by decide +kernel) (test_six _ _ (.inr (.inr (.inr (.inr (.inr rfl)))))))) (by simp [ByteArray.size]) (by simp [ByteArray.size]) HJD.out (HV.out.mono (cle_below H3.out.bel)) (HT.out.below H3.out.bel)).mono ?_
            rintro e w5 ⟨rfl, hb5⟩
            replace H3 := Hold.mk (H3.out.next hb5)
            replace HJD := Hold.mk (HJD.out.mono (cle_below hb5))
            replace HD := Hold.mk (kept HD.out hb5)
            clear hb5 y0 y1 y2 y3 y4 z0 z1 z2 z3 z4
            clear T1 T2 T3 T4 T5 T6 HL
            have HS := Hold.mk ((tests_same HF.out HOK.out).symm.trans HE.out)
            obtain ⟨bt, hbt⟩ : ∃ b, decide (k = 2) = b := ⟨_, rfl⟩
            obtain ⟨gd, hgd⟩ : ∃ b, (checkF (askJ nA nIn (.mk 5 0 ⟨#[]⟩ [] [trueJ, v])) == 0) = b := ⟨_, rfl⟩
            obtain ⟨bin, hbin⟩ : ∃ b, HoldsP (askJ nA nIn (.mk 5 0 ⟨#[]⟩ [] [trueJ, v])) (oneJ nA x) = b := ⟨_, rfl⟩
            have HGI : Hold (gd = true → bin = (beq || bt)) := Hold.mk (fun hg => by
              have hc : checkF (askJ nA nIn (.mk 5 0 ⟨#[]⟩ [] [trueJ, v])) = 0 := by rw [hg] at hgd; simpa using hgd
              rw [← hbin, tests_in HF.out HOK.out hc, HE.out, HXK.out, hbt])
            have HG := Hold.mk hgd
            have HI := Hold.mk hbin
            have HBT := Hold.mk hbt
            clear hgd hbin hbt HE
            have h6 := H6.out
            clear H6
            cases h6
            · obtain ⟨y0, y1, y2, y3, y4⟩ := cells_five H3.out.tl.hd
              obtain ⟨z0, z1, z2, z3, z4⟩ := cells_five H3.out.hd
              go_wp2_with fail
              have hsame := Same_any x v _ _ _ (HX.out.mono (cle_below H3.out.bel)) (HV.out.mono (cle_below H3.out.bel))
              rw [HS.out] at hsame
              refine hsame.mono ?_
              clear hsame
              rintro e w5 ⟨rfl, hb5⟩
              replace H3 := Hold.mk (H3.out.next hb5)
              replace HJD := Hold.mk (HJD.out.mono (cle_below hb5))
              replace HD := Hold.mk (kept HD.out hb5)
              clear hb5 y0 y1 y2 y3 y4 z0 z1 z2 z3 z4
              obtain ⟨y0, y1, y2, y3, y4⟩ := cells_five HD.out
              obtain ⟨z0, z1, z2, z3, z4⟩ := cells_five H3.out.hd
              go_wp2_with fail
              have hB4 := (Below.refl _ w5).alloc (Nat.le_refl _) (.cells #[.int .i64 2, .int .i64 0, .string ⟨#[]⟩, .slice none 0 0, .slice none 0 0, .int .i64 k2, .int .i64 n2, .string t2, .slice na2 nm2.length ncap2, .slice ia2 it2.length icap2] 25)
              have hask := ask_is (oneJ nA x) (.mk 5 0 ⟨#[]⟩ [] [trueJ, v]) nA nIn _ _ _ bin gd HI.out HG.out (by simp [ByteArray.size]) (by simp [ByteArray.size]) (HJD.out.mono (cle_below hB4)) (pair_at (al_new (w := w5) rfl) (kind_at 2 _ (by kernel_rfl)) ((HV.out.mono (cle_below H3.out.bel)).mono (cle_below hB4))) ((HT.out.below H3.out.bel).below hB4)
              refine hask.mono ?_
              clear hask
              rintro e w6 ⟨rfl, hb6⟩
              replace hb6 := hB4.trans (hb6.mono hB4.size)
              replace H3 := Hold.mk (H3.out.next hb6)
              replace HJD := Hold.mk (HJD.out.mono (cle_below hb6))
              replace HD := Hold.mk (kept HD.out hb6)
              clear hb6 hB4 y0 y1 y2 y3 y4 z0 z1 z2 z3 z4 HI HG
              have hgi := HGI.out
              clear HGI
              obtain ⟨x0, x1, x2, x3, x4⟩ := cells_five H3.out.tl.hd
              cases gd
              · clear hgi HBT
                obtain ⟨y0, y1, y2, y3, y4⟩ := cells_five HD.out
                obtain ⟨z0, z1, z2, z3, z4⟩ := cells_five H3.out.hd
                go_wp2_with fail
                clear x0 x1 x2 x3 x4
                refine (ask_is (oneJ nA x) v nB nLe _ _ _ false _ (tests_none HF.out HOK.out) rfl (by simp [ByteArray.size]) (by simp [ByteArray.size]) HJD.out (HV.out.mono (cle_below H3.out.bel)) (HT.out.below H3.out.bel)).mono ?_
                rintro e w7 ⟨rfl, hb7⟩
                replace H3 := Hold.mk (H3.out.next hb7)
                replace HJD := Hold.mk (HJD.out.mono (cle_below hb7))
                replace HD := Hold.mk (kept HD.out hb7)
                clear hb7 y0 y1 y2 y3 y4 z0 z1 z2 z3 z4
                obtain ⟨y0, y1, y2, y3, y4⟩ := cells_five HD.out
                obtain ⟨z0, z1, z2, z3, z4⟩ := cells_five H3.out.hd
                go_wp2_with fail
                refine (ask_is (oneJ nA x) v nB nNe _ _ _ true _ (tests_other HF.out HOK.out) rfl (by simp [ByteArray.size]) (by simp [ByteArray.size]) HJD.out (HV.out.mono (cle_below H3.out.bel)) (HT.out.below H3.out.bel)).mono ?_
                rintro e w7 ⟨rfl, hb7⟩
                replace H3 := Hold.mk (H3.out.next hb7)
                replace HJD := Hold.mk (HJD.out.mono (cle_below hb7))
                replace HD := Hold.mk (kept HD.out hb7)
                clear hb7 y0 y1 y2 y3 y4 z0 z1 z2 z3 z4
                obtain ⟨y0, y1, y2, y3, y4⟩ := cells_five HD.out
                go_wp2_with fail
                refine (ask_is (oneJ nA x) falseJ nB nHas _ _ _ true _ (tests_has HF.out) rfl (by simp [ByteArray.size]) (by simp [ByteArray.size]) HJD.out (kind_at 1 _ (by kernel_rfl)) (HT.out.below H3.out.bel)).mono ?_
                rintro e w7 ⟨rfl, hb7⟩
                replace H3 := Hold.mk (H3.out.next hb7)
                clear hb7 y0 y1 y2 y3 y4
                go_wp2_with fail
                go_ret
                exact ⟨rfl, H3.out.bel⟩
              · obtain rfl : bin = bt := by have := hgi rfl; simpa using this
                clear hgi
                have hbt := HBT.out
                clear HBT
                by_cases hk2 : k = 2
                · subst hk2
                  obtain rfl : bin = true := hbt.symm.trans (by simp)
                  clear hbt
                  obtain ⟨y0, y1, y2, y3, y4⟩ := cells_five HD.out
                  obtain ⟨z0, z1, z2, z3, z4⟩ := cells_five H3.out.hd
                  go_wp2_with fail
                  clear x0 x1 x2 x3 x4
                  refine (ask_is (oneJ nA x) v nB nLe _ _ _ false _ (tests_none HF.out HOK.out) rfl (by simp [ByteArray.size]) (by simp [ByteArray.size]) HJD.out (HV.out.mono (cle_below H3.out.bel)) (HT.out.below H3.out.bel)).mono ?_
                  rintro e w7 ⟨rfl, hb7⟩
                  replace H3 := Hold.mk (H3.out.next hb7)
                  replace HJD := Hold.mk (HJD.out.mono (cle_below hb7))
                  replace HD := Hold.mk (kept HD.out hb7)
                  clear hb7 y0 y1 y2 y3 y4 z0 z1 z2 z3 z4
                  obtain ⟨y0, y1, y2, y3, y4⟩ := cells_five HD.out
                  obtain ⟨z0, z1, z2, z3, z4⟩ := cells_five H3.out.hd
                  go_wp2_with fail
                  refine (ask_is (oneJ nA x) v nB nNe _ _ _ true _ (tests_other HF.out HOK.out) rfl (by simp [ByteArray.size]) (by simp [ByteArray.size]) HJD.out (HV.out.mono (cle_below H3.out.bel)) (HT.out.below H3.out.bel)).mono ?_
                  rintro e w7 ⟨rfl, hb7⟩
                  replace H3 := Hold.mk (H3.out.next hb7)
                  replace HJD := Hold.mk (HJD.out.mono (cle_below hb7))
                  replace HD := Hold.mk (kept HD.out hb7)
                  clear hb7 y0 y1 y2 y3 y4 z0 z1 z2 z3 z4
                  obtain ⟨y0, y1, y2, y3, y4⟩ := cells_five HD.out
                  go_wp2_with fail
                  refine (ask_is (oneJ nA x) falseJ nB nHas _ _ _ true _ (tests_has HF.out) rfl (by simp [ByteArray.size]) (by simp [ByteArray.size]) HJD.out (kind_at 1 _ (by kernel_rfl)) (HT.out.below H3.out.bel)).mono ?_
                  rintro e w7 ⟨rfl, hb7⟩
                  replace H3 := Hold.mk (H3.out.next hb7)
                  clear hb7 y0 y1 y2 y3 y4
                  go_wp2_with fail
                  go_ret
                  exact ⟨rfl, H3.out.bel⟩
                · obtain rfl : bin = false := hbt.symm.trans (decide_eq_false hk2)
                  clear hbt
                  obtain ⟨y0, y1, y2, y3, y4⟩ := cells_five HD.out
                  obtain ⟨z0, z1, z2, z3, z4⟩ := cells_five H3.out.hd
                  go_wp2_with fail
                  clear x0 x1 x2 x3 x4
                  refine (ask_is (oneJ nA x) v nB nLe _ _ _ false _ (tests_none HF.out HOK.out) rfl (by simp [ByteArray.size]) (by simp [ByteArray.size]) HJD.out (HV.out.mono (cle_below H3.out.bel)) (HT.out.below H3.out.bel)).mono ?_
                  rintro e w7 ⟨rfl, hb7⟩
                  replace H3 := Hold.mk (H3.out.next hb7)
                  replace HJD := Hold.mk (HJD.out.mono (cle_below hb7))
                  replace HD := Hold.mk (kept HD.out hb7)
                  clear hb7 y0 y1 y2 y3 y4 z0 z1 z2 z3 z4
                  obtain ⟨y0, y1, y2, y3, y4⟩ := cells_five HD.out
                  obtain ⟨z0, z1, z2, z3, z4⟩ := cells_five H3.out.hd
                  go_wp2_with fail
                  refine (ask_is (oneJ nA x) v nB nNe _ _ _ true _ (tests_other HF.out HOK.out) rfl (by simp [ByteArray.size]) (by simp [ByteArray.size]) HJD.out (HV.out.mono (cle_below H3.out.bel)) (HT.out.below H3.out.bel)).mono ?_
                  rintro e w7 ⟨rfl, hb7⟩
                  replace H3 := Hold.mk (H3.out.next hb7)
                  replace HJD := Hold.mk (HJD.out.mono (cle_below hb7))
                  replace HD := Hold.mk (kept HD.out hb7)
                  clear hb7 y0 y1 y2 y3 y4 z0 z1 z2 z3 z4
                  obtain ⟨y0, y1, y2, y3, y4⟩ := cells_five HD.out
                  go_wp2_with fail
                  refine (ask_is (oneJ nA x) falseJ nB nHas _ _ _ true _ (tests_has HF.out) rfl (by simp [ByteArray.size]) (by simp [ByteArray.size]) HJD.out (kind_at 1 _ (by kernel_rfl)) (HT.out.below H3.out.bel)).mono ?_
                  rintro e w7 ⟨rfl, hb7⟩
                  replace H3 := Hold.mk (H3.out.next hb7)
                  clear hb7 y0 y1 y2 y3 y4
                  go_wp2_with fail
                  go_ret
                  exact ⟨rfl, H3.out.bel⟩
            · obtain ⟨y0, y1, y2, y3, y4⟩ := cells_five H3.out.tl.hd
              obtain ⟨z0, z1, z2, z3, z4⟩ := cells_five H3.out.hd
              go_wp2_with fail
              have hsame := Same_any x v _ _ _ (HX.out.mono (cle_below H3.out.bel)) (HV.out.mono (cle_below H3.out.bel))
              rw [HS.out] at hsame
              refine hsame.mono ?_
              clear hsame
              rintro e w5 ⟨rfl, hb5⟩
              replace H3 := Hold.mk (H3.out.next hb5)
              replace HJD := Hold.mk (HJD.out.mono (cle_below hb5))
              replace HD := Hold.mk (kept HD.out hb5)
              clear hb5 y0 y1 y2 y3 y4 z0 z1 z2 z3 z4
              obtain ⟨y0, y1, y2, y3, y4⟩ := cells_five HD.out
              obtain ⟨z0, z1, z2, z3, z4⟩ := cells_five H3.out.hd
              go_wp2_with fail
              have hB4 := (Below.refl _ w5).alloc (Nat.le_refl _) (.cells #[.int .i64 2, .int .i64 0, .string ⟨#[]⟩, .slice none 0 0, .slice none 0 0, .int .i64 k2, .int .i64 n2, .string t2, .slice na2 nm2.length ncap2, .slice ia2 it2.length icap2] 25)
              have hask := ask_is (oneJ nA x) (.mk 5 0 ⟨#[]⟩ [] [trueJ, v]) nA nIn _ _ _ bin gd HI.out HG.out (by simp [ByteArray.size]) (by simp [ByteArray.size]) (HJD.out.mono (cle_below hB4)) (pair_at (al_new (w := w5) rfl) (kind_at 2 _ (by kernel_rfl)) ((HV.out.mono (cle_below H3.out.bel)).mono (cle_below hB4))) ((HT.out.below H3.out.bel).below hB4)
              refine hask.mono ?_
              clear hask
              rintro e w6 ⟨rfl, hb6⟩
              replace hb6 := hB4.trans (hb6.mono hB4.size)
              replace H3 := Hold.mk (H3.out.next hb6)
              replace HJD := Hold.mk (HJD.out.mono (cle_below hb6))
              replace HD := Hold.mk (kept HD.out hb6)
              clear hb6 hB4 y0 y1 y2 y3 y4 z0 z1 z2 z3 z4 HI HG
              have hgi := HGI.out
              clear HGI
              obtain ⟨x0, x1, x2, x3, x4⟩ := cells_five H3.out.tl.hd
              cases gd
              · clear hgi HBT
                obtain ⟨y0, y1, y2, y3, y4⟩ := cells_five HD.out
                obtain ⟨z0, z1, z2, z3, z4⟩ := cells_five H3.out.hd
                go_wp2_with fail
                clear x0 x1 x2 x3 x4
                refine (ask_is (oneJ nA x) v nB nLe _ _ _ false _ (tests_none HF.out HOK.out) rfl (by simp [ByteArray.size]) (by simp [ByteArray.size]) HJD.out (HV.out.mono (cle_below H3.out.bel)) (HT.out.below H3.out.bel)).mono ?_
                rintro e w7 ⟨rfl, hb7⟩
                replace H3 := Hold.mk (H3.out.next hb7)
                replace HJD := Hold.mk (HJD.out.mono (cle_below hb7))
                replace HD := Hold.mk (kept HD.out hb7)
                clear hb7 y0 y1 y2 y3 y4 z0 z1 z2 z3 z4
                obtain ⟨y0, y1, y2, y3, y4⟩ := cells_five HD.out
                obtain ⟨z0, z1, z2, z3, z4⟩ := cells_five H3.out.hd
                go_wp2_with fail
                refine (ask_is (oneJ nA x) v nB nNe _ _ _ true _ (tests_other HF.out HOK.out) rfl (by simp [ByteArray.size]) (by simp [ByteArray.size]) HJD.out (HV.out.mono (cle_below H3.out.bel)) (HT.out.below H3.out.bel)).mono ?_
                rintro e w7 ⟨rfl, hb7⟩
                replace H3 := Hold.mk (H3.out.next hb7)
                replace HJD := Hold.mk (HJD.out.mono (cle_below hb7))
                replace HD := Hold.mk (kept HD.out hb7)
                clear hb7 y0 y1 y2 y3 y4 z0 z1 z2 z3 z4
                obtain ⟨y0, y1, y2, y3, y4⟩ := cells_five HD.out
                go_wp2_with fail
                refine (ask_is (oneJ nA x) falseJ nB nHas _ _ _ true _ (tests_has HF.out) rfl (by simp [ByteArray.size]) (by simp [ByteArray.size]) HJD.out (kind_at 1 _ (by kernel_rfl)) (HT.out.below H3.out.bel)).mono ?_
                rintro e w7 ⟨rfl, hb7⟩
                replace H3 := Hold.mk (H3.out.next hb7)
                clear hb7 y0 y1 y2 y3 y4
                go_wp2_with fail
                go_ret
                exact ⟨rfl, H3.out.bel⟩
              · obtain rfl : bin = true := by have := hgi rfl; simpa using this
                clear hgi HBT
                obtain ⟨y0, y1, y2, y3, y4⟩ := cells_five HD.out
                obtain ⟨z0, z1, z2, z3, z4⟩ := cells_five H3.out.hd
                go_wp2_with fail
                clear x0 x1 x2 x3 x4
                refine (ask_is (oneJ nA x) v nB nLe _ _ _ false _ (tests_none HF.out HOK.out) rfl (by simp [ByteArray.size]) (by simp [ByteArray.size]) HJD.out (HV.out.mono (cle_below H3.out.bel)) (HT.out.below H3.out.bel)).mono ?_
                rintro e w7 ⟨rfl, hb7⟩
                replace H3 := Hold.mk (H3.out.next hb7)
                replace HJD := Hold.mk (HJD.out.mono (cle_below hb7))
                replace HD := Hold.mk (kept HD.out hb7)
                clear hb7 y0 y1 y2 y3 y4 z0 z1 z2 z3 z4
                obtain ⟨y0, y1, y2, y3, y4⟩ := cells_five HD.out
                obtain ⟨z0, z1, z2, z3, z4⟩ := cells_five H3.out.hd
                go_wp2_with fail
                refine (ask_is (oneJ nA x) v nB nNe _ _ _ true _ (tests_other HF.out HOK.out) rfl (by simp [ByteArray.size]) (by simp [ByteArray.size]) HJD.out (HV.out.mono (cle_below H3.out.bel)) (HT.out.below H3.out.bel)).mono ?_
                rintro e w7 ⟨rfl, hb7⟩
                replace H3 := Hold.mk (H3.out.next hb7)
                replace HJD := Hold.mk (HJD.out.mono (cle_below hb7))
                replace HD := Hold.mk (kept HD.out hb7)
                clear hb7 y0 y1 y2 y3 y4 z0 z1 z2 z3 z4
                obtain ⟨y0, y1, y2, y3, y4⟩ := cells_five HD.out
                go_wp2_with fail
                refine (ask_is (oneJ nA x) falseJ nB nHas _ _ _ true _ (tests_has HF.out) rfl (by simp [ByteArray.size]) (by simp [ByteArray.size]) HJD.out (kind_at 1 _ (by kernel_rfl)) (HT.out.below H3.out.bel)).mono ?_
                rintro e w7 ⟨rfl, hb7⟩
                replace H3 := Hold.mk (H3.out.next hb7)
                clear hb7 y0 y1 y2 y3 y4
                go_wp2_with fail
                go_ret
                exact ⟨rfl, H3.out.bel⟩
            · obtain ⟨y0, y1, y2, y3, y4⟩ := cells_five H3.out.tl.hd
              obtain ⟨z0, z1, z2, z3, z4⟩ := cells_five H3.out.hd
              go_wp2_with fail
              have hsame := Same_any x v _ _ _ (HX.out.mono (cle_below H3.out.bel)) (HV.out.mono (cle_below H3.out.bel))
              rw [HS.out] at hsame
              refine hsame.mono ?_
              clear hsame
              rintro e w5 ⟨rfl, hb5⟩
              replace H3 := Hold.mk (H3.out.next hb5)
              replace HJD := Hold.mk (HJD.out.mono (cle_below hb5))
              replace HD := Hold.mk (kept HD.out hb5)
              clear hb5 y0 y1 y2 y3 y4 z0 z1 z2 z3 z4
              obtain ⟨y0, y1, y2, y3, y4⟩ := cells_five HD.out
              obtain ⟨z0, z1, z2, z3, z4⟩ := cells_five H3.out.hd
              go_wp2_with fail
              have hB4 := (Below.refl _ w5).alloc (Nat.le_refl _) (.cells #[.int .i64 2, .int .i64 0, .string ⟨#[]⟩, .slice none 0 0, .slice none 0 0, .int .i64 k2, .int .i64 n2, .string t2, .slice na2 nm2.length ncap2, .slice ia2 it2.length icap2] 25)
              have hask := ask_is (oneJ nA x) (.mk 5 0 ⟨#[]⟩ [] [trueJ, v]) nA nIn _ _ _ bin gd HI.out HG.out (by simp [ByteArray.size]) (by simp [ByteArray.size]) (HJD.out.mono (cle_below hB4)) (pair_at (al_new (w := w5) rfl) (kind_at 2 _ (by kernel_rfl)) ((HV.out.mono (cle_below H3.out.bel)).mono (cle_below hB4))) ((HT.out.below H3.out.bel).below hB4)
              refine hask.mono ?_
              clear hask
              rintro e w6 ⟨rfl, hb6⟩
              replace hb6 := hB4.trans (hb6.mono hB4.size)
              replace H3 := Hold.mk (H3.out.next hb6)
              replace HJD := Hold.mk (HJD.out.mono (cle_below hb6))
              replace HD := Hold.mk (kept HD.out hb6)
              clear hb6 hB4 y0 y1 y2 y3 y4 z0 z1 z2 z3 z4 HI HG
              have hgi := HGI.out
              clear HGI
              obtain ⟨x0, x1, x2, x3, x4⟩ := cells_five H3.out.tl.hd
              cases gd
              · clear hgi HBT
                obtain ⟨y0, y1, y2, y3, y4⟩ := cells_five HD.out
                obtain ⟨z0, z1, z2, z3, z4⟩ := cells_five H3.out.hd
                go_wp2_with fail
                clear x0 x1 x2 x3 x4
                refine (ask_is (oneJ nA x) v nB nLe _ _ _ false _ (tests_none HF.out HOK.out) rfl (by simp [ByteArray.size]) (by simp [ByteArray.size]) HJD.out (HV.out.mono (cle_below H3.out.bel)) (HT.out.below H3.out.bel)).mono ?_
                rintro e w7 ⟨rfl, hb7⟩
                replace H3 := Hold.mk (H3.out.next hb7)
                replace HJD := Hold.mk (HJD.out.mono (cle_below hb7))
                replace HD := Hold.mk (kept HD.out hb7)
                clear hb7 y0 y1 y2 y3 y4 z0 z1 z2 z3 z4
                obtain ⟨y0, y1, y2, y3, y4⟩ := cells_five HD.out
                obtain ⟨z0, z1, z2, z3, z4⟩ := cells_five H3.out.hd
                go_wp2_with fail
                refine (ask_is (oneJ nA x) v nB nNe _ _ _ true _ (tests_other HF.out HOK.out) rfl (by simp [ByteArray.size]) (by simp [ByteArray.size]) HJD.out (HV.out.mono (cle_below H3.out.bel)) (HT.out.below H3.out.bel)).mono ?_
                rintro e w7 ⟨rfl, hb7⟩
                replace H3 := Hold.mk (H3.out.next hb7)
                replace HJD := Hold.mk (HJD.out.mono (cle_below hb7))
                replace HD := Hold.mk (kept HD.out hb7)
                clear hb7 y0 y1 y2 y3 y4 z0 z1 z2 z3 z4
                obtain ⟨y0, y1, y2, y3, y4⟩ := cells_five HD.out
                go_wp2_with fail
                refine (ask_is (oneJ nA x) falseJ nB nHas _ _ _ true _ (tests_has HF.out) rfl (by simp [ByteArray.size]) (by simp [ByteArray.size]) HJD.out (kind_at 1 _ (by kernel_rfl)) (HT.out.below H3.out.bel)).mono ?_
                rintro e w7 ⟨rfl, hb7⟩
                replace H3 := Hold.mk (H3.out.next hb7)
                clear hb7 y0 y1 y2 y3 y4
                go_wp2_with fail
                go_ret
                exact ⟨rfl, H3.out.bel⟩
              · obtain rfl : bin = bt := by have := hgi rfl; simpa using this
                clear hgi
                have hbt := HBT.out
                clear HBT
                by_cases hk2 : k = 2
                · subst hk2
                  obtain rfl : bin = true := hbt.symm.trans (by simp)
                  clear hbt
                  obtain ⟨y0, y1, y2, y3, y4⟩ := cells_five HD.out
                  obtain ⟨z0, z1, z2, z3, z4⟩ := cells_five H3.out.hd
                  go_wp2_with fail
                  clear x0 x1 x2 x3 x4
                  refine (ask_is (oneJ nA x) v nB nLe _ _ _ false _ (tests_none HF.out HOK.out) rfl (by simp [ByteArray.size]) (by simp [ByteArray.size]) HJD.out (HV.out.mono (cle_below H3.out.bel)) (HT.out.below H3.out.bel)).mono ?_
                  rintro e w7 ⟨rfl, hb7⟩
                  replace H3 := Hold.mk (H3.out.next hb7)
                  replace HJD := Hold.mk (HJD.out.mono (cle_below hb7))
                  replace HD := Hold.mk (kept HD.out hb7)
                  clear hb7 y0 y1 y2 y3 y4 z0 z1 z2 z3 z4
                  obtain ⟨y0, y1, y2, y3, y4⟩ := cells_five HD.out
                  obtain ⟨z0, z1, z2, z3, z4⟩ := cells_five H3.out.hd
                  go_wp2_with fail
                  refine (ask_is (oneJ nA x) v nB nNe _ _ _ true _ (tests_other HF.out HOK.out) rfl (by simp [ByteArray.size]) (by simp [ByteArray.size]) HJD.out (HV.out.mono (cle_below H3.out.bel)) (HT.out.below H3.out.bel)).mono ?_
                  rintro e w7 ⟨rfl, hb7⟩
                  replace H3 := Hold.mk (H3.out.next hb7)
                  replace HJD := Hold.mk (HJD.out.mono (cle_below hb7))
                  replace HD := Hold.mk (kept HD.out hb7)
                  clear hb7 y0 y1 y2 y3 y4 z0 z1 z2 z3 z4
                  obtain ⟨y0, y1, y2, y3, y4⟩ := cells_five HD.out
                  go_wp2_with fail
                  refine (ask_is (oneJ nA x) falseJ nB nHas _ _ _ true _ (tests_has HF.out) rfl (by simp [ByteArray.size]) (by simp [ByteArray.size]) HJD.out (kind_at 1 _ (by kernel_rfl)) (HT.out.below H3.out.bel)).mono ?_
                  rintro e w7 ⟨rfl, hb7⟩
                  replace H3 := Hold.mk (H3.out.next hb7)
                  clear hb7 y0 y1 y2 y3 y4
                  go_wp2_with fail
                  go_ret
                  exact ⟨rfl, H3.out.bel⟩
                · obtain rfl : bin = false := hbt.symm.trans (decide_eq_false hk2)
                  clear hbt
                  obtain ⟨y0, y1, y2, y3, y4⟩ := cells_five HD.out
                  obtain ⟨z0, z1, z2, z3, z4⟩ := cells_five H3.out.hd
                  go_wp2_with fail
                  clear x0 x1 x2 x3 x4
                  refine (ask_is (oneJ nA x) v nB nLe _ _ _ false _ (tests_none HF.out HOK.out) rfl (by simp [ByteArray.size]) (by simp [ByteArray.size]) HJD.out (HV.out.mono (cle_below H3.out.bel)) (HT.out.below H3.out.bel)).mono ?_
                  rintro e w7 ⟨rfl, hb7⟩
                  replace H3 := Hold.mk (H3.out.next hb7)
                  replace HJD := Hold.mk (HJD.out.mono (cle_below hb7))
                  replace HD := Hold.mk (kept HD.out hb7)
                  clear hb7 y0 y1 y2 y3 y4 z0 z1 z2 z3 z4
                  obtain ⟨y0, y1, y2, y3, y4⟩ := cells_five HD.out
                  obtain ⟨z0, z1, z2, z3, z4⟩ := cells_five H3.out.hd
                  go_wp2_with fail
                  refine (ask_is (oneJ nA x) v nB nNe _ _ _ true _ (tests_other HF.out HOK.out) rfl (by simp [ByteArray.size]) (by simp [ByteArray.size]) HJD.out (HV.out.mono (cle_below H3.out.bel)) (HT.out.below H3.out.bel)).mono ?_
                  rintro e w7 ⟨rfl, hb7⟩
                  replace H3 := Hold.mk (H3.out.next hb7)
                  replace HJD := Hold.mk (HJD.out.mono (cle_below hb7))
                  replace HD := Hold.mk (kept HD.out hb7)
                  clear hb7 y0 y1 y2 y3 y4 z0 z1 z2 z3 z4
                  obtain ⟨y0, y1, y2, y3, y4⟩ := cells_five HD.out
                  go_wp2_with fail
                  refine (ask_is (oneJ nA x) falseJ nB nHas _ _ _ true _ (tests_has HF.out) rfl (by simp [ByteArray.size]) (by simp [ByteArray.size]) HJD.out (kind_at 1 _ (by kernel_rfl)) (HT.out.below H3.out.bel)).mono ?_
                  rintro e w7 ⟨rfl, hb7⟩
                  replace H3 := Hold.mk (H3.out.next hb7)
                  clear hb7 y0 y1 y2 y3 y4
                  go_wp2_with fail
                  go_ret
                  exact ⟨rfl, H3.out.bel⟩

end Go.Proofs.YtfllnlmanopfaaaDoor
