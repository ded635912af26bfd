/- Plans: span of the program (printed by genXHL.py). -/
import Derived.Test.YtcmfanfkcbjeoaaGreatDoorHK
import Derived.Deep.DeepCutAuto
namespace Go.Proofs.YtcmfanfkcbjeoaaGreatDoor
open Go.RowKit

/-- what span hands back -/
def SpanPost (r : SpanR) (w : World) (e : Ending) (w' : World) : Prop := ∃ fv tv, e = .returned (.tuple #[.agg #[.int .i64 0, fv, tv], .int .i64 (r.2 : Int)]) ∧ BRow w.heap.size w' fv r.1.1 ∧ BRow w.heap.size w' tv r.1.2 ∧ Below w.heap.size w w'
theorem BRow.quietB {B : Nat} {w w' : World} {sv : Value} {l : List UInt8} {b : Nat} (h : BRow b w sv l) (hB : B ≤ b) (k : Below w.heap.size w w') : BRow B w' sv l := (h.quiet k).bel hB
abbrev nm2 (a b : ByteArray) : Array Value := #[.string a, .string b]
theorem nm2_cell {w : World} {q : Nat} {a b : ByteArray} (h : w.heap[q]? = some (.cells (nm2 a b) 9 (0, 0))) (i : Nat) (t : ByteArray) (hi : [a, b][i]? = some t) : w.cell? ⟨q, i, none⟩ = some (.string t) := by
  match i, hi with
  | 0, hi => cases hi; simp [World.cell?, h]
  | 1, hi => cases hi; simp [World.cell?, h]
  | i + 2, hi => simp at hi
/-- the four names' slices, as a field rises or falls -/
structure Four (L : List AskP) (p : List UInt8) (f : Fd) (w : World) (s17 s18 s19 s20 : Value) : Prop where
  ex : ∃ (la ha : Nat) (n1 n2 m1 m2 : ByteArray), s17 = .slice (some ⟨la, 0, none⟩) 2 2 ∧ s18 = .string n1 ∧ s19 = .slice (some ⟨ha, 0, none⟩) 2 2 ∧ s20 = .string m2 ∧ w.heap[la]? = some (.cells (nm2 n1 n2) 9 (0, 0)) ∧ w.heap[ha]? = some (.cells (nm2 m1 m2) 9 (0, 0)) ∧ lowF L p f = boundF L p f n1 n2 true ∧ highF L p f = boundF L p f m1 m2 false ∧ n1.toList ≠ n2.toList ∧ m1.toList ≠ m2.toList ∧ n1.size ≤ 1000 ∧ n2.size ≤ 1000 ∧ m1.size ≤ 1000 ∧ m2.size ≤ 1000
theorem size2 {a b : ByteArray} (ha : a.size ≤ 1000) (hb : b.size ≤ 1000) (i : Nat) (t : ByteArray) (hi : [a, b][i]? = some t) : t.size ≤ 1000000 := by
  match i, hi with
  | 0, hi => cases hi; omega
  | 1, hi => cases hi; omega
  | i + 2, hi => simp at hi
theorem list_ne {a b : ByteArray} (h : a.data.toList ≠ b.data.toList) : a.toList ≠ b.toList := by rw [ByteArray.toList_eq, ByteArray.toList_eq]; exact h

set_option maxRecDepth 100000 in
set_option maxHeartbeats 32000000 in
theorem span_any (f : JV) (fx : Value) (x : IX) (v : Value) (w : World) (hf : formedF 6 f = true) (hfx : JAt (cf w) f fx) (hx : IAt (cf w) x v) (h100 : x.fields.length ≤ 100) (hsm : ∀ p ∈ x.fields, p.1.size ≤ 1000000) (hT : Tabs w) :
    Calls Tryz.prog 45 #[fx, v] w (SpanPost (spanF (asksF 6 f) x.fields) w) := by
  have hgf := hfx
  obtain ⟨k, n, t, nm, it, na, ncap, ia, icap, _, rfl, _⟩ := id hfx.open
  obtain ⟨hnm, fv0, rfl, a, cap, rfl, hlen, hcap, hel⟩ := hx
  obtain ⟨xn, l, xu⟩ := x
  simp only at *
  obtain ⟨W0, hW0⟩ : ∃ W0, W0 = ((w.alloc (.cells #[.int .i64 k, .int .i64 n, .string t, .slice na nm.length ncap, .slice ia it.length icap] 25)).alloc (.cells #[.string xn, .slice a l.length cap, .bool xu] 44)).alloc (.cells #[.int .i64 0, .slice none 0 0, .slice none 0 0] 31) := ⟨_, rfl⟩
  have hs0 : W0.heap.size = w.heap.size + 3 := by rw [hW0]; simp
  have hb0 : Below w.heap.size w W0 := by rw [hW0]; exact (((Below.refl _ w).alloc (Nat.le_refl _) _).alloc (by simp) _).alloc (by simp; omega) _
  have e1 : W0.heap[w.heap.size + 1]? = some (.cells #[.string xn, .slice a l.length cap, .bool xu] 44 (0, 0)) := by
    rw [hW0]
    have := heap_alloc_new (w.alloc (.cells #[.int .i64 k, .int .i64 n, .string t, .slice na nm.length ncap, .slice ia it.length icap] 25)) (.cells #[.string xn, .slice a l.length cap, .bool xu] 44)
    exact kept (by simpa using this) ((Below.refl _ _).alloc (Nat.le_refl _) _)
  have e2 : W0.heap[w.heap.size + 2]? = some (.cells #[.int .i64 0, .slice none 0 0, .slice none 0 0] 31 (0, 0)) := by
    rw [hW0]
    have := heap_alloc_new ((w.alloc (.cells #[.int .i64 k, .int .i64 n, .string t, .slice na nm.length ncap, .slice ia it.length icap] 25)).alloc (.cells #[.string xn, .slice a l.length cap, .bool xu] 44)) (.cells #[.int .i64 0, .slice none 0 0, .slice none 0 0] 31)
    simpa using this
  have e3 : W0.heap[w.heap.size]? = some (.cells #[.int .i64 k, .int .i64 n, .string t, .slice na nm.length ncap, .slice ia it.length icap] 25 (0, 0)) := by
    rw [hW0]
    exact kept (kept (heap_alloc_new w _) ((Below.refl _ _).alloc (Nat.le_refl _) _)) ((Below.refl _ _).alloc (Nat.le_refl _) _)
  obtain ⟨W1, hW1⟩ : ∃ W1, W1 = W0.alloc (.map #[] 0) := ⟨_, rfl⟩
  have hb1 : Below W0.heap.size W0 W1 := by rw [hW1]; exact (Below.refl _ W0).alloc (Nat.le_refl _) _
  have hb01 : Below w.heap.size w W1 := hb0.trans (hb1.mono hb0.size)
  have ha : AskG (cf w) W0.heap.size W0.heap.size [] 0 0 (fun _ => none) W1 := by rw [hW1]; exact AskG.start _ (Nat.le_refl _)
  have HG := Hold.mk (gather_any 6 f _ (cf w) W0.heap.size W0.heap.size [] W1 hf hgf (cle_below hb01) ⟨0, 0, _, Nat.le_refl _, Nat.le_refl _, ha⟩ (by have := asks_count 6 6 f (Nat.le_refl _) hf; simp only [List.length_nil]; omega))
  have HFM := Hold.mk (asks_formed 6 f hf)
  obtain ⟨L, hL⟩ : ∃ L, L = asksF 6 f := ⟨_, rfl⟩
  rw [← hL] at HG HFM ⊢
  have HE1 := Hold.mk (kept e1 hb1)
  have HE2 := Hold.mk (kept e2 hb1)
  have HE := Hold.mk hel
  have HT := Hold.mk hT
  have HSM := Hold.mk hsm
  have H100 := Hold.mk h100
  have HBB := Hold.mk hb01
  have HS0 := Hold.mk hs0
  have HC0 := Hold.mk hb1
  obtain ⟨v0, v1, v2, v3, v4⟩ := cells_five (kept e3 hb1)
  clear hL ha hb0 hb1 hb01 e1 e2 e3 hel hT hsm h100 hf hfx hgf hs0
  go_enter Tryz.func45, Tryz.ntmps45
  go_upto_region 1 with (fail)
  rw [← hW0]
  clear hW0
  have hmm := @run_makeMap Tryz.prog
  go_upto_region 2 with (fail)
  rw [← hW1]
  clear hW1 hmm
  go_wp2_with fail
  refine HG.out.mono ?_
  rintro e w1 ⟨rfl, hgs⟩
  obtain ⟨⟨nA, nI, g, _, _, hag⟩, hkm, hbl⟩ := hgs
  rw [List.nil_append] at hag
  have HX := Hold.mk (hkm.cells HE1.out)
  have HR := Hold.mk (hkm.cells HE2.out)
  have HB : Hold (Below w.heap.size w w1) := ⟨HBB.out.trans (hbl.mono (by have := HS0.out; omega))⟩
  have HAW : Hold (∀ wr, Below w1.heap.size w1 wr → AskG (cf w) W0.heap.size W0.heap.size L nA nI g wr) := ⟨fun wr h => hag.kept h⟩
  have HLO : Hold (w.heap.size + 3 ≤ w1.heap.size) := ⟨by have := hbl.size; have := HC0.out.size; have := HS0.out; omega⟩
  clear hag hkm hbl HG HE1 HE2 HBB HC0 v0 v1 v2 v3 v4
  have HC : Hold (∀ wr, Below w1.heap.size w1 wr → CLe (cf w) (cf wr)) := ⟨fun wr h => cle_below (HB.out.trans (h.mono HB.out.size))⟩
  have HTW : Hold (∀ wr, Below w1.heap.size w1 wr → Tabs wr) := ⟨fun wr h => HT.out.below (HB.out.trans (h.mono HB.out.size))⟩
  obtain ⟨y0, y1, y2⟩ := cells_three HX.out
  go_wp2_with fail
  clear y0 y1 y2
  go_loopw [37] (fun i wr => ∃ j : Nat, i = .int .i64 j ∧ j ≤ l.length ∧ (∀ (q : Nat) p, q < j → l[q]? = some p → someB L p.1 = true) ∧ Below w1.heap.size w1 wr) (fun i _ => l.length - (intOf i).toNat)
  case atStart => exact ⟨0, rfl, Nat.zero_le _, fun q p h => by omega, Below.refl _ _⟩
  case round =>
    obtain ⟨j, rfl, hj, hall, hbl⟩ := hrel
    have HALL := Hold.mk hall
    have HBL := Hold.mk hbl
    clear hall hbl
    by_cases hlt : j < l.length
    · obtain ⟨p, hp⟩ : ∃ p, l[j]? = some p := ⟨l[j], List.getElem?_eq_getElem hlt⟩
      obtain ⟨hps, b, off, rfl, x0, x1⟩ := HE.out j p hp
      have hcl := HC.out _ HBL.out
      have z0 := hcl _ _ _ x0
      have z1 := hcl _ _ _ x1
      unfold cf at z0 z1
      have hs1 := HSM.out p (List.mem_of_getElem? hp)
      have HP := Hold.mk hp
      clear x0 x1 hcl hp
      obtain ⟨s, dn⟩ := p
      simp only at *
      obtain ⟨W2, hW2⟩ : ∃ W2, W2 = wr.alloc (.cells #[.string s, .bool dn] 100) := ⟨_, rfl⟩
      have hb2 : Below wr.heap.size wr W2 := by rw [hW2]; exact (Below.refl _ wr).alloc (Nat.le_refl _) _
      have hk2 : W2.heap[wr.heap.size]? = some (.cells #[.string s, .bool dn] 100 (0, 0)) := by rw [hW2]; exact heap_alloc_new wr _
      obtain ⟨c0, c1⟩ := cells_two hk2
      replace HBL := Hold.mk (HBL.out.trans (hb2.mono HBL.out.size))
      have hlk := (HAW.out W2 HBL.out).look s hs1
      have HSO := Hold.mk (some_any (HAW.out W2 HBL.out) s)
      clear hb2 hk2
      go_upto_region 8 with (fail)
      rw [← hW2]
      clear hW2 z0 z1
      go_wp2_with fail
      refine HSO.out.mono ?_
      rintro e w3 ⟨rfl, hb3⟩
      replace HBL := Hold.mk (HBL.out.trans (hb3.mono HBL.out.size))
      clear hb3 HSO hlk c0 c1
      cases hso : someB L s with
      | false =>
        have HSP : Hold (spanF L l = (([], []), 0)) := ⟨by
          unfold spanF
          rw [if_neg]
          intro h
          have := List.all_eq_true.1 h (s, dn) (List.mem_of_getElem? HP.out)
          simp only [hso] at this
          cases this⟩
        have HRR := Hold.mk (kept HR.out HBL.out)
        obtain ⟨r0, r1, r2⟩ := cells_three HRR.out
        have f0 := free_box HRR.out 0
        have f1 := free_box HRR.out 1
        have f2 := free_box HRR.out 2
        clear hso
        go_wp2_with fail
        obtain ⟨W, hW⟩ : ∃ W, W = ((w3.setCell ⟨w.heap.size + 2, 0, none⟩ (.int .i64 0)).setCell ⟨w.heap.size + 2, 1, none⟩ (.slice none 0 0)).setCell ⟨w.heap.size + 2, 2, none⟩ (.slice none 0 0) := ⟨_, rfl⟩
        rw [← hW]
        have hbw : Below w.heap.size w W := by
          rw [hW]
          exact (((HB.out.trans (HBL.out.mono HB.out.size)).setCell (p := ⟨w.heap.size + 2, 0, none⟩) (by simp) _).setCell (p := ⟨w.heap.size + 2, 1, none⟩) (by simp) _).setCell (p := ⟨w.heap.size + 2, 2, none⟩) (by simp) _
        have hbk : W.heap[w.heap.size + 2]? = some (.cells #[.int .i64 0, .slice none 0 0, .slice none 0 0] 31 (0, 0)) := by
          rw [hW, setP (setP (setP HRR.out))]; rfl
        obtain ⟨c0, c1, c2⟩ := cells_three hbk
        refine bodyPost_ret (v := .tuple #[.agg #[.int .i64 0, .slice none 0 0, .slice none 0 0], .int .i64 0]) (by simp [results, Tryz.results45, go_sem, c0, c1, c2]) rfl ?_
        rw [HSP.out]
        exact ⟨_, _, rfl, ⟨World.ownsRow_nil _ _ _ _, hbw.size⟩, ⟨World.ownsRow_nil _ _ _ _, hbw.size⟩, hbw⟩
      | true =>
        have HA2 : Hold (∀ (q : Nat) p, q < j + 1 → l[q]? = some p → someB L p.1 = true) := ⟨fun q p hq hp => by
          by_cases e : q = j
          · subst e; rw [HP.out] at hp; cases hp; exact hso
          · exact HALL.out q p (by omega) hp⟩
        clear hso
        go_wp2_with fail
        exact ⟨⟨j + 1, by go_num, hlt, HA2.out, HBL.out⟩, by simp [intOf]; omega⟩
    · have HSP : Hold (spanF L l = spanP L (l.drop 0) [] 0) := ⟨by
        unfold spanF
        rw [if_pos, List.drop_zero]
        rw [List.all_eq_true]
        intro p hp
        obtain ⟨q, hq, e⟩ := List.getElem_of_mem hp
        exact HALL.out q p (by omega) (by rw [← e]; exact List.getElem?_eq_getElem hq)⟩
      clear HALL
      obtain ⟨y0, y1, y2⟩ := cells_three (kept HX.out HBL.out)
      have HP0 : Hold (BRow w1.heap.size wr (.slice none 0 0) []) := ⟨⟨World.ownsRow_nil _ _ _ _, HBL.out.size⟩⟩
      go_wp2_with fail
      clear y0 y1 y2
      go_loopw [7, 8, 52] (fun pv rv i wo => ∃ (j r : Nat) (pl : List UInt8), i = .int .i64 j ∧ rv = .int .i64 r ∧ j ≤ l.length ∧ r ≤ 2 * j ∧ pl.length ≤ j * 200000000000 ∧ spanF L l = spanP L (l.drop j) pl r ∧ BRow w1.heap.size wo pv pl ∧ Below w1.heap.size w1 wo) (fun _ _ i _ => l.length - (intOf i).toNat)
      case atStart => exact ⟨0, 0, [], rfl, rfl, Nat.zero_le _, Nat.zero_le _, Nat.zero_le _, HSP.out, HP0.out, HBL.out⟩
      case round =>
        rename World => wo
        clear HBL HSP HP0 hlt hj
        obtain ⟨j, r, pl, rfl, rfl, hj, hr, hpll, hsp, hpr, hbl⟩ := hrel
        obtain ⟨pa, pcap, rfl, _⟩ := hpr.shape
        have HBL := Hold.mk hbl
        have HP := Hold.mk hpr
        have HSP := Hold.mk hsp
        have HPL : Hold (pl.length ≤ 20000000000000) := ⟨by have := H100.out; omega⟩
        have HPJ := Hold.mk hpll
        have HRJ := Hold.mk hr
        have hr200 : r ≤ 200 := by have := H100.out; omega
        clear hbl hpr hsp hpll
        by_cases hlt : j < l.length
        · obtain ⟨p, hp⟩ : ∃ p, l[j]? = some p := ⟨l[j], List.getElem?_eq_getElem hlt⟩
          obtain ⟨hps, b, off, rfl, x0, x1⟩ := HE.out j p hp
          have hcl := HC.out _ HBL.out
          have z0 := hcl _ _ _ x0
          have z1 := hcl _ _ _ x1
          unfold cf at z0 z1
          have hs1 := HSM.out p (List.mem_of_getElem? hp)
          have HST := Hold.mk (HSP.out.trans (spanP_step hp pl r))
          have HWO : Hold (w1.heap.size ≤ wo.heap.size) := ⟨HBL.out.size⟩
          clear x0 x1 hcl hp
          obtain ⟨s, dn⟩ := p
          simp only at *
          obtain ⟨W2, hW2⟩ : ∃ W2, W2 = wo.alloc (.cells #[.string s, .bool dn] 100) := ⟨_, rfl⟩
          have hb2 : Below wo.heap.size wo W2 := by rw [hW2]; exact (Below.refl _ wo).alloc (Nat.le_refl _) _
          have hk2 : W2.heap[wo.heap.size]? = some (.cells #[.string s, .bool dn] 100 (0, 0)) := by rw [hW2]; exact heap_alloc_new wo _
          obtain ⟨c0, c1⟩ := cells_two hk2
          replace HP := Hold.mk (HP.out.quiet hb2)
          have HB2 := Hold.mk (HBL.out.trans (hb2.mono HBL.out.size))
          have hlk := (HAW.out W2 HB2.out).look s hs1
          obtain ⟨v, hlt2, hv5, hvj⟩ := (HAW.out W2 HB2.out).test s bEq (by decide)
          obtain ⟨k2, n2, u2, na2, nl2, nc2, ia2, il2, ic2, rfl⟩ := hv5
          have HK2 := Hold.mk hk2
          have HVJ := Hold.mk hvj
          obtain ⟨gs, hgs⟩ : ∃ gs, gs = g s := ⟨_, rfl⟩
          rw [← hgs] at hlk hlt2
          have HGS := Hold.mk hgs
          obtain ⟨W3, hW3⟩ : ∃ W3, W3 = W2.alloc (.cells #[.int .i64 k2, .int .i64 n2, .string u2, .slice na2 nl2 nc2, .slice ia2 il2 ic2] 25) := ⟨_, rfl⟩
          have hb3 : Below W2.heap.size W2 W3 := by rw [hW3]; exact (Below.refl _ W2).alloc (Nat.le_refl _) _
          have HKV : Hold (W3.heap[W2.heap.size]? = some (.cells #[.int .i64 k2, .int .i64 n2, .string u2, .slice na2 nl2 nc2, .slice ia2 il2 ic2] 25 (0, 0))) := ⟨by rw [hW3]; exact heap_alloc_new W2 _⟩
          have HK3 := Hold.mk (kept HK2.out hb3)
          replace HP := Hold.mk (HP.out.quiet hb3)
          have HB3 := Hold.mk (HB2.out.trans (hb3.mono HB2.out.size))
          clear hb2 hk2 hvj hgs hb3
          go_upto_region 14 with (fail)
          rw [← hW2]
          clear hW2 z0 z1
          go_upto_if 65 with (fail)
          rw [← hW3]
          clear hW3 hlk hlt2 c0 c1 HBL HK2
          obtain ⟨c0, c1⟩ := cells_two HK3.out
          cases hfe : firstF L s bEq with
          | some v =>
            rw [hfe] at HST HVJ
            simp only at HST
            obtain ⟨q0, q1, q2, q3, q4⟩ := cells_five HKV.out
            have HFV : Hold (formedF 6 v = true) := ⟨by
              obtain ⟨a, ha, e⟩ := first_mem hfe
              rw [← e]; exact HFM.out a ha⟩
            have HPT := Hold.mk (part_any v _ dn W3 HFV.out ((HVJ.out v rfl).mono (HC.out _ HB3.out)) (HTW.out _ HB3.out))
            have HPF : Hold ((putF v).length ≤ 200000000000) := ⟨Nat.le_trans (putF_len 6 v HFV.out) keyB_six⟩
            have HLP := Hold.mk (partK_len v dn)
            clear hfe
            go_wp2_with fail
            refine HPT.out.mono ?_
            rintro e w4 ⟨sk, rfl, hsk, hb4⟩
            obtain ⟨ka, kcap, rfl, _⟩ := hsk.shape
            have HSK := Hold.mk hsk
            replace HP := Hold.mk (HP.out.quiet hb4)
            have HB4 := Hold.mk (HB3.out.trans (hb4.mono HB3.out.size))
            clear hsk hb4 HPT q0 q1 q2 q3 q4 c0 c1
            go_wp2_with (at_builtin; refine app_src rfl _ _ rfl _ _ _ _ HP.out rfl _ _ _ HSK.out rfl (by rw [HLP.out]; exact putF_pos v) (by have := HPF.out; have := HPL.out; have := HLP.out; omega) ?_)
            intro sv5 w5 hb5 hg5
            have HN := Hold.mk hb5
            have HB5 : Hold (Below w1.heap.size w1 w5) := ⟨HB4.out.trans (HP.out.below hg5)⟩
            have HNL : Hold ((pl ++ partK v dn).length ≤ (j + 1) * 200000000000) := ⟨by rw [List.length_append, HLP.out]; have := HPF.out; have := HPJ.out; omega⟩
            clear hb5 hg5
            go_wp2_with fail
            have hr2 := HRJ.out
            exact ⟨⟨j + 1, r + 2, _, by go_num, by go_num, hlt, by omega, HNL.out, HST.out, HN.out, HB5.out⟩, by simp [intOf]; omega⟩
          | none =>
            rw [hfe] at HST
            simp only at HST
            have HCL := Hold.mk (cloneB_any _ pl _ W3 HP.out (by have := HPL.out; omega))
            clear hfe HVJ
            go_wp2_with fail
            refine HCL.out.mono ?_
            rintro e w4 ⟨sk, rfl, hsk, hb4⟩
            have HSK := Hold.mk hsk
            have HQ4 := Hold.mk hb4
            obtain ⟨ka, kcap, rfl, _⟩ := hsk.shape
            clear hsk hb4 HCL c0 c1
            go_wp2_with (at_builtin; refine app_new rfl _ _ rfl _ _ _ _ HSK.out rfl _ [255] rfl _ rfl (by simp) (Nat.succ_pos _) (by have := HPL.out; simp; omega) ?_)
            intro tv w5 hb5 hg5
            have hq5 := HQ4.out.trans (HSK.out.below hg5)
            obtain ⟨pt, hpt⟩ : ∃ pt, pt = pl ++ [255] := ⟨_, rfl⟩
            rw [← hpt] at hb5
            have HTV := Hold.mk (hb5.bel HB3.out.size)
            obtain ⟨ta, tcap, rfl, _⟩ := hb5.shape
            have HPT := Hold.mk hpt
            replace HP := Hold.mk (HP.out.quiet hq5)
            have HB5 := Hold.mk (HB3.out.trans (hq5.mono HB3.out.size))
            have HK5 := Hold.mk (kept HK3.out hq5)
            have hwo : wo.heap.size < w5.heap.size := heap_lt HK5.out
            clear hb5 hg5 hq5 HQ4 HSK hpt HK3 HB3 HKV HB2
            obtain ⟨W6, hW6⟩ : ∃ W6, W6 = w5.alloc (.cells #[.int .i64 0, .slice pa pl.length pcap, .slice ta pt.length tcap] 31) := ⟨_, rfl⟩
            have hb6 : Below w5.heap.size w5 W6 := by rw [hW6]; exact (Below.refl _ w5).alloc (Nat.le_refl _) _
            have hs6 : W6.heap.size = w5.heap.size + 1 := by rw [hW6]; simp
            have ho6 : W6.heap[w5.heap.size]? = some (.cells #[.int .i64 0, .slice pa pl.length pcap, .slice ta pt.length tcap] 31 (0, 0)) := by rw [hW6]; exact heap_alloc_new w5 _
            obtain ⟨W7, hW7⟩ : ∃ W7, W7 = (W6.alloc (.cells (nm2 bGt bGe) 9)).alloc (.cells (nm2 bLt bLe) 9) := ⟨_, rfl⟩
            have hb7 : Below W6.heap.size W6 W7 := by rw [hW7]; exact ((Below.refl _ W6).alloc (Nat.le_refl _) _).alloc (by simp) _
            have hla : W7.heap[W6.heap.size]? = some (.cells (nm2 bGt bGe) 9 (0, 0)) := by rw [hW7]; exact kept (heap_alloc_new W6 _) ((Below.refl _ _).alloc (Nat.le_refl _) _)
            have hha : W7.heap[W6.heap.size + 1]? = some (.cells (nm2 bLt bLe) 9 (0, 0)) := by
              rw [hW7]
              have := heap_alloc_new (W6.alloc (.cells (nm2 bGt bGe) 9)) (.cells (nm2 bLt bLe) 9)
              simpa using this
            have hb57 := hb6.trans (hb7.mono hb6.size)
            have HO7 := Hold.mk (kept ho6 hb7)
            replace HP := Hold.mk (HP.out.quiet hb57)
            replace HTV := Hold.mk (HTV.out.quiet hb57)
            have HB7 := Hold.mk (HB5.out.trans (hb57.mono HB5.out.size))
            have HK7 := Hold.mk (kept HK5.out hb57)
            have HF0 : Hold (dn = false → Four L pl (s, dn) W7 (.slice (some ⟨W6.heap.size, 0, none⟩) 2 2) (.string bGt) (.slice (some ⟨W6.heap.size + 1, 0, none⟩) 2 2) (.string bLe)) := ⟨fun e => ⟨⟨_, _, bGt, bGe, bLt, bLe, rfl, rfl, rfl, rfl, hla, hha, by unfold lowF; rw [if_neg (by rw [e]; simp)], by unfold highF; rw [if_neg (by rw [e]; simp)], list_ne (by decide), list_ne (by decide), by decide, by decide, by decide, by decide⟩⟩⟩
            have HF1 : Hold (dn = true → Four L pl (s, dn) W7 (.slice (some ⟨W6.heap.size + 1, 0, none⟩) 2 2) (.string bLt) (.slice (some ⟨W6.heap.size, 0, none⟩) 2 2) (.string bGe)) := ⟨fun e => ⟨⟨_, _, bLt, bLe, bGt, bGe, rfl, rfl, rfl, rfl, hha, hla, by unfold lowF; rw [if_pos e], by unfold highF; rw [if_pos e], list_ne (by decide), list_ne (by decide), by decide, by decide, by decide, by decide⟩⟩⟩
            have HS6 := Hold.mk hs6
            obtain ⟨c0, c1⟩ := cells_two HK7.out
            have HSZ7 := Hold.mk hb57.size
            have hob7 : w5.heap.size < W7.heap.size := heap_lt HO7.out
            have HOW : Hold (w5.heap.size < W7.heap.size ∧ wo.heap.size < w5.heap.size ∧ w1.heap.size ≤ wo.heap.size) := ⟨hob7, hwo, HWO.out⟩
            clear hb6 hs6 ho6 hb7 hla hha hb57 hob7 HK5 HB5
            go_upto_region 19 with (fail)
            rw [← hW6]
            clear hW6
            go_upto_region 21 with (fail)
            rw [← hW7]
            clear hW7
            go_upto_if 83 with (fail)
            generalize w5.heap.size = ob at *
            generalize W6.heap.size = la0 at *
            go_cut [17, 18, 19, 20] (fun s17 s18 s19 s20 wx => wx = W7 ∧ Four L pl (s, dn) W7 s17 s18 s19 s20)
            case first =>
              cases dn with
              | false =>
                have HR7 := Hold.mk (HF0.out rfl)
                clear c0 c1
                go_wp2_with fail
                go_meet
                case rel => exact ⟨rfl, HR7.out⟩
              | true =>
                have HR7 := Hold.mk (HF1.out rfl)
                clear c0 c1
                go_wp2_with fail
                go_meet
                case rel => exact ⟨rfl, HR7.out⟩
            case rest =>
              clear HF0 HF1 c0 c1
              obtain ⟨hwc, hfo⟩ := hcut
              obtain ⟨⟨la, ha, n1, n2, m1, m2, rfl, rfl, rfl, rfl, hla, hha, hlow, hhigh, hn12, hm12, hn1, hn2, hm1, hm2⟩⟩ := hfo
              rw [hwc]
              clear hwc wc
              have HLA := Hold.mk hla
              have HHA := Hold.mk hha
              have HLOW := Hold.mk hlow
              have HHI := Hold.mk hhigh
              have HN12 := Hold.mk hn12
              have HM12 := Hold.mk hm12
              have HNS := Hold.mk (And.intro hn1 hn2)
              have HMS := Hold.mk (And.intro hm1 hm2)
              have hla0 : la ≠ ob := fun e => by rw [e, HO7.out] at hla; have := Option.some.inj hla; injection this with _ h2; revert h2; decide
              have hha0 : ha ≠ ob := fun e => by rw [e, HO7.out] at hha; have := Option.some.inj hha; injection this with _ h2; revert h2; decide
              have HNE := Hold.mk (And.intro hla0 hha0)
              clear hla hha hlow hhigh hn12 hm12 hn1 hn2 hm1 hm2 hla0 hha0

              go_upto_region 23 with (fail)
              iterate 8 (first | go_values | go_skip | go_guarded | go_step | go_upon | go_back)
              go_cut [21] (fun s21 wx => ∃ fx' : Value, s21 = .bool (lowF L pl (s, dn)).isSome ∧ wx.heap[ob]? = some (.cells #[.int .i64 0, fx', .slice ta pt.length tcap] 31 (0, 0)) ∧ BRow w1.heap.size wx fx' ((lowF L pl (s, dn)).getD pl) ∧ W7.grownBy wx (some ob))
              case first =>
                go_wp2_with fail
                go_loopw [21, 88] (fun sb i wq => ∃ q : Nat, sb = .bool false ∧ i = .int .i64 q ∧ q ≤ 2 ∧ (∀ (i' : Nat) t, i' < q → [n1, n2][i']? = some t → firstF L s t = none) ∧ Below W7.heap.size W7 wq) (fun _ i _ => 2 - (intOf i).toNat)
                case atStart => exact ⟨0, rfl, rfl, Nat.zero_le _, fun _ _ h => by omega, Below.refl _ _⟩
                case round =>
                  rename World => wq
                  obtain ⟨q, rfl, rfl, hq, hall, hbq⟩ := hrel
                  have HALL := Hold.mk hall
                  have HBQ := Hold.mk hbq
                  have hoq : ob < wq.heap.size := by have h1 := heap_lt HO7.out; have h2 := hbq.size; omega
                  clear hall hbq
                  by_cases hlt2 : q < 2
                  · obtain ⟨tq, htq⟩ : ∃ tq, [n1, n2][q]? = some tq := ⟨_, List.getElem?_eq_getElem (by simpa using hlt2)⟩
                    have zc := nm2_cell (kept HLA.out HBQ.out) q tq htq
                    have hts := size2 HNS.out.1 HNS.out.2 q tq htq
                    have HW1 : Hold (Below w1.heap.size w1 wq) := ⟨HB7.out.trans (HBQ.out.mono HB7.out.size)⟩
                    obtain ⟨v, hlt3, hv5, hvj⟩ := (HAW.out wq HW1.out).test s tq hts
                    obtain ⟨k2, n2q, u2, na2, nl2, nc2, ia2, il2, ic2, rfl⟩ := hv5
                    have HVJ := Hold.mk hvj
                    rw [← HGS.out] at hlt3
                    obtain ⟨W8, hW8⟩ : ∃ W8, W8 = wq.alloc (.cells #[.int .i64 k2, .int .i64 n2q, .string u2, .slice na2 nl2 nc2, .slice ia2 il2 ic2] 25) := ⟨_, rfl⟩
                    have hb8 : Below wq.heap.size wq W8 := by rw [hW8]; exact (Below.refl _ wq).alloc (Nat.le_refl _) _
                    have HKV : Hold (W8.heap[wq.heap.size]? = some (.cells #[.int .i64 k2, .int .i64 n2q, .string u2, .slice na2 nl2 nc2, .slice ia2 il2 ic2] 25 (0, 0))) := ⟨by rw [hW8]; exact heap_alloc_new wq _⟩
                    have HTQ := Hold.mk htq
                    replace HBQ := Hold.mk (HBQ.out.trans (hb8.mono HBQ.out.size))
                    have HW8 : Hold (Below w1.heap.size w1 W8) := ⟨HB7.out.trans (HBQ.out.mono HB7.out.size)⟩
                    clear htq hvj hts hb8
                    go_upto_if 98 with (fail)
                    rw [← hW8]
                    clear hW8 hlt3 zc
                    cases hfe : firstF L s tq with
                    | none =>
                      have HA2 : Hold (∀ (i' : Nat) t, i' < q + 1 → [n1, n2][i']? = some t → firstF L s t = none) := ⟨fun i' t hi ht => by
                        by_cases e : i' = q
                        · subst e; rw [HTQ.out] at ht; cases ht; exact hfe
                        · exact HALL.out i' t (by omega) ht⟩
                      clear hfe
                      go_wp2_with fail
                      exact ⟨⟨q + 1, rfl, by go_num, hlt2, HA2.out, HBQ.out⟩, by simp [intOf]; omega⟩
                    | some v =>
                      have HBD : Hold (lowF L pl (s, dn) = some (pl ++ partK v dn ++ (if (tq.toList == n1.toList) = true then [255] else []))) := ⟨HLOW.out.trans (bound_at (p := pl) (f := (s, dn)) (one := true) HN12.out HTQ.out HALL.out hfe)⟩
                      have HFV : Hold (formedF 6 v = true) := ⟨by
                        obtain ⟨a, ha, e⟩ := first_mem hfe
                        rw [← e]; exact HFM.out a ha⟩
                      have HPF : Hold ((putF v).length ≤ 200000000000) := ⟨Nat.le_trans (putF_len 6 v HFV.out) keyB_six⟩
                      have HLP := Hold.mk (partK_len v dn)
                      have HDW := Hold.mk ((Below.refl W8.heap.size W8).drew)
                      have HV9 : Hold (JAt (cf W8.drew) v (.agg #[.int .i64 k2, .int .i64 n2q, .string u2, .slice na2 nl2 nc2, .slice ia2 il2 ic2])) := ⟨((HVJ.out v hfe).mono (HC.out _ HW8.out)).mono (cle_below HDW.out)⟩
                      have HT9 : Hold (Tabs W8.drew) := ⟨(HTW.out _ HW8.out).below HDW.out⟩
                      have HOB := Hold.mk (kept HO7.out HBQ.out)
                      have HP9 := Hold.mk ((HP.out.quiet HBQ.out).quiet HDW.out)
                      have hkf := kept HK7.out HBQ.out
                      have HOQ : Hold (ob < W8.heap.size) := ⟨heap_lt HOB.out⟩
                      obtain ⟨q0, q1, q2, q3, q4⟩ := cells_five HKV.out
                      obtain ⟨c0, c1⟩ := cells_two hkf
                      have g0 := ButT.cell (b := ob) q0 (by omega)
                      have g1 := ButT.cell (b := ob) q1 (by omega)
                      have g2 := ButT.cell (b := ob) q2 (by omega)
                      have g3 := ButT.cell (b := ob) q3 (by omega)
                      have g4 := ButT.cell (b := ob) q4 (by omega)
                      have g5 := ButT.cell (b := ob) c1 (by have := HOW.out.2.1; omega)
                      clear hfe HVJ HALL hkf q0 q1 q2 q3 q4 c0 c1
                      go_upto_region 29 with (fail)
                      refine wp_region_mixC (ButTC ob W8) 10 rfl (by kernel_rfl) ?_
                      generalize W8.drew = w9 at HDW HP9 HV9 HT9 ⊢
                      refine mixl_seg (by kernel_rfl) (fun _ _ d _ _ h => by cases d <;> exact h) [0, 2, 3, 4] [_, _, _, _] 6 10 rfl _ _ _ rfl (by kernel_rfl) (butTC (grown_below HDW.out)) ?_
                      repeat (go_big_quiet_step (fail))
                      refine wpQuiet_nil ?_
                      clear g0 g1 g2 g3 g4 g5
                      refine mixl_act (i := 1) rfl (by kernel_rfl) (butTC (grown_below HDW.out)) rfl (fun K hK => ?_)
                      go_wp2_with fail
                      refine (cloneB_any _ pl _ w9 HP9.out (by have := HPL.out; omega)).mono ?_
                      rintro e w10 ⟨sk, rfl, hsk, hb10⟩
                      obtain ⟨ka, kcap, rfl, _⟩ := hsk.shape
                      have HSK0 := Hold.mk hsk
                      have HB10 := Hold.mk (HDW.out.trans (hb10.mono HDW.out.size))
                      replace HV9 := Hold.mk (HV9.out.mono (cle_below hb10))
                      replace HT9 := Hold.mk (HT9.out.below hb10)
                      clear hsk hb10
                      go_wp2_with fail
                      refine mixl_act (i := 5) rfl (by kernel_rfl) (butTC (grown_below HB10.out)) rfl (fun K hK => ?_)
                      go_wp2_with fail
                      refine (part_any v _ dn w10 HFV.out HV9.out HT9.out).mono ?_
                      rintro e w11 ⟨sp, rfl, hsp, hb11⟩
                      obtain ⟨qa, qcap, rfl, _⟩ := hsp.shape
                      have HSP2 := Hold.mk (hsp.bel HB10.out.size)
                      have HSK := Hold.mk ((HSK0.out.quiet hb11).bel HDW.out.size)
                      have HB11 := Hold.mk (HB10.out.trans (hb11.mono HB10.out.size))
                      clear hsp hb11 HSK0
                      go_wp2_with fail
                      refine mixl_act (i := 6) rfl (by kernel_rfl) (butTC (grown_below HB11.out)) rfl (fun K hK => ?_)
                      refine wp_app_src (.tmp 100) (.tmp 104) rfl W8.heap.size w11 _ pl HSK.out rfl W8.heap.size _ (partK v dn) HSP2.out rfl (by rw [HLP.out]; exact putF_pos v) (by have := HPF.out; have := HPL.out; have := HLP.out; omega) ?_
                      intro sv w12 hb12 hg12
                      obtain ⟨pq, hpq⟩ : ∃ pq, pq = pl ++ partK v dn := ⟨_, rfl⟩
                      rw [← hpq] at hb12 HBD
                      have HPQ : Hold (pq.length ≤ 30000000000000 ∧ pq = pl ++ partK v dn) := ⟨by rw [hpq, List.length_append, HLP.out]; have := HPF.out; have := HPL.out; omega, hpq⟩
                      obtain ⟨ra, rcap, rfl, _⟩ := hb12.shape
                      have HS12 := Hold.mk hb12
                      have HB12 := Hold.mk (HB11.out.trans (HSK.out.below hg12))
                      have HO12 := Hold.mk (kept HOB.out HB12.out)
                      clear hb12 hg12 hpq HSK HSP2
                      go_wp2_with fail
                      refine mixl_seg (by kernel_rfl) (fun _ _ d _ _ h => by cases d <;> exact h) [7] [_] 2 3 rfl _ _ _ rfl (by kernel_rfl) (butTC (grown_below HB12.out)) ?_
                      repeat (go_big_quiet_step (fail))
                      refine wpQuiet_nil ?_
                      obtain ⟨v0, v1, v2⟩ := cells_three HO12.out
                      have vf := free_box HO12.out 1
                      refine mixl_act (i := 8) rfl (by kernel_rfl) (butTC (grown_below HB12.out)) rfl (fun K hK => ?_)
                      go_wp2_with fail
                      clear v0 v1 v2 vf
                      have HO13 : Hold ((w12.setCell ⟨ob, 1, none⟩ (.slice ra pq.length rcap)).heap[ob]? = some (.cells #[.int .i64 0, .slice ra pq.length rcap, .slice ta pt.length tcap] 31 (0, 0))) := ⟨by
                        have := set_self (o := 1) (c := .slice ra pq.length rcap) HO12.out
                        simpa using this⟩
                      have HG13 : Hold (W8.grownBy (w12.setCell ⟨ob, 1, none⟩ (.slice ra pq.length rcap)) (some ob)) := ⟨grown_trans (grown_below HB12.out) (grown_set _ _ _ _)⟩
                      have HS13 := Hold.mk (HS12.out.but HO12.out (grown_set w12 ob 1 (.slice ra pq.length rcap)))
                      clear HS12 HO12 HB12
                      generalize w12.setCell ⟨ob, 1, none⟩ (.slice ra pq.length rcap) = w13 at HO13 HG13 HS13 ⊢
                      refine mixl_seg (by kernel_rfl) (fun _ _ d _ _ h => by cases d <;> exact h) [9] [_] 0 1 rfl _ _ _ rfl (by kernel_rfl) (butTC HG13.out) ?_
                      repeat (go_big_quiet_step (fail))
                      refine wpQuiet_nil ?_
                      refine mix_done (by kernel_rfl) (butTC HG13.out) ?_
                      have HGF := Hold.mk (grown_trans (grown_below (b := some ob) HBQ.out) HG13.out)
                      obtain ⟨v0, v1, v2⟩ := cells_three HO13.out
                      cases heq : (tq.toList == n1.toList) with
                      | false =>
                        have HRES : Hold (lowF L pl (s, dn) = some pq) := ⟨by rw [HBD.out, heq]; simp⟩
                        go_wp2_with fail
                        go_meet
                        case rel => exact ⟨_, by rw [HRES.out]; rfl, HO13.out, by rw [HRES.out]; exact HS13.out.bel HW8.out.size, HGF.out⟩
                      | true =>
                        have HRES : Hold (lowF L pl (s, dn) = some (pq ++ [255])) := ⟨by rw [HBD.out, heq]; simp⟩
                        go_wp2_with (at_builtin; refine app_new rfl _ _ rfl _ _ _ _ HS13.out rfl _ [255] rfl _ rfl (by simp) (Nat.succ_pos _) (by have := HPQ.out.1; simp; omega) ?_)
                        intro SV2 w14 hb14 hg14
                        obtain ⟨pr, hpr2⟩ : ∃ pr, pr = pq ++ [255] := ⟨_, rfl⟩
                        rw [← hpr2] at hb14 HRES
                        obtain ⟨ra2, rcap2, rfl, _⟩ := hb14.shape
                        have hq14 := HS13.out.below hg14
                        have HO14 : Hold (w14.heap[ob]? = some (.cells #[.int .i64 0, .slice ra pq.length rcap, .slice ta pt.length tcap] 31 (0, 0))) := ⟨by rw [hq14.block ob HOQ.out]; exact HO13.out⟩
                        have HG14 : Hold (W7.grownBy (w14.setCell ⟨ob, 1, none⟩ (.slice ra2 pr.length rcap2)) (some ob)) := ⟨grown_trans (grown_trans (grown_below HBQ.out) ⟨hq14.os.trans HG13.out.os, hq14.tape.trans HG13.out.tape, hq14.output.trans HG13.out.output, Nat.le_trans HG13.out.size hq14.size, fun p hp hne => (hq14.block p hp).trans (HG13.out.block p hp hne)⟩) (grown_set _ _ _ _)⟩
                        have HS14 := Hold.mk ((hb14.but HO14.out (grown_set w14 ob 1 (.slice ra2 pr.length rcap2))).bel HW8.out.size)
                        have HO15 : Hold ((w14.setCell ⟨ob, 1, none⟩ (.slice ra2 pr.length rcap2)).heap[ob]? = some (.cells #[.int .i64 0, .slice ra2 pr.length rcap2, .slice ta pt.length tcap] 31 (0, 0))) := ⟨by
                          have := set_self (o := 1) (c := .slice ra2 pr.length rcap2) HO14.out
                          simpa using this⟩
                        clear v0 v1 v2
                        obtain ⟨v0, v1, v2⟩ := cells_three HO14.out
                        have vf := free_box HO14.out 1
                        clear hb14 hg14 hq14 hpr2
                        go_wp2_with fail
                        go_meet
                        case rel => exact ⟨_, by rw [HRES.out]; rfl, HO15.out, by rw [HRES.out]; exact HS14.out, HG14.out⟩
                  · have HN : Hold (lowF L pl (s, dn) = none) := ⟨HLOW.out.trans (bound_none (fun i' t hi ht => HALL.out i' t (by omega) ht))⟩
                    have HBR := Hold.mk (HP.out.quiet HBQ.out)
                    have HOR := Hold.mk (kept HO7.out HBQ.out)
                    have HGR := Hold.mk (grown_below (b := some ob) HBQ.out)
                    go_wp2_with fail
                    go_meet
                    case rel => exact ⟨_, by rw [HN.out]; rfl, HOR.out, by rw [HN.out]; exact HBR.out, HGR.out⟩
              case rest =>
                obtain ⟨fx', rfl, ho, hfr, hgr⟩ := hcut
                generalize wc = W9 at *
                obtain ⟨b1, hb1⟩ : ∃ b1, b1 = (lowF L pl (s, dn)).isSome := ⟨_, rfl⟩
                obtain ⟨fl, hfl⟩ : ∃ fl, fl = (lowF L pl (s, dn)).getD pl := ⟨_, rfl⟩
                rw [← hfl] at hfr
                rw [← hb1]
                obtain ⟨fa, fcap, rfl, _⟩ := hfr.shape
                have HO9 := Hold.mk ho
                have HFR := Hold.mk hfr
                have HB9 := Hold.mk (HB7.out.trans (grown_low hgr HB7.out.size (by have := HOW.out; omega)))
                replace HP := Hold.mk (HP.out.but HO7.out hgr)
                replace HTV := Hold.mk (HTV.out.but HO7.out hgr)
                have HK9 := Hold.mk (grown_block hgr HK7.out (by have := HOW.out; omega))
                have HHA9 := Hold.mk (grown_block hgr HHA.out HNE.out.2)
                have HBF := Hold.mk (And.intro hb1 hfl)
                clear ho hfr hgr hb1 hfl HLA HHA HO7 HK7 HB7
                iterate 2 (first | go_values | go_skip | go_guarded | go_step | go_upon | go_back)
                go_cut [21] (fun s21 wx => ∃ fx' : Value, s21 = .bool (b1 || (highF L pl (s, dn)).isSome) ∧ wx.heap[ob]? = some (.cells #[.int .i64 0, .slice fa fl.length fcap, fx'] 31 (0, 0)) ∧ BRow w1.heap.size wx fx' ((highF L pl (s, dn)).getD pt) ∧ W9.grownBy wx (some ob))
                case first =>
                  go_wp2_with fail
                  go_loopw [21, 118] (fun sb i wq => ∃ q : Nat, sb = .bool b1 ∧ i = .int .i64 q ∧ q ≤ 2 ∧ (∀ (i' : Nat) t, i' < q → [m1, m2][i']? = some t → firstF L s t = none) ∧ Below W9.heap.size W9 wq) (fun _ i _ => 2 - (intOf i).toNat)
                  case atStart => exact ⟨0, rfl, rfl, Nat.zero_le _, fun _ _ h => by omega, Below.refl _ _⟩
                  case round =>
                    rename World => wq
                    obtain ⟨q, rfl, rfl, hq, hall, hbq⟩ := hrel
                    have HALL := Hold.mk hall
                    have HBQ := Hold.mk hbq
                    have hoq : ob < wq.heap.size := by have h1 := heap_lt HO9.out; have h2 := hbq.size; omega
                    clear hall hbq
                    by_cases hlt2 : q < 2
                    · obtain ⟨tq, htq⟩ : ∃ tq, [m1, m2][q]? = some tq := ⟨_, List.getElem?_eq_getElem (by simpa using hlt2)⟩
                      have zc := nm2_cell (kept HHA9.out HBQ.out) q tq htq
                      have hts := size2 HMS.out.1 HMS.out.2 q tq htq
                      have HW1 : Hold (Below w1.heap.size w1 wq) := ⟨HB9.out.trans (HBQ.out.mono HB9.out.size)⟩
                      obtain ⟨v, hlt3, hv5, hvj⟩ := (HAW.out wq HW1.out).test s tq hts
                      obtain ⟨k2, n2q, u2, na2, nl2, nc2, ia2, il2, ic2, rfl⟩ := hv5
                      have HVJ := Hold.mk hvj
                      rw [← HGS.out] at hlt3
                      obtain ⟨W8, hW8⟩ : ∃ W8, W8 = wq.alloc (.cells #[.int .i64 k2, .int .i64 n2q, .string u2, .slice na2 nl2 nc2, .slice ia2 il2 ic2] 25) := ⟨_, rfl⟩
                      have hb8 : Below wq.heap.size wq W8 := by rw [hW8]; exact (Below.refl _ wq).alloc (Nat.le_refl _) _
                      have HKV : Hold (W8.heap[wq.heap.size]? = some (.cells #[.int .i64 k2, .int .i64 n2q, .string u2, .slice na2 nl2 nc2, .slice ia2 il2 ic2] 25 (0, 0))) := ⟨by rw [hW8]; exact heap_alloc_new wq _⟩
                      have HTQ := Hold.mk htq
                      replace HBQ := Hold.mk (HBQ.out.trans (hb8.mono HBQ.out.size))
                      have HW8 : Hold (Below w1.heap.size w1 W8) := ⟨HB9.out.trans (HBQ.out.mono HB9.out.size)⟩
                      clear htq hvj hts hb8
                      go_upto_if 128 with (fail)
                      rw [← hW8]
                      clear hW8 hlt3 zc
                      cases hfe : firstF L s tq with
                      | none =>
                        have HA2 : Hold (∀ (i' : Nat) t, i' < q + 1 → [m1, m2][i']? = some t → firstF L s t = none) := ⟨fun i' t hi ht => by
                          by_cases e : i' = q
                          · subst e; rw [HTQ.out] at ht; cases ht; exact hfe
                          · exact HALL.out i' t (by omega) ht⟩
                        clear hfe
                        go_wp2_with fail
                        exact ⟨⟨q + 1, rfl, by go_num, hlt2, HA2.out, HBQ.out⟩, by simp [intOf]; omega⟩
                      | some v =>
                        have HBD : Hold (highF L pl (s, dn) = some (pl ++ partK v dn ++ (if (tq.toList == m2.toList) = true then [255] else []))) := ⟨HHI.out.trans (bound_at (p := pl) (f := (s, dn)) (one := false) HM12.out HTQ.out HALL.out hfe)⟩
                        have HFV : Hold (formedF 6 v = true) := ⟨by
                          obtain ⟨a, ha, e⟩ := first_mem hfe
                          rw [← e]; exact HFM.out a ha⟩
                        have HPF : Hold ((putF v).length ≤ 200000000000) := ⟨Nat.le_trans (putF_len 6 v HFV.out) keyB_six⟩
                        have HLP := Hold.mk (partK_len v dn)
                        have HDW := Hold.mk ((Below.refl W8.heap.size W8).drew)
                        have HV9 : Hold (JAt (cf W8.drew) v (.agg #[.int .i64 k2, .int .i64 n2q, .string u2, .slice na2 nl2 nc2, .slice ia2 il2 ic2])) := ⟨((HVJ.out v hfe).mono (HC.out _ HW8.out)).mono (cle_below HDW.out)⟩
                        have HT9 : Hold (Tabs W8.drew) := ⟨(HTW.out _ HW8.out).below HDW.out⟩
                        have HOB := Hold.mk (kept HO9.out HBQ.out)
                        have HP9 := Hold.mk ((HP.out.quiet HBQ.out).quiet HDW.out)
                        have hkf := kept HK9.out HBQ.out
                        have HOQ : Hold (ob < W8.heap.size) := ⟨heap_lt HOB.out⟩
                        obtain ⟨q0, q1, q2, q3, q4⟩ := cells_five HKV.out
                        obtain ⟨c0, c1⟩ := cells_two hkf
                        have g0 := ButT.cell (b := ob) q0 (by omega)
                        have g1 := ButT.cell (b := ob) q1 (by omega)
                        have g2 := ButT.cell (b := ob) q2 (by omega)
                        have g3 := ButT.cell (b := ob) q3 (by omega)
                        have g4 := ButT.cell (b := ob) q4 (by omega)
                        have g5 := ButT.cell (b := ob) c1 (by have := HOW.out.2.1; omega)
                        clear hfe HVJ HALL hkf q0 q1 q2 q3 q4 c0 c1
                        go_upto_region 38 with (fail)
                        refine wp_region_mixC (ButTC ob W8) 10 rfl (by kernel_rfl) ?_
                        generalize W8.drew = w9 at HDW HP9 HV9 HT9 ⊢
                        refine mixl_seg (by kernel_rfl) (fun _ _ d _ _ h => by cases d <;> exact h) [0, 2, 3, 4] [_, _, _, _] 6 10 rfl _ _ _ rfl (by kernel_rfl) (butTC (grown_below HDW.out)) ?_
                        repeat (go_big_quiet_step (fail))
                        refine wpQuiet_nil ?_
                        clear g0 g1 g2 g3 g4 g5
                        refine mixl_act (i := 1) rfl (by kernel_rfl) (butTC (grown_below HDW.out)) rfl (fun K hK => ?_)
                        go_wp2_with fail
                        refine (cloneB_any _ pl _ w9 HP9.out (by have := HPL.out; omega)).mono ?_
                        rintro e w10 ⟨sk, rfl, hsk, hb10⟩
                        obtain ⟨ka, kcap, rfl, _⟩ := hsk.shape
                        have HSK0 := Hold.mk hsk
                        have HB10 := Hold.mk (HDW.out.trans (hb10.mono HDW.out.size))
                        replace HV9 := Hold.mk (HV9.out.mono (cle_below hb10))
                        replace HT9 := Hold.mk (HT9.out.below hb10)
                        clear hsk hb10
                        go_wp2_with fail
                        refine mixl_act (i := 5) rfl (by kernel_rfl) (butTC (grown_below HB10.out)) rfl (fun K hK => ?_)
                        go_wp2_with fail
                        refine (part_any v _ dn w10 HFV.out HV9.out HT9.out).mono ?_
                        rintro e w11 ⟨sp, rfl, hsp, hb11⟩
                        obtain ⟨qa, qcap, rfl, _⟩ := hsp.shape
                        have HSP2 := Hold.mk (hsp.bel HB10.out.size)
                        have HSK := Hold.mk ((HSK0.out.quiet hb11).bel HDW.out.size)
                        have HB11 := Hold.mk (HB10.out.trans (hb11.mono HB10.out.size))
                        clear hsp hb11 HSK0
                        go_wp2_with fail
                        refine mixl_act (i := 6) rfl (by kernel_rfl) (butTC (grown_below HB11.out)) rfl (fun K hK => ?_)
                        refine wp_app_src (.tmp 130) (.tmp 134) rfl W8.heap.size w11 _ pl HSK.out rfl W8.heap.size _ (partK v dn) HSP2.out rfl (by rw [HLP.out]; exact putF_pos v) (by have := HPF.out; have := HPL.out; have := HLP.out; omega) ?_
                        intro sv w12 hb12 hg12
                        obtain ⟨pq, hpq⟩ : ∃ pq, pq = pl ++ partK v dn := ⟨_, rfl⟩
                        rw [← hpq] at hb12 HBD
                        have HPQ : Hold (pq.length ≤ 30000000000000 ∧ pq = pl ++ partK v dn) := ⟨by rw [hpq, List.length_append, HLP.out]; have := HPF.out; have := HPL.out; omega, hpq⟩
                        obtain ⟨ra, rcap, rfl, _⟩ := hb12.shape
                        have HS12 := Hold.mk hb12
                        have HB12 := Hold.mk (HB11.out.trans (HSK.out.below hg12))
                        have HO12 := Hold.mk (kept HOB.out HB12.out)
                        clear hb12 hg12 hpq HSK HSP2
                        go_wp2_with fail
                        refine mixl_seg (by kernel_rfl) (fun _ _ d _ _ h => by cases d <;> exact h) [7] [_] 2 3 rfl _ _ _ rfl (by kernel_rfl) (butTC (grown_below HB12.out)) ?_
                        repeat (go_big_quiet_step (fail))
                        refine wpQuiet_nil ?_
                        obtain ⟨v0, v1, v2⟩ := cells_three HO12.out
                        have vf := free_box HO12.out 2
                        refine mixl_act (i := 8) rfl (by kernel_rfl) (butTC (grown_below HB12.out)) rfl (fun K hK => ?_)
                        go_wp2_with fail
                        clear v0 v1 v2 vf
                        have HO13 : Hold ((w12.setCell ⟨ob, 2, none⟩ (.slice ra pq.length rcap)).heap[ob]? = some (.cells #[.int .i64 0, .slice fa fl.length fcap, .slice ra pq.length rcap] 31 (0, 0))) := ⟨by
                          have := set_self (o := 2) (c := .slice ra pq.length rcap) HO12.out
                          simpa using this⟩
                        have HG13 : Hold (W8.grownBy (w12.setCell ⟨ob, 2, none⟩ (.slice ra pq.length rcap)) (some ob)) := ⟨grown_trans (grown_below HB12.out) (grown_set _ _ _ _)⟩
                        have HS13 := Hold.mk (HS12.out.but HO12.out (grown_set w12 ob 2 (.slice ra pq.length rcap)))
                        clear HS12 HO12 HB12
                        generalize w12.setCell ⟨ob, 2, none⟩ (.slice ra pq.length rcap) = w13 at HO13 HG13 HS13 ⊢
                        refine mixl_seg (by kernel_rfl) (fun _ _ d _ _ h => by cases d <;> exact h) [9] [_] 0 1 rfl _ _ _ rfl (by kernel_rfl) (butTC HG13.out) ?_
                        repeat (go_big_quiet_step (fail))
                        refine wpQuiet_nil ?_
                        refine mix_done (by kernel_rfl) (butTC HG13.out) ?_
                        have HGF := Hold.mk (grown_trans (grown_below (b := some ob) HBQ.out) HG13.out)
                        obtain ⟨v0, v1, v2⟩ := cells_three HO13.out
                        cases heq : (tq.toList == m2.toList) with
                        | false =>
                          have HRES : Hold (highF L pl (s, dn) = some pq) := ⟨by rw [HBD.out, heq]; simp⟩
                          go_wp2_with fail
                          go_meet
                          case rel => exact ⟨_, by rw [HRES.out]; simp, HO13.out, by rw [HRES.out]; exact HS13.out.bel HW8.out.size, HGF.out⟩
                        | true =>
                          have HRES : Hold (highF L pl (s, dn) = some (pq ++ [255])) := ⟨by rw [HBD.out, heq]; simp⟩
                          go_wp2_with (at_builtin; refine app_new rfl _ _ rfl _ _ _ _ HS13.out rfl _ [255] rfl _ rfl (by simp) (Nat.succ_pos _) (by have := HPQ.out.1; simp; omega) ?_)
                          intro SV2 w14 hb14 hg14
                          obtain ⟨pr, hpr2⟩ : ∃ pr, pr = pq ++ [255] := ⟨_, rfl⟩
                          rw [← hpr2] at hb14 HRES
                          obtain ⟨ra2, rcap2, rfl, _⟩ := hb14.shape
                          have hq14 := HS13.out.below hg14
                          have HO14 : Hold (w14.heap[ob]? = some (.cells #[.int .i64 0, .slice fa fl.length fcap, .slice ra pq.length rcap] 31 (0, 0))) := ⟨by rw [hq14.block ob HOQ.out]; exact HO13.out⟩
                          have HG14 : Hold (W9.grownBy (w14.setCell ⟨ob, 2, none⟩ (.slice ra2 pr.length rcap2)) (some ob)) := ⟨grown_trans (grown_trans (grown_below HBQ.out) ⟨hq14.os.trans HG13.out.os, hq14.tape.trans HG13.out.tape, hq14.output.trans HG13.out.output, Nat.le_trans HG13.out.size hq14.size, fun p hp hne => (hq14.block p hp).trans (HG13.out.block p hp hne)⟩) (grown_set _ _ _ _)⟩
                          have HS14 := Hold.mk ((hb14.but HO14.out (grown_set w14 ob 2 (.slice ra2 pr.length rcap2))).bel HW8.out.size)
                          have HO15 : Hold ((w14.setCell ⟨ob, 2, none⟩ (.slice ra2 pr.length rcap2)).heap[ob]? = some (.cells #[.int .i64 0, .slice fa fl.length fcap, .slice ra2 pr.length rcap2] 31 (0, 0))) := ⟨by
                            have := set_self (o := 2) (c := .slice ra2 pr.length rcap2) HO14.out
                            simpa using this⟩
                          clear v0 v1 v2
                          obtain ⟨v0, v1, v2⟩ := cells_three HO14.out
                          have vf := free_box HO14.out 2
                          clear hb14 hg14 hq14 hpr2
                          go_wp2_with fail
                          go_meet
                          case rel => exact ⟨_, by rw [HRES.out]; simp, HO15.out, by rw [HRES.out]; exact HS14.out, HG14.out⟩
                    · have HN : Hold (highF L pl (s, dn) = none) := ⟨HHI.out.trans (bound_none (fun i' t hi ht => HALL.out i' t (by omega) ht))⟩
                      have HBR := Hold.mk (HTV.out.quiet HBQ.out)
                      have HOR := Hold.mk (kept HO9.out HBQ.out)
                      have HGR := Hold.mk (grown_below (b := some ob) HBQ.out)
                      go_wp2_with fail
                      go_meet
                      case rel => exact ⟨_, by rw [HN.out]; simp, HOR.out, by rw [HN.out]; exact HBR.out, HGR.out⟩
                case rest =>
                  obtain ⟨tx', rfl, ho, htr, hgr⟩ := hcut
                  generalize wc = W11 at *
                  obtain ⟨b2, hb2⟩ : ∃ b2, b2 = (highF L pl (s, dn)).isSome := ⟨_, rfl⟩
                  rw [← hb2]
                  obtain ⟨tl, htl⟩ : ∃ tl, tl = (highF L pl (s, dn)).getD pt := ⟨_, rfl⟩
                  rw [← htl] at htr
                  obtain ⟨ta2, tcap2, rfl, _⟩ := htr.shape
                  have HTL := Hold.mk htl
                  clear htl
                  have HB11 := Hold.mk (HB9.out.trans (grown_low hgr HB9.out.size (by have := HOW.out; omega)))
                  have HFR2 := Hold.mk (HFR.out.but HO9.out hgr)
                  have HTR := Hold.mk htr
                  have HRR := Hold.mk (kept HR.out HB11.out)
                  have HB2V := Hold.mk hb2
                  obtain ⟨c0, c1, c2⟩ := cells_three ho
                  obtain ⟨r0, r1, r2⟩ := cells_three HRR.out
                  have f0 := free_box HRR.out 0
                  have f1 := free_box HRR.out 1
                  have f2 := free_box HRR.out 2
                  clear ho htr hgr hb2
                  cases hsm : (b1 || b2) with
                  | false =>
                    have HSE : Hold (spanF L l = ((fl, tl), r)) := ⟨by
                      rw [HST.out, HTL.out, HPT.out, HBF.out.2]
                      unfold spanE
                      rw [← HBF.out.1, ← HB2V.out, hsm]
                      rfl⟩
                    clear hsm
                    go_wp2_with fail
                    obtain ⟨W, hW⟩ : ∃ W, W = ((W11.setCell ⟨w.heap.size + 2, 0, none⟩ (.int .i64 0)).setCell ⟨w.heap.size + 2, 1, none⟩ (.slice fa fl.length fcap)).setCell ⟨w.heap.size + 2, 2, none⟩ (.slice ta2 tl.length tcap2) := ⟨_, rfl⟩
                    rw [← hW]
                    have hbw : Below w.heap.size w W := by
                      rw [hW]
                      exact (((HB.out.trans (HB11.out.mono HB.out.size)).setCell (p := ⟨w.heap.size + 2, 0, none⟩) (by simp) _).setCell (p := ⟨w.heap.size + 2, 1, none⟩) (by simp) _).setCell (p := ⟨w.heap.size + 2, 2, none⟩) (by simp) _
                    have hbk : W.heap[w.heap.size + 2]? = some (.cells #[.int .i64 0, .slice fa fl.length fcap, .slice ta2 tl.length tcap2] 31 (0, 0)) := by
                      rw [hW, setP (setP (setP HRR.out))]; rfl
                    have hgw : W11.grownBy W (some (w.heap.size + 2)) := by
                      rw [hW]; exact grown_trans (grown_trans (grown_set _ _ _ _) (grown_set _ _ _ _)) (grown_set _ _ _ _)
                    have hf9 := HFR2.out.but HRR.out hgw
                    have ht9 := HTR.out.but HRR.out hgw
                    clear c0 c1 c2
                    obtain ⟨c0, c1, c2⟩ := cells_three hbk
                    refine bodyPost_ret (v := .tuple #[.agg #[.int .i64 0, .slice fa fl.length fcap, .slice ta2 tl.length tcap2], .int .i64 ((r : Nat) : Int)]) (by simp [results, Tryz.results45, go_sem, c0, c1, c2]) rfl ?_
                    rw [HSE.out]
                    exact ⟨_, _, rfl, hf9.bel HB.out.size, ht9.bel HB.out.size, hbw⟩
                  | true =>
                    have HSE : Hold (spanF L l = ((fl, tl), r + 1)) := ⟨by
                      rw [HST.out, HTL.out, HPT.out, HBF.out.2]
                      unfold spanE
                      rw [← HBF.out.1, ← HB2V.out, hsm]
                      rfl⟩
                    clear hsm
                    go_wp2_with fail
                    obtain ⟨W, hW⟩ : ∃ W, W = ((W11.setCell ⟨w.heap.size + 2, 0, none⟩ (.int .i64 0)).setCell ⟨w.heap.size + 2, 1, none⟩ (.slice fa fl.length fcap)).setCell ⟨w.heap.size + 2, 2, none⟩ (.slice ta2 tl.length tcap2) := ⟨_, rfl⟩
                    rw [← hW]
                    have hbw : Below w.heap.size w W := by
                      rw [hW]
                      exact (((HB.out.trans (HB11.out.mono HB.out.size)).setCell (p := ⟨w.heap.size + 2, 0, none⟩) (by simp) _).setCell (p := ⟨w.heap.size + 2, 1, none⟩) (by simp) _).setCell (p := ⟨w.heap.size + 2, 2, none⟩) (by simp) _
                    have hbk : W.heap[w.heap.size + 2]? = some (.cells #[.int .i64 0, .slice fa fl.length fcap, .slice ta2 tl.length tcap2] 31 (0, 0)) := by
                      rw [hW, setP (setP (setP HRR.out))]; rfl
                    have hgw : W11.grownBy W (some (w.heap.size + 2)) := by
                      rw [hW]; exact grown_trans (grown_trans (grown_set _ _ _ _) (grown_set _ _ _ _)) (grown_set _ _ _ _)
                    have hf9 := HFR2.out.but HRR.out hgw
                    have ht9 := HTR.out.but HRR.out hgw
                    clear c0 c1 c2
                    obtain ⟨c0, c1, c2⟩ := cells_three hbk
                    refine bodyPost_ret (v := .tuple #[.agg #[.int .i64 0, .slice fa fl.length fcap, .slice ta2 tl.length tcap2], .int .i64 ((r + 1 : Nat) : Int)]) (by simp [results, Tryz.results45, go_sem, c0, c1, c2]) rfl ?_
                    rw [HSE.out]
                    exact ⟨_, _, rfl, hf9.bel HB.out.size, ht9.bel HB.out.size, hbw⟩
        · obtain rfl : j = l.length := by omega
          have HSE : Hold (spanF L l = ((pl, pl ++ [255]), r)) := ⟨by rw [HSP.out, List.drop_length, spanP]⟩
          have HCL := Hold.mk (cloneB_any _ pl _ wo HP.out (by have := HPL.out; omega))
          go_wp2_with fail
          refine HCL.out.mono ?_
          rintro e w4 ⟨sk, rfl, hsk, hb4⟩
          have HSK := Hold.mk hsk
          have HQ4 := Hold.mk hb4
          obtain ⟨ka, kcap, rfl, _⟩ := hsk.shape
          clear hsk hb4 HCL
          go_wp2_with (at_builtin; refine app_new rfl _ _ rfl _ _ _ _ HSK.out rfl _ [255] rfl _ rfl (by simp) (Nat.succ_pos _) (by have := HPL.out; simp; omega) ?_)
          intro tx' W11 hb5 hg5
          obtain ⟨pt, hpt⟩ : ∃ pt, pt = pl ++ [255] := ⟨_, rfl⟩
          rw [← hpt] at hb5
          obtain ⟨ta, tcap, rfl, _⟩ := hb5.shape
          have HPT := Hold.mk hpt
          have hq5 := HQ4.out.trans (HSK.out.below hg5)
          have HB11 := Hold.mk (HBL.out.trans (hq5.mono HBL.out.size))
          have HFR2 := Hold.mk (HP.out.quiet hq5)
          have HTR := Hold.mk (hb5.bel HBL.out.size)
          have HRR := Hold.mk (kept HR.out HB11.out)
          obtain ⟨r0, r1, r2⟩ := cells_three HRR.out
          have f0 := free_box HRR.out 0
          have f1 := free_box HRR.out 1
          have f2 := free_box HRR.out 2
          clear hb5 hg5 hq5 hpt
          go_wp2_with fail
          obtain ⟨W, hW⟩ : ∃ W, W = ((W11.setCell ⟨w.heap.size + 2, 0, none⟩ (.int .i64 0)).setCell ⟨w.heap.size + 2, 1, none⟩ (.slice pa pl.length pcap)).setCell ⟨w.heap.size + 2, 2, none⟩ (.slice ta pt.length tcap) := ⟨_, rfl⟩
          rw [← hW]
          have hbw : Below w.heap.size w W := by
            rw [hW]
            exact (((HB.out.trans (HB11.out.mono HB.out.size)).setCell (p := ⟨w.heap.size + 2, 0, none⟩) (by simp) _).setCell (p := ⟨w.heap.size + 2, 1, none⟩) (by simp) _).setCell (p := ⟨w.heap.size + 2, 2, none⟩) (by simp) _
          have hbk : W.heap[w.heap.size + 2]? = some (.cells #[.int .i64 0, .slice pa pl.length pcap, .slice ta pt.length tcap] 31 (0, 0)) := by
            rw [hW, setP (setP (setP HRR.out))]; rfl
          have hgw : W11.grownBy W (some (w.heap.size + 2)) := by
            rw [hW]; exact grown_trans (grown_trans (grown_set _ _ _ _) (grown_set _ _ _ _)) (grown_set _ _ _ _)
          have hf9 := HFR2.out.but HRR.out hgw
          have ht9 := HTR.out.but HRR.out hgw
          obtain ⟨c0, c1, c2⟩ := cells_three hbk
          refine bodyPost_ret (v := .tuple #[.agg #[.int .i64 0, .slice pa pl.length pcap, .slice ta pt.length tcap], .int .i64 (r : Int)]) (by simp [results, Tryz.results45, go_sem, c0, c1, c2]) rfl ?_
          rw [HSE.out, ← HPT.out]
          exact ⟨_, _, rfl, hf9.bel HB.out.size, ht9.bel HB.out.size, hbw⟩

end Go.Proofs.YtcmfanfkcbjeoaaGreatDoor
