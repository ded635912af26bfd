/- Answers: Run of the program where nothing is skipped: what it hands back is a row of its own. (printed out of XAP) -/
import Derived.Test.YtkhhbckpddkhlaaDoorAP
namespace Go.Proofs.YtkhhbckpddkhlaaDoor
open Go.Shelf Go.RowKit

/-- a slice that is the whole of its block -/
def BaseRow (B : Nat) (a : Option Addr) (cap : Nat) (w : World) : Prop := (a = none ∧ cap = 0) ∨ ∃ g cur, a = some ⟨g, 0, none⟩ ∧ B ≤ g ∧ w.heap[g]? = some (.cells cur 33 (0, 0)) ∧ cur.size = cap * 6
theorem BaseRow.quiet {B : Nat} {a : Option Addr} {cap : Nat} {w w' : World} (h : BaseRow B a cap w) (hb : Below w.heap.size w w') : BaseRow B a cap w' := by
  rcases h with h | ⟨g, cur, h1, h2, h3, h4⟩
  · exact .inl h
  · exact .inr ⟨g, cur, h1, h2, kept h3 hb, h4⟩
theorem BaseRow.of_own {B p cap : Nat} {a : Option Addr} {w : World} {cs : List Value} (h : w.ownsRow B 33 6 (.slice a p cap) p cs) : BaseRow B a cap w := by
  rcases h.2 with ⟨hv, _⟩ | ⟨g, cap', cur, hv, hB, hg, _, _, hs, _⟩
  · simp only [Value.slice.injEq] at hv
    exact .inl ⟨hv.1, hv.2.2⟩
  · simp only [Value.slice.injEq] at hv
    obtain ⟨rfl, _, rfl⟩ := hv
    exact .inr ⟨g, cur, rfl, hB, hg, hs⟩
theorem BaseRow.set5A {B : Nat} {a : Option Addr} {cap : Nat} {w : World} {g o : Nat} {c0 c1 c2 c3 c4 : Value} (h : BaseRow B a cap w) : BaseRow B a cap (set5A w g o c0 c1 c2 c3 c4) := by
  rcases h with h | ⟨g', cur, h1, h2, h3, h4⟩
  · exact .inl h
  · by_cases e : g' = g
    · subst e
      exact .inr ⟨g', _, h1, h2, set_self (set_self (set_self (set_self (set_self h3)))), by simpa using h4⟩
    · refine .inr ⟨g', cur, h1, h2, ?_, h4⟩
      rw [Below.heap_setCell _ _ _ _ e, Below.heap_setCell _ _ _ _ e, Below.heap_setCell _ _ _ _ e, Below.heap_setCell _ _ _ _ e, Below.heap_setCell _ _ _ _ e]; exact h3
theorem PRow.own {B B1 B2 m cap : Nat} {a : Option Addr} {w : World} {xs : List DR} (h : PRow B w (.slice a m cap) xs) (hb : BaseRow B1 a cap w) (hm : xs.length = m) (hB2 : B2 ≤ B1) (hB : B2 ≤ w.heap.size) : ∃ cs, OwnS 6 RD 33 B2 w (.slice a m cap) m xs cs := by
  obtain ⟨a', cap', e, h1, h2⟩ := h.shape
  cases e
  rcases hb with ⟨rfl, rfl⟩ | ⟨g, cur, rfl, hg, hc, hs⟩
  · have h0 : xs = [] := List.length_eq_zero_iff.1 (by omega)
    subst h0
    exact ⟨[], OwnS.start _ _ _ hB⟩
  · have hle : xs.length * 6 ≤ cur.toList.length := (by have h3 : cur.toList.length = cur.size := (by simp); omega)
    refine ⟨cur.toList.take (xs.length * 6), ⟨by rw [List.length_take, Nat.min_eq_left hle], .inr ⟨g, cap, cur, rfl, Nat.le_trans hB2 hg, hc, h1, by unfold maxLen; omega, hs, rfl⟩⟩, rfl, ⟨by rw [List.length_take, Nat.min_eq_left hle], fun i x hx => ?_⟩, hB⟩
    obtain ⟨g2, off, cap2, d, e2, hd, hdc, hdr⟩ := h.lies i x hx
    simp only [Value.slice.injEq, Option.some.injEq, Addr.mk.injEq, and_true, true_and] at e2
    obtain ⟨⟨rfl, rfl⟩, rfl⟩ := e2
    refine ⟨d, hd, fun j u hu => ?_, hdr⟩
    have hj : j < 6 := by rw [← hd]; exact (List.getElem?_eq_some_iff.1 hu).1
    have hi := (List.getElem?_eq_some_iff.1 hx).1
    have h3 := hdc j u hu
    rw [cell_cur hc, Nat.zero_add] at h3
    rw [List.getElem?_take_of_lt (by omega)]
    simpa using h3
theorem addr_zeroA (x : Addr) : x.add 0 = x := by
  obtain ⟨b, o, v⟩ := x
  unfold Addr.add
  split <;> simp_all
/-- the end of a row; of one that nothing is skipped of, the row -/
theorem prow_tail0 {ts : TypeId} (a : Option Addr) (len cap k : Nat) (hts : Tryd.prog.underlying ts = some (.slice 33)) (he : Tryd.prog.elem ts = 33) (hk : k ≤ len) (hc : len ≤ cap) (hcap : cap ≤ 9223372036854775807) (h0 : k = 0) :
    ∃ a', (∀ w, (Instr.slice ts (.slice a len cap) (some (.int .i64 (k : Int))) Option.none Option.none).run Tryd.prog w = .ok (.slice a' (len - k) (cap - k)) w) ∧
      (∀ {B : Nat} {w : World} {xs : List DR}, xs.length = len → PRow B w (.slice a len cap) xs → PRow B w (.slice a' (len - k) (cap - k)) (xs.drop k)) ∧ a' = a := by
  subst h0
  obtain ⟨a', h1, h2⟩ := prow_tail a len cap 0 hts he hk hc hcap
  refine ⟨a', h1, h2, ?_⟩
  obtain ⟨i0, hi, hz1⟩ := Option.map_eq_some_iff.1 infoDp
  have hz2 : i0.size = 6 := by have := congrArg (fun p => p.2.1) hz1; simpa using this
  have hrun := run_slice_l (P := Tryd.prog) (w := World.holding Tryd.prog default ⟨#[], #[], []⟩) ts a len cap (by rw [he]; exact hts) .i64 ((0 : Nat) : Int) (by omega) (by omega)
  rw [h1] at hrun
  rw [he] at hrun
  simp [sizeOf, typeInfo, hi, hz2, Result.andThen, sliced] at hrun
  cases a with
  | none => simpa using hrun
  | some x => simpa [addr_zeroA] using hrun
/-- what Run hands back where nothing is skipped -/
def RunPostB (q : QR) (l : List DR) (w : World) (e : Ending) (w' : World) : Prop := ∃ sv cs, e = .returned (.tuple #[sv, .int .i64 (runE q l)]) ∧ OwnS 6 RD 33 w.heap.size w' sv (runO q l).length (runO q l) cs ∧ Below w.heap.size w w'
theorem run_badB {q : QR} {l : List DR} {w w' : World} {r : Int} (h : runE q l = r) (hr : r ≠ 0) (hb : Below w.heap.size w w') : RunPostB q l w (.returned (.tuple #[.slice none 0 0, .int .i64 r])) w' :=
  ⟨_, [], by rw [h], by unfold runO; rw [if_neg (by rw [h]; exact hr)]; exact OwnS.start _ _ _ hb.size, hb⟩
theorem run_goodB {q : QR} {l : List DR} {w w' : World} {sv : Value} {cs : List Value} {m : Nat} (h : runE q l = 0) (hm : (outA q l).length = m) (hs : OwnS 6 RD 33 w.heap.size w' sv m (outA q l) cs) (hb : Below w.heap.size w w') : RunPostB q l w (.returned (.tuple #[sv, .int .i64 0])) w' :=
  ⟨sv, cs, by rw [h], by unfold runO; rw [if_pos h, hm]; exact hs, hb⟩

set_option maxRecDepth 100000 in
set_option maxHeartbeats 32000000 in
theorem qRunB_any (q : QR) (l : List DR) (d : List Value) (lv : Value) (w : World) (hq : QAt (cf w) q d) (hl : SAt 6 RD (cf w) lv l) (hlen : l.length ≤ 1000000) (hid : ∀ x ∈ l, x.id.size ≤ 1000000) (hsz : ∀ o ∈ q.sort, o.path.size ≤ 1000000) (hfz : ∀ p ∈ q.fields, p.size ≤ 1000000) (hT : Tabs w) (hsk0 : q.skip = 0) :
    Calls Tryd.prog 8 #[.agg d.toArray, lv] w (RunPostB q l w) := by
  have HQA := Hold.mk hq
  have HSK0 := Hold.mk hsk0
  clear hsk0
  obtain ⟨k, n, t, na, nl, nc, ia, il, ic, sv, fv, rfl, hj, hs, hf⟩ := hq
  obtain ⟨sa, scap, rfl⟩ := hs.form
  obtain ⟨fa, fcap, rfl⟩ := hf.form
  obtain ⟨la, lcap, rfl, hle, hcap, hel⟩ := hl
  have hll3 : l.length ≤ 9223372036854775807 := by omega
  have HJ := Hold.mk hj
  have HE := Hold.mk hel
  have HID := Hold.mk hid
  have HSZ := Hold.mk hsz
  have HFZ := Hold.mk hfz
  have HT := Hold.mk hT
  have HLEN := Hold.mk hlen
  obtain ⟨W, hW⟩ : ∃ W, W = w.alloc (.cells #[.int .i64 k, .int .i64 n, .string t, .slice na nl nc, .slice ia il ic, .slice sa q.sort.length scap, .slice fa q.fields.length fcap, .int .i64 q.skip, .int .i64 q.lim] 28) := ⟨_, rfl⟩
  have hb : Below w.heap.size w W := by rw [hW]; exact (Below.refl _ w).alloc (Nat.le_refl _) _
  have HX : Hold (W.heap[w.heap.size]? = some (.cells #[.int .i64 k, .int .i64 n, .string t, .slice na nl nc, .slice ia il ic, .slice sa q.sort.length scap, .slice fa q.fields.length fcap, .int .i64 q.skip, .int .i64 q.lim] 28 (0, 0))) := ⟨by rw [hW]; exact heap_alloc_new w _⟩
  have HB := Hold.mk hb
  have HC := Hold.mk (qCheck_any q _ W (HQA.out.mono (cle_below hb)) hsz hfz (hT.below hb))
  clear hj hs hf hel hid hsz hfz hT hb
  go_enter Tryd.func8, Tryd.ntmps8
  go_upto_region 1 with (fail)
  rw [← hW]
  clear hW
  obtain ⟨y0, y1, y2, y3, y4, y5, y6, y7, y8⟩ := cells9A HX.out
  go_wp2_with fail
  refine HC.out.mono ?_
  rintro e w1 ⟨rfl, hb1⟩
  replace HX := Hold.mk (kept HX.out hb1)
  replace HB := Hold.mk (HB.out.trans (hb1.mono HB.out.size))
  clear hb1 HC y0 y1 y2 y3 y4 y5 y6 y7 y8
  by_cases h0 : qcheckF q = 0
  case neg =>
    have HR := Hold.mk (runE_check (l := l) h0)
    have HBF := HB.out
    have HN0 := Hold.mk h0
    generalize qcheckF q = r at h0 HR HN0 ⊢
    go_wp2_with fail
    go_ret2
    exact run_badB HR.out HN0.out HBF
  have H0 := Hold.mk h0
  rw [h0]
  clear h0
  have hmm := @run_makeMap Tryd.prog
  go_upto_region 5 with (fail)
  obtain ⟨W2, hW2⟩ : ∃ W2, W2 = w1.alloc (.map #[] 0) := ⟨_, rfl⟩
  have HL0 : Hold (RunL q l #[.int .i64 k, .int .i64 n, .string t, .slice na nl nc, .slice ia il ic, .slice sa q.sort.length scap, .slice fa q.fields.length fcap, .int .i64 q.skip, .int .i64 q.lim] w W2 w1.heap.size (.slice none 0 0) 0 0 []) := ⟨by
    have hb2 : Below w1.heap.size w1 W2 := by rw [hW2]; exact (Below.refl _ w1).alloc (Nat.le_refl _) _
    refine ⟨kept HX.out hb2, ?_, heap_lt HX.out, ?_, rfl, HB.out.trans (hb2.mono HB.out.size)⟩
    · rw [List.take_zero, hW2]; exact SeenM.start w1
    · have e : keepA q (l.take 0) = [] := by rw [List.take_zero]; rfl
      rw [e]
      exact OwnS.start _ _ _ (by rw [hW2]; simp)⟩
  rw [← hW2]
  clear hW2 HX HB hmm
  generalize w1.heap.size = bm at HL0 ⊢
  go_wp2_with fail
  go_loopw [8, 20] (fun sl i wr => ∃ (j p : Nat) (cs : List Value), i = .int .i64 j ∧ j ≤ l.length ∧ RunL q l #[.int .i64 k, .int .i64 n, .string t, .slice na nl nc, .slice ia il ic, .slice sa q.sort.length scap, .slice fa q.fields.length fcap, .int .i64 q.skip, .int .i64 q.lim] w wr bm sl j p cs) (fun _ i _ => l.length - (intOf i).toNat)
  case atStart => exact ⟨0, 0, [], rfl, Nat.zero_le _, HL0.out⟩
  case round =>
    obtain ⟨j, p, cs, rfl, hj, hr⟩ := hrel
    clear HL0
    have HR := Hold.mk hr
    obtain ⟨pa, pcap, rfl, _, _⟩ := own_shapeA hr.own.own
    have hpl : p ≤ l.length := by
      have h1 := hr.own.len
      have h2 := List.length_filter_le (fun d => HoldsP q.flt d.v) (l.take j)
      unfold keepA at h1
      rw [h1, List.length_take] at h2
      omega
    clear hr
    by_cases hlt : j < l.length
    · obtain ⟨x, hx⟩ : ∃ x, l[j]? = some x := ⟨l[j], List.getElem?_eq_getElem hlt⟩
      obtain ⟨b, off, d, rfl, hd, hc, hxi⟩ := HE.out j x hx
      have hxs := HID.out x (List.mem_of_getElem? hx)
      have HXX := Hold.mk hx
      have HXR := Hold.mk hxi
      obtain ⟨dk, dn, dt, dna, dnl, dnc, dia, dil, dic, rfl, _, hkd, hjd⟩ := hxi
      obtain ⟨id, xv⟩ := x
      simp only at hxs hkd hjd
      have HKD := Hold.mk hkd
      have HJD := Hold.mk hjd
      have hcl := cle_below HR.out.bel
      have z0 := hcl _ _ _ (hc 0 _ rfl)
      have z1 := hcl _ _ _ (hc 1 _ rfl)
      have z2 := hcl _ _ _ (hc 2 _ rfl)
      have z3 := hcl _ _ _ (hc 3 _ rfl)
      have z4 := hcl _ _ _ (hc 4 _ rfl)
      have z5 := hcl _ _ _ (hc 5 _ rfl)
      unfold cf at z0 z1 z2 z3 z4 z5
      rw [Nat.add_zero] at z0
      clear hx hd hc hcl hkd hjd
      go_upto_region 9 with (fail)
      clear z0 z1 z2 z3 z4 z5
      obtain ⟨W3, hW3⟩ : ∃ W3, W3 = wr.alloc (.cells #[.string id, .int .i64 dk, .int .i64 dn, .string dt, .slice dna dnl dnc, .slice dia dil dic] 33) := ⟨_, rfl⟩
      have hb3 : Below wr.heap.size wr W3 := by rw [hW3]; exact (Below.refl _ wr).alloc (Nat.le_refl _) _
      have HZ : Hold (W3.heap[wr.heap.size]? = some (.cells #[.string id, .int .i64 dk, .int .i64 dn, .string dt, .slice dna dnl dnc, .slice dia dil dic] 33 (0, 0))) := ⟨by rw [hW3]; exact heap_alloc_new wr _⟩
      rw [← hW3]
      clear hW3
      have HZH : Hold (∀ g, (Value.slice pa p pcap).ownBlock = some g → g ≠ wr.heap.size) := ⟨fun g hg => by have := (HR.out.own.low g hg).2; omega⟩
      have HZM : Hold (bm < wr.heap.size) := ⟨HR.out.sm.lt⟩
      replace HR := Hold.mk (HR.out.quiet hb3)
      clear hb3
      generalize wr.heap.size = zb at HZ HZH HZM ⊢
      have HD := Hold.mk (qDocument_any ⟨id, xv⟩ _ W3 (RD_mono _ _ _ _ (cle_below HR.out.bel) HXR.out) hxs (HT.out.below HR.out.bel))
      obtain ⟨dd, hdd⟩ : ∃ dd, docF ⟨id, xv⟩ = dd := ⟨_, rfl⟩
      rw [hdd] at HD
      have HDD := Hold.mk hdd
      clear hdd
      obtain ⟨z0, z1, z2, z3, z4, z5⟩ := cells6D HZ.out
      go_wp2_with fail
      refine HD.out.mono ?_
      rintro e w4 ⟨rfl, hb4⟩
      replace HR := Hold.mk (HR.out.quiet hb4)
      replace HZ := Hold.mk (kept HZ.out hb4)
      clear hb4 HD z0 z1 z2 z3 z4 z5
      obtain ⟨z0, z1, z2, z3, z4, z5⟩ := cells6D HZ.out
      cases dd with
      | false =>
        have HE2 := Hold.mk (runE_two H0.out (okA_stop HXX.out HR.out.ok (by rw [HDD.out]; rfl)))
        have HBF := HR.out.bel
        go_wp2_with fail
        go_ret2
        exact run_badB HE2.out (by decide) HBF
      | true =>
        have hlk := HR.out.sm.look id hxs
        obtain ⟨sn, hsn⟩ : ∃ sn, seenA (l.take j) id = sn := ⟨_, rfl⟩
        rw [hsn] at hlk
        have HSN := Hold.mk hsn
        clear hsn
        cases sn with
        | true =>
          have HE2 := Hold.mk (runE_two H0.out (okA_stop HXX.out HR.out.ok (by rw [HDD.out, HSN.out]; rfl)))
          have HBF := HR.out.bel
          go_wp2_with fail
          go_ret2
          exact run_badB HE2.out (by decide) HBF
        | false =>
          go_upto_region 11 with (fail)
          clear hlk
          obtain ⟨w5, hmu, hsm, hgm⟩ := HR.out.sm.put ⟨id, xv⟩ hxs (by rw [List.length_take]; have := HLEN.out; omega)
          have HN := Hold.mk (HR.out.id_ HXX.out hsm hgm)
          have HZ5 : Hold (w5.heap[zb]? = some (.cells #[.string id, .int .i64 dk, .int .i64 dn, .string dt, .slice dna dnl dnc, .slice dia dil dic] 33 (0, 0))) := ⟨by rw [hgm.block zb (heap_lt HZ.out) (fun e => by have := Option.some.inj e; have := HZM.out; omega)]; exact HZ.out⟩
          have HO4 := HR
          clear hsm hgm
          go_upto_region 12 with (fail)
          clear hmu z0 z1 z2 z3 z4 z5
          obtain ⟨z0, z1, z2, z3, z4, z5⟩ := cells6D HZ5.out
          obtain ⟨y0, y1, y2, y3, y4, y5, y6, y7, y8⟩ := cells9A HN.out.1
          have HHO := Hold.mk (Holds_any q.flt xv _ _ w5 (HJ.out.mono (cle_below HN.out.2.2.2.1)) (HJD.out.mono (cle_below HN.out.2.2.2.1)) (HT.out.below HN.out.2.2.2.1))
          obtain ⟨hh, hhh⟩ : ∃ hh, HoldsP q.flt xv = hh := ⟨_, rfl⟩
          rw [hhh] at HHO
          have HHH := Hold.mk hhh
          clear hhh
          go_wp2_with fail
          refine HHO.out.mono ?_
          rintro e w6 ⟨rfl, hb6⟩
          have HQ6 := Hold.mk (kept HN.out.1 hb6)
          have HS6 := Hold.mk (HN.out.2.1.quiet hb6)
          have HO6 := Hold.mk (HN.out.2.2.1.quiet RD_mono hb6)
          have HB6 := Hold.mk (HN.out.2.2.2.1.trans (hb6.mono HN.out.2.2.2.1.size))
          have HZ6 := Hold.mk (kept HZ5.out hb6)
          clear hb6 HN HZ5 HHO z0 z1 z2 z3 z4 z5 y0 y1 y2 y3 y4 y5 y6 y7 y8
          cases hh with
          | false =>
            have HNX := Hold.mk (RunL.drop_ HXX.out HO4.out HDD.out HSN.out HHH.out HQ6.out HS6.out HO6.out HB6.out)
            go_wp2_with fail
            exact ⟨⟨j + 1, p, cs, by go_num, hlt, HNX.out⟩, by simp [intOf]; omega⟩
          | true =>
            have HRI : Hold (RD (cfN (.slice pa p pcap) w6) ⟨id, xv⟩ [.string id, .int .i64 dk, .int .i64 dn, .string dt, .slice dna dnl dnc, .slice dia dil dic]) := ⟨RD_mono _ _ _ _ (cle_cfN_old HB6.out (fun g hg => by have := (HO6.out.low g hg).1; have := HO4.out.low; have := HO4.out.bel.size; have h2 := HR.out.low; omega)) HXR.out⟩
            obtain ⟨z0, z1, z2, z3, z4, z5⟩ := cells6D HZ6.out
            go_wp2_with (at_builtin; refine push_new RD_mono rfl _ _ rfl infoDp Tryd.underlying29 rfl (by decide) _ _ _ p _ _ HO6.out rfl _ [_, _, _, _, _, _] rfl rfl (by simp [Value.oneCell']) ⟨id, xv⟩ HRI.out _ rfl rfl (by have := HLEN.out; omega) (by decide) ?_)
            intro sl2 w9 ho9 hg9
            have HNX := Hold.mk (RunL.take_ HXX.out HO4.out HDD.out HSN.out HHH.out (hg9.kept HQ6.out (fun g hg => by have := (HO6.out.low g hg).1; have := HO4.out.low; omega)) (HS6.out.grown hg9.by_ (fun e => by have := (HO6.out.low bm e.symm).1; omega)) ho9 (HB6.out.trans (hg9.below HB6.out.size (fun g hg => by have := (HO6.out.low g hg).1; have := HO4.out.low; omega))))
            clear ho9 hg9 z0 z1 z2 z3 z4 z5
            go_wp2_with fail
            exact ⟨⟨j + 1, p + 1, _, by go_num, hlt, HNX.out⟩, by simp [intOf]; omega⟩
    · obtain rfl : j = l.length := by omega

      have HOK : Hold (okA [] l = true) := ⟨by have := HR.out.ok; rwa [List.take_of_length_le (Nat.le_refl _)] at this⟩
      have HBM : Hold (w.heap.size < bm) := ⟨HR.out.low⟩
      have HSRT := Hold.mk (sort_all q _ w.heap.size (bm + 1) p _ _ cs wr HR.out.own (by have := HLEN.out; omega) HR.out.qb (by have := HR.out.low; omega) (HQA.out.mono (cle_cfN_old HR.out.bel (fun g hg => by have := (HR.out.own.low g hg).1; have := HR.out.low; omega))) HSZ.out (fun w' h => HT.out.below (HR.out.bel.trans (h.mono (by have := HR.out.low; omega)))))
      obtain ⟨y0, y1, y2, y3, y4, y5, y6, y7, y8⟩ := cells9A HR.out.qb
      go_wp2_with fail
      refine HSRT.out.mono ?_
      rintro e w10 ⟨rfl, xs, cs2, hperm, hsrt, ho2, hg2⟩
      have HX10 : Hold (w10.heap[w.heap.size]? = some (.cells #[.int .i64 k, .int .i64 n, .string t, .slice na nl nc, .slice ia il ic, .slice sa q.sort.length scap, .slice fa q.fields.length fcap, .int .i64 q.skip, .int .i64 q.lim] 28 (0, 0))) := ⟨by rw [hg2.block _ (heap_lt HR.out.qb) (fun e => by have := (HR.out.own.low _ e.symm).1; have := HR.out.low; omega)]; exact HR.out.qb⟩
      have HB10 : Hold (Below w.heap.size w w10) := ⟨HR.out.bel.grown hg2 HR.out.bel.size (fun g hg => by have := (HR.out.own.low g hg).1; have := HR.out.low; omega)⟩
      have HXS : Hold (xs = sortA q l) := ⟨sorted_is HOK.out (by have := hperm; unfold keepA at this; rwa [List.take_of_length_le (Nat.le_refl _)] at this) hsrt⟩
      have HPW := Hold.mk (PRow.of_own ho2)
      have HBA := Hold.mk (BaseRow.of_own ho2.own)
      have hxl := ho2.len
      have hbd := qcheck_bounds H0.out
      obtain ⟨_, _, hpe, hpcap, hpcap2⟩ := own_shapeA ho2.own
      cases hpe
      clear hperm hsrt ho2 hg2 HSRT HR y0 y1 y2 y3 y4 y5 y6 y7 y8 hpl
      obtain ⟨sk, hsk⟩ : ∃ sk : Nat, q.skip = sk := ⟨q.skip.toNat, by omega⟩
      obtain ⟨lm, hlm⟩ : ∃ lm : Nat, q.lim = lm := ⟨q.lim.toNat, by omega⟩
      have HSK := Hold.mk hsk
      have HLM := Hold.mk hlm
      clear hsk hlm
      obtain ⟨kk, hkk⟩ : ∃ kk, kk = min sk p := ⟨_, rfl⟩
      have HKK := Hold.mk hkk
      have hkp : kk ≤ p := by omega
      obtain ⟨a1, hsl, hst, hae⟩ := prow_tail0 pa p pcap kk Tryd.underlying29 (by kernel_rfl) hkp hpcap hpcap2 (by have := HSK0.out; have := HSK.out; omega)
      have HAE := Hold.mk hae
      have HTL := Hold.mk (hst hxl HPW.out)
      have HXL := Hold.mk hxl
      have HBA1 : Hold (BaseRow (bm + 1) a1 (pcap - kk) w10) := ⟨by
        rw [HAE.out, show pcap - kk = pcap by have := HSK0.out; have := HSK.out; omega]; exact HBA.out⟩
      clear hst hbd hkk hae HAE HBA
      go_upto_region 16 with (fail)
      go_cut [8] (fun s wx => s = .slice a1 (p - kk) (pcap - kk) ∧ wx = w10)
      case first =>
        obtain ⟨y0, y1, y2, y3, y4, y5, y6, y7, y8⟩ := cells9A HX10.out
        have hkI : (kk : Int) = min q.skip (p : Int) := by have := HKK.out; have := HSK.out; omega
        rw [hkI] at hsl
        clear hkI
        go_wp2_with fail
        go_meet
        case rel => exact ⟨rfl, rfl⟩
      case rest =>
      obtain ⟨rfl, hwc⟩ := hcut
      generalize wc = wd at *
      subst hwc
      rename World => w10
      clear hsl
      obtain ⟨m1, hm1⟩ : ∃ m1, m1 = p - kk := ⟨_, rfl⟩
      obtain ⟨c1, hc1⟩ : ∃ c1, c1 = pcap - kk := ⟨_, rfl⟩
      have hmc : m1 ≤ c1 := by omega
      have hcc : c1 ≤ 9223372036854775807 := by omega
      have HDL : Hold ((xs.drop kk).length = m1) := ⟨by rw [List.length_drop, HXL.out, hm1]⟩
      rw [← hc1] at HBA1
      rw [← hm1, ← hc1] at HTL ⊢
      clear hm1 hc1
      obtain ⟨m2, hm2⟩ : ∃ m2, m2 = if q.lim = 0 then m1 else min lm m1 := ⟨_, rfl⟩
      have HM2 := Hold.mk hm2
      obtain ⟨ys, hys⟩ : ∃ ys, ys = pageA q xs := ⟨_, rfl⟩
      have HYS := Hold.mk hys
      have HY : Hold (PRow (bm + 1) w10 (.slice a1 m2 c1) ys ∧ ys.length = m2) := ⟨by
        have e0 : xs.drop kk = xs.drop q.skip.toNat := by
          rw [HKK.out, drop_minA _ _ _ HXL.out, HSK.out, Int.toNat_natCast]
        rw [hys, hm2]
        unfold pageA
        by_cases hl0 : q.lim = 0
        · rw [if_pos hl0, if_pos hl0, ← e0]
          exact ⟨HTL.out, HDL.out⟩
        · rw [if_neg hl0, if_neg hl0, ← e0, show q.lim.toNat = lm by have := HLM.out; omega]
          have h := (prow_head a1 m1 c1 (min lm m1) Tryd.underlying29 (by kernel_rfl) (Nat.min_le_right _ _) hmc).2 HDL.out HTL.out
          rw [take_minA _ _ _ HDL.out] at h
          exact ⟨h, by rw [List.length_take, HDL.out]⟩⟩
      have HM3 : Hold (m2 ≤ m1) := ⟨by rw [hm2]; split <;> omega⟩
      clear hm2 hys HPW
      go_upto_region 17 with (fail)
      obtain ⟨y0, y1, y2, y3, y4, y5, y6, y7, y8⟩ := cells9A HX10.out
      go_upto_if 58 with (fail)
      go_cut [8] (fun s wx => s = .slice a1 m2 c1 ∧ wx = w10)
      case first =>
        by_cases hl0 : (0 : Int) < q.lim
        · have hkI : (m2 : Int) = min q.lim (m1 : Int) := by have h2 := HM2.out; rw [if_neg (by omega)] at h2; have := HLM.out; omega
          obtain ⟨hsl, _⟩ := prow_head a1 m1 c1 m2 Tryd.underlying29 (by kernel_rfl) HM3.out hmc
          rw [hkI] at hsl
          clear hkI
          go_wp2_with fail
          go_meet
          case rel => exact ⟨rfl, rfl⟩
        · have hkI : m2 = m1 := by have := HM2.out; rw [if_pos (by have := HLM.out; omega)] at this; exact this
          have HK := Hold.mk hkI
          clear hkI
          go_wp2_with fail
          go_meet
          case rel => exact ⟨by rw [HK.out], rfl⟩
      case rest =>
      obtain ⟨rfl, hwc⟩ := hcut
      generalize wc = wd at *
      subst hwc
      rename World => w10
      clear y0 y1 y2 y3 y4 y5 y6 y7 y8
      have hm2c : m2 ≤ 9223372036854775807 := by have := HM3.out; omega
      go_wp2_with fail
      go_loopw [68] (fun i wr => ∃ (j : Nat), i = .int .i64 j ∧ j ≤ m2 ∧ wr.heap[w.heap.size]? = some (.cells #[.int .i64 k, .int .i64 n, .string t, .slice na nl nc, .slice ia il ic, .slice sa q.sort.length scap, .slice fa q.fields.length fcap, .int .i64 q.skip, .int .i64 q.lim] 28 (0, 0)) ∧ PRow (bm + 1) wr (.slice a1 m2 c1) (halfA q ys j) ∧ BaseRow (bm + 1) a1 c1 wr ∧ Below w.heap.size w wr) (fun i _ => m2 - (intOf i).toNat)
      case atStart => exact ⟨0, rfl, Nat.zero_le _, HX10.out, by rw [halfA_zero]; exact HY.out.1, HBA1.out, HB10.out⟩
      case round =>
        obtain ⟨j, rfl, hj, hx, hpr, hba, hbl⟩ := hrel
        have HBA := Hold.mk hba
        clear hba HBA1
        have HXX := Hold.mk hx
        have HPR := Hold.mk hpr
        have HBL := Hold.mk hbl
        clear hx hpr hbl HX10 HB10 HTL
        by_cases hlt : j < m2
        · obtain ⟨x, hyx⟩ : ∃ x, ys[j]? = some x := ⟨ys[j]'(by rw [HY.out.2]; exact hlt), List.getElem?_eq_getElem (by rw [HY.out.2]; exact hlt)⟩
          have HYX := Hold.mk hyx
          obtain ⟨g, off, cap3, d, e2, hd, hdc, hdr⟩ := HPR.out.lies j x (halfA_at q hyx)
          simp only [Value.slice.injEq] at e2
          obtain ⟨rfl, -, -⟩ := e2
          obtain ⟨i2, xv⟩ := x
          obtain ⟨dk, dn, dt, dna, dnl, dnc, dia, dil, dic, rfl, hds, hkd, hjd⟩ := hdr
          simp only at hkd hjd hds
          have HDC := Hold.mk hdc
          have HJD := Hold.mk hjd
          have HDS := Hold.mk hds
          obtain ⟨hgB, cur, hcur⟩ := HPR.out.low g rfl
          have HGB := Hold.mk hgB
          clear hyx hd hdc hkd hjd hds
          obtain ⟨y0, y1, y2, y3, y4, y5, y6, y7, y8⟩ := cells9A HXX.out
          have hbm2 := HBM.out
          have g0 := GrowB.cell (B := bm + 1) y0 (by omega)
          have g1 := GrowB.cell (B := bm + 1) y1 (by omega)
          have g2 := GrowB.cell (B := bm + 1) y2 (by omega)
          have g3 := GrowB.cell (B := bm + 1) y3 (by omega)
          have g4 := GrowB.cell (B := bm + 1) y4 (by omega)
          have g5 := GrowB.cell (B := bm + 1) y5 (by omega)
          have g6 := GrowB.cell (B := bm + 1) y6 (by omega)
          have g7 := GrowB.cell (B := bm + 1) y7 (by omega)
          have g8 := GrowB.cell (B := bm + 1) y8 (by omega)
          have h1 := BoxT.cell (B := bm + 1) (HDC.out 1 _ rfl)
          have h2 := BoxT.cell (B := bm + 1) (HDC.out 2 _ rfl)
          have h3 := BoxT.cell (B := bm + 1) (HDC.out 3 _ rfl)
          have h4 := BoxT.cell (B := bm + 1) (HDC.out 4 _ rfl)
          have h5 := BoxT.cell (B := bm + 1) (HDC.out 5 _ rfl)
          clear y0 y1 y2 y3 y4 y5 y6 y7 y8 hbm2 hgB hcur
          go_upto_region 22 with (fail)
          refine wp_region_mixL (KeepC (bm + 1) g wr [8]) 12 rfl (by kernel_rfl) ?_
          obtain ⟨w3, hw3⟩ : ∃ w3, w3 = wr.drew := ⟨_, rfl⟩
          have hb3 : Below wr.heap.size wr w3 := by rw [hw3]; exact (Below.refl _ _).drew
          have HK3 : Hold (Below (bm + 1) wr w3 ∧ w3.heap[g]? = wr.heap[g]?) := ⟨by rw [hw3]; exact ⟨(Below.refl _ _).drew, rfl⟩⟩
          rw [← hw3]
          have HXX3 := Hold.mk (kept HXX.out hb3)
          have HPR3 := Hold.mk (HPR.out.quiet hb3)
          have HBA3 := Hold.mk (HBA.out.quiet hb3)
          have HBL3 := Hold.mk (HBL.out.trans (hb3.mono HBL.out.size))
          have HJ3 := Hold.mk (HJD.out.mono (cfN_quiet hb3))
          clear hw3 hb3
          refine mixL_seg (by kernel_rfl) (fun _ _ d _ _ h => by cases d <;> exact h) (GrowBC (bm + 1) wr) keepC_base [0, 1, 2, 3, 4, 5, 6] (keepC_back rfl) [_, _, _, _, _, _, _] 5 12 rfl _ _ _ rfl (by kernel_rfl) ?_
          repeat (go_big_quiet_step (fail))
          refine wpQuiet_nil ?_
          clear g0 g1 g2 g3 g4 g5 g6 g7 g8
          refine mixL_one (by kernel_rfl) (fun _ _ d _ _ h => by cases d <;> exact h) (BoxC (bm + 1) g wr) 8 (keepC_box (by decide)) 7 (fun l w => keepC_back (is := [7]) rfl 7 (by simp) l w) _ 4 _ _ _ rfl (by kernel_rfl) (by kernel_rfl) (by kernel_rfl) ?_
          repeat (go_big_quiet_step (fail))
          refine wpQuiet_nil ?_
          clear h1 h2 h3 h4 h5
          refine mixL_act (i := 8) rfl (by kernel_rfl) (keepC_on HK3.out.1 HK3.out.2) rfl (fun K hK => ?_)
          go_wp2_with fail
          refine (qProject_any (cfN (.slice (some ⟨g, off, none⟩) m2 c1) w3) q _ xv _ w3 (HQA.out.mono (cle_below HBL3.out)) ((cfN_cf _ _).trans (cle_cfU _)) HJ3.out HFZ.out (HT.out.below HBL3.out)).mono ?_
          rintro e w4 ⟨pk, pn, pt, pna, pnl, pnc, pia, pil, pic, rfl, hpj, hb4⟩
          have HPR4 := Hold.mk (HPR3.out.quiet hb4)
          have HBA4 := Hold.mk (HBA3.out.quiet hb4)
          have HXX4 := Hold.mk (kept HXX3.out hb4)
          have HBL4 := Hold.mk (HBL3.out.trans (hb4.mono HBL3.out.size))
          have hgl : g < w3.heap.size := by obtain ⟨cur3, hc3⟩ := (HPR3.out.low g rfl).2; exact heap_lt hc3
          have HK4 : Hold (Below (bm + 1) wr w4) := ⟨HK3.out.1.trans (hb4.mono (by have := HGB.out; omega))⟩
          have HRD : Hold (RD (cfN (.slice (some ⟨g, off, none⟩) m2 c1) w4) (projA q ⟨i2, xv⟩) [.string i2, .int .i64 pk, .int .i64 pn, .string pt, .slice pna pnl pnc, .slice pia pil pic]) := ⟨rd_new HDS.out (hpj.mono (fun b o u hu => by
            unfold cfV at hu
            split at hu
            · exact cfN_quiet hb4 _ _ _ hu
            · unfold cfN
              rw [if_neg (fun e => by have : g = b := by simpa [Value.ownBlock] using e
                                      omega)]
              exact hu))⟩
          obtain ⟨cur4, hc4⟩ := (HPR4.out.low g rfl).2
          have HST := Hold.mk (HPR4.out.set (halfA_at q HYX.out) rfl HRD.out)
          have hl4 : ∀ j', j' < 6 → ∃ u, w4.cell? ⟨g, off + j * 6 + j', none⟩ = some u := fun j' hj' => by
            obtain ⟨g', off', cap', d', e', hd', hdc', _⟩ := HPR4.out.lies j _ (halfA_at q HYX.out)
            simp only [Value.slice.injEq, Option.some.injEq, Addr.mk.injEq, and_true] at e'
            obtain ⟨⟨rfl, rfl⟩, _⟩ := e'
            exact ⟨_, hdc' j' _ (List.getElem?_eq_getElem (by omega))⟩
          have HL4 := Hold.mk hl4
          have HBN : Hold (g ≠ w.heap.size ∧ w.heap.size ≤ g ∧ bm + 1 ≤ g) := ⟨by have := HGB.out; have := HBM.out; omega⟩
          have HE0 : Hold (Below (bm + 1) wr (set5A w4 g (off + j * 6 + 1) (.int .i64 pk) (.int .i64 pn) (.string pt) (.slice pna pnl pnc) (.slice pia pil pic))) := ⟨HK4.out.grown HST.out.2 (Nat.le_of_lt (Nat.lt_of_le_of_lt HBN.out.2.2 (heap_lt hc4))) (fun k hk => by rw [← Option.some.inj hk]; exact HBN.out.2.2)⟩
          have HE1 : Hold ((set5A w4 g (off + j * 6 + 1) (.int .i64 pk) (.int .i64 pn) (.string pt) (.slice pna pnl pnc) (.slice pia pil pic)).heap[w.heap.size]? = some (.cells #[.int .i64 k, .int .i64 n, .string t, .slice na nl nc, .slice ia il ic, .slice sa q.sort.length scap, .slice fa q.fields.length fcap, .int .i64 q.skip, .int .i64 q.lim] 28 (0, 0))) := ⟨by rw [HST.out.2.block _ (heap_lt HXX4.out) (fun e => HBN.out.1 (Option.some.inj e).symm)]; exact HXX4.out⟩
          have HE2 : Hold (PRow (bm + 1) (set5A w4 g (off + j * 6 + 1) (.int .i64 pk) (.int .i64 pn) (.string pt) (.slice pna pnl pnc) (.slice pia pil pic)) (.slice (some ⟨g, off, none⟩) m2 c1) (halfA q ys (j + 1))) := ⟨by have h := HST.out.1; rw [halfA_set q HYX.out] at h; exact h⟩
          have HE3 : Hold (Below w.heap.size w (set5A w4 g (off + j * 6 + 1) (.int .i64 pk) (.int .i64 pn) (.string pt) (.slice pna pnl pnc) (.slice pia pil pic))) := ⟨HBL4.out.grown HST.out.2 HBL4.out.size (fun k hk => by rw [← Option.some.inj hk]; exact HBN.out.2.1)⟩
          have HE4 : Hold (BaseRow (bm + 1) (some ⟨g, off, none⟩) c1 (set5A w4 g (off + j * 6 + 1) (.int .i64 pk) (.int .i64 pn) (.string pt) (.slice pna pnl pnc) (.slice pia pil pic))) := ⟨HBA4.out.set5A⟩
          have f0 : ∀ j, w4.frozen? ⟨g, j, none⟩ = false := free_box hc4
          clear hpj hb4 hgl hc4 hl4
          go_wp2_with fail
          refine mixL_seg (by kernel_rfl) (fun _ _ d _ _ h => by cases d <;> exact h) (GrowBC (bm + 1) wr) keepC_base [9, 10] (keepC_back rfl) [_, _] 1 3 rfl _ _ _ rfl (by kernel_rfl) ?_
          repeat (go_big_quiet_step (fail))
          refine wpQuiet_nil ?_
          obtain ⟨u1, e1⟩ := HL4.out 1 (by omega)
          obtain ⟨u2, e2⟩ := HL4.out 2 (by omega)
          obtain ⟨u3, e3⟩ := HL4.out 3 (by omega)
          obtain ⟨u4, e4⟩ := HL4.out 4 (by omega)
          obtain ⟨u5, e5⟩ := HL4.out 5 (by omega)
          refine mixL_act (i := 11) rfl (by kernel_rfl) (keepC_off HK4.out (by kernel_rfl)) rfl (fun K hK => ?_)
          go_wp2_with fail
          refine mixL_done (by kernel_rfl) (keepC_off HE0.out (by kernel_rfl)) ?_
          go_wp2_with fail
          exact ⟨⟨j + 1, by go_num, hlt, HE1.out, HE2.out, HE4.out, HE3.out⟩, by simp [intOf]; omega⟩
        · have hjm : j = m2 := by omega
          have HSA : Hold ((outA q l).length = m2 ∧ ∃ cs, OwnS 6 RD 33 w.heap.size wr (.slice a1 m2 c1) m2 (outA q l) cs) := ⟨by
            have e : halfA q ys j = outA q l := by rw [hjm, ← HY.out.2]; rw [halfA_all q ys, HYS.out, HXS.out]; rfl
            have hl : (outA q l).length = m2 := by rw [← e, halfA_len]; exact HY.out.2
            have h := HPR.out
            rw [e] at h
            exact ⟨hl, h.own HBA.out hl (by have := HBM.out; omega) HBL.out.size⟩⟩
          have HR0 := Hold.mk (runE_of H0.out HOK.out)
          have HBF := HBL.out
          clear hjm
          go_wp2_with fail
          go_ret2
          obtain ⟨h1, cs, h2⟩ := HSA.out
          exact run_goodB HR0.out h1 h2 HBF

end Go.Proofs.YtkhhbckpddkhlaaDoor
