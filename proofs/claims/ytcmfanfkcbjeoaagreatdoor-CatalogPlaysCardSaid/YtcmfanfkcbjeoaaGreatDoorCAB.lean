/- Catalogs: DropIndex of the reference, acted of the laws, Ints (printed by genXCAB.py). -/
import Derived.Test.YtcmfanfkcbjeoaaGreatDoorCX
namespace Go.Proofs.YtcmfanfkcbjeoaaGreatDoor
open Go.Shelf Go.RowKit

set_option maxRecDepth 100000 in
set_option maxHeartbeats 32000000 in
theorem rDropIndex_any (l : List CX) (v : Value) (s t : ByteArray) (w : World) (h : CatAt (cf w) l v) (hsm : SmallC l) (hns : (spacesC l).length ≤ 1000000) :
    Calls Tryz.prog 54 #[v, .string s, .string t] w (CatPost w (dropIF l s t)) := by
  have HCV := Hold.mk h
  obtain ⟨a, cap, W00, rfl, _, _, _, _, hle, hcap, hel⟩ := boxed_cat h
  have HE := Hold.mk hel
  have HSM := Hold.mk hsm
  obtain ⟨r, hr⟩ : ∃ r, r = dropIF l s t := ⟨_, rfl⟩
  rw [← hr]
  have HR := Hold.mk hr
  obtain ⟨W0, hW0⟩ : ∃ W0, W0 = (w.alloc (.cells #[.slice a l.length cap] 57)).alloc (.cells #[.slice none 0 0] 57) := ⟨_, rfl⟩
  have hb0 : Below w.heap.size w W0 := by rw [hW0]; exact ((Below.refl _ w).alloc (Nat.le_refl _) _).alloc (by simp <;> omega) _
  have e0 : W0.heap[w.heap.size]? = some (.cells #[.slice a l.length cap] 57 (0, 0)) := by
    rw [hW0, Below.heap_alloc _ _ _ (by simp <;> omega)]; exact heap_alloc_new w _
  have e1 : W0.heap[w.heap.size + 1]? = some (.cells #[.slice none 0 0] 57 (0, 0)) := by
    rw [hW0]
    have := heap_alloc_new (w.alloc (.cells #[.slice a l.length cap] 57)) (.cells #[.slice none 0 0] 57)
    simpa using this
  have HB0 := Hold.mk hb0
  have HK0 := Hold.mk e0
  have HK1 := Hold.mk e1
  have HZ0 : Hold (W0.heap.size = w.heap.size + 2) := ⟨by rw [hW0]; simp⟩
  have HCA : Hold (∀ wn, Below (w.heap.size + 2) W0 wn → CatAt (cf wn) l (.agg #[.slice a l.length cap]) ∧ wn.cell? ⟨w.heap.size, 0, none⟩ = some (.slice a l.length cap) ∧ wn.heap[w.heap.size + 1]? = some (.cells #[.slice none 0 0] 57 (0, 0)) ∧ Below w.heap.size w wn ∧ w.heap.size + 2 ≤ wn.heap.size ∧ True) := ⟨fun wn hb => by
    have h1 := HB0.out.trans (hb.mono (by omega))
    have h2 : wn.heap[w.heap.size]? = some (.cells #[.slice a l.length cap] 57 (0, 0)) := by rw [hb.block _ (by omega)]; exact HK0.out
    exact ⟨HCV.out.mono (cle_below h1), by simp [World.cell?, h2], by rw [hb.block _ (by omega)]; exact HK1.out, h1, by have := hb.size; have := HZ0.out; omega, trivial⟩⟩
  clear hel hr hb0 e0 e1 h
  obtain ⟨hca, y0, hr1, hbw, hsz, hxb⟩ := HCA.out W0 (by rw [HZ0.out] at *; exact Below.refl _ _)
  have HFO := Hold.mk (rFormedC_any l _ W0 hca hsm hns)
  have HNS := Hold.mk hns
  clear hca hr1 hbw hns hsm hsz hxb
  go_enter Tryz.func54, Tryz.ntmps54
  go_upto_region 1 with (fail)
  rw [← hW0]
  clear hW0
  go_wp2_with fail
  refine HFO.out.mono ?_
  rintro e w1 ⟨rfl, hb1⟩
  have HB1 : Hold (Below (w.heap.size + 2) W0 w1) := ⟨by rw [← HZ0.out]; exact hb1⟩
  clear hb1 HFO y0
  obtain ⟨hca, y0, hr1, hbw, hsz, hxb⟩ := HCA.out w1 HB1.out
  cases hfo : formC l with
  | false =>
    have HX : Hold (r = ([], 2)) := ⟨by rw [HR.out]; unfold dropIF; rw [hfo]; rfl⟩
    clear hfo hca
    have hf1 : w1.frozen? ⟨w.heap.size + 1, 0, none⟩ = false := free_box hr1 0
    have hx1 : w1.cell? ⟨w.heap.size + 1, 0, none⟩ = some (.slice none 0 0) := by
      have := hr1
      simp [World.cell?, this]
    go_wp2_with fail
    clear hf1 hx1
    obtain ⟨W, hW⟩ : ∃ W, W = w1.setCell ⟨w.heap.size + 1, 0, none⟩ (.slice none 0 0) := ⟨_, rfl⟩
    rw [← hW]
    have hk : W.heap[w.heap.size + 1]? = some (.cells #[.slice none 0 0] 57 (0, 0)) := by
      rw [hW]
      have := set_self (o := 0) (c := .slice none 0 0) hr1
      simpa using this
    have hx : W.cell? ⟨w.heap.size + 1, 0, none⟩ = some (.slice none 0 0) := by simp [World.cell?, hk]
    have hb : Below w.heap.size w W := by rw [hW]; exact bsetZ hbw (by omega)
    refine bodyPost_ret (v := .tuple #[.agg #[.slice none 0 0], .int .i64 2]) (by simp [results, Tryz.results54, go_sem, hx]) rfl ?_
    exact cat_err HX.out hb
  | true =>
  have HFO := Hold.mk hfo
  have HRN : Hold (r = match l[(findI (nameIs s) l).toNat]? with
    | none => ([], 4)
    | some y => if findI (nameIs s) l < 0 then ([], 4) else if findI (nameIsP t) y.ixs < 0 then ([], 4) else
      (l.set (findI (nameIs s) l).toNat ⟨y.name, y.sp, delZ (findI (nameIsP t) y.ixs).toNat y.ixs⟩, 0)) := ⟨by rw [HR.out]; unfold dropIF; rw [HFO.out, if_neg (by decide)]; rfl⟩
  have HFI := Hold.mk (rFind_any l _ s w1 hca)
  clear hfo hr1 hbw hca hsz hxb
  go_wp2_with fail
  refine HFI.out.mono ?_
  rintro e w3 ⟨rfl, hb3⟩
  have HB3 : Hold (Below (w.heap.size + 2) W0 w3) := ⟨HB1.out.trans (hb3.mono (HCA.out w1 HB1.out).2.2.2.2.1)⟩
  clear hb3 HFI y0
  obtain ⟨hca, y0, hr1, hbw, hsz, hxb⟩ := HCA.out w3 HB3.out
  have hcs := findI_cases (nameIs s) l
  generalize findI (nameIs s) l = fi at *
  rcases hcs with rfl | ⟨k, y, rfl, hky, _⟩
  · have HX : Hold (r = ([], 4)) := ⟨by
      rw [HRN.out]
      cases l[(-1 : Int).toNat]? with
      | none => rfl
      | some y => simp only; rw [if_pos (by decide)]⟩
    clear hca
    have hf1 : w3.frozen? ⟨w.heap.size + 1, 0, none⟩ = false := free_box hr1 0
    have hx1 : w3.cell? ⟨w.heap.size + 1, 0, none⟩ = some (.slice none 0 0) := by
      have := hr1
      simp [World.cell?, this]
    go_wp2_with fail
    clear hf1 hx1
    obtain ⟨W, hW⟩ : ∃ W, W = w3.setCell ⟨w.heap.size + 1, 0, none⟩ (.slice none 0 0) := ⟨_, rfl⟩
    rw [← hW]
    have hk : W.heap[w.heap.size + 1]? = some (.cells #[.slice none 0 0] 57 (0, 0)) := by
      rw [hW]
      have := set_self (o := 0) (c := .slice none 0 0) hr1
      simpa using this
    have hx : W.cell? ⟨w.heap.size + 1, 0, none⟩ = some (.slice none 0 0) := by simp [World.cell?, hk]
    have hb : Below w.heap.size w W := by rw [hW]; exact bsetZ hbw (by omega)
    refine bodyPost_ret (v := .tuple #[.agg #[.slice none 0 0], .int .i64 4]) (by simp [results, Tryz.results54, go_sem, hx]) rfl ?_
    exact cat_err HX.out hb
  have hkl : k < l.length := (List.getElem?_eq_some_iff.1 hky).1
  replace HRN : Hold (r = if findI (nameIsP t) y.ixs < 0 then ([], 4) else (l.set k ⟨y.name, y.sp, delZ (findI (nameIsP t) y.ixs).toNat y.ixs⟩, 0)) := ⟨by
    rw [HRN.out]
    simp only [Int.toNat_natCast, hky]
    rw [if_neg (by omega)]⟩
  have HKY := Hold.mk hky
  have HKL := Hold.mk hkl
  have HUP := Hold.mk (form_upP HFO.out hky)
  obtain ⟨b, off, d, rfl, hd, hcc, xa, xcap, rfl, hyn, hyw, hyi⟩ := HE.out k y hky
  have hz := cle_below hbw _ _ _ (hcc 2 _ rfl)
  unfold cf at hz
  obtain ⟨_, _, e, hxle, hxcap, hyel⟩ := hyi
  cases e
  have HYE := Hold.mk hyel
  have hkz : (k : Int) < (l.length : Int) := by omega
  obtain ⟨ys, hys⟩ : ∃ ys, ys = y.ixs := ⟨_, rfl⟩
  rw [← hys] at HRN HYE HUP hxle hz
  have HOWN3 : Hold (OwnS 4 (RPK w) 108 (w.heap.size + 2) w3 (.slice none 0 0) 0 ((ys.take 0).filter fun p => !nameIsP t p) []) := ⟨by
    have := OwnS.start 4 (RPK w) 108 (B := w.heap.size + 2) (w := w3) hsz
    simpa using this⟩
  clear hky hd hcc hyn hyw hca hr1 hbw hsz hxb hyel hys
  go_upto_region 8 with (fail)
  clear hz y0 hkz
  go_wp2_with fail
  go_loopw [10, 11] (fun sl i wr => ∃ (j q : Nat) (cs : List Value), i = .int .i64 j ∧ j ≤ ys.length ∧ OwnS 4 (RPK w) 108 (w.heap.size + 2) wr sl q ((ys.take j).filter fun p => !nameIsP t p) cs ∧ Below (w.heap.size + 2) W0 wr) (fun _ i _ => ys.length - (intOf i).toNat)
  case atStart => exact ⟨0, 0, _, rfl, Nat.zero_le _, HOWN3.out, HB3.out⟩
  case round =>
    clear HOWN3 HB3 HB1
    obtain ⟨j, q, cs, rfl, hj, hown, hbl⟩ := hrel
    obtain ⟨sla, slc, rfl⟩ := hown.shape
    have HO := Hold.mk hown
    have HB := Hold.mk hbl
    obtain ⟨hca, y0, hr1, hbw, hsz, _⟩ := HCA.out wr hbl
    have HBW := Hold.mk hbw
    have HQL : Hold (q ≤ 1000) := ⟨by
      have h1 := hown.len
      have h2 := List.length_filter_le (fun p => !nameIsP t p) (ys.take j)
      rw [List.length_take] at h2
      have := HUP.out.2; omega⟩
    clear hown hbl hr1 hsz
    by_cases hlt : j < ys.length
    · obtain ⟨p, hp⟩ : ∃ p, ys[j]? = some p := ⟨ys[j], List.getElem?_eq_getElem hlt⟩
      obtain ⟨b2, off2, d2, rfl, hd2, hcc2, pfa, pfcap, rfl, hpnm, hpf, hpw⟩ := HYE.out j p hp
      have HPR : Hold (RPX (cf w) p [.string p.ix.name, .slice pfa p.ix.fields.length pfcap, .bool p.ix.uniq, .int .i64 p.sp]) := ⟨⟨pfa, pfcap, rfl, hpnm, hpf, hpw⟩⟩
      have HTK : Hold (ys.take (j + 1) = ys.take j ++ [p]) := ⟨take_succ hp⟩
      obtain ⟨⟨pn, pfl, pu⟩, psp⟩ := p
      simp only at *
      have hcl := cle_below hbw
      have p0 := hcl _ _ _ (hcc2 0 _ rfl)
      have p1 := hcl _ _ _ (hcc2 1 _ rfl)
      have p2 := hcl _ _ _ (hcc2 2 _ rfl)
      have p3 := hcl _ _ _ (hcc2 3 _ rfl)
      unfold cf at p0 p1 p2 p3
      rw [Nat.add_zero] at p0
      clear hd2 hcc2 hpnm hpf hpw hcl hp hca hbw
      cases hn : nameIsP t ⟨⟨pn, pfl, pu⟩, psp⟩ with
      | true =>
        have e1 : (pn.toList == t.toList) = true := hn
        have e2 : (pn.toList != t.toList) = false := by unfold bne; rw [e1]; rfl
        have HN : Hold ((ys.take (j + 1)).filter (fun p => !nameIsP t p) = (ys.take j).filter fun p => !nameIsP t p) := ⟨by
          rw [HTK.out, List.filter_append, List.filter_cons, hn]; simp⟩
        clear hn
        go_wp2_with fail
        exact ⟨⟨j + 1, q, cs, by go_num, hlt, by rw [HN.out]; exact HO.out, HB.out⟩, by simp [intOf]; omega⟩
      | false =>
        have e1 : (pn.toList == t.toList) = false := hn
        have e2 : (pn.toList != t.toList) = true := by unfold bne; rw [e1]; rfl
        have HNF : Hold ((ys.take (j + 1)).filter (fun p => !nameIsP t p) = (ys.take j).filter (fun p => !nameIsP t p) ++ [⟨⟨pn, pfl, pu⟩, psp⟩]) := ⟨by
          rw [HTK.out, List.filter_append, List.filter_cons, hn]; simp⟩
        clear hn
        go_wp2_with (at_builtin; refine push_new RPK_mono rfl _ _ rfl infoPXr Tryz.underlying104 rfl (by decide) _ _ _ q _ _ HO.out rfl _ [_, _, _, _] rfl rfl (by simp [Value.oneCell']) ⟨⟨pn, pfl, pu⟩, psp⟩ HPR.out _ rfl rfl (by have := HQL.out; omega) (by decide) ?_)
        intro sl2 w12 ho2 hg2
        obtain ⟨s2a, s2c, rfl⟩ := ho2.shape
        have HN : Hold (OwnS 4 (RPK w) 108 (w.heap.size + 2) w12 (.slice s2a (q + 1) s2c) (q + 1) ((ys.take (j + 1)).filter fun p => !nameIsP t p) _) := ⟨by rw [HNF.out]; exact ho2⟩
        have HB12 := Hold.mk (HB.out.trans (HO.out.below hg2))
        clear ho2 hg2 p0 p1 p2 p3 e1 e2
        go_wp2_with fail
        exact ⟨⟨j + 1, q + 1, _, by go_num, hlt, HN.out, HB12.out⟩, by simp [intOf]; omega⟩
    · obtain rfl : j = ys.length := by omega
      rw [List.take_of_length_le (Nat.le_refl _)] at HO
      rcases findI_cases (nameIsP t) ys with hm | ⟨m, z, hmf, hmz, hmn⟩
      · have hall := findI_neg (p := nameIsP t) (l := ys) (by omega)
        have hfe : ys.filter (fun p => !nameIsP t p) = ys := List.filter_eq_self.2 fun p hp => by rw [hall p hp]; rfl
        have hq : q = ys.length := by have := HO.out.len; rw [hfe] at this; omega
        have HX : Hold (r = ([], 4)) := ⟨by rw [HRN.out, if_pos (by omega)]⟩
        have hb : ((q : Int) == (ys.length : Int)) = true := by rw [hq]; simp
        obtain ⟨_, _, hr1, hbw2, _⟩ := HCA.out wr HB.out
        clear hm hall hfe hq hca hbw
        have hf1 : wr.frozen? ⟨w.heap.size + 1, 0, none⟩ = false := free_box hr1 0
        have hx1 : wr.cell? ⟨w.heap.size + 1, 0, none⟩ = some (.slice none 0 0) := by
          have := hr1
          simp [World.cell?, this]
        go_wp2_with fail
        clear hf1 hx1
        obtain ⟨W, hW⟩ : ∃ W, W = wr.setCell ⟨w.heap.size + 1, 0, none⟩ (.slice none 0 0) := ⟨_, rfl⟩
        rw [← hW]
        have hk : W.heap[w.heap.size + 1]? = some (.cells #[.slice none 0 0] 57 (0, 0)) := by
          rw [hW]
          have := set_self (o := 0) (c := .slice none 0 0) hr1
          simpa using this
        have hx : W.cell? ⟨w.heap.size + 1, 0, none⟩ = some (.slice none 0 0) := by simp [World.cell?, hk]
        have hb : Below w.heap.size w W := by rw [hW]; exact bsetZ hbw2 (by omega)
        refine bodyPost_ret (v := .tuple #[.agg #[.slice none 0 0], .int .i64 4]) (by simp [results, Tryz.results54, go_sem, hx]) rfl ?_
        exact cat_err HX.out hb
      · have hfe := filter_del hmz hmn (names_onceP HUP.out.1 hmz hmn)
        rw [hfe] at HO
        have hml := (List.getElem?_eq_some_iff.1 hmz).1
        have hq : q = ys.length - 1 := by have := HO.out.len; rw [delZ_len hml] at this; omega
        have hb : ((q : Int) == (ys.length : Int)) = false := by rw [beq_eq_false_iff_ne]; omega
        have HRE : Hold (r = (l.set k ⟨y.name, y.sp, delZ m ys⟩, 0)) := ⟨by rw [HRN.out, if_neg (by omega), hmf, Int.toNat_natCast]⟩
        have HSAT := Hold.mk (sat_RPK HO.out HBW.out)
        have HWI := Hold.mk (with_any l (.agg #[.slice (some ⟨b, off, none⟩) l.length cap]) k y ⟨y.name, y.sp, delZ m ys⟩ (.slice sla q slc) wr hca HKY.out rfl rfl HSAT.out (by have := (formC_iff.1 HFO.out).1; omega))
        clear hfe hml hq hmf hmz hmn hca hbw
        go_wp2_with fail
        refine HWI.out.mono ?_
        rintro e wD ⟨v', rfl, hcD, hbD⟩
        obtain ⟨va, vc, rfl, hsD⟩ := hcD
        rw [List.length_set] at hsD ⊢
        have HSD := Hold.mk hsD
        have HBD : Hold (Below (w.heap.size + 2) W0 wD) := ⟨HB.out.trans (hbD.mono (HCA.out wr HB.out).2.2.2.2.1)⟩
        obtain ⟨_, _, hr1, hbw, _⟩ := HCA.out wD HBD.out
        have hf1 : wD.frozen? ⟨w.heap.size + 1, 0, none⟩ = false := free_box hr1 0
        have hx1 : wD.cell? ⟨w.heap.size + 1, 0, none⟩ = some (.slice none 0 0) := by simp [World.cell?, hr1]
        clear hsD hbD y0 HWI hb
        go_wp2_with fail
        clear hf1 hx1
        obtain ⟨W, hW⟩ : ∃ W, W = wD.setCell ⟨w.heap.size + 1, 0, none⟩ (.slice va l.length vc) := ⟨_, rfl⟩
        rw [← hW]
        have hk : W.heap[w.heap.size + 1]? = some (.cells #[.slice va l.length vc] 57 (0, 0)) := by
          rw [hW]
          have := set_self (o := 0) (c := .slice va l.length vc) hr1
          simpa using this
        have hx : W.cell? ⟨w.heap.size + 1, 0, none⟩ = some (.slice va l.length vc) := by simp [World.cell?, hk]
        have hbW : Below w.heap.size w W := by rw [hW]; exact bsetZ hbw (by omega)
        refine bodyPost_ret (v := .tuple #[.agg #[.slice va l.length vc], .int .i64 0]) (by simp [results, Tryz.results54, go_sem, hx]) rfl ?_
        refine ⟨.agg #[.slice va l.length vc], by rw [HRE.out], ?_, hbW⟩
        rw [HRE.out, hW]
        exact CatAt.set ⟨va, vc, by rw [List.length_set], by rw [List.length_set]; exact HSD.out⟩ hr1


set_option maxRecDepth 100000 in
set_option maxHeartbeats 16000000 in
theorem acted_any (l : List CX) (v : Value) (o : OpX) (fa : Option Addr) (fcap : Nat) (w : World) (h : CatAt (cf w) l v) (hsm : SmallC l) (hns : (spacesC l).length ≤ 1000000) (hn : o.name.size ≤ 9223372036854775807) (hx : IAt (cf w) o.x (.agg #[.string o.x.name, .slice fa o.x.fields.length fcap, .bool o.x.uniq])) (hxs : ∀ f ∈ o.x.fields, f.1.size ≤ 1000000) (hxl : o.x.fields.length ≤ 1000) :
    Calls Tryz.prog 22 #[v, .agg #[.int .i64 o.kind, .string o.name, .string o.x.name, .slice fa o.x.fields.length fcap, .bool o.x.uniq]] w (CatPost w (actF l o)) := by
  obtain ⟨a, cap, rfl, hsat⟩ := h
  obtain ⟨kd, nm, ⟨xn, fl, u⟩⟩ := o
  simp only at *
  have HS := Hold.mk hsat
  have HX := Hold.mk hx
  have HXS := Hold.mk hxs
  have HXL := Hold.mk hxl
  obtain ⟨W0, hW0⟩ : ∃ W0, W0 = (((w.alloc (.cells #[.slice a l.length cap] 57)).alloc (.cells #[.int .i64 kd, .string nm, .string xn, .slice fa fl.length fcap, .bool u] 62)).alloc (.cells #[.slice none 0 0] 57)).alloc (.cells #[.slice none 0 0] 57) := ⟨_, rfl⟩
  have hb0 : Below w.heap.size w W0 := by rw [hW0]; exact ((((Below.refl _ w).alloc (Nat.le_refl _) _).alloc (by simp <;> omega) _).alloc (by simp <;> omega) _).alloc (by simp <;> omega) _
  have HCB : Hold (W0.heap[w.heap.size]? = some (.cells #[.slice a l.length cap] 57 (0, 0))) := ⟨by
    rw [hW0, Below.heap_alloc _ _ _ (by simp <;> omega), Below.heap_alloc _ _ _ (by simp <;> omega), Below.heap_alloc _ _ _ (by simp <;> omega)]; exact heap_alloc_new w _⟩
  have hob : W0.heap[w.heap.size + 1]? = some (.cells #[.int .i64 kd, .string nm, .string xn, .slice fa fl.length fcap, .bool u] 62 (0, 0)) := by
    rw [hW0, Below.heap_alloc _ _ _ (by simp <;> omega), Below.heap_alloc _ _ _ (by simp <;> omega)]
    have := heap_alloc_new (w.alloc (.cells #[.slice a l.length cap] 57)) (.cells #[.int .i64 kd, .string nm, .string xn, .slice fa fl.length fcap, .bool u] 62)
    simpa using this
  have HRB : Hold (W0.heap[w.heap.size + 1 + 1]? = some (.cells #[.slice none 0 0] 57 (0, 0))) := ⟨by
    rw [hW0, Below.heap_alloc _ _ _ (by simp <;> omega)]
    have := heap_alloc_new ((w.alloc (.cells #[.slice a l.length cap] 57)).alloc (.cells #[.int .i64 kd, .string nm, .string xn, .slice fa fl.length fcap, .bool u] 62)) (.cells #[.slice none 0 0] 57)
    simpa using this⟩
  have HZ4 : Hold (w.heap.size + 4 = W0.heap.size) := ⟨by rw [hW0]; simp⟩
  have HDBX : Hold (W0.heap[w.heap.size + 1 + 1 + 1]? = some (.cells #[.slice none 0 0] 57 (0, 0))) := ⟨by
    rw [hW0]
    have := heap_alloc_new (((w.alloc (.cells #[.slice a l.length cap] 57)).alloc (.cells #[.int .i64 kd, .string nm, .string xn, .slice fa fl.length fcap, .bool u] 62)).alloc (.cells #[.slice none 0 0] 57)) (.cells #[.slice none 0 0] 57)
    simpa using this⟩
  have HB0 := Hold.mk hb0
  have hca : CatAt (cf W0) l (.agg #[.slice a l.length cap]) := ⟨a, cap, rfl, hsat.mono RCX_mono (cle_below hb0)⟩
  have HIX : Hold (IAt (cf W0) ⟨xn, fl, u⟩ (.agg #[.string xn, .slice fa fl.length fcap, .bool u])) := ⟨hx.mono (cle_below hb0)⟩
  obtain ⟨x0, x1, x2, x3, x4⟩ := cells_five hob
  have y0 : W0.cell? ⟨w.heap.size, 0, none⟩ = some (.slice a l.length cap) := by
    have := HCB.out
    simp [World.cell?, this]
  clear hsat hx hxs hxl hb0 hob
  go_enter Tryz.func22, Tryz.ntmps22
  go_upto_region 3 with (fail)
  rw [← hW0]
  clear hW0
  by_cases e1 : kd = 1
  · subst e1
    obtain ⟨r, hr⟩ : ∃ r, r = createF l nm := ⟨_, rfl⟩
    have HRN : Hold (actF l ⟨1, nm, ⟨xn, fl, u⟩⟩ = keepR l r) := ⟨by rw [hr]; unfold actF; rw [if_pos rfl]⟩
    have HK := Hold.mk (rCreate_any l _ nm W0 hca hsm hns hn)
    rw [← hr] at HK
    clear hr hca
    go_wp2_with fail
    refine HK.out.mono ?_
    rintro e w1 ⟨v1, rfl, hcat, hb1⟩
    obtain ⟨lr, z⟩ := r
    obtain ⟨a1, cap1, rfl, hs1⟩ := hcat
    have HS1 := Hold.mk hs1
    have HD0 := Hold.mk (kept HDBX.out hb1)
    have HRR := Hold.mk (kept HRB.out hb1)
    have HCC := Hold.mk (kept HCB.out hb1)
    have HBB := Hold.mk (HB0.out.trans (hb1.mono HB0.out.size))
    have hf : w1.frozen? ⟨w.heap.size + 1 + 1 + 1, 0, none⟩ = false := free_box HD0.out 0
    have hx : w1.cell? ⟨w.heap.size + 1 + 1 + 1, 0, none⟩ = some (.slice none 0 0) := by
      have := HD0.out
      simp [World.cell?, this]
    simp only at *
    clear hs1 hb1 y0 x0 x1 x2 x3 x4 HK
    go_upto_region 13 with (fail)
    clear hf hx
    obtain ⟨W1, hW1⟩ : ∃ W1, W1 = w1.setCell ⟨w.heap.size + 1 + 1 + 1, 0, none⟩ (.slice a1 lr.length cap1) := ⟨_, rfl⟩
    rw [← hW1]
    have HD1 : Hold (W1.heap[w.heap.size + 1 + 1 + 1]? = some (.cells #[.slice a1 lr.length cap1] 57 (0, 0))) := ⟨by
      rw [hW1]
      have := set_self (o := 0) (c := .slice a1 lr.length cap1) HD0.out
      simpa using this⟩
    have HR1 : Hold (W1.heap[w.heap.size + 1 + 1]? = some (.cells #[.slice none 0 0] 57 (0, 0))) := ⟨by rw [hW1, Below.heap_setCell _ _ _ _ (show w.heap.size + 1 + 1 ≠ w.heap.size + 1 + 1 + 1 by omega)]; exact HRR.out⟩
    have HC1 : Hold (W1.heap[w.heap.size]? = some (.cells #[.slice a l.length cap] 57 (0, 0))) := ⟨by rw [hW1, Below.heap_setCell _ _ _ _ (show w.heap.size ≠ w.heap.size + 1 + 1 + 1 by omega)]; exact HCC.out⟩
    have HB1 : Hold (Below w.heap.size w W1) := ⟨by rw [hW1]; exact bsetZ HBB.out (by omega)⟩
    have HCW : Hold (CatAt (cf W1) lr (.agg #[.slice a1 lr.length cap1])) := ⟨by rw [hW1]; exact CatAt.set ⟨_, _, rfl, HS1.out⟩ HD0.out⟩
    clear hW1
    by_cases hz : z = 0
    · subst hz
      replace HRN : Hold (actF l ⟨1, nm, ⟨xn, fl, u⟩⟩ = (lr, 0)) := ⟨by rw [HRN.out]; rfl⟩
      have y0 : W1.cell? ⟨w.heap.size + 1 + 1 + 1, 0, none⟩ = some (.slice a1 lr.length cap1) := by
        have := HD1.out
        simp [World.cell?, this]
      have hf1 : W1.frozen? ⟨w.heap.size + 1 + 1, 0, none⟩ = false := free_box HR1.out 0
      have hx1 : W1.cell? ⟨w.heap.size + 1 + 1, 0, none⟩ = some (.slice none 0 0) := by
        have := HR1.out
        simp [World.cell?, this]
      go_wp2_with fail
      clear hf1 hx1 y0
      obtain ⟨W, hW⟩ : ∃ W, W = W1.setCell ⟨w.heap.size + 1 + 1, 0, none⟩ (.slice a1 lr.length cap1) := ⟨_, rfl⟩
      rw [← hW]
      have hk : W.heap[w.heap.size + 1 + 1]? = some (.cells #[.slice a1 lr.length cap1] 57 (0, 0)) := by
        rw [hW]
        have := set_self (o := 0) (c := .slice a1 lr.length cap1) HR1.out
        simpa using this
      have hx : W.cell? ⟨w.heap.size + 1 + 1, 0, none⟩ = some (.slice a1 lr.length cap1) := by simp [World.cell?, hk]
      have hbw : Below w.heap.size w W := by rw [hW]; exact bsetZ HB1.out (by omega)
      refine bodyPost_ret (v := .tuple #[.agg #[.slice a1 lr.length cap1], .int .i64 0]) (by simp [results, Tryz.results22, go_sem, hx]) rfl ?_
      refine ⟨.agg #[.slice a1 lr.length cap1], by rw [HRN.out], ?_, hbw⟩
      rw [HRN.out]
      rw [hW]
      exact HCW.out.set HR1.out
    · replace HRN : Hold (actF l ⟨1, nm, ⟨xn, fl, u⟩⟩ = (l, z)) := ⟨by rw [HRN.out]; unfold keepR; rw [if_neg hz]⟩
      have y0 : W1.cell? ⟨w.heap.size, 0, none⟩ = some (.slice a l.length cap) := by
        have := HC1.out
        simp [World.cell?, this]
      have hf1 : W1.frozen? ⟨w.heap.size + 1 + 1, 0, none⟩ = false := free_box HR1.out 0
      have hx1 : W1.cell? ⟨w.heap.size + 1 + 1, 0, none⟩ = some (.slice none 0 0) := by
        have := HR1.out
        simp [World.cell?, this]
      go_wp2_with fail
      clear hf1 hx1 y0
      obtain ⟨W, hW⟩ : ∃ W, W = W1.setCell ⟨w.heap.size + 1 + 1, 0, none⟩ (.slice a l.length cap) := ⟨_, rfl⟩
      rw [← hW]
      have hk : W.heap[w.heap.size + 1 + 1]? = some (.cells #[.slice a l.length cap] 57 (0, 0)) := by
        rw [hW]
        have := set_self (o := 0) (c := .slice a l.length cap) HR1.out
        simpa using this
      have hx : W.cell? ⟨w.heap.size + 1 + 1, 0, none⟩ = some (.slice a l.length cap) := by simp [World.cell?, hk]
      have hbw : Below w.heap.size w W := by rw [hW]; exact bsetZ HB1.out (by omega)
      refine bodyPost_ret (v := .tuple #[.agg #[.slice a l.length cap], .int .i64 z]) (by simp [results, Tryz.results22, go_sem, hx]) rfl ?_
      refine ⟨.agg #[.slice a l.length cap], by rw [HRN.out], ?_, hbw⟩
      rw [HRN.out]
      exact ((show CatAt (cf w) l _ from ⟨_, _, rfl, HS.out⟩).mono (cle_below hbw))
  by_cases e2 : kd = 2
  · subst e2
    obtain ⟨r, hr⟩ : ∃ r, r = dropF l nm := ⟨_, rfl⟩
    have HRN : Hold (actF l ⟨2, nm, ⟨xn, fl, u⟩⟩ = keepR l r) := ⟨by rw [hr]; unfold actF; rw [if_neg (show ¬ (2 : Int) = 1 by decide), if_pos rfl]⟩
    have HK := Hold.mk (rDrop_any l _ nm W0 hca hsm hns)
    rw [← hr] at HK
    clear hr hca
    go_wp2_with fail
    refine HK.out.mono ?_
    rintro e w1 ⟨v1, rfl, hcat, hb1⟩
    obtain ⟨lr, z⟩ := r
    obtain ⟨a1, cap1, rfl, hs1⟩ := hcat
    have HS1 := Hold.mk hs1
    have HD0 := Hold.mk (kept HDBX.out hb1)
    have HRR := Hold.mk (kept HRB.out hb1)
    have HCC := Hold.mk (kept HCB.out hb1)
    have HBB := Hold.mk (HB0.out.trans (hb1.mono HB0.out.size))
    have hf : w1.frozen? ⟨w.heap.size + 1 + 1 + 1, 0, none⟩ = false := free_box HD0.out 0
    have hx : w1.cell? ⟨w.heap.size + 1 + 1 + 1, 0, none⟩ = some (.slice none 0 0) := by
      have := HD0.out
      simp [World.cell?, this]
    simp only at *
    clear hs1 hb1 y0 x0 x1 x2 x3 x4 HK
    go_upto_region 13 with (fail)
    clear hf hx
    obtain ⟨W1, hW1⟩ : ∃ W1, W1 = w1.setCell ⟨w.heap.size + 1 + 1 + 1, 0, none⟩ (.slice a1 lr.length cap1) := ⟨_, rfl⟩
    rw [← hW1]
    have HD1 : Hold (W1.heap[w.heap.size + 1 + 1 + 1]? = some (.cells #[.slice a1 lr.length cap1] 57 (0, 0))) := ⟨by
      rw [hW1]
      have := set_self (o := 0) (c := .slice a1 lr.length cap1) HD0.out
      simpa using this⟩
    have HR1 : Hold (W1.heap[w.heap.size + 1 + 1]? = some (.cells #[.slice none 0 0] 57 (0, 0))) := ⟨by rw [hW1, Below.heap_setCell _ _ _ _ (show w.heap.size + 1 + 1 ≠ w.heap.size + 1 + 1 + 1 by omega)]; exact HRR.out⟩
    have HC1 : Hold (W1.heap[w.heap.size]? = some (.cells #[.slice a l.length cap] 57 (0, 0))) := ⟨by rw [hW1, Below.heap_setCell _ _ _ _ (show w.heap.size ≠ w.heap.size + 1 + 1 + 1 by omega)]; exact HCC.out⟩
    have HB1 : Hold (Below w.heap.size w W1) := ⟨by rw [hW1]; exact bsetZ HBB.out (by omega)⟩
    have HCW : Hold (CatAt (cf W1) lr (.agg #[.slice a1 lr.length cap1])) := ⟨by rw [hW1]; exact CatAt.set ⟨_, _, rfl, HS1.out⟩ HD0.out⟩
    clear hW1
    by_cases hz : z = 0
    · subst hz
      replace HRN : Hold (actF l ⟨2, nm, ⟨xn, fl, u⟩⟩ = (lr, 0)) := ⟨by rw [HRN.out]; rfl⟩
      have y0 : W1.cell? ⟨w.heap.size + 1 + 1 + 1, 0, none⟩ = some (.slice a1 lr.length cap1) := by
        have := HD1.out
        simp [World.cell?, this]
      have hf1 : W1.frozen? ⟨w.heap.size + 1 + 1, 0, none⟩ = false := free_box HR1.out 0
      have hx1 : W1.cell? ⟨w.heap.size + 1 + 1, 0, none⟩ = some (.slice none 0 0) := by
        have := HR1.out
        simp [World.cell?, this]
      go_wp2_with fail
      clear hf1 hx1 y0
      obtain ⟨W, hW⟩ : ∃ W, W = W1.setCell ⟨w.heap.size + 1 + 1, 0, none⟩ (.slice a1 lr.length cap1) := ⟨_, rfl⟩
      rw [← hW]
      have hk : W.heap[w.heap.size + 1 + 1]? = some (.cells #[.slice a1 lr.length cap1] 57 (0, 0)) := by
        rw [hW]
        have := set_self (o := 0) (c := .slice a1 lr.length cap1) HR1.out
        simpa using this
      have hx : W.cell? ⟨w.heap.size + 1 + 1, 0, none⟩ = some (.slice a1 lr.length cap1) := by simp [World.cell?, hk]
      have hbw : Below w.heap.size w W := by rw [hW]; exact bsetZ HB1.out (by omega)
      refine bodyPost_ret (v := .tuple #[.agg #[.slice a1 lr.length cap1], .int .i64 0]) (by simp [results, Tryz.results22, go_sem, hx]) rfl ?_
      refine ⟨.agg #[.slice a1 lr.length cap1], by rw [HRN.out], ?_, hbw⟩
      rw [HRN.out]
      rw [hW]
      exact HCW.out.set HR1.out
    · replace HRN : Hold (actF l ⟨2, nm, ⟨xn, fl, u⟩⟩ = (l, z)) := ⟨by rw [HRN.out]; unfold keepR; rw [if_neg hz]⟩
      have y0 : W1.cell? ⟨w.heap.size, 0, none⟩ = some (.slice a l.length cap) := by
        have := HC1.out
        simp [World.cell?, this]
      have hf1 : W1.frozen? ⟨w.heap.size + 1 + 1, 0, none⟩ = false := free_box HR1.out 0
      have hx1 : W1.cell? ⟨w.heap.size + 1 + 1, 0, none⟩ = some (.slice none 0 0) := by
        have := HR1.out
        simp [World.cell?, this]
      go_wp2_with fail
      clear hf1 hx1 y0
      obtain ⟨W, hW⟩ : ∃ W, W = W1.setCell ⟨w.heap.size + 1 + 1, 0, none⟩ (.slice a l.length cap) := ⟨_, rfl⟩
      rw [← hW]
      have hk : W.heap[w.heap.size + 1 + 1]? = some (.cells #[.slice a l.length cap] 57 (0, 0)) := by
        rw [hW]
        have := set_self (o := 0) (c := .slice a l.length cap) HR1.out
        simpa using this
      have hx : W.cell? ⟨w.heap.size + 1 + 1, 0, none⟩ = some (.slice a l.length cap) := by simp [World.cell?, hk]
      have hbw : Below w.heap.size w W := by rw [hW]; exact bsetZ HB1.out (by omega)
      refine bodyPost_ret (v := .tuple #[.agg #[.slice a l.length cap], .int .i64 z]) (by simp [results, Tryz.results22, go_sem, hx]) rfl ?_
      refine ⟨.agg #[.slice a l.length cap], by rw [HRN.out], ?_, hbw⟩
      rw [HRN.out]
      exact ((show CatAt (cf w) l _ from ⟨_, _, rfl, HS.out⟩).mono (cle_below hbw))
  by_cases e3 : kd = 3
  · subst e3
    obtain ⟨r, hr⟩ : ∃ r, r = addF l nm ⟨xn, fl, u⟩ := ⟨_, rfl⟩
    have HRN : Hold (actF l ⟨3, nm, ⟨xn, fl, u⟩⟩ = keepR l r) := ⟨by rw [hr]; unfold actF; rw [if_neg (show ¬ (3 : Int) = 1 by decide), if_neg (show ¬ (3 : Int) = 2 by decide), if_pos rfl]⟩
    have HIX3 := Hold.mk (fun wn (hb : Below W0.heap.size W0 wn) => lindex_any ⟨xn, fl, u⟩ (.agg #[.string xn, .slice fa fl.length fcap, .bool u]) wn (HIX.out.mono (cle_below hb)) HXL.out)
    have HZD : Hold (w.heap.size + 4 = W0.heap.size) := HZ4
    have gy := GrowB.cell (B := w.heap.size + 1 + 1 + 1) y0 (by omega)
    have g0 := GrowB.cell (B := w.heap.size + 1 + 1 + 1) x0 (by omega)
    have g1 := GrowB.cell (B := w.heap.size + 1 + 1 + 1) x1 (by omega)
    have g2 := GrowB.cell (B := w.heap.size + 1 + 1 + 1) x2 (by omega)
    have g3 := GrowB.cell (B := w.heap.size + 1 + 1 + 1) x3 (by omega)
    have g4 := GrowB.cell (B := w.heap.size + 1 + 1 + 1) x4 (by omega)
    have HCAT := Hold.mk hca
    have HSMM := Hold.mk hsm
    have HNSS := Hold.mk hns
    clear hca
    go_upto_region 10 with (fail)
    clear y0 x0 x1 x2 x3 x4
    refine wp_region_mixC (GrowBC (w.heap.size + 1 + 1 + 1) W0) 12 rfl (by kernel_rfl) ?_
    have HDW := Hold.mk ((Below.refl W0.heap.size W0).drew)
    generalize W0.drew = v9 at HDW ⊢
    have HDB : Hold (Below (w.heap.size + 1 + 1 + 1) W0 v9) := ⟨HDW.out.mono (by have := HZD.out; omega)⟩
    refine mixl_seg (by kernel_rfl) (fun _ _ d _ _ h => by cases d <;> exact h) [0, 1, 2, 3, 4] [_, _, _, _, _] 7 12 rfl _ _ _ rfl (by kernel_rfl) (growBC HDB.out) ?_
    repeat (go_big_quiet_step (fail))
    refine wpQuiet_nil ?_
    clear gy g0 g1 g2 g3 g4
    refine mixl_act (i := 5) rfl (by kernel_rfl) (growBC HDB.out) rfl (fun K hK => ?_)
    go_wp2_with fail
    refine (HIX3.out v9 HDW.out).mono ?_
    rintro e wI ⟨yv, rfl, hyv, hbI⟩
    have HBI := Hold.mk (HDW.out.trans (hbI.mono HDW.out.size))
    have HBI3 : Hold (Below (w.heap.size + 1 + 1 + 1) W0 wI) := ⟨HBI.out.mono (by have := HZD.out; omega)⟩
    have HK := Hold.mk (rAddIndex_any l _ nm ⟨xn, fl, u⟩ yv wI (HCAT.out.mono (cle_below HBI.out)) HSMM.out HNSS.out hyv HXS.out)
    rw [← hr] at HK
    clear hr hyv hbI
    go_wp2_with fail
    refine mixl_act (i := 6) rfl (by kernel_rfl) (growBC HBI3.out) rfl (fun K hK => ?_)
    go_wp2_with fail
    refine HK.out.mono ?_
    rintro e w1 ⟨v1, rfl, hcat, hb1'⟩
    have hb1 := HBI.out.trans (hb1'.mono HBI.out.size)
    obtain ⟨lr, z⟩ := r
    obtain ⟨a1, cap1, rfl, hs1⟩ := hcat
    have HS1 := Hold.mk hs1
    have HD0 := Hold.mk (kept HDBX.out hb1)
    have HRR := Hold.mk (kept HRB.out hb1)
    have HCC := Hold.mk (kept HCB.out hb1)
    have HBB := Hold.mk (HB0.out.trans (hb1.mono HB0.out.size))
    have HB13 : Hold (Below (w.heap.size + 1 + 1 + 1) W0 w1) := ⟨hb1.mono (by have := HZD.out; omega)⟩
    simp only at *
    clear hs1 hb1 hb1' HK
    go_wp2_with fail
    refine mixl_seg (by kernel_rfl) (fun _ _ d _ _ h => by cases d <;> exact h) [7, 8, 9] [_, _, _] 2 5 rfl _ _ _ rfl (by kernel_rfl) (growBC HB13.out) ?_
    repeat (go_big_quiet_step (fail))
    refine wpQuiet_nil ?_
    have hf : w1.frozen? ⟨w.heap.size + 1 + 1 + 1, 0, none⟩ = false := free_box HD0.out 0
    have hx : w1.cell? ⟨w.heap.size + 1 + 1 + 1, 0, none⟩ = some (.slice none 0 0) := by
      have := HD0.out
      simp [World.cell?, this]
    refine mixl_act (i := 10) rfl (by kernel_rfl) (growBC HB13.out) rfl (fun K hK => ?_)
    go_wp2_with fail
    clear hf hx
    obtain ⟨W1, hW1⟩ : ∃ W1, W1 = w1.setCell ⟨w.heap.size + 1 + 1 + 1, 0, none⟩ (.slice a1 lr.length cap1) := ⟨_, rfl⟩
    rw [← hW1]
    have HBW13 : Hold (Below (w.heap.size + 1 + 1 + 1) W0 W1) := ⟨by rw [hW1]; exact HB13.out.setCell (p := ⟨w.heap.size + 1 + 1 + 1, 0, none⟩) (Nat.le_refl _) _⟩
    refine mixl_seg (by kernel_rfl) (fun _ _ d _ _ h => by cases d <;> exact h) [11] [_] 0 1 rfl _ _ _ rfl (by kernel_rfl) (growBC HBW13.out) ?_
    repeat (go_big_quiet_step (fail))
    refine wpQuiet_nil ?_
    refine mix_done (by kernel_rfl) (growBC HBW13.out) ?_
    have HD1 : Hold (W1.heap[w.heap.size + 1 + 1 + 1]? = some (.cells #[.slice a1 lr.length cap1] 57 (0, 0))) := ⟨by
      rw [hW1]
      have := set_self (o := 0) (c := .slice a1 lr.length cap1) HD0.out
      simpa using this⟩
    have HR1 : Hold (W1.heap[w.heap.size + 1 + 1]? = some (.cells #[.slice none 0 0] 57 (0, 0))) := ⟨by rw [hW1, Below.heap_setCell _ _ _ _ (show w.heap.size + 1 + 1 ≠ w.heap.size + 1 + 1 + 1 by omega)]; exact HRR.out⟩
    have HC1 : Hold (W1.heap[w.heap.size]? = some (.cells #[.slice a l.length cap] 57 (0, 0))) := ⟨by rw [hW1, Below.heap_setCell _ _ _ _ (show w.heap.size ≠ w.heap.size + 1 + 1 + 1 by omega)]; exact HCC.out⟩
    have HB1 : Hold (Below w.heap.size w W1) := ⟨by rw [hW1]; exact bsetZ HBB.out (by omega)⟩
    have HCW : Hold (CatAt (cf W1) lr (.agg #[.slice a1 lr.length cap1])) := ⟨by rw [hW1]; exact CatAt.set ⟨_, _, rfl, HS1.out⟩ HD0.out⟩
    clear hW1
    by_cases hz : z = 0
    · subst hz
      replace HRN : Hold (actF l ⟨3, nm, ⟨xn, fl, u⟩⟩ = (lr, 0)) := ⟨by rw [HRN.out]; rfl⟩
      have y0 : W1.cell? ⟨w.heap.size + 1 + 1 + 1, 0, none⟩ = some (.slice a1 lr.length cap1) := by
        have := HD1.out
        simp [World.cell?, this]
      have hf1 : W1.frozen? ⟨w.heap.size + 1 + 1, 0, none⟩ = false := free_box HR1.out 0
      have hx1 : W1.cell? ⟨w.heap.size + 1 + 1, 0, none⟩ = some (.slice none 0 0) := by
        have := HR1.out
        simp [World.cell?, this]
      go_wp2_with fail
      clear hf1 hx1 y0
      obtain ⟨W, hW⟩ : ∃ W, W = W1.setCell ⟨w.heap.size + 1 + 1, 0, none⟩ (.slice a1 lr.length cap1) := ⟨_, rfl⟩
      rw [← hW]
      have hk : W.heap[w.heap.size + 1 + 1]? = some (.cells #[.slice a1 lr.length cap1] 57 (0, 0)) := by
        rw [hW]
        have := set_self (o := 0) (c := .slice a1 lr.length cap1) HR1.out
        simpa using this
      have hx : W.cell? ⟨w.heap.size + 1 + 1, 0, none⟩ = some (.slice a1 lr.length cap1) := by simp [World.cell?, hk]
      have hbw : Below w.heap.size w W := by rw [hW]; exact bsetZ HB1.out (by omega)
      refine bodyPost_ret (v := .tuple #[.agg #[.slice a1 lr.length cap1], .int .i64 0]) (by simp [results, Tryz.results22, go_sem, hx]) rfl ?_
      refine ⟨.agg #[.slice a1 lr.length cap1], by rw [HRN.out], ?_, hbw⟩
      rw [HRN.out]
      rw [hW]
      exact HCW.out.set HR1.out
    · replace HRN : Hold (actF l ⟨3, nm, ⟨xn, fl, u⟩⟩ = (l, z)) := ⟨by rw [HRN.out]; unfold keepR; rw [if_neg hz]⟩
      have y0 : W1.cell? ⟨w.heap.size, 0, none⟩ = some (.slice a l.length cap) := by
        have := HC1.out
        simp [World.cell?, this]
      have hf1 : W1.frozen? ⟨w.heap.size + 1 + 1, 0, none⟩ = false := free_box HR1.out 0
      have hx1 : W1.cell? ⟨w.heap.size + 1 + 1, 0, none⟩ = some (.slice none 0 0) := by
        have := HR1.out
        simp [World.cell?, this]
      go_wp2_with fail
      clear hf1 hx1 y0
      obtain ⟨W, hW⟩ : ∃ W, W = W1.setCell ⟨w.heap.size + 1 + 1, 0, none⟩ (.slice a l.length cap) := ⟨_, rfl⟩
      rw [← hW]
      have hk : W.heap[w.heap.size + 1 + 1]? = some (.cells #[.slice a l.length cap] 57 (0, 0)) := by
        rw [hW]
        have := set_self (o := 0) (c := .slice a l.length cap) HR1.out
        simpa using this
      have hx : W.cell? ⟨w.heap.size + 1 + 1, 0, none⟩ = some (.slice a l.length cap) := by simp [World.cell?, hk]
      have hbw : Below w.heap.size w W := by rw [hW]; exact bsetZ HB1.out (by omega)
      refine bodyPost_ret (v := .tuple #[.agg #[.slice a l.length cap], .int .i64 z]) (by simp [results, Tryz.results22, go_sem, hx]) rfl ?_
      refine ⟨.agg #[.slice a l.length cap], by rw [HRN.out], ?_, hbw⟩
      rw [HRN.out]
      exact ((show CatAt (cf w) l _ from ⟨_, _, rfl, HS.out⟩).mono (cle_below hbw))
  by_cases e4 : kd = 4
  · subst e4
    obtain ⟨r, hr⟩ : ∃ r, r = dropIF l nm xn := ⟨_, rfl⟩
    have HRN : Hold (actF l ⟨4, nm, ⟨xn, fl, u⟩⟩ = keepR l r) := ⟨by rw [hr]; unfold actF; rw [if_neg (show ¬ (4 : Int) = 1 by decide), if_neg (show ¬ (4 : Int) = 2 by decide), if_neg (show ¬ (4 : Int) = 3 by decide), if_pos rfl]⟩
    have HK := Hold.mk (rDropIndex_any l _ nm xn W0 hca hsm hns)
    rw [← hr] at HK
    clear hr hca
    go_wp2_with fail
    refine HK.out.mono ?_
    rintro e w1 ⟨v1, rfl, hcat, hb1⟩
    obtain ⟨lr, z⟩ := r
    obtain ⟨a1, cap1, rfl, hs1⟩ := hcat
    have HS1 := Hold.mk hs1
    have HD0 := Hold.mk (kept HDBX.out hb1)
    have HRR := Hold.mk (kept HRB.out hb1)
    have HCC := Hold.mk (kept HCB.out hb1)
    have HBB := Hold.mk (HB0.out.trans (hb1.mono HB0.out.size))
    have hf : w1.frozen? ⟨w.heap.size + 1 + 1 + 1, 0, none⟩ = false := free_box HD0.out 0
    have hx : w1.cell? ⟨w.heap.size + 1 + 1 + 1, 0, none⟩ = some (.slice none 0 0) := by
      have := HD0.out
      simp [World.cell?, this]
    simp only at *
    clear hs1 hb1 y0 x0 x1 x2 x3 x4 HK
    go_upto_region 13 with (fail)
    clear hf hx
    obtain ⟨W1, hW1⟩ : ∃ W1, W1 = w1.setCell ⟨w.heap.size + 1 + 1 + 1, 0, none⟩ (.slice a1 lr.length cap1) := ⟨_, rfl⟩
    rw [← hW1]
    have HD1 : Hold (W1.heap[w.heap.size + 1 + 1 + 1]? = some (.cells #[.slice a1 lr.length cap1] 57 (0, 0))) := ⟨by
      rw [hW1]
      have := set_self (o := 0) (c := .slice a1 lr.length cap1) HD0.out
      simpa using this⟩
    have HR1 : Hold (W1.heap[w.heap.size + 1 + 1]? = some (.cells #[.slice none 0 0] 57 (0, 0))) := ⟨by rw [hW1, Below.heap_setCell _ _ _ _ (show w.heap.size + 1 + 1 ≠ w.heap.size + 1 + 1 + 1 by omega)]; exact HRR.out⟩
    have HC1 : Hold (W1.heap[w.heap.size]? = some (.cells #[.slice a l.length cap] 57 (0, 0))) := ⟨by rw [hW1, Below.heap_setCell _ _ _ _ (show w.heap.size ≠ w.heap.size + 1 + 1 + 1 by omega)]; exact HCC.out⟩
    have HB1 : Hold (Below w.heap.size w W1) := ⟨by rw [hW1]; exact bsetZ HBB.out (by omega)⟩
    have HCW : Hold (CatAt (cf W1) lr (.agg #[.slice a1 lr.length cap1])) := ⟨by rw [hW1]; exact CatAt.set ⟨_, _, rfl, HS1.out⟩ HD0.out⟩
    clear hW1
    by_cases hz : z = 0
    · subst hz
      replace HRN : Hold (actF l ⟨4, nm, ⟨xn, fl, u⟩⟩ = (lr, 0)) := ⟨by rw [HRN.out]; rfl⟩
      have y0 : W1.cell? ⟨w.heap.size + 1 + 1 + 1, 0, none⟩ = some (.slice a1 lr.length cap1) := by
        have := HD1.out
        simp [World.cell?, this]
      have hf1 : W1.frozen? ⟨w.heap.size + 1 + 1, 0, none⟩ = false := free_box HR1.out 0
      have hx1 : W1.cell? ⟨w.heap.size + 1 + 1, 0, none⟩ = some (.slice none 0 0) := by
        have := HR1.out
        simp [World.cell?, this]
      go_wp2_with fail
      clear hf1 hx1 y0
      obtain ⟨W, hW⟩ : ∃ W, W = W1.setCell ⟨w.heap.size + 1 + 1, 0, none⟩ (.slice a1 lr.length cap1) := ⟨_, rfl⟩
      rw [← hW]
      have hk : W.heap[w.heap.size + 1 + 1]? = some (.cells #[.slice a1 lr.length cap1] 57 (0, 0)) := by
        rw [hW]
        have := set_self (o := 0) (c := .slice a1 lr.length cap1) HR1.out
        simpa using this
      have hx : W.cell? ⟨w.heap.size + 1 + 1, 0, none⟩ = some (.slice a1 lr.length cap1) := by simp [World.cell?, hk]
      have hbw : Below w.heap.size w W := by rw [hW]; exact bsetZ HB1.out (by omega)
      refine bodyPost_ret (v := .tuple #[.agg #[.slice a1 lr.length cap1], .int .i64 0]) (by simp [results, Tryz.results22, go_sem, hx]) rfl ?_
      refine ⟨.agg #[.slice a1 lr.length cap1], by rw [HRN.out], ?_, hbw⟩
      rw [HRN.out]
      rw [hW]
      exact HCW.out.set HR1.out
    · replace HRN : Hold (actF l ⟨4, nm, ⟨xn, fl, u⟩⟩ = (l, z)) := ⟨by rw [HRN.out]; unfold keepR; rw [if_neg hz]⟩
      have y0 : W1.cell? ⟨w.heap.size, 0, none⟩ = some (.slice a l.length cap) := by
        have := HC1.out
        simp [World.cell?, this]
      have hf1 : W1.frozen? ⟨w.heap.size + 1 + 1, 0, none⟩ = false := free_box HR1.out 0
      have hx1 : W1.cell? ⟨w.heap.size + 1 + 1, 0, none⟩ = some (.slice none 0 0) := by
        have := HR1.out
        simp [World.cell?, this]
      go_wp2_with fail
      clear hf1 hx1 y0
      obtain ⟨W, hW⟩ : ∃ W, W = W1.setCell ⟨w.heap.size + 1 + 1, 0, none⟩ (.slice a l.length cap) := ⟨_, rfl⟩
      rw [← hW]
      have hk : W.heap[w.heap.size + 1 + 1]? = some (.cells #[.slice a l.length cap] 57 (0, 0)) := by
        rw [hW]
        have := set_self (o := 0) (c := .slice a l.length cap) HR1.out
        simpa using this
      have hx : W.cell? ⟨w.heap.size + 1 + 1, 0, none⟩ = some (.slice a l.length cap) := by simp [World.cell?, hk]
      have hbw : Below w.heap.size w W := by rw [hW]; exact bsetZ HB1.out (by omega)
      refine bodyPost_ret (v := .tuple #[.agg #[.slice a l.length cap], .int .i64 z]) (by simp [results, Tryz.results22, go_sem, hx]) rfl ?_
      refine ⟨.agg #[.slice a l.length cap], by rw [HRN.out], ?_, hbw⟩
      rw [HRN.out]
      exact ((show CatAt (cf w) l _ from ⟨_, _, rfl, HS.out⟩).mono (cle_below hbw))
  have HRN : Hold (actF l ⟨kd, nm, ⟨xn, fl, u⟩⟩ = (l, 0)) := ⟨by unfold actF; rw [if_neg e1, if_neg e2, if_neg e3, if_neg e4]⟩
  have hf1 : W0.frozen? ⟨w.heap.size + 1 + 1, 0, none⟩ = false := free_box HRB.out 0
  have hx1 : W0.cell? ⟨w.heap.size + 1 + 1, 0, none⟩ = some (.slice none 0 0) := by
    have := HRB.out
    simp [World.cell?, this]
  clear hca
  go_wp2_with fail
  clear hf1 hx1 y0 x0 x1 x2 x3 x4
  obtain ⟨W, hW⟩ : ∃ W, W = W0.setCell ⟨w.heap.size + 1 + 1, 0, none⟩ (.slice a l.length cap) := ⟨_, rfl⟩
  rw [← hW]
  have hk : W.heap[w.heap.size + 1 + 1]? = some (.cells #[.slice a l.length cap] 57 (0, 0)) := by
    rw [hW]
    have := set_self (o := 0) (c := .slice a l.length cap) HRB.out
    simpa using this
  have hx : W.cell? ⟨w.heap.size + 1 + 1, 0, none⟩ = some (.slice a l.length cap) := by simp [World.cell?, hk]
  have hbw : Below w.heap.size w W := by rw [hW]; exact bsetZ HB0.out (by omega)
  refine bodyPost_ret (v := .tuple #[.agg #[.slice a l.length cap], .int .i64 0]) (by simp [results, Tryz.results22, go_sem, hx]) rfl ?_
  refine ⟨.agg #[.slice a l.length cap], by rw [HRN.out], ?_, hbw⟩
  rw [HRN.out]
  exact (show CatAt (cf w) l _ from ⟨_, _, rfl, HS.out⟩).mono (cle_below hbw)


set_option maxRecDepth 100000 in
set_option maxHeartbeats 16000000 in
theorem ints_any (zs : List Int) (u v : Value) (w : World) (hu : SAt 1 RInt (cf w) u zs) (hv : SAt 1 RInt (cf w) v zs) :
    Calls Tryz.prog 26 #[u, v] w fun e w' => e = .returned (.bool true) ∧ Below w.heap.size w w' := by
  obtain ⟨a, cap, rfl, hle, hcap, hel⟩ := hu
  obtain ⟨a2, cap2, rfl, hle2, hcap2, hel2⟩ := hv
  have HE := Hold.mk hel
  have HE2 := Hold.mk hel2
  clear hel hel2
  go_enter Tryz.func26, Tryz.ntmps26
  go_upto_region 3 with (fail)
  go_wp2_with fail
  go_loopw [5] (fun i wr => ∃ j : Nat, i = .int .i64 j ∧ j ≤ zs.length ∧ Below w.heap.size w wr) (fun i _ => zs.length - (intOf i).toNat)
  case atStart => exact ⟨0, rfl, Nat.zero_le _, Below.refl _ _⟩
  case round =>
    obtain ⟨j, rfl, hj, hb⟩ := hrel
    have HB := Hold.mk hb
    by_cases hlt : j < zs.length
    · obtain ⟨z, hz⟩ : ∃ z, zs[j]? = some z := ⟨zs[j], List.getElem?_eq_getElem hlt⟩
      obtain ⟨b, off, d, rfl, _, hcc, rfl⟩ := HE.out j z hz
      obtain ⟨b2, off2, d2, rfl, _, hcc2, rfl⟩ := HE2.out j z hz
      have z0 := cle_below hb _ _ _ (hcc 0 _ rfl)
      have z1 := cle_below hb _ _ _ (hcc2 0 _ rfl)
      unfold cf at z0 z1
      rw [Nat.add_zero, Nat.mul_one] at z0 z1
      have g0 := Grow.cell z0
      have g1 := Grow.cell z1
      clear hz hcc hcc2 z0 z1 hb
      go_upto_region 6 with (fail)
      refine wp_region_grow (by kernel_rfl) (by kernel_rfl) ?_
      repeat (go_big_quiet_step (fail))
      refine wpQuiet_nil ?_
      rintro ⟨w9, hb9⟩
      simp only
      have HB9 := Hold.mk (HB.out.trans (hb9.mono HB.out.size))
      clear g0 g1 hb9
      go_wp2_with fail
      exact ⟨⟨j + 1, by go_num, hlt, HB9.out⟩, by simp [intOf]; omega⟩
    · clear hb
      go_wp2_with fail
      go_ret
      exact ⟨rfl, HB.out⟩

end Go.Proofs.YtcmfanfkcbjeoaaGreatDoor
