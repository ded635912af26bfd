/- Answers: a query and documents as the reference has them; of a size that is looked at. -/
import Derived.Test.YtkhhbckpddkhlaaDoorAL
import Derived.Test.YtkhhbckpddkhlaaDoorAN
import Derived.Test.YtkhhbckpddkhlaaDoorAS
namespace Go.Proofs.YtkhhbckpddkhlaaDoor
open Go.Shelf Go.RowKit

set_option maxRecDepth 100000 in
set_option maxHeartbeats 8000000 in
theorem adocs_any (l : List DR) (lv : Value) (w : World) (hl : SAt 6 RD (cf w) lv l) (hlen : l.length ≤ 1000000) :
    Calls Tryd.prog 10 #[lv] w fun e w' => ∃ sv, e = .returned sv ∧ SAt 6 RD (cf w') sv l ∧ Below w.heap.size w w' := by
  obtain ⟨la, lcap, rfl, hle, hcap, hel⟩ := hl
  have HE := Hold.mk hel
  clear hel
  have HO : Hold (OwnS 6 RD 55 w.heap.size w (.slice none 0 0) 0 ([] : List DR) []) := ⟨OwnS.start _ _ _ (Nat.le_refl _)⟩
  go_enter Tryd.func10, Tryd.ntmps10
  go_wp2_with fail
  go_loopw [3, 4] (fun sl i wr => ∃ (j : Nat) (cs : List Value), i = .int .i64 j ∧ j ≤ l.length ∧ OwnS 6 RD 55 w.heap.size wr sl j (l.take j) cs ∧ Below w.heap.size w wr) (fun _ i _ => l.length - (intOf i).toNat)
  case atStart => exact ⟨0, [], rfl, Nat.zero_le _, HO.out, Below.refl _ _⟩
  case round =>
    obtain ⟨j, cs, rfl, hj, hown, hbx⟩ := hrel
    clear HO
    obtain ⟨sa, scap, rfl⟩ := hown.shape
    obtain ⟨ks, hks⟩ : ∃ ks, ks = l.take j := ⟨_, rfl⟩
    rw [← hks] at hown
    have HO := Hold.mk hown
    have HB := Hold.mk hbx
    have HKS := Hold.mk hks
    clear hown hbx hks
    by_cases hlt : j < l.length
    · obtain ⟨x, hx⟩ : ∃ x, l[j]? = some x := ⟨l[j], List.getElem?_eq_getElem hlt⟩
      obtain ⟨b, off, d, rfl, hd, hc, hxi⟩ := HE.out j x hx
      have hxi2 := hxi
      obtain ⟨k, n, t, na, nl, ncap, ia, il, icap, rfl, _⟩ := hxi2
      have HRI : Hold (RD (cfN (.slice sa j scap) wr) x [.string x.id, .int .i64 k, .int .i64 n, .string t, .slice na nl ncap, .slice ia il icap]) := ⟨RD_mono _ _ _ _ (cle_cfN_old HB.out (fun g hg => (HO.out.low g hg).1)) hxi⟩
      have HTK : Hold (l.take (j + 1) = ks ++ [x]) := ⟨by rw [take_nextW hx, ← HKS.out]⟩
      have hcl := cle_below HB.out
      have z0 := hcl _ _ _ (hc 0 _ rfl)
      have z1 := hcl _ _ _ (hc 1 _ rfl)
      have z2 := hcl _ _ _ (hc 2 _ rfl)
      have z3 := hcl _ _ _ (hc 3 _ rfl)
      have z4 := hcl _ _ _ (hc 4 _ rfl)
      have z5 := hcl _ _ _ (hc 5 _ rfl)
      unfold cf at z0 z1 z2 z3 z4 z5
      rw [Nat.add_zero] at z0
      clear hx hd hc hcl hxi
      go_wp2_with (at_builtin; refine push_new RD_mono rfl _ _ rfl infoDr Tryd.underlying38 rfl (by decide) _ _ _ j _ _ HO.out rfl _ [_, _, _, _, _, _] rfl rfl (by simp [Value.oneCell']) x HRI.out _ rfl rfl (by omega) (by decide) ?_)
      intro sl2 w6 ho6 hg6
      have HN : Hold (OwnS 6 RD 55 w.heap.size w6 sl2 (j + 1) (l.take (j + 1)) _) := ⟨by rw [HTK.out]; exact ho6⟩
      have HW : Hold (Below w.heap.size w w6) := ⟨HB.out.trans (HO.out.below hg6)⟩
      clear ho6 hg6 z0 z1 z2 z3 z4 z5
      go_wp2_with fail
      exact ⟨⟨j + 1, _, by go_num, hlt, HN.out, HW.out⟩, by simp [intOf]; omega⟩
    · obtain rfl : j = l.length := by omega
      have HM := Hold.mk (HO.out.at_ RD_mono)
      rw [HKS.out, List.take_of_length_le (Nat.le_refl _)] at HM
      have HBF := HB.out
      go_wp2_with fail
      go_ret
      exact ⟨_, rfl, HM.out, HBF⟩

/-- nine stores into one box -/
def set9 (w : World) (k : Nat) (c0 c1 c2 c3 c4 c5 c6 c7 c8 : Value) : World := ((((set5 w k c0 c1 c2 c3 c4).setCell ⟨k, 5, none⟩ c5).setCell ⟨k, 6, none⟩ c6).setCell ⟨k, 7, none⟩ c7).setCell ⟨k, 8, none⟩ c8
theorem set9_self {w : World} {k : Nat} {a0 a1 a2 a3 a4 a5 a6 a7 a8 c0 c1 c2 c3 c4 c5 c6 c7 c8 : Value} {t : TypeId} {fr : Nat × Nat} (h : w.heap[k]? = some (.cells #[a0, a1, a2, a3, a4, a5, a6, a7, a8] t fr)) : (set9 w k c0 c1 c2 c3 c4 c5 c6 c7 c8).heap[k]? = some (.cells #[c0, c1, c2, c3, c4, c5, c6, c7, c8] t fr) := by
  have := set_self (o := 8) (c := c8) (set_self (o := 7) (c := c7) (set_self (o := 6) (c := c6) (set_self (o := 5) (c := c5) (set_self (o := 4) (c := c4) (set_self (o := 3) (c := c3) (set_self (o := 2) (c := c2) (set_self (o := 1) (c := c1) (set_self (o := 0) (c := c0) h))))))))
  unfold set9 set5
  simpa using this
theorem set9_below {w a : World} {B k : Nat} {c0 c1 c2 c3 c4 c5 c6 c7 c8 : Value} (hb : Below B a w) (hB : B ≤ k) : Below B a (set9 w k c0 c1 c2 c3 c4 c5 c6 c7 c8) := by
  unfold set9
  exact ((((set5_below hb hB).setCell (p := ⟨k, 5, none⟩) hB _).setCell (p := ⟨k, 6, none⟩) hB _).setCell (p := ⟨k, 7, none⟩) hB _).setCell (p := ⟨k, 8, none⟩) hB _
theorem set9_grown (w : World) (k : Nat) (c0 c1 c2 c3 c4 c5 c6 c7 c8 : Value) : w.grownBy (set9 w k c0 c1 c2 c3 c4 c5 c6 c7 c8) (some k) := by
  have hb := set9_below (c0 := c0) (c1 := c1) (c2 := c2) (c3 := c3) (c4 := c4) (c5 := c5) (c6 := c6) (c7 := c7) (c8 := c8) (Below.refl k w) (Nat.le_refl k)
  refine ⟨hb.os, hb.tape, hb.output, hb.size, fun q _ hq => ?_⟩
  have hq : q ≠ k := fun e => hq (by rw [e])
  unfold set9
  rw [Below.heap_setCell _ _ _ _ hq, Below.heap_setCell _ _ _ _ hq, Below.heap_setCell _ _ _ _ hq, Below.heap_setCell _ _ _ _ hq, set5_other hq]
theorem infoOrd : (Tryd.prog.info? 59).map (fun i => (i.zero, i.size, i.bytes)) = some (some (.agg #[.string ⟨#[]⟩, .bool false]), 2, 24) := by kernel_rfl
theorem RO_one : ∀ (c : CF) (x : OR) (d : List Value), RO c x d → ∀ u ∈ d, u.oneCell' = true := fun c x d ⟨e, _⟩ u hu => by
  rw [e] at hu
  simp at hu
  rcases hu with rfl | rfl <;> rfl
theorem RO_any : ∀ c c' x d, RO c x d → RO c' x d := fun _ _ _ _ h => h
theorem qat_plain {w w' : World} {q : QR} {k n : Int} {t : ByteArray} {na : Option Addr} {nl nc : Nat} {ia : Option Addr} {il ic : Nat} {fv sl : Value} {T : TypeId} {B p : Nat} {cs : List Value} (hj : JAt (cf w) q.flt (.agg #[.int .i64 k, .int .i64 n, .string t, .slice na nl nc, .slice ia il ic])) (hf : SAt 1 RS (cf w) fv q.fields) (hb : Below w.heap.size w w') (ho : OwnS 2 RO T B w' sl p q.sort cs) :
    QAt (cf w') q [.int .i64 k, .int .i64 n, .string t, .slice na nl nc, .slice ia il ic, sl, fv, .int .i64 q.skip, .int .i64 q.lim] :=
  ⟨k, n, t, na, nl, nc, ia, il, ic, _, _, rfl, hj.mono (cle_below hb), ho.at_ RO_mono, hf.mono RS_mono (cle_below hb)⟩
/-- the query under way -/
structure PLQ (q : QR) (Q9 : Array Value) (k n : Int) (t : ByteArray) (na : Option Addr) (nl nc : Nat) (ia : Option Addr) (il ic : Nat) (fv : Value) (w wr : World) (sl : Value) (j : Nat) (cs : List Value) : Prop where
  one : wr.heap[w.heap.size]? = some (.cells Q9 28 (0, 0))
  two : wr.heap[w.heap.size + 1]? = some (.cells #[.int .i64 0, .int .i64 0, .string ⟨#[]⟩, .slice none 0 0, .slice none 0 0, .slice none 0 0, .slice none 0 0, .int .i64 0, .int .i64 0] 46 (0, 0))
  pb : wr.heap[w.heap.size + 2]? = some (.cells #[.int .i64 k, .int .i64 n, .string t, .slice na nl nc, .slice ia il ic, sl, fv, .int .i64 q.skip, .int .i64 q.lim] 46 (0, 0))
  own : OwnS 2 RO 59 (w.heap.size + 3) wr sl j (q.sort.take j) cs
  bel : Below w.heap.size w wr

set_option maxRecDepth 100000 in
set_option maxHeartbeats 16000000 in
theorem aplain_any (q : QR) (d : List Value) (w : World) (hq : QAt (cf w) q d) (hlen : q.sort.length ≤ 1000000) :
    Calls Tryd.prog 15 #[.agg d.toArray] w fun e w' => ∃ d', e = .returned (.agg d'.toArray) ∧ QAt (cf w') q d' ∧ Below w.heap.size w w' := by
  obtain ⟨k, n, t, na, nl, nc, ia, il, ic, sv, fv, rfl, hj, hs, hf⟩ := hq
  have HF := Hold.mk hf
  have HJ := Hold.mk hj
  obtain ⟨fa, fcap, rfl⟩ := hf.form
  obtain ⟨sa, scap, rfl, hle, hcap, hel⟩ := hs
  have HE := Hold.mk hel
  have HLEN := Hold.mk hlen
  have hl3 : q.sort.length ≤ 9223372036854775807 := by omega
  obtain ⟨W, hW⟩ : ∃ W, W = (w.alloc (.cells #[.int .i64 k, .int .i64 n, .string t, .slice na nl nc, .slice ia il ic, .slice sa q.sort.length scap, .slice fa q.fields.length fcap, .int .i64 q.skip, .int .i64 q.lim] 28)).alloc (.cells #[.int .i64 0, .int .i64 0, .string ⟨#[]⟩, .slice none 0 0, .slice none 0 0, .slice none 0 0, .slice none 0 0, .int .i64 0, .int .i64 0] 46) := ⟨_, rfl⟩
  have H2 : Hold (TwoB w W #[.int .i64 k, .int .i64 n, .string t, .slice na nl nc, .slice ia il ic, .slice sa q.sort.length scap, .slice fa q.fields.length fcap, .int .i64 q.skip, .int .i64 q.lim] #[.int .i64 0, .int .i64 0, .string ⟨#[]⟩, .slice none 0 0, .slice none 0 0, .slice none 0 0, .slice none 0 0, .int .i64 0, .int .i64 0] 28 46) := ⟨by rw [hW]; exact TwoB.refl _ _ _ _ _⟩
  have HWS : Hold (W.heap.size = w.heap.size + 2) := ⟨by rw [hW]; simp⟩
  clear hj hf hel hlen
  go_enter Tryd.func15, Tryd.ntmps15
  go_upto_region 1 with (fail)
  rw [← hW]
  clear hW
  obtain ⟨y0, y1, y2, y3, y4, y5, y6, y7, y8⟩ := cells9A H2.out.one
  go_upto_region 2 with (fail)
  obtain ⟨W2, hW2⟩ : ∃ W2, W2 = W.alloc (.cells #[.int .i64 k, .int .i64 n, .string t, .slice na nl nc, .slice ia il ic, .slice none 0 0, .slice fa q.fields.length fcap, .int .i64 q.skip, .int .i64 q.lim] 46) := ⟨_, rfl⟩
  have HP0 : Hold (PLQ q #[.int .i64 k, .int .i64 n, .string t, .slice na nl nc, .slice ia il ic, .slice sa q.sort.length scap, .slice fa q.fields.length fcap, .int .i64 q.skip, .int .i64 q.lim] k n t na nl nc ia il ic (.slice fa q.fields.length fcap) w W2 (.slice none 0 0) 0 []) := ⟨by
    have hb2 : Below W.heap.size W W2 := by rw [hW2]; exact (Below.refl _ W).alloc (Nat.le_refl _) _
    exact ⟨kept H2.out.one hb2, kept H2.out.two hb2, by rw [hW2, ← HWS.out]; exact heap_alloc_new W _, by rw [List.take_zero]; exact OwnS.start _ _ _ (by rw [hW2]; simp [HWS.out]), H2.out.bel.trans (hb2.mono H2.out.bel.size)⟩⟩
  rw [← hW2, HWS.out]
  clear hW2 H2 HWS y0 y1 y2 y3 y4 y5 y6 y7 y8
  go_wp2_with fail
  go_loopw [4] (fun i wr => ∃ (j : Nat) (sl : Value) (cs : List Value), i = .int .i64 j ∧ j ≤ q.sort.length ∧ PLQ q #[.int .i64 k, .int .i64 n, .string t, .slice na nl nc, .slice ia il ic, .slice sa q.sort.length scap, .slice fa q.fields.length fcap, .int .i64 q.skip, .int .i64 q.lim] k n t na nl nc ia il ic (.slice fa q.fields.length fcap) w wr sl j cs) (fun i _ => q.sort.length - (intOf i).toNat)
  case atStart => exact ⟨0, _, [], rfl, Nat.zero_le _, HP0.out⟩
  case round =>
    obtain ⟨j, sl, cs, rfl, hj, hp⟩ := hrel
    clear HP0
    obtain ⟨oa, ocap, rfl, _, _⟩ := own_shapeA hp.own.own
    have HP := Hold.mk hp
    clear hp
    obtain ⟨y0, y1, y2, y3, y4, y5, y6, y7, y8⟩ := cells9A HP.out.one
    by_cases hlt : j < q.sort.length
    · obtain ⟨o, ho⟩ : ∃ o, q.sort[j]? = some o := ⟨q.sort[j], List.getElem?_eq_getElem hlt⟩
      obtain ⟨b, off, d, rfl, hd, hc, hoi⟩ := HE.out j o ho
      have HOO := Hold.mk ho
      have HRO : Hold (∀ c, RO c o d) := ⟨fun c => hoi⟩
      obtain ⟨op, dn⟩ := o
      obtain ⟨rfl, _⟩ := hoi
      have hcl := cle_below HP.out.bel
      have c0 := hc 0 _ rfl
      have c1 := hc 1 _ rfl
      have hb1 : b < w.heap.size := lt_of_cell c0
      have z0 := hcl _ _ _ c0
      have z1 := hcl _ _ _ c1
      unfold cf at z0 z1
      rw [Nat.add_zero] at z0
      have g0 := GrowB.cell (B := w.heap.size + 2) z0 (by omega)
      have g1 := GrowB.cell (B := w.heap.size + 2) z1 (by omega)
      have g5 := GrowB.cell (B := w.heap.size + 2) y5 (by omega)
      obtain ⟨x0, x1, x2, x3, x4, x5, x6, x7, x8⟩ := cells9A HP.out.pb
      have h5 := BoxT.cell (B := w.heap.size + 2) x5
      clear ho hd hc hcl c0 c1 z0 z1 hb1 x0 x1 x2 x3 x4 x5 x6 x7 x8
      go_upto_region 5 with (fail)
      clear y0 y1 y2 y3 y4 y5 y6 y7 y8
      refine wp_region_mixL (KeepC (w.heap.size + 2) (w.heap.size + 2) wr [8]) 11 rfl (by kernel_rfl) ?_
      obtain ⟨w3, hw3⟩ : ∃ w3, w3 = wr.drew := ⟨_, rfl⟩
      have hb3 : Below wr.heap.size wr w3 := by rw [hw3]; exact (Below.refl _ _).drew
      have HK3 : Hold (Below (w.heap.size + 2) wr w3 ∧ w3.heap[w.heap.size + 2]? = wr.heap[w.heap.size + 2]?) := ⟨by rw [hw3]; exact ⟨(Below.refl _ _).drew, rfl⟩⟩
      have HO3 := Hold.mk (HP.out.own.quiet RO_mono hb3)
      have HB3 := Hold.mk (HP.out.bel.trans (hb3.mono HP.out.bel.size))
      rw [← hw3]
      clear hw3 hb3
      refine mixL_seg (by kernel_rfl) (fun _ _ d _ _ h => by cases d <;> exact h) (GrowBC (w.heap.size + 2) wr) keepC_base [0, 2, 3, 4, 5, 6] (keepC_back rfl) [_, _, _, _, _, _] 5 11 rfl _ _ _ rfl (by kernel_rfl) ?_
      repeat (go_big_quiet_step (fail))
      refine wpQuiet_nil ?_
      clear g0 g1 g5
      refine mixL_one (by kernel_rfl) (fun _ _ d _ _ h => by cases d <;> exact h) (BoxC (w.heap.size + 2) (w.heap.size + 2) wr) 8 (keepC_box (by decide)) 1 (fun l w => keepC_back (is := [1]) rfl 1 (by simp) l w) _ 4 _ _ _ rfl (by kernel_rfl) (by kernel_rfl) (by kernel_rfl) ?_
      repeat (go_big_quiet_step (fail))
      refine wpQuiet_nil ?_
      clear h5
      refine mixL_act (i := 7) rfl (by kernel_rfl) (keepC_on HK3.out.1 HK3.out.2) rfl (fun K hK => ?_)
      go_wp2_with fail
      have HKA : Hold (KeepC (w.heap.size + 2) (w.heap.size + 2) wr [8] (setAll (Array.replicate 11 false) [0, 2, 3, 4, 5, 6, 1, 7]) (w3.alloc (.cells #[.string op, .bool dn] 59))) := ⟨by
        have hpl := heap_lt HP.out.pb
        have hws := HK3.out.1.size
        have hb : Below w3.heap.size w3 (w3.alloc (.cells #[.string op, .bool dn] 59)) := (Below.refl _ w3).alloc (Nat.le_refl _) _
        exact keepC_on (HK3.out.1.trans (hb.mono (by omega))) (by rw [hb.block _ (by omega)]; exact HK3.out.2)⟩
      refine mixL_act (i := 8) rfl (by kernel_rfl) (keepC_on HKA.out.1 (HKA.out.2 rfl)) rfl (fun K hK => ?_)
      refine wp_push RO_mono (.tmp 22) (.tmp 28) rfl infoOrd Tryd.underlying44 rfl (by decide) _ _ _ j _ _ HO3.out rfl _ [.string op, .bool dn] rfl rfl (by simp [Value.oneCell']) ⟨op, dn⟩ (HRO.out _) _ rfl rfl (by have := HLEN.out; omega) (by decide) ?_
      intro sl2 w9 ho9 hg9
      obtain ⟨pa2, pcap2, rfl, _, _⟩ := own_shapeA ho9.own
      have hlow := HO3.out.low
      have hpl : w.heap.size + 2 < w3.heap.size := Nat.lt_of_lt_of_le (heap_lt HP.out.pb) HK3.out.1.size
      have HB9 : Hold (Below (w.heap.size + 2) wr w9) := ⟨HK3.out.1.trans (hg9.below (by omega) (fun g hg => by have := (hlow g hg).1; omega))⟩
      have hpb9 : w9.heap[w.heap.size + 2]? = some (.cells #[.int .i64 k, .int .i64 n, .string t, .slice na nl nc, .slice ia il ic, .slice oa j ocap, .slice fa q.fields.length fcap, .int .i64 q.skip, .int .i64 q.lim] 46 (0, 0)) := hg9.kept (HK3.out.2.trans HP.out.pb) (fun g hg => by have := (hlow g hg).1; omega)
      have HPB9 := Hold.mk hpb9
      have HO9 := Hold.mk ho9
      clear ho9 hg9 hlow hpl HKA hpb9
      go_wp2_with fail
      have hpb9 := HPB9.out
      refine mixL_seg (by kernel_rfl) (fun _ _ d _ _ h => by cases d <;> exact h) (GrowBC (w.heap.size + 2) wr) keepC_base [9] (keepC_back rfl) [_] 1 2 rfl _ _ _ rfl (by kernel_rfl) ?_
      repeat (go_big_quiet_step (fail))
      refine wpQuiet_nil ?_
      refine mixL_act (i := 10) rfl (by kernel_rfl) (keepC_off HB9.out (by kernel_rfl)) rfl (fun K hK => ?_)
      obtain ⟨x0, x1, x2, x3, x4, x5, x6, x7, x8⟩ := cells9A hpb9
      have f5 := free_box hpb9 5
      have HN : Hold (PLQ q #[.int .i64 k, .int .i64 n, .string t, .slice na nl nc, .slice ia il ic, .slice (some ⟨b, off, none⟩) q.sort.length scap, .slice fa q.fields.length fcap, .int .i64 q.skip, .int .i64 q.lim] k n t na nl nc ia il ic (.slice fa q.fields.length fcap) w (w9.setCell ⟨w.heap.size + 2, 5, none⟩ (.slice pa2 (j + 1) pcap2)) (.slice pa2 (j + 1) pcap2) (j + 1) (cs ++ [.string op, .bool dn])) := ⟨by
        have hgs : w9.grownBy (w9.setCell ⟨w.heap.size + 2, 5, none⟩ (.slice pa2 (j + 1) pcap2)) (some (w.heap.size + 2)) := ⟨rfl, rfl, rfl, by simp, fun q _ hq => Below.heap_setCell _ _ _ _ (fun e => hq (by rw [e]))⟩
        have hlw := HO9.out.low
        refine ⟨?_, ?_, ?_, by rw [take_nextW HOO.out]; exact HO9.out.other RO_any hgs (fun q hq e => by have := (hlw q hq).1; have := Option.some.inj e; omega), ?_⟩
        · rw [Below.heap_setCell _ _ _ _ (by show w.heap.size ≠ w.heap.size + 2; omega), HB9.out.block _ (by omega)]; exact HP.out.one
        · rw [Below.heap_setCell _ _ _ _ (by show w.heap.size + 1 ≠ w.heap.size + 2; omega), HB9.out.block _ (by omega)]; exact HP.out.two
        · have := set_self (o := 5) (c := .slice pa2 (j + 1) pcap2) HPB9.out
          simpa using this
        · exact (HP.out.bel.trans (HB9.out.mono (by omega))).setCell (p := ⟨w.heap.size + 2, 5, none⟩) (by show w.heap.size ≤ w.heap.size + 2; omega) _⟩
      clear hpb9
      go_wp2_with fail
      clear x0 x1 x2 x3 x4 x5 x6 x7 x8 f5
      refine mixL_done (by kernel_rfl) (keepC_off (HB9.out.setCell (p := ⟨w.heap.size + 2, 5, none⟩) (Nat.le_refl _) _) (by kernel_rfl)) ?_
      go_wp2_with fail
      exact ⟨⟨j + 1, _, _, by go_num, hlt, HN.out⟩, by simp [intOf]; omega⟩
    · have hje : j = q.sort.length := by omega
      obtain ⟨x0, x1, x2, x3, x4, x5, x6, x7, x8⟩ := cells9A HP.out.pb
      obtain ⟨z0, z1, z2, z3, z4, z5, z6, z7, z8⟩ := cells9A HP.out.two
      have f0 := free_box HP.out.two 0
      have f1 := free_box HP.out.two 1
      have f2 := free_box HP.out.two 2
      have f3 := free_box HP.out.two 3
      have f4 := free_box HP.out.two 4
      have f5 := free_box HP.out.two 5
      have f6 := free_box HP.out.two 6
      have f7 := free_box HP.out.two 7
      have f8 := free_box HP.out.two 8
      have HWF : Hold (Below w.heap.size w (set9 wr (w.heap.size + 1) (.int .i64 k) (.int .i64 n) (.string t) (.slice na nl nc) (.slice ia il ic) (.slice oa j ocap) (.slice fa q.fields.length fcap) (.int .i64 q.skip) (.int .i64 q.lim))) := ⟨set9_below HP.out.bel (by omega)⟩
      have HQF : Hold (QAt (cf (set9 wr (w.heap.size + 1) (.int .i64 k) (.int .i64 n) (.string t) (.slice na nl nc) (.slice ia il ic) (.slice oa j ocap) (.slice fa q.fields.length fcap) (.int .i64 q.skip) (.int .i64 q.lim))) q [.int .i64 k, .int .i64 n, .string t, .slice na nl nc, .slice ia il ic, .slice oa j ocap, .slice fa q.fields.length fcap, .int .i64 q.skip, .int .i64 q.lim]) := ⟨by
        have ho := HP.out.own.other RO_any (set9_grown wr (w.heap.size + 1) (.int .i64 k) (.int .i64 n) (.string t) (.slice na nl nc) (.slice ia il ic) (.slice oa j ocap) (.slice fa q.fields.length fcap) (.int .i64 q.skip) (.int .i64 q.lim)) (fun g hg e => by have := (HP.out.own.low g hg).1; have := Option.some.inj e; omega)
        rw [List.take_of_length_le (by omega)] at ho
        exact qat_plain HJ.out HF.out HWF.out ho⟩
      have HS9 := Hold.mk (set9_self (c0 := .int .i64 k) (c1 := .int .i64 n) (c2 := .string t) (c3 := .slice na nl nc) (c4 := .slice ia il ic) (c5 := .slice oa j ocap) (c6 := .slice fa q.fields.length fcap) (c7 := .int .i64 q.skip) (c8 := .int .i64 q.lim) HP.out.two)
      unfold set9 set5 at HS9 HWF HQF
      clear hje
      go_wp2_with fail
      obtain ⟨q0, q1, q2, q3, q4, q5, q6, q7, q8⟩ := cells9A HS9.out
      exact bodyPost_ret (v := .agg #[.int .i64 k, .int .i64 n, .string t, .slice na nl nc, .slice ia il ic, .slice oa j ocap, .slice fa q.fields.length fcap, .int .i64 q.skip, .int .i64 q.lim]) (by simp [results, Tryd.results15, go_sem, q0, q1, q2, q3, q4, q5, q6, q7, q8]) rfl ⟨[.int .i64 k, .int .i64 n, .string t, .slice na nl nc, .slice ia il ic, .slice oa j ocap, .slice fa q.fields.length fcap, .int .i64 q.skip, .int .i64 q.lim], rfl, HQF.out, HWF.out⟩

end Go.Proofs.YtkhhbckpddkhlaaDoor
