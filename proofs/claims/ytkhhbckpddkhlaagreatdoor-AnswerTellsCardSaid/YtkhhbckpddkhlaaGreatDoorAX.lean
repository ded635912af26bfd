/- Answers: with of the reference: one document more. (printed by genXAR.py) Answers: Run of the reference walked. (printed by genXAX.py) -/
import Derived.Test.YtkhhbckpddkhlaaGreatDoorAC
import Derived.Test.YtkhhbckpddkhlaaGreatDoorAG
import Derived.Test.YtkhhbckpddkhlaaGreatDoorAS
import Derived.Deep.DeepCutAuto
import Derived.Test.YtkhhbckpddkhlaaGreatDoorAV
import Derived.Test.YtkhhbckpddkhlaaGreatDoorAU
import Derived.Test.YtkhhbckpddkhlaaGreatDoorAO
import Derived.Test.YtkhhbckpddkhlaaGreatDoorGC
namespace Go.Proofs.YtkhhbckpddkhlaaGreatDoor
open Go.Shelf Go.RowKit

/-- where it is laid -/
theorem withA_cut (o : List OR) (d : DR) : ∀ (xs : List DR) (k : Nat), (∀ (i : Nat) x, i < k → xs[i]? = some x → ¬ docC o d x < 0) → (∀ x, xs[k]? = some x → docC o d x < 0) → k ≤ xs.length → withA o d xs = xs.take k ++ [d] ++ xs.drop k
  | [], k, _, _, hk => by
    obtain rfl : k = 0 := by simpa using hk
    rfl
  | y :: ys, 0, _, h, _ => by rw [withA, if_pos (h y rfl)]; rfl
  | y :: ys, k + 1, h1, h2, hk => by
    rw [withA, if_neg (h1 0 y (by omega) rfl), withA_cut o d ys k (fun i x hi hx => h1 (i + 1) x (by omega) (by simpa using hx)) (fun x hx => h2 x (by simpa using hx)) (by simpa using hk)]
    rfl
theorem TwoB.keepR {w wr w' : World} {a b : Array Value} {s t : TypeId} (h : TwoB w wr a b s t) (hb : Below (w.heap.size + 2) wr w') : TwoB w w' a b s t :=
  ⟨h.bel.trans (hb.mono (by omega)), by rw [hb.block _ (by omega)]; exact h.one, by rw [hb.block _ (by omega)]; exact h.two⟩

set_option maxRecDepth 100000 in
set_option maxHeartbeats 16000000 in
theorem rwith_any (q : QR) (l : List DR) (x : DR) (d dx : List Value) (lv : Value) (w : World) (hq : QAt (cf w) q d) (hl : SAt 6 RD (cf w) lv l) (hx : RD (cf w) x dx) (hlen : l.length ≤ 1000000) (hsz : ∀ o ∈ q.sort, o.path.size ≤ 1000000) :
    Calls Tryz.prog 50 #[.agg d.toArray, lv, .agg dx.toArray] w fun e w' => ∃ sv, e = .returned sv ∧ SAt 6 RD (cf w') sv (withA q.sort x l) ∧ Below w.heap.size w w' := by
  have HQA := Hold.mk hq
  have HLA := Hold.mk hl
  have HXA := Hold.mk hx
  obtain ⟨k, n, t, na, nl, nc, ia, il, ic, sv, fv, rfl, _, hs, hf⟩ := hq
  obtain ⟨sa, scap, rfl⟩ := hs.form
  obtain ⟨fa, fcap, rfl⟩ := hf.form
  obtain ⟨la, lcap, rfl, hle, hcap, hel⟩ := hl
  obtain ⟨dk, dn, dt, dna, dnl, dnc, dia, dil, dic, rfl, _⟩ := hx
  have hll3 : l.length ≤ 9223372036854775807 := by omega
  have HE := Hold.mk hel
  have HSZ := Hold.mk hsz
  have HLEN := Hold.mk hlen
  have H2 := Hold.mk (TwoB.refl w #[.int .i64 k, .int .i64 n, .string t, .slice na nl nc, .slice ia il ic, .slice sa q.sort.length scap, .slice fa q.fields.length fcap, .int .i64 q.skip, .int .i64 q.lim] #[.string x.id, .int .i64 dk, .int .i64 dn, .string dt, .slice dna dnl dnc, .slice dia dil dic] 40 50)
  clear hs hf hel hsz hlen
  go_enter Tryz.func50, Tryz.ntmps50
  go_upto_region 1 with (fail)
  obtain ⟨W, hW⟩ : ∃ W, W = ((w.alloc (.cells #[.int .i64 k, .int .i64 n, .string t, .slice na nl nc, .slice ia il ic, .slice sa q.sort.length scap, .slice fa q.fields.length fcap, .int .i64 q.skip, .int .i64 q.lim] 40)).alloc (.cells #[.string x.id, .int .i64 dk, .int .i64 dn, .string dt, .slice dna dnl dnc, .slice dia dil dic] 50)) := ⟨_, rfl⟩
  have HO : Hold (OwnS 6 RD 50 (w.heap.size + 2) W (.slice none 0 0) 0 ([] : List DR) []) := ⟨OwnS.start _ _ _ (by rw [hW]; simp)⟩
  rw [← hW] at H2 ⊢
  clear hW
  go_wp2_with fail
  go_loopw [7, 8] (fun sl i wr => ∃ (j : Nat) (cs : List Value), i = .int .i64 j ∧ j ≤ l.length ∧ (∀ (i : Nat) y, i < j → l[i]? = some y → ¬ docC q.sort x y < 0) ∧ OwnS 6 RD 50 (w.heap.size + 2) wr sl j (l.take j) cs ∧ TwoB w wr #[.int .i64 k, .int .i64 n, .string t, .slice na nl nc, .slice ia il ic, .slice sa q.sort.length scap, .slice fa q.fields.length fcap, .int .i64 q.skip, .int .i64 q.lim] #[.string x.id, .int .i64 dk, .int .i64 dn, .string dt, .slice dna dnl dnc, .slice dia dil dic] 40 50) (fun _ i _ => l.length - (intOf i).toNat)
  case atStart => exact ⟨0, [], rfl, Nat.zero_le _, fun i y h => absurd h (by omega), HO.out, H2.out⟩
  case round =>
    obtain ⟨j, cs, rfl, hj, hal, hown, h2⟩ := hrel
    clear HO H2
    obtain ⟨oa, ocap, rfl⟩ := hown.shape
    obtain ⟨ks, hks⟩ : ∃ ks, ks = l.take j := ⟨_, rfl⟩
    rw [← hks] at hown
    have HO := Hold.mk hown
    have H2 := Hold.mk h2
    have HAL := Hold.mk hal
    have HKS := Hold.mk hks
    clear hown h2 hal hks
    obtain ⟨cb, hcb⟩ : ∃ cb : Bool, cb = (match l[j]? with | some y => !decide (docC q.sort x y < 0) | none => false) := ⟨_, rfl⟩
    have HCB := Hold.mk hcb
    clear hcb
    go_upto_region 3 with (fail)
    go_cut [22] (fun s wx => s = .bool cb ∧ Below wr.heap.size wr wx)
    case first =>
      by_cases hlt : j < l.length
      · obtain ⟨y, hy⟩ : ∃ y, l[j]? = some y := ⟨l[j], List.getElem?_eq_getElem hlt⟩
        obtain ⟨b, off, d, rfl, hd, hc, hyi⟩ := HE.out j y hy
        have HYR := Hold.mk hyi
        obtain ⟨ek, en, et, ena, enl, enc, eia, eil, eic, rfl, _⟩ := hyi
        obtain rfl : cb = !decide (docC q.sort x y < 0) := by have := HCB.out; rw [hy] at this; exact this
        have hcl := cle_below H2.out.bel
        have g0 := Grow.cell (hcl _ _ _ (hc 0 _ rfl))
        have g1 := Grow.cell (hcl _ _ _ (hc 1 _ rfl))
        have g2 := Grow.cell (hcl _ _ _ (hc 2 _ rfl))
        have g3 := Grow.cell (hcl _ _ _ (hc 3 _ rfl))
        have g4 := Grow.cell (hcl _ _ _ (hc 4 _ rfl))
        have g5 := Grow.cell (hcl _ _ _ (hc 5 _ rfl))
        rw [Nat.add_zero] at g0
        obtain ⟨y0, y1, y2, y3, y4, y5, y6, y7, y8⟩ := cells9A H2.out.one
        obtain ⟨z0, z1, z2, z3, z4, z5⟩ := cells6D H2.out.two
        have p0 := Grow.cell y0
        have p1 := Grow.cell y1
        have p2 := Grow.cell y2
        have p3 := Grow.cell y3
        have p4 := Grow.cell y4
        have p5 := Grow.cell y5
        have p6 := Grow.cell y6
        have p7 := Grow.cell y7
        have p8 := Grow.cell y8
        have r0 := Grow.cell z0
        have r1 := Grow.cell z1
        have r2 := Grow.cell z2
        have r3 := Grow.cell z3
        have r4 := Grow.cell z4
        have r5 := Grow.cell z5
        clear y0 y1 y2 y3 y4 y5 y6 y7 y8 z0 z1 z2 z3 z4 z5 hc hcl hd hy
        have HLS := Hold.mk (Calls.grow (fun e : Grow wr => rqLess_any q x y _ _ _ e.val (HQA.out.mono ((cle_below H2.out.bel).trans (cle_below e.property))) (RD_mono _ _ _ _ ((cle_below H2.out.bel).trans (cle_below e.property)) HXA.out) (RD_mono _ _ _ _ ((cle_below H2.out.bel).trans (cle_below e.property)) HYR.out) HSZ.out))
        obtain ⟨cl, hcl⟩ : ∃ cl, decide (docC q.sort x y < 0) = cl := ⟨_, rfl⟩
        rw [hcl] at HLS
        have HCLH := Hold.mk hcl
        clear hcl
        refine wp_region_grow (by kernel_rfl) (by kernel_rfl) ?_
        repeat (go_big_quiet_step (exact HLS.out _))
        refine wpQuiet_nil ?_
        rintro ⟨w3, hb3⟩
        simp only
        go_wp2_with fail
        go_meet
        case rel => exact ⟨by rw [HCLH.out], hb3⟩
      · obtain rfl : cb = false := by have := HCB.out; rw [List.getElem?_eq_none (by omega)] at this; exact this
        refine wp_region_grow (by kernel_rfl) (by kernel_rfl) ?_
        repeat (go_big_quiet_step (fail))
        refine wpQuiet_nil ?_
        rintro ⟨w3, hb3⟩
        simp only
        go_wp2_with fail
        go_meet
        case rel => exact ⟨by first | rfl | simp, hb3⟩
    case rest =>
    obtain ⟨rfl, hbq⟩ := hcut
    generalize wc = wq at *
    replace HO := Hold.mk (HO.out.quiet RD_mono hbq)
    replace H2 := Hold.mk (H2.out.next hbq)
    clear hbq
    cases cb with
    | true =>
      have hlt : j < l.length := by
        rcases Nat.lt_or_ge j l.length with h | h
        · exact h
        · have := HCB.out; rw [List.getElem?_eq_none h] at this; cases this
      obtain ⟨y, hy⟩ : ∃ y, l[j]? = some y := ⟨l[j], List.getElem?_eq_getElem hlt⟩
      have HNL : Hold (∀ (i : Nat) z, i < j + 1 → l[i]? = some z → ¬ docC q.sort x z < 0) := ⟨fun i z hi hz => by
        by_cases e : i = j
        · subst e
          rw [hy] at hz
          have := HCB.out
          rw [hy] at this
          rw [← Option.some.inj hz]
          simpa using this.symm
        · exact HAL.out i z (by omega) hz⟩
      obtain ⟨b, off, d, rfl, hd, hc, hyi⟩ := HE.out j y hy
      have HRI : Hold (RD (cfN (.slice oa j ocap) wq) y d) := ⟨RD_mono _ _ _ _ (cle_cfN_old H2.out.bel (fun g hg => by have := (HO.out.low g hg).1; omega)) hyi⟩
      obtain ⟨ek, en, et, ena, enl, enc, eia, eil, eic, rfl, _⟩ := hyi
      have HTK : Hold (l.take (j + 1) = ks ++ [y]) := ⟨by rw [take_nextW hy, ← HKS.out]⟩
      have hcl := cle_below H2.out.bel
      have z0 := hcl _ _ _ (hc 0 _ rfl)
      have z1 := hcl _ _ _ (hc 1 _ rfl)
      have z2 := hcl _ _ _ (hc 2 _ rfl)
      have z3 := hcl _ _ _ (hc 3 _ rfl)
      have z4 := hcl _ _ _ (hc 4 _ rfl)
      have z5 := hcl _ _ _ (hc 5 _ rfl)
      unfold cf at z0 z1 z2 z3 z4 z5
      rw [Nat.add_zero] at z0
      clear hy hd hc hcl
      go_wp2_with (at_builtin; refine push_new RD_mono rfl _ _ rfl infoDr Tryz.underlying35 rfl (by decide) _ _ _ j _ _ HO.out rfl _ [_, _, _, _, _, _] rfl rfl (by simp [Value.oneCell']) y HRI.out _ rfl rfl (by have := HLEN.out; omega) (by decide) ?_)
      intro sl2 w6 ho6 hg6
      have HN : Hold (OwnS 6 RD 50 (w.heap.size + 2) w6 sl2 (j + 1) (l.take (j + 1)) _) := ⟨by rw [HTK.out]; exact ho6⟩
      have HW : Hold (TwoB w w6 #[.int .i64 k, .int .i64 n, .string t, .slice na nl nc, .slice ia il ic, .slice sa q.sort.length scap, .slice fa q.fields.length fcap, .int .i64 q.skip, .int .i64 q.lim] #[.string x.id, .int .i64 dk, .int .i64 dn, .string dt, .slice dna dnl dnc, .slice dia dil dic] 40 50) := ⟨H2.out.keepR (HO.out.below hg6)⟩
      clear ho6 hg6 z0 z1 z2 z3 z4 z5
      go_wp2_with fail
      exact ⟨⟨j + 1, _, by go_num, hlt, fun i z h1 h2 => Int.not_lt.2 (HNL.out i z h1 h2), HN.out, HW.out⟩, by simp [intOf]; omega⟩
    | false =>
      have HRES : Hold (withA q.sort x l = l.take j ++ x :: l.drop j) := ⟨by
        rw [withA_cut q.sort x l j HAL.out (fun y hy => by have := HCB.out; rw [hy] at this; simpa using this.symm) hj]; simp⟩
      have HRI : Hold (RD (cfN (.slice oa j ocap) wq) x [.string x.id, .int .i64 dk, .int .i64 dn, .string dt, .slice dna dnl dnc, .slice dia dil dic]) := ⟨RD_mono _ _ _ _ (cle_cfN_old H2.out.bel (fun g hg => by have := (HO.out.low g hg).1; omega)) HXA.out⟩
      obtain ⟨a', hsl0, hsl1⟩ := slice_tail (n := 6) Tryz.underlying35 (by kernel_rfl) infoDr la l.length lcap j hj hle hcap
      have hsl : ∀ w, (Instr.slice 35 (.slice la l.length lcap) (some (.int .i64 (j : Int))) none none).run Tryz.prog w = .ok (.slice a' (l.length - j) (lcap - j)) w := hsl0
      have HTL := Hold.mk (hsl1 (l := l) rfl HLA.out)
      clear hsl0 hsl1
      obtain ⟨z0, z1, z2, z3, z4, z5⟩ := cells6D H2.out.two
      go_upto_region 6 with (fail)
      go_wp2_with (at_builtin; refine push_new RD_mono rfl _ _ rfl infoDr Tryz.underlying35 rfl (by decide) _ _ _ j _ _ HO.out rfl _ [_, _, _, _, _, _] rfl rfl (by simp [Value.oneCell']) x HRI.out _ rfl rfl (by have := HLEN.out; omega) (by decide) ?_)
      intro sl2 w6 ho6 hg6
      obtain ⟨pa, pc, rfl⟩ := ho6.shape
      have HN := Hold.mk ho6
      have HW : Hold (TwoB w w6 #[.int .i64 k, .int .i64 n, .string t, .slice na nl nc, .slice ia il ic, .slice sa q.sort.length scap, .slice fa q.fields.length fcap, .int .i64 q.skip, .int .i64 q.lim] #[.string x.id, .int .i64 dk, .int .i64 dn, .string dt, .slice dna dnl dnc, .slice dia dil dic] 40 50) := ⟨H2.out.keepR (HO.out.below hg6)⟩
      clear ho6 hg6 z0 z1 z2 z3 z4 z5
      have HSY : Hold (SAt 6 RD (cfN (.slice pa (j + 1) pc) w6) (.slice a' (l.length - j) (lcap - j)) (l.drop j)) := ⟨HTL.out.mono RD_mono (cle_cfN_old HW.out.bel (fun g hg => by have := (HN.out.low g hg).1; omega))⟩
      go_wp2_with (at_builtin; refine push_src RD_mono RD_one rfl _ _ rfl infoDr Tryz.underlying35 rfl (by decide) _ _ _ (j + 1) _ _ HN.out rfl _ _ HSY.out rfl (by rw [List.length_drop]; have := HLEN.out; omega) (by decide) ?_)
      intro sl3 w7 cs7 ho7 hg7
      obtain ⟨qa, qc, rfl⟩ := ho7.shape
      have HM := Hold.mk (ho7.at_ RD_mono)
      rw [HKS.out, ← HRES.out] at HM
      have HBF := (HW.out.keepR (HN.out.below hg7)).bel
      clear ho7 hg7
      go_wp2_with fail
      go_ret
      exact ⟨_, rfl, HM.out, HBF⟩

end Go.Proofs.YtkhhbckpddkhlaaGreatDoor

namespace Go.Proofs.YtkhhbckpddkhlaaGreatDoor
open Go.Shelf Go.RowKit

theorem page_len (q : QR) (S : List DR) (sk lm : Nat) (hs : q.skip = sk) (hl : q.lim = lm) : (pageA q S).length = if lm = 0 then S.length - sk else min lm (S.length - sk) := by
  unfold pageA
  rw [hs, hl, Int.toNat_natCast, Int.toNat_natCast]
  by_cases h : lm = 0
  · rw [if_pos (by omega), if_pos h, List.length_drop]
  · rw [if_neg (by omega), if_neg h, List.length_take, List.length_drop]
theorem page_at (q : QR) (S : List DR) (sk lm m : Nat) (hs : q.skip = sk) (hl : q.lim = lm) (h : m < (pageA q S).length) : (pageA q S)[m]? = S[sk + m]? := by
  rw [page_len q S sk lm hs hl] at h
  unfold pageA
  rw [hs, hl, Int.toNat_natCast, Int.toNat_natCast]
  by_cases h0 : lm = 0
  · rw [if_pos (by omega), List.getElem?_drop]
  · rw [if_neg h0] at h
    rw [if_neg (by omega), List.getElem?_take_of_lt (by omega), List.getElem?_drop]
theorem page_more (q : QR) (S : List DR) (sk lm m : Nat) (hs : q.skip = sk) (hl : q.lim = lm) : m < (pageA q S).length ↔ sk + m < S.length ∧ (lm = 0 ∨ m < lm) := by
  rw [page_len q S sk lm hs hl]
  split <;> omega
theorem seen_hit {l : List DR} {j m : Nat} {x y : DR} (hm : l[m]? = some y) (hj : m < j) (h : y.id = x.id) : seenA (l.take j) x.id = true := by
  unfold seenA
  rw [List.any_eq_true]
  exact ⟨y, List.mem_of_getElem? (by rw [List.getElem?_take_of_lt hj]; exact hm), by simp [h]⟩
theorem seen_next {l : List DR} {m : Nat} {y : DR} {s : ByteArray} (hm : l[m]? = some y) (h : seenA (l.take m) s = false) (he : y.id ≠ s) : seenA (l.take (m + 1)) s = false := by
  rw [take_nextW hm, seenA_snoc, h]; simp [he]
theorem docF_formed {x : DR} (h : docF x = true) : formedF 6 x.v = true ∧ x.v.kind = 6 := by
  unfold docF at h
  simp only [Bool.and_eq_true, decide_eq_true_eq] at h
  exact ⟨h.2, h.1.2⟩
theorem qcheck_flt {q : QR} (h : qcheckF q = 0) : checkF q.flt = 0 := by
  by_cases h1 : checkF q.flt = 0
  · exact h1
  · rw [qcheck_1 h1] at h; exact h
theorem plain_holds {q : QR} {x : DR} (h : qcheckF q = 0) (hd : docF x = true) : holdsF passR eqR 6 q.flt x.v = HoldsP q.flt x.v := by
  rw [holds_law]
  unfold HoldsR
  rw [qcheck_flt h, (docF_formed hd).1, (docF_formed hd).2]; simp
theorem cle_new {wr w6 w7 : World} {sl : Value} (h6 : Below wr.heap.size wr w6) (h7 : Below w6.heap.size w6 w7) (hs : ∀ g, sl.ownBlock = some g → wr.heap.size ≤ g ∧ g < w6.heap.size) : CLe (cfV (cf wr) w6.heap.size w7) (cfN sl w7) := fun b o v h => by
  unfold cfV at h
  unfold cfN
  split at h
  · have hb := lt_of_cell h
    rw [if_neg (fun e => by have := (hs b e).1; omega)]
    exact cle_below (h6.trans (h7.mono h6.size)) _ _ _ h
  · rw [if_neg (fun e => by have := (hs b e).2; omega)]; exact h

set_option maxRecDepth 100000 in
set_option maxHeartbeats 32000000 in
theorem rqRun_any (q : QR) (l : List DR) (d : List Value) (lv : Value) (w : World) (hq : QAt (cf w) q d) (hl : SAt 6 RD (cf w) lv l) (hlen : l.length ≤ 1000000) (hid : ∀ x ∈ l, x.id.size ≤ 1000000) (hsz : ∀ o ∈ q.sort, o.path.size ≤ 1000000) (hfz : ∀ p ∈ q.fields, p.size ≤ 1000000) :
    Calls Tryz.prog 13 #[.agg d.toArray, lv] w (RunPost q l w) := by
  have HQA := Hold.mk hq
  obtain ⟨k, n, t, na, nl, nc, ia, il, ic, sv, fv, rfl, hj, hs, hf⟩ := hq
  obtain ⟨sa, scap, rfl⟩ := hs.form
  obtain ⟨fa, fcap, rfl⟩ := hf.form
  obtain ⟨la, lcap, rfl, hle, hcap, hel⟩ := hl
  have hll3 : l.length ≤ 9223372036854775807 := by omega
  have HJ := Hold.mk hj
  have HE := Hold.mk hel
  have HID := Hold.mk hid
  have HSZ := Hold.mk hsz
  have HFZ := Hold.mk hfz
  have HLEN := Hold.mk hlen
  obtain ⟨W, hW⟩ : ∃ W, W = w.alloc (.cells #[.int .i64 k, .int .i64 n, .string t, .slice na nl nc, .slice ia il ic, .slice sa q.sort.length scap, .slice fa q.fields.length fcap, .int .i64 q.skip, .int .i64 q.lim] 40) := ⟨_, rfl⟩
  have hb : Below w.heap.size w W := by rw [hW]; exact (Below.refl _ w).alloc (Nat.le_refl _) _
  have HX : Hold (W.heap[w.heap.size]? = some (.cells #[.int .i64 k, .int .i64 n, .string t, .slice na nl nc, .slice ia il ic, .slice sa q.sort.length scap, .slice fa q.fields.length fcap, .int .i64 q.skip, .int .i64 q.lim] 40 (0, 0))) := ⟨by rw [hW]; exact heap_alloc_new w _⟩
  have HB := Hold.mk hb
  have HC := Hold.mk (rqCheck_any q _ W (HQA.out.mono (cle_below hb)) hsz hfz)
  clear hj hs hf hel hid hsz hfz hb
  go_enter Tryz.func13, Tryz.ntmps13
  go_upto_region 1 with (fail)
  rw [← hW]
  clear hW
  obtain ⟨y0, y1, y2, y3, y4, y5, y6, y7, y8⟩ := cells9A HX.out
  go_wp2_with fail
  refine HC.out.mono ?_
  rintro e w1 ⟨rfl, hb1⟩
  replace HX := Hold.mk (kept HX.out hb1)
  replace HB := Hold.mk (HB.out.trans (hb1.mono HB.out.size))
  clear hb1 HC y0 y1 y2 y3 y4 y5 y6 y7 y8
  by_cases h0 : qcheckF q = 0
  case neg =>
    have HR := Hold.mk (runE_check (l := l) h0)
    have HBF := HB.out
    have HN0 := Hold.mk h0
    generalize qcheckF q = r at h0 HR HN0 ⊢
    go_wp2_with fail
    go_ret2
    exact run_bad HR.out HN0.out HBF
  have H0 := Hold.mk h0
  rw [h0]
  clear h0
  go_wp2_with fail
  go_loopw [7, 8] (fun sl i wr => ∃ (j : Nat), i = .int .i64 j ∧ j ≤ l.length ∧ okA [] (l.take j) = true ∧ SAt 6 RD (cf wr) sl ((l.take j).foldl (takeA q) []) ∧ ((l.take j).foldl (takeA q) []).length ≤ j ∧ wr.heap[w.heap.size]? = some (.cells #[.int .i64 k, .int .i64 n, .string t, .slice na nl nc, .slice ia il ic, .slice sa q.sort.length scap, .slice fa q.fields.length fcap, .int .i64 q.skip, .int .i64 q.lim] 40 (0, 0)) ∧ Below w.heap.size w wr) (fun _ i _ => l.length - (intOf i).toNat)
  case atStart => exact ⟨0, rfl, Nat.zero_le _, rfl, SAt.none _ _ _, Nat.zero_le _, HX.out, HB.out⟩
  case round =>
    rename World => wo
    obtain ⟨j, rfl, hj, hok, hsl, hsn, hx, hb⟩ := hrel
    clear HX HB
    obtain ⟨S, hS⟩ : ∃ S, S = (l.take j).foldl (takeA q) [] := ⟨_, rfl⟩
    rw [← hS] at hsl hsn
    obtain ⟨pa, pcap, rfl⟩ := hsl.form
    have HX := Hold.mk hx
    have HB := Hold.mk hb
    have HOK := Hold.mk hok
    have HSL := Hold.mk hsl
    have HS := Hold.mk hS
    have HSN := Hold.mk hsn
    clear hx hb hok hsl hsn hS
    by_cases hlt : j < l.length
    · obtain ⟨x, hx⟩ : ∃ x, l[j]? = some x := ⟨l[j], List.getElem?_eq_getElem hlt⟩
      obtain ⟨b, off, d, rfl, hd, hc, hxi⟩ := HE.out j x hx
      have HXX := Hold.mk hx
      have HXR := Hold.mk hxi
      have hxs := HID.out x (List.mem_of_getElem? hx)
      obtain ⟨dk, dn, dt, dna, dnl, dnc, dia, dil, dic, rfl, _, hkd, hjd⟩ := hxi
      have HJD := Hold.mk hjd
      have HC6 := Hold.mk hc
      have hcd0 := hc 0 _ rfl
      have HD0 := Hold.mk hcd0
      clear hx hd hc hkd hjd hcd0
      go_wp2_with fail
      go_loopw [9] (fun i wx => ∃ (m : Nat), i = .int .i64 m ∧ m ≤ j ∧ seenA (l.take m) x.id = false ∧ Below wo.heap.size wo wx) (fun i _ => j - (intOf i).toNat)
      case atStart => exact ⟨0, rfl, Nat.zero_le _, rfl, Below.refl _ _⟩
      case round =>
        obtain ⟨m, rfl, hm, hse, hbx⟩ := hrel
        have HSE := Hold.mk hse
        have HBX := Hold.mk hbx
        clear hse hbx
        by_cases hmj : m < j
        · obtain ⟨y, hy⟩ : ∃ y, l[m]? = some y := ⟨l[m]'(by omega), List.getElem?_eq_getElem _⟩
          obtain ⟨b2, off2, d2, e2, hd2, hc2, hyi⟩ := HE.out m y hy
          obtain ⟨rfl, rfl, _⟩ : b = b2 ∧ off = off2 ∧ True := by simp at e2; exact ⟨e2.1, e2.2, trivial⟩
          obtain ⟨ek, en, et, ena, enl, enc, eia, eil, eic, rfl, _⟩ := hyi
          have HYY := Hold.mk hy
          have hml : m < l.length := by omega
          have hcl := (cle_below HB.out).trans (cle_below HBX.out)
          have g0 := Grow.cell (hcl _ _ _ (hc2 0 _ rfl))
          have g1 := Grow.cell (hcl _ _ _ HD0.out)
          rw [Nat.add_zero] at g0 g1
          obtain ⟨eq, heq⟩ : ∃ eq, (y.id.toList == x.id.toList) = eq := ⟨_, rfl⟩
          have HEQ := Hold.mk heq
          clear hy hd2 hc2 hcl e2
          go_upto_region 11 with (fail)
          go_cut [38] (fun s wx => s = .bool eq ∧ Below wo.heap.size wo wx)
          case first =>
            refine wp_region_grow (by kernel_rfl) (by kernel_rfl) ?_
            repeat (go_big_quiet_step (fail))
            refine wpQuiet_nil ?_
            rintro ⟨w3, hb3⟩
            simp only
            go_wp2_with fail
            go_meet
            case rel => exact ⟨by first | rfl | rw [heq], HBX.out.trans (hb3.mono HBX.out.size)⟩
          case rest =>
          obtain ⟨rfl, hbq⟩ := hcut
          generalize wc = wq at *
          have HBQ := Hold.mk hbq
          clear hbq g0 g1 heq
          cases eq with
          | true =>
            have HE2 := Hold.mk (runE_two H0.out (okA_stop HXX.out HOK.out (by rw [seen_hit HYY.out hmj (strK_of HEQ.out)]; simp)))
            have HBF := HB.out.trans (HBQ.out.mono HB.out.size)
            go_wp2_with fail
            go_ret2
            exact run_bad HE2.out (by decide) HBF
          | false =>
            have HNX := Hold.mk (seen_next HYY.out HSE.out (fun e => by have := HEQ.out; rw [strK_eqT e] at this; cases this))
            have HBF := HBQ.out
            go_wp2_with fail
            exact ⟨⟨m + 1, by go_num, hmj, HNX.out, HBF⟩, by simp [intOf]; omega⟩
        · obtain rfl : m = j := by omega
          rename World => wq
          replace HX := Hold.mk (kept HX.out HBX.out)
          replace HSL := Hold.mk (HSL.out.mono RD_mono (cle_below HBX.out))
          replace HB := Hold.mk (HB.out.trans (HBX.out.mono HB.out.size))
          clear HBX
          have hcl := cle_below HB.out
          have z0 := hcl _ _ _ (HC6.out 0 _ rfl)
          have z1 := hcl _ _ _ (HC6.out 1 _ rfl)
          have z2 := hcl _ _ _ (HC6.out 2 _ rfl)
          have z3 := hcl _ _ _ (HC6.out 3 _ rfl)
          have z4 := hcl _ _ _ (HC6.out 4 _ rfl)
          have z5 := hcl _ _ _ (HC6.out 5 _ rfl)
          unfold cf at z0 z1 z2 z3 z4 z5
          rw [Nat.add_zero] at z0
          have HDO := Hold.mk (rDocument_any x _ wq (RD_mono _ _ _ _ hcl HXR.out) hxs)
          obtain ⟨dd, hdd⟩ : ∃ dd, docF x = dd := ⟨_, rfl⟩
          rw [hdd] at HDO
          have HDD := Hold.mk hdd
          clear hdd hcl
          go_wp2_with fail
          refine HDO.out.mono ?_
          rintro e w4 ⟨rfl, hb4⟩
          replace HX := Hold.mk (kept HX.out hb4)
          replace HSL := Hold.mk (HSL.out.mono RD_mono (cle_below hb4))
          replace HB := Hold.mk (HB.out.trans (hb4.mono HB.out.size))
          clear hb4 z0 z1 z2 z3 z4 z5 HDO
          cases dd with
          | false =>
            have HE2 := Hold.mk (runE_two H0.out (okA_stop HXX.out HOK.out (by rw [HDD.out]; rfl)))
            have HBF := HB.out
            go_wp2_with fail
            go_ret2
            exact run_bad HE2.out (by decide) HBF
          | true =>
            have HOKN : Hold (okA [] (l.take (m + 1)) = true) := ⟨by rw [okA_split HXX.out HOK.out, HDD.out, HSE.out]; rfl⟩
            obtain ⟨y0, y1, y2, y3, y4, y5, y6, y7, y8⟩ := cells9A HX.out
            have hcl := cle_below HB.out
            have g1 := Grow.cell (hcl _ _ _ (HC6.out 1 _ rfl))
            have g2 := Grow.cell (hcl _ _ _ (HC6.out 2 _ rfl))
            have g3 := Grow.cell (hcl _ _ _ (HC6.out 3 _ rfl))
            have g4 := Grow.cell (hcl _ _ _ (HC6.out 4 _ rfl))
            have g5 := Grow.cell (hcl _ _ _ (HC6.out 5 _ rfl))
            have p0 := Grow.cell y0
            have p1 := Grow.cell y1
            have p2 := Grow.cell y2
            have p3 := Grow.cell y3
            have p4 := Grow.cell y4
            clear hcl y0 y1 y2 y3 y4 y5 y6 y7 y8
            obtain ⟨hh, hhh⟩ : ∃ hh, HoldsP q.flt x.v = hh := ⟨_, rfl⟩
            have HPL := Hold.mk (Calls.grow (fun e : Grow w4 => (rholds_any 6 (Nat.le_refl _)) q.flt x.v _ _ e.val (check_count (qcheck_flt H0.out)).1 (docF_formed HDD.out).1 (HJ.out.mono ((cle_below HB.out).trans (cle_below e.property))) (HJD.out.mono ((cle_below HB.out).trans (cle_below e.property)))))
            rw [plain_holds H0.out HDD.out, hhh] at HPL
            have HHH := Hold.mk hhh
            clear hhh
            go_upto_region 15 with (fail)
            go_cut [52] (fun s wx => s = .bool hh ∧ Below w4.heap.size w4 wx)
            case first =>
              refine wp_region_grow (by kernel_rfl) (by kernel_rfl) ?_
              repeat (go_big_quiet_step (exact HPL.out _))
              refine wpQuiet_nil ?_
              rintro ⟨w3, hb3⟩
              simp only
              go_wp2_with fail
              go_meet
              case rel => exact ⟨rfl, hb3⟩
            case rest =>
            obtain ⟨rfl, hbq⟩ := hcut
            generalize wc = w5 at *
            replace HX := Hold.mk (kept HX.out hbq)
            replace HSL := Hold.mk (HSL.out.mono RD_mono (cle_below hbq))
            replace HB := Hold.mk (HB.out.trans (hbq.mono HB.out.size))
            clear hbq g1 g2 g3 g4 g5 p0 p1 p2 p3 p4 HPL
            cases hh with
            | false =>
              have HSF : Hold ((l.take (m + 1)).foldl (takeA q) [] = S) := ⟨by rw [take_nextW HXX.out, List.foldl_append, ← HS.out]; show takeA q S x = S; unfold takeA; rw [if_neg (by rw [HHH.out]; decide)]⟩
              have HXF := HX.out
              have HBF := HB.out
              go_wp2_with fail
              exact ⟨⟨m + 1, by go_num, hlt, HOKN.out, by rw [HSF.out]; exact HSL.out, by rw [HSF.out]; exact Nat.le_succ_of_le HSN.out, HXF, HBF⟩, by simp [intOf]; omega⟩
            | true =>
              have HSF : Hold ((l.take (m + 1)).foldl (takeA q) [] = withA q.sort x S) := ⟨by rw [take_nextW HXX.out, List.foldl_append, ← HS.out]; show takeA q S x = _; unfold takeA; rw [if_pos HHH.out]⟩
              have HSW : Hold ((withA q.sort x S).length ≤ m + 1) := ⟨by rw [(withA_perm q.sort x S).length_eq]; simpa using HSN.out⟩
              obtain ⟨y0, y1, y2, y3, y4, y5, y6, y7, y8⟩ := cells9A HX.out
              have hcl := cle_below HB.out
              have g0 := Grow.cell (hcl _ _ _ (HC6.out 0 _ rfl))
              rw [Nat.add_zero] at g0
              have g1 := Grow.cell (hcl _ _ _ (HC6.out 1 _ rfl))
              have g2 := Grow.cell (hcl _ _ _ (HC6.out 2 _ rfl))
              have g3 := Grow.cell (hcl _ _ _ (HC6.out 3 _ rfl))
              have g4 := Grow.cell (hcl _ _ _ (HC6.out 4 _ rfl))
              have g5 := Grow.cell (hcl _ _ _ (HC6.out 5 _ rfl))
              have p0 := Grow.cell y0
              have p1 := Grow.cell y1
              have p2 := Grow.cell y2
              have p3 := Grow.cell y3
              have p4 := Grow.cell y4
              have p5 := Grow.cell y5
              have p6 := Grow.cell y6
              have p7 := Grow.cell y7
              have p8 := Grow.cell y8
              clear hcl y0 y1 y2 y3 y4 y5 y6 y7 y8
              go_upto_region 16 with (fail)
              refine wp_region_mix 8 rfl (by kernel_rfl) ?_
              rintro w6 hb6
              refine mixl_seg (by kernel_rfl) (fun _ _ d _ _ h => by cases d <;> exact h) [0, 1, 2, 3, 4, 5] [_, _, _, _, _, _] 2 8 rfl _ _ _ rfl (by kernel_rfl) (growC hb6) ?_
              repeat (go_big_quiet_step (fail))
              refine wpQuiet_nil ?_
              have HG := Hold.mk hb6
              clear hb6 g0 g1 g2 g3 g4 g5 p0 p1 p2 p3 p4 p5 p6 p7 p8
              refine mixl_act (i := 6) rfl (by kernel_rfl) (growC HG.out) rfl (fun K hK => ?_)
              have HWI := Hold.mk (rwith_any q S x _ _ _ w6 (HQA.out.mono ((cle_below HB.out).trans (cle_below HG.out))) (HSL.out.mono RD_mono (cle_below HG.out)) (RD_mono _ _ _ _ ((cle_below HB.out).trans (cle_below HG.out)) HXR.out) (by have := HSN.out; have := HLEN.out; omega) HSZ.out)
              go_wp2_with fail
              refine HWI.out.mono ?_
              rintro e w7 ⟨sv2, rfl, hs2, hb7⟩
              obtain ⟨wa, wcap, rfl⟩ := hs2.form
              have HS2 := Hold.mk hs2
              have HG7 := Hold.mk (HG.out.trans (hb7.mono HG.out.size))
              clear hs2 hb7 HWI
              go_wp2_with fail
              refine mixl_seg (by kernel_rfl) (fun _ _ d _ _ h => by cases d <;> exact h) [7] [_] 0 1 rfl _ _ _ rfl (by kernel_rfl) (growC HG7.out) ?_
              repeat (go_big_quiet_step (fail))
              refine wpQuiet_nil ?_
              refine mix_done (by kernel_rfl) (growC HG7.out) ?_
              have HXF := kept HX.out HG7.out
              have HBF := HB.out.trans (HG7.out.mono HB.out.size)
              go_wp2_with fail
              exact ⟨⟨m + 1, by go_num, hlt, HOKN.out, by rw [HSF.out]; exact HS2.out, by rw [HSF.out]; exact HSW.out, HXF, HBF⟩, by simp [intOf]; omega⟩
    · obtain rfl : j = l.length := by omega
      have HE0 : Hold (runE q l = 0) := ⟨runE_of H0.out (by have := HOK.out; rwa [List.take_of_length_le (Nat.le_refl _)] at this)⟩
      have HSO : Hold (S = sortA q l) := ⟨by rw [HS.out, List.take_of_length_le (Nat.le_refl _)]; rfl⟩
      have hbd := qcheck_bounds H0.out
      obtain ⟨sk, hsk⟩ : ∃ sk : Nat, q.skip = sk := ⟨q.skip.toNat, by omega⟩
      obtain ⟨lm, hlm⟩ : ∃ lm : Nat, q.lim = lm := ⟨q.lim.toNat, by omega⟩
      have hsk1 : sk ≤ 100 := by omega
      have hlm1 : lm ≤ 100 := by omega
      have hS3 : S.length ≤ 1000000 := by have := HSN.out; have := HLEN.out; omega
      have HSK := Hold.mk hsk
      have HLM := Hold.mk hlm
      obtain ⟨P, hP⟩ : ∃ P, P = pageA q S := ⟨_, rfl⟩
      have HPM : Hold (∀ m, m < P.length ↔ sk + m < S.length ∧ (lm = 0 ∨ m < lm)) := ⟨fun m => by rw [hP]; exact page_more q S sk lm m hsk hlm⟩
      have HPA : Hold (∀ m, m < P.length → P[m]? = S[sk + m]?) := ⟨fun m hm => by rw [hP] at hm ⊢; exact page_at q S sk lm m hsk hlm hm⟩
      have HPP := Hold.mk hP
      clear hP hbd
      rw [hsk, hlm] at HX
      clear hsk hlm
      obtain ⟨y0, y1, y2, y3, y4, y5, y6, y7, y8⟩ := cells9A HX.out
      have HO : Hold (OwnS 6 RD 50 wo.heap.size wo (.slice none 0 0) 0 ([] : List DR) []) := ⟨OwnS.start _ _ _ (Nat.le_refl _)⟩
      go_wp2_with fail
      clear y0 y1 y2 y3 y4 y5 y6 y7 y8
      go_loopw [10, 11] (fun sl i wx => ∃ (m : Nat) (cs : List Value), i = .int .i64 ((sk + m : Nat) : Int) ∧ m ≤ P.length ∧ OwnS 6 RD 50 wo.heap.size wx sl m ((P.take m).map (projA q)) cs ∧ Below wo.heap.size wo wx) (fun _ i _ => P.length + sk - (intOf i).toNat)
      case atStart => exact ⟨0, [], rfl, Nat.zero_le _, HO.out, Below.refl _ _⟩
      case round =>
        obtain ⟨m, cs, rfl, hm, hown, hbx⟩ := hrel
        clear HO
        obtain ⟨oa, ocap, rfl⟩ := hown.shape
        obtain ⟨ks, hks⟩ : ∃ ks, ks = (P.take m).map (projA q) := ⟨_, rfl⟩
        rw [← hks] at hown
        have HO := Hold.mk hown
        have HBX := Hold.mk hbx
        have HKS := Hold.mk hks
        clear hown hbx hks
        rename World => wx
        obtain ⟨y0, y1, y2, y3, y4, y5, y6, y7, y8⟩ := cells9A (kept HX.out HBX.out)
        obtain ⟨cb, hcb⟩ : ∃ cb : Bool, cb = decide (m < P.length) := ⟨_, rfl⟩
        have HCB := Hold.mk hcb
        have hpm := HPM.out m
        clear hcb
        go_upto_region 19 with (fail)
        go_cut [79] (fun s wz => s = .bool cb ∧ wz = wx)
        case first =>
          by_cases h1 : sk + m < S.length
          · have k1 : ((sk + m : Nat) : Int) < (S.length : Int) := by omega
            by_cases h2 : lm = 0
            · have k2 : (lm : Int) = 0 := by omega
              obtain rfl : cb = true := by rw [HCB.out]; exact decide_eq_true (hpm.2 ⟨h1, .inl h2⟩)
              clear hpm
              go_wp2_with fail
              go_meet
              case rel => exact ⟨rfl, rfl⟩
            · have k2 : ¬ (lm : Int) = 0 := by omega
              have k2b : ((lm : Int) == 0) = false := by simpa using k2
              by_cases h3 : m < lm
              · have k3 : ((sk + m : Nat) : Int) < (sk : Int) + (lm : Int) := by omega
                obtain rfl : cb = true := by rw [HCB.out]; exact decide_eq_true (hpm.2 ⟨h1, .inr h3⟩)
                clear hpm
                go_wp2_with fail
                go_meet
                case rel => exact ⟨rfl, rfl⟩
              · have k3 : ¬ ((sk + m : Nat) : Int) < (sk : Int) + (lm : Int) := by omega
                obtain rfl : cb = false := by rw [HCB.out]; exact decide_eq_false (fun h => by have := hpm.1 h; omega)
                clear hpm
                go_wp2_with fail
                go_meet
                case rel => exact ⟨rfl, rfl⟩
          · have k1 : ¬ ((sk + m : Nat) : Int) < (S.length : Int) := by omega
            obtain rfl : cb = false := by rw [HCB.out]; exact decide_eq_false (fun h => by have := hpm.1 h; omega)
            clear hpm
            go_wp2_with fail
            go_meet
            case rel => exact ⟨rfl, rfl⟩
        case rest =>
        obtain ⟨rfl, hwc⟩ := hcut
        generalize wc = wd at *
        subst hwc
        rename World => wx
        clear hpm

        cases cb with
        | true =>
          have hmP : m < P.length := by have := HCB.out; simpa using this.symm
          have hsm : sk + m < S.length := (HPM.out m).1 hmP |>.1
          have k1 : ((sk + m : Nat) : Int) < (S.length : Int) := by omega
          obtain ⟨y, hy⟩ : ∃ y, S[sk + m]? = some y := ⟨S[sk + m], List.getElem?_eq_getElem hsm⟩
          have HYP : Hold (P[m]? = some y) := ⟨by rw [HPA.out m hmP]; exact hy⟩
          obtain ⟨pa', pcap', e, _, _, hel⟩ := HSL.out
          obtain ⟨rfl, _, rfl⟩ := Value.slice.inj e
          obtain ⟨sb, so, dy, rfl, hd, hc, hyi⟩ := hel _ y hy
          have HYI := Hold.mk hyi
          obtain ⟨ek, en, et, ena, enl, enc, eia, eil, eic, rfl, hys, hyk, hyj⟩ := hyi
          have HYJ := Hold.mk hyj
          have HYS := Hold.mk hys
          have HMP := Hold.mk hmP
          have hsb : sb < wo.heap.size := lt_of_cell (hc 0 _ rfl)
          have hcl := cle_below HBX.out
          have hqb : w.heap.size < wo.heap.size := heap_lt HX.out
          have e0 := GrowB.cell (B := wo.heap.size) (hcl _ _ _ (hc 0 _ rfl)) hsb
          rw [Nat.add_zero] at e0
          have e1 := GrowB.cell (B := wo.heap.size) (hcl _ _ _ (hc 1 _ rfl)) hsb
          have e2 := GrowB.cell (B := wo.heap.size) (hcl _ _ _ (hc 2 _ rfl)) hsb
          have e3 := GrowB.cell (B := wo.heap.size) (hcl _ _ _ (hc 3 _ rfl)) hsb
          have e4 := GrowB.cell (B := wo.heap.size) (hcl _ _ _ (hc 4 _ rfl)) hsb
          have e5 := GrowB.cell (B := wo.heap.size) (hcl _ _ _ (hc 5 _ rfl)) hsb
          have p0 := GrowB.cell (B := wo.heap.size) y0 hqb
          have p1 := GrowB.cell (B := wo.heap.size) y1 hqb
          have p2 := GrowB.cell (B := wo.heap.size) y2 hqb
          have p3 := GrowB.cell (B := wo.heap.size) y3 hqb
          have p4 := GrowB.cell (B := wo.heap.size) y4 hqb
          have p5 := GrowB.cell (B := wo.heap.size) y5 hqb
          have p6 := GrowB.cell (B := wo.heap.size) y6 hqb
          have p7 := GrowB.cell (B := wo.heap.size) y7 hqb
          have p8 := GrowB.cell (B := wo.heap.size) y8 hqb
          have hS9 : S.length ≤ 9223372036854775807 := by omega
          have HSMALL : Hold (m ≤ 1000000) := ⟨by have := HSN.out; have := HLEN.out; omega⟩
          clear hy hel hd hc hcl hyk hyj hys e y0 y1 y2 y3 y4 y5 y6 y7 y8
          go_upto_region 21 with (fail)
          refine wp_region_mixB (wo.heap.size) 17 rfl (by kernel_rfl) ?_
          rintro w6 hw6 hb6
          clear hw6
          refine mixl_seg (by kernel_rfl) (fun _ _ d _ _ h => by cases d <;> exact h) [0, 1, 2, 3, 4, 5, 6, 7, 8, 9, 10, 11] [_, _, _, _, _, _, _, _, _, _, _, _] 5 17 rfl _ _ _ rfl (by kernel_rfl) (growBC (hb6.mono HBX.out.size)) ?_
          repeat (go_big_quiet_step (fail))
          refine wpQuiet_nil ?_
          have HG := Hold.mk hb6
          have HBO : Hold (Below wo.heap.size wo w6) := ⟨HBX.out.trans (hb6.mono HBX.out.size)⟩
          clear hb6 e0 e1 e2 e3 e4 e5 p0 p1 p2 p3 p4 p5 p6 p7 p8
          refine mixl_act (i := 12) rfl (by kernel_rfl) (growBC (HG.out.mono HBX.out.size)) rfl (fun K hK => ?_)
          have HPJ := Hold.mk (rProject_any (cf wo) q _ y.v _ w6 (HQA.out.mono (cle_below (HB.out.trans (HBO.out.mono HB.out.size)))) ((cle_below HBO.out).trans (cle_cfU w6)) HYJ.out HFZ.out)
          rw [HSK.out, HLM.out] at HPJ
          go_wp2_with fail
          refine HPJ.out.mono ?_
          rintro e w7 ⟨gk, gn, gt, gna, gnl, gnc, gia, gil, gic, rfl, hju, hb7⟩
          have HO6 := Hold.mk (HO.out.quiet RD_mono HG.out)
          have HRI : Hold (RD (cfN (.slice oa m ocap) w7) (projA q y) [.string y.id, .int .i64 gk, .int .i64 gn, .string gt, .slice gna gnl gnc, .slice gia gil gic]) := ⟨rd_new HYS.out (hju.mono (cle_new HBO.out hb7 (fun g hg => ⟨(HO.out.low g hg).1, (HO6.out.low g hg).2⟩)))⟩
          have HO7 := Hold.mk (HO6.out.quiet RD_mono hb7)
          have HG7 : Hold (Below wo.heap.size wx w7) := ⟨(HG.out.trans (hb7.mono HG.out.size)).mono HBX.out.size⟩
          clear hju hb7 HPJ HO6
          go_wp2_with fail
          refine mixl_seg (by kernel_rfl) (fun _ _ d _ _ h => by cases d <;> exact h) [13] [_] 3 4 rfl _ _ _ rfl (by kernel_rfl) (growBC HG7.out) ?_
          repeat (go_big_quiet_step (fail))
          refine wpQuiet_nil ?_
          refine mixl_act (i := 14) rfl (by kernel_rfl) (growBC HG7.out) rfl (fun K hK => ?_)
          go_wp2_with fail
          have HGA : Hold (Below wo.heap.size wx (w7.alloc (.cells #[.string y.id, .int .i64 gk, .int .i64 gn, .string gt, .slice gna gnl gnc, .slice gia gil gic] 50))) := ⟨HG7.out.alloc HO7.out.le _⟩
          refine mixl_act (i := 15) rfl (by kernel_rfl) (growBC HGA.out) rfl (fun K hK => ?_)
          refine wp_push RD_mono _ _ rfl infoDr Tryz.underlying35 rfl (by decide) _ w7 _ m _ _ HO7.out rfl _ [.string y.id, .int .i64 gk, .int .i64 gn, .string gt, .slice gna gnl gnc, .slice gia gil gic] rfl rfl (by simp [Value.oneCell']) (projA q y) HRI.out _ rfl rfl (by have := HSMALL.out; omega) (by decide) ?_
          intro sl2 w9 ho9 hg9
          have HTK : Hold ((P.take (m + 1)).map (projA q) = ks ++ [projA q y]) := ⟨by rw [take_nextW HYP.out, List.map_append, HKS.out]; rfl⟩
          have HN : Hold (OwnS 6 RD 50 wo.heap.size w9 sl2 (m + 1) ((P.take (m + 1)).map (projA q)) _) := ⟨by rw [HTK.out]; exact ho9⟩
          have HG9 : Hold (Below wo.heap.size wx w9) := ⟨HG7.out.trans (HO7.out.below hg9)⟩
          clear ho9 hg9
          go_wp2_with fail
          refine mixl_seg (by kernel_rfl) (fun _ _ d _ _ h => by cases d <;> exact h) [16] [_] 0 1 rfl _ _ _ rfl (by kernel_rfl) (growBC HG9.out) ?_
          repeat (go_big_quiet_step (fail))
          refine wpQuiet_nil ?_
          refine mix_done (by kernel_rfl) (growBC HG9.out) ?_
          have HBF := HBX.out.trans HG9.out
          go_wp2_with fail
          exact ⟨⟨m + 1, _, by go_num, HMP.out, HN.out, HBF⟩, by simp [intOf]; have := HMP.out; omega⟩
        | false =>
          have hmP : ¬ m < P.length := by have := HCB.out; simpa using this.symm
          have HME : Hold (P.take m = P) := ⟨List.take_of_length_le (by omega)⟩
          have HM := Hold.mk (HO.out.at_ RD_mono)
          rw [HKS.out, HME.out, HPP.out, HSO.out] at HM
          have HBF := HB.out.trans (HBX.out.mono HB.out.size)
          clear hmP
          go_wp2_with fail
          go_ret2
          exact run_good HE0.out HM.out HBF
end Go.Proofs.YtkhhbckpddkhlaaGreatDoor
