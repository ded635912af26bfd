/- Answers: of a size that is looked at; what a program that does nothing does not answer. (printed by genXAY.py) -/
import Derived.Test.YtkhhbckpddkhlaaDoorAP
import Derived.Test.YtkhhbckpddkhlaaDoorAQ
import Derived.Test.YtkhhbckpddkhlaaDoorAV
namespace Go.Proofs.YtkhhbckpddkhlaaDoor
open Go.Shelf Go.RowKit

/-- of a size that is looked at -/
structure SmallQ (q : QR) (l : List DR) : Prop where
  docs : l.length ≤ 40
  sort : q.sort.length ≤ 20
  flds : q.fields.length ≤ 20
  paths : ∀ o ∈ q.sort, o.path.size ≤ 1000
  parts : ∀ p ∈ q.fields, p.size ≤ 1000
  ids : ∀ x ∈ l, x.id.size ≤ 1000
theorem all_mem_of {α : Type} {l : List α} {P : α → Prop} {n : Nat} (h : ∀ (i : Nat) x, i < n → l[i]? = some x → P x) (hn : n = l.length) : ∀ x ∈ l, P x := fun x hx => by
  obtain ⟨i, hil, e⟩ := List.getElem_of_mem hx
  exact h i x (by omega) (by rw [← e]; exact List.getElem?_eq_getElem hil)
theorem all_next_of {α : Type} {l : List α} {P : α → Prop} {j : Nat} {x : α} (h : ∀ (i : Nat) x, i < j → l[i]? = some x → P x) (hx : l[j]? = some x) (hp : P x) : ∀ (i : Nat) y, i < j + 1 → l[i]? = some y → P y := fun i y hi hy => by
  by_cases e : i = j
  · subst e; rw [hx] at hy; cases hy; exact hp
  · exact h i y (by omega) hy

set_option maxRecDepth 100000 in
set_option maxHeartbeats 16000000 in
theorem qFew_any (q : QR) (l : List DR) (d : List Value) (lv : Value) (w : World) (hq : QAt (cf w) q d) (hl : SAt 6 RD (cf w) lv l) :
    Calls Tryd.prog 14 #[.agg d.toArray, lv] w (FewPostW (SmallQ q l) w) := by
  obtain ⟨k, n, t, na, nl, nc, ia, il, ic, sv, fv, rfl, hj, hs, hf⟩ := hq
  obtain ⟨sa, scap, rfl, hsl, hsc, hse⟩ := hs
  obtain ⟨fa, fcap, rfl, hfl, hfc, hfe⟩ := hf
  obtain ⟨la, lcap, rfl, hle, hcap, hel⟩ := hl
  have HSE := Hold.mk hse
  have HFE := Hold.mk hfe
  have HE := Hold.mk hel
  have hsl3 : q.sort.length ≤ 9223372036854775807 := by omega
  have hfl3 : q.fields.length ≤ 9223372036854775807 := by omega
  have hle3 : l.length ≤ 9223372036854775807 := by omega
  obtain ⟨W, hW⟩ : ∃ W, W = w.alloc (.cells #[.int .i64 k, .int .i64 n, .string t, .slice na nl nc, .slice ia il ic, .slice sa q.sort.length scap, .slice fa q.fields.length fcap, .int .i64 q.skip, .int .i64 q.lim] 46) := ⟨_, rfl⟩
  have hb : Below w.heap.size w W := by rw [hW]; exact (Below.refl _ w).alloc (Nat.le_refl _) _
  have HX : Hold (W.heap[w.heap.size]? = some (.cells #[.int .i64 k, .int .i64 n, .string t, .slice na nl nc, .slice ia il ic, .slice sa q.sort.length scap, .slice fa q.fields.length fcap, .int .i64 q.skip, .int .i64 q.lim] 46 (0, 0))) := ⟨by rw [hW]; exact heap_alloc_new w _⟩
  have HB := Hold.mk hb
  have HZ := Hold.mk (few_any (hj.mono (cle_below hb)) W (CLe.refl _))
  clear hb hel hse hfe hj
  go_enter Tryd.func14, Tryd.ntmps14
  go_upto_region 1 with (fail)
  rw [← hW]
  clear hW
  obtain ⟨y0, y1, y2, y3, y4, y5, y6, y7, y8⟩ := cells9A HX.out
  go_wp2_with fail
  refine HZ.out.mono ?_
  rintro e w2 ⟨rfl, hb2⟩
  replace HB := Hold.mk (HB.out.trans (hb2.mono HB.out.size))
  replace HX := Hold.mk (kept HX.out hb2)
  clear hb2 HZ y0 y1 y2 y3 y4 y5 y6 y7 y8
  obtain ⟨y0, y1, y2, y3, y4, y5, y6, y7, y8⟩ := cells9A HX.out
  generalize fewF q.flt = fb
  cases fb with
  | false =>
    have HBF := HB.out
    go_wp2_with fail
    go_ret
    exact fewW_no HBF
  | true =>
  by_cases h1 : 20 < q.sort.length
  · have k1 : (20 : Int) < (q.sort.length : Int) := by omega
    have HBF := HB.out
    go_wp2_with fail
    go_ret
    exact fewW_no HBF
  have k1 : ¬ (20 : Int) < (q.sort.length : Int) := by omega
  by_cases h2 : 20 < q.fields.length
  · have k2 : (20 : Int) < (q.fields.length : Int) := by omega
    have HBF := HB.out
    go_wp2_with fail
    go_ret
    exact fewW_no HBF
  have k2 : ¬ (20 : Int) < (q.fields.length : Int) := by omega
  by_cases h40 : 40 < l.length
  · have k40 : (40 : Int) < (l.length : Int) := by omega
    have HBF := HB.out
    go_wp2_with fail
    go_ret
    exact fewW_no HBF
  have k40 : ¬ (40 : Int) < (l.length : Int) := by omega
  have HLS : Hold (l.length ≤ 40 ∧ q.sort.length ≤ 20 ∧ q.fields.length ≤ 20) := ⟨by omega⟩
  clear h1 h2 h40
  go_wp2_with fail
  clear y0 y1 y2 y3 y4 y5 y6 y7 y8 k1 k2 k40
  go_loopw [5] (fun i wr => ∃ (j : Nat), i = .int .i64 j ∧ j ≤ q.sort.length ∧ (∀ (p : Nat) x, p < j → q.sort[p]? = some x → x.path.size ≤ 1000) ∧ wr = w2) (fun i _ => q.sort.length - (intOf i).toNat)
  case atStart => exact ⟨0, rfl, Nat.zero_le _, fun q x h => by omega, rfl⟩
  case round =>
  obtain ⟨j, rfl, hj, hall, rfl⟩ := hrel
  have HALL := Hold.mk hall
  clear hall
  obtain ⟨y0, y1, y2, y3, y4, y5, y6, y7, y8⟩ := cells9A HX.out
  by_cases hlt : j < q.sort.length
  · obtain ⟨x, hx⟩ : ∃ x, q.sort[j]? = some x := ⟨q.sort[j], List.getElem?_eq_getElem hlt⟩
    obtain ⟨b, off, d, rfl, hd, hc, hxi⟩ := HSE.out j x hx
    have HXE := Hold.mk hx
    obtain ⟨op, dn⟩ := x
    obtain ⟨rfl, hos⟩ := hxi
    have z0 := cle_below HB.out _ _ _ (hc 0 _ rfl)
    unfold cf at z0
    rw [Nat.add_zero] at z0
    simp only at hos
    clear hx hd hc
    by_cases h1 : 1000 < op.size
    · have k1 : (1000 : Int) < (op.size : Int) := by omega
      have HBF := HB.out
      go_wp2_with fail
      go_ret
      exact fewW_no HBF
    · have k1 : ¬ (1000 : Int) < (op.size : Int) := by omega
      have HA2 := Hold.mk (all_next_of (P := fun x : OR => x.path.size ≤ 1000) HALL.out HXE.out (by show op.size ≤ 1000; omega))
      clear h1
      go_wp2_with fail
      exact ⟨⟨j + 1, by go_num, hlt, HA2.out, trivial⟩, by simp [intOf]; omega⟩
  obtain rfl : j = q.sort.length := by omega
  have HPA := Hold.mk (all_mem_of (P := fun x : OR => x.path.size ≤ 1000) HALL.out rfl)
  clear HALL
  go_wp2_with fail
  clear y0 y1 y2 y3 y4 y5 y6 y7 y8
  rename World => wo
  go_loopw [6] (fun i wr => ∃ (j : Nat), i = .int .i64 j ∧ j ≤ q.fields.length ∧ (∀ (p : Nat) x, p < j → q.fields[p]? = some x → x.size ≤ 1000) ∧ wr = wo) (fun i _ => q.fields.length - (intOf i).toNat)
  case atStart => exact ⟨0, rfl, Nat.zero_le _, fun q x h => by omega, rfl⟩
  case round =>
  obtain ⟨j, rfl, hj, hall, rfl⟩ := hrel
  have HALL := Hold.mk hall
  clear hall
  obtain ⟨y0, y1, y2, y3, y4, y5, y6, y7, y8⟩ := cells9A HX.out
  by_cases hlt : j < q.fields.length
  · obtain ⟨x, hx⟩ : ∃ x, q.fields[j]? = some x := ⟨q.fields[j], List.getElem?_eq_getElem hlt⟩
    obtain ⟨b, off, d, rfl, hd, hc, hxi⟩ := HFE.out j x hx
    have HXE := Hold.mk hx
    obtain ⟨rfl, hos⟩ := hxi
    have z0 := cle_below HB.out _ _ _ (hc 0 _ rfl)
    unfold cf at z0
    rw [Nat.add_zero, Nat.mul_one] at z0
    clear hx hd hc
    by_cases h1 : 1000 < x.size
    · have k1 : (1000 : Int) < (x.size : Int) := by omega
      have HBF := HB.out
      go_wp2_with fail
      go_ret
      exact fewW_no HBF
    · have k1 : ¬ (1000 : Int) < (x.size : Int) := by omega
      have HA2 := Hold.mk (all_next_of (P := fun x : ByteArray => x.size ≤ 1000) HALL.out HXE.out (by omega))
      clear h1
      go_wp2_with fail
      exact ⟨⟨j + 1, by go_num, hlt, HA2.out, trivial⟩, by simp [intOf]; omega⟩
  obtain rfl : j = q.fields.length := by omega
  have HFA := Hold.mk (all_mem_of (P := fun x : ByteArray => x.size ≤ 1000) HALL.out rfl)
  clear HALL
  go_wp2_with fail
  clear y0 y1 y2 y3 y4 y5 y6 y7 y8
  go_loopw [7] (fun i wx => ∃ (j : Nat), i = .int .i64 j ∧ j ≤ l.length ∧ (∀ (q : Nat) x, q < j → l[q]? = some x → x.id.size ≤ 1000) ∧ Below w.heap.size w wx) (fun i _ => l.length - (intOf i).toNat)
  case atStart => exact ⟨0, rfl, Nat.zero_le _, fun q x h => by omega, HB.out⟩
  case round =>
    obtain ⟨j, rfl, hj, hall, hbx⟩ := hrel
    clear HB
    have HB := Hold.mk hbx
    have HALL := Hold.mk hall
    clear hbx hall HX
    by_cases hlt : j < l.length
    · obtain ⟨x, hx⟩ : ∃ x, l[j]? = some x := ⟨l[j], List.getElem?_eq_getElem hlt⟩
      obtain ⟨b, off, d, rfl, hd, hc, hxi⟩ := HE.out j x hx
      obtain ⟨dk, dn, dt, dna, dnl, dncap, dia, dil, dicap, rfl, hs, hk, hj2⟩ := hxi
      have HXE := Hold.mk hx
      have HC := Hold.mk hc
      have hcl := cle_below HB.out
      have z0 := hcl _ _ _ (hc 0 _ rfl)
      have z1 := hcl _ _ _ (hc 1 _ rfl)
      have z2 := hcl _ _ _ (hc 2 _ rfl)
      have z3 := hcl _ _ _ (hc 3 _ rfl)
      have z4 := hcl _ _ _ (hc 4 _ rfl)
      have z5 := hcl _ _ _ (hc 5 _ rfl)
      unfold cf at z0 z1 z2 z3 z4 z5
      rw [Nat.add_zero] at z0
      have HFW := Hold.mk (few_any (hj2.mono hcl) _ (CLe.refl _))
      clear hx hd hc hcl hj2 hk
      go_wp2_with fail
      refine HFW.out.mono ?_
      rintro e w4 ⟨rfl, hb4⟩
      replace HB := Hold.mk (HB.out.trans (hb4.mono HB.out.size))
      clear hb4 HFW z0 z1 z2 z3 z4 z5
      have z0 := cle_below HB.out _ _ _ (HC.out 0 _ rfl)
      unfold cf at z0
      rw [Nat.add_zero] at z0
      generalize fewF x.v = fb
      cases fb with
      | false =>
        have HBF := HB.out
        go_wp2_with fail
        go_ret
        exact fewW_no HBF
      | true =>
        by_cases h1 : 1000 < x.id.size
        · have k1 : (1000 : Int) < (x.id.size : Int) := by omega
          have HBF := HB.out
          go_wp2_with fail
          go_ret
          exact fewW_no HBF
        · have k1 : ¬ (1000 : Int) < (x.id.size : Int) := by omega
          have HA2 := Hold.mk (all_next_of (P := fun x : DR => x.id.size ≤ 1000) HALL.out HXE.out (by omega))
          clear h1
          go_wp2_with fail
          exact ⟨⟨j + 1, by go_num, hlt, HA2.out, HB.out⟩, by simp [intOf]; omega⟩
    · obtain rfl : j = l.length := by omega
      have HSM : Hold (SmallQ q l) := ⟨⟨HLS.out.1, HLS.out.2.1, HLS.out.2.2, HPA.out, HFA.out, all_mem_of (P := fun x : DR => x.id.size ≤ 1000) HALL.out rfl⟩⟩
      have HBF := HB.out
      go_wp2_with fail
      go_ret
      exact fewW_mk (fun _ => HSM.out) rfl HBF


set_option maxRecDepth 100000 in
set_option maxHeartbeats 16000000 in
theorem lfew_any (q : QR) (l : List DR) (d : List Value) (lv : Value) (w : World) (hq : QAt (cf w) q d) (hl : SAt 6 RD (cf w) lv l) :
    Calls Tryd.prog 7 #[.agg d.toArray, lv] w (FewPostW (SmallQ q l) w) := by
  have HQA := Hold.mk hq
  have HLA := Hold.mk hl
  obtain ⟨k, n, t, na, nl, nc, ia, il, ic, sv, fv, rfl, hj, hs, hf⟩ := hq
  obtain ⟨sa, scap, rfl⟩ := hs.form
  obtain ⟨fa, fcap, rfl⟩ := hf.form
  obtain ⟨la, lcap, rfl⟩ := hl.form
  obtain ⟨W, hW⟩ : ∃ W, W = w.alloc (.cells #[.int .i64 k, .int .i64 n, .string t, .slice na nl nc, .slice ia il ic, .slice sa q.sort.length scap, .slice fa q.fields.length fcap, .int .i64 q.skip, .int .i64 q.lim] 28) := ⟨_, rfl⟩
  have hb : Below w.heap.size w W := by rw [hW]; exact (Below.refl _ w).alloc (Nat.le_refl _) _
  have HX : Hold (W.heap[w.heap.size]? = some (.cells #[.int .i64 k, .int .i64 n, .string t, .slice na nl nc, .slice ia il ic, .slice sa q.sort.length scap, .slice fa q.fields.length fcap, .int .i64 q.skip, .int .i64 q.lim] 28 (0, 0))) := ⟨by rw [hW]; exact heap_alloc_new w _⟩
  have HB := Hold.mk hb
  clear hb hj hs hf hl
  go_enter Tryd.func7, Tryd.ntmps7
  go_upto_region 1 with (fail)
  rw [← hW]
  clear hW
  obtain ⟨y0, y1, y2, y3, y4, y5, y6, y7, y8⟩ := cells9A HX.out
  by_cases h1 : l.length ≤ 40
  · have k1 : (l.length : Int) ≤ 40 := by omega
    by_cases h2 : q.sort.length ≤ 20
    · have k2 : (q.sort.length : Int) ≤ 20 := by omega
      have HL1 : Hold (l.length ≤ 1000000) := ⟨by omega⟩
      have HP := Hold.mk (aplain_any q _ W (HQA.out.mono (cle_below HB.out)) (by omega))
      clear h1 h2
      go_wp2_with fail
      refine HP.out.mono ?_
      rintro e w2 ⟨d2, rfl, hq2, hb2⟩
      have HQ2 := Hold.mk hq2
      have HB2 := Hold.mk (HB.out.trans (hb2.mono HB.out.size))
      have HD := Hold.mk (adocs_any l _ w2 (HLA.out.mono RD_mono (cle_below HB2.out)) HL1.out)
      clear hb2 hq2 HP y0 y1 y2 y3 y4 y5 y6 y7 y8
      go_wp2_with fail
      refine HD.out.mono ?_
      rintro e w3 ⟨sv3, rfl, hs3, hb3⟩
      have HF := Hold.mk (qFew_any q l d2 sv3 w3 (HQ2.out.mono (cle_below hb3)) hs3)
      have HB3 := Hold.mk (HB2.out.trans (hb3.mono HB2.out.size))
      clear hb3 hs3 HD
      go_wp2_with fail
      refine HF.out.mono ?_
      rintro e w4 ⟨fb, rfl, hfb, hb4⟩
      have HFB := Hold.mk hfb
      have HBF := HB3.out.trans (hb4.mono HB3.out.size)
      clear hfb hb4 HF
      go_wp2_with fail
      go_ret
      exact fewW_mk HFB.out rfl HBF
    · have k2 : ¬ (q.sort.length : Int) ≤ 20 := by omega
      have HBF := HB.out
      go_wp2_with fail
      go_ret
      exact fewW_no HBF
  · have k1 : ¬ (l.length : Int) ≤ 40 := by omega
    have HBF := HB.out
    go_wp2_with fail
    go_ret
    exact fewW_no HBF

/-- the query and the document that are asked first -/
def q0A : QR := ⟨objE, [], [], 0, 0⟩
def x0A : DR := ⟨⟨#[97]⟩, objE⟩
theorem runE_0 : runE q0A [x0A] = 0 := by decide +kernel
theorem runO_0 : runO q0A [x0A] = [x0A] := by
  have hh : HoldsP objE objE = true := by
    unfold HoldsP
    rw [show checkF objE = 0 by decide +kernel, objE_formed]
    simp [objE, holdsF, JV.names, JV.items, JV.kind]
  have hs : sortA q0A [x0A] = [x0A] := by
    unfold sortA
    show takeA q0A [] x0A = _
    unfold takeA
    rw [if_pos (show HoldsP q0A.flt x0A.v = true from hh)]
    rfl
  unfold runO
  rw [if_pos runE_0]
  unfold outA pageA
  rw [hs]
  rfl

set_option maxRecDepth 100000 in
set_option maxHeartbeats 16000000 in
theorem awake16_any (w : World) (hT : Tabs w) : Calls Tryd.prog 6 #[] w fun e w' => e = .returned (.bool true) ∧ Below w.heap.size w w' := by
  obtain ⟨W, hW⟩ : ∃ W, W = w.alloc (.cells #[.string ⟨#[97]⟩, .int .i64 6, .int .i64 0, .string ⟨#[]⟩, .slice none 0 0, .slice none 0 0] 33) := ⟨_, rfl⟩
  have hb : Below w.heap.size w W := by rw [hW]; exact (Below.refl _ w).alloc (Nat.le_refl _) _
  have HX : Hold (W.heap[w.heap.size]? = some (.cells #[.string ⟨#[97]⟩, .int .i64 6, .int .i64 0, .string ⟨#[]⟩, .slice none 0 0, .slice none 0 0] 33 (0, 0))) := ⟨by rw [hW]; exact heap_alloc_new w _⟩
  have HB := Hold.mk hb
  have HQ : Hold (QAt (cf W) q0A [.int .i64 6, .int .i64 0, .string ⟨#[]⟩, .slice none 0 0, .slice none 0 0, .slice none 0 0, .slice none 0 0, .int .i64 0, .int .i64 0]) := ⟨6, 0, _, _, _, _, _, _, _, _, _, rfl, objE_at _, SAt.none _ _ _, SAt.none _ _ _⟩
  have HL : Hold (SAt 6 RD (cf W) (.slice (some ⟨w.heap.size, 0, none⟩) 1 1) [x0A]) := ⟨⟨_, 1, rfl, Nat.le_refl _, by decide, fun i x hx => by
    match i, hx with
    | 0, hx =>
      obtain rfl : x0A = x := by simpa using hx
      refine ⟨_, 0, [.string ⟨#[97]⟩, .int .i64 6, .int .i64 0, .string ⟨#[]⟩, .slice none 0 0, .slice none 0 0], rfl, rfl, fun j u hu => ?_, 6, 0, _, _, _, _, _, _, _, rfl, by decide, rfl, objE_at _⟩
      unfold cf
      rw [cell_cur HX.out]
      simpa using hu⟩⟩
  have HR := Hold.mk (qRun_any q0A [x0A] _ _ W HQ.out HL.out (by decide) (by simp [x0A]; decide) (by simp [q0A]) (by simp [q0A]) (hT.below hb))
  clear hb hT
  go_enter Tryd.func6, Tryd.ntmps6
  go_wp2_with fail
  rw [← hW]
  clear hW
  refine HR.out.mono ?_
  rintro e w2 ⟨sv, he, hs, hb2⟩
  rw [runE_0] at he
  rw [runO_0] at hs
  obtain ⟨a, cap, rfl, hle, hcap, hel⟩ := hs
  obtain ⟨b, off, d, rfl, hd, hc, hx⟩ := hel 0 x0A rfl
  obtain ⟨k, n, t, na, nl, nc, ia, il, ic, rfl, _⟩ := hx
  subst he
  have z0 := hc 0 _ rfl
  unfold cf at z0
  simp only [Nat.zero_mul, Nat.add_zero] at z0
  have HBF := HB.out.trans (hb2.mono HB.out.size)
  clear hel hd hc hb2 HR
  simp only [List.length_cons, List.length_nil, Nat.zero_add] at hle ⊢
  have hz : x0A.id = ⟨#[97]⟩ := rfl
  rw [hz] at z0
  go_wp2_with fail
  go_ret
  exact ⟨rfl, HBF⟩

end Go.Proofs.YtkhhbckpddkhlaaDoor
