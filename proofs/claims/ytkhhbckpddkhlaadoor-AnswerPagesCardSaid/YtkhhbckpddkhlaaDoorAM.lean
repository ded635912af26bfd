/- Answers: Project of the program walked. (printed by genXAM.py) -/
import Derived.Test.YtkhhbckpddkhlaaDoorAK
import Derived.Test.YtkhhbckpddkhlaaDoorAE
namespace Go.Proofs.YtkhhbckpddkhlaaDoor
open Go.Shelf Go.RowKit

theorem sat_of_strs {c : CF} {v : Value} {nm : List ByteArray} (h : StrsAt c v nm) (k : CapOk v) : SAt 1 RS c v nm := by
  obtain ⟨a, cap, rfl, hle, hel⟩ := h
  obtain ⟨_, _, _, e, h1, h2⟩ := k
  cases e
  refine ⟨a, cap, rfl, h1, h2, fun i s hi => ?_⟩
  obtain ⟨hs, b, off, e, hc⟩ := hel i s hi
  refine ⟨b, off, [.string s], e, rfl, fun j u hu => ?_, rfl, hs⟩
  match j, hu with
  | 0, hu => cases hu; simpa using hc
  | _ + 1, hu => simp at hu
theorem cfV_thrice {c : CF} {B B1 : Nat} {w1 w2 w3 : World} (hB : B ≤ B1) (h1 : ∀ b o v, B ≤ b → w1.cell? ⟨b, o, none⟩ = some v → w3.cell? ⟨b, o, none⟩ = some v) (h2 : ∀ b o v, B1 ≤ b → w2.cell? ⟨b, o, none⟩ = some v → w3.cell? ⟨b, o, none⟩ = some v) : CLe (cfV (cfV c B w1) B1 w2) (cfV c B w3) := fun b o v hv => by
  unfold cfV at hv ⊢
  by_cases h : b < B
  · rw [if_pos h]; rw [if_pos (by omega), if_pos h] at hv; exact hv
  · rw [if_neg h]
    by_cases h' : b < B1
    · rw [if_pos h', if_neg h] at hv; exact h1 b o v (by omega) hv
    · rw [if_neg h'] at hv; exact h2 b o v (by omega) hv
theorem get_optM {c : CF} {v : JV} {p : ByteArray} {w w' : World} {e : Ending} (h : GetPostC c v p w e w') : ∃ k n t na nl nc ia il ic, e = .returned (.tuple #[.agg #[.int .i64 k, .int .i64 n, .string t, .slice na nl nc, .slice ia il ic], .bool (getJ v p).isSome]) ∧ (∀ u, getJ v p = some u → JAt c u (.agg #[.int .i64 k, .int .i64 n, .string t, .slice na nl nc, .slice ia il ic])) ∧ Below w.heap.size w w' := by
  unfold GetPostC at h
  cases hg : getJ v p with
  | none =>
    rw [hg] at h
    obtain ⟨rfl, hb⟩ := h
    exact ⟨_, _, _, _, _, _, _, _, _, rfl, (fun u hu => by cases hu), hb⟩
  | some u =>
    rw [hg] at h
    obtain ⟨⟨x, rfl, hx⟩, hb⟩ := h
    have hx2 := hx
    obtain ⟨k, n, t, nm, it, na, nc, ia, ic, _, rfl, _⟩ := hx2.open
    exact ⟨k, n, t, na, nm.length, nc, ia, it.length, ic, rfl, (fun u' hu => by cases hu; exact hx), hb⟩
/-- Project under way: j fields are done -/
structure PJ (T0 : TypeId) (c : CF) (fs : List ByteArray) (v : JV) (w wr : World) (Q9 V5 O5 : Array Value) (j : Nat) (out : JV) : Prop where
  three : ThreeA w wr Q9 V5 #[.int .i64 0, .int .i64 0, .string ⟨#[]⟩, .slice none 0 0, .slice none 0 0] T0 25 25
  box : wr.heap[w.heap.size + 3]? = some (.cells O5 25 (0, 0))
  eq : (fs.take j).foldl (projS v) objE = out
  formed : formedF 6 out = true
  at_ : JAt (cfV c (w.heap.size + 4) wr) out (.agg O5)
theorem PJ.next {T0 : TypeId} {c : CF} {fs : List ByteArray} {v out : JV} {w wr w' : World} {Q9 V5 O5 : Array Value} {j : Nat} (h : PJ T0 c fs v w wr Q9 V5 O5 j out) (hb : Below wr.heap.size wr w') : PJ T0 c fs v w w' Q9 V5 O5 j out :=
  ⟨h.three.next hb, kept h.box hb, h.eq, h.formed, h.at_.mono (cfV_next hb)⟩
theorem PJ.skip {T0 : TypeId} {c : CF} {fs : List ByteArray} {v out : JV} {w wr : World} {Q9 V5 O5 : Array Value} {j : Nat} {p : ByteArray} (h : PJ T0 c fs v w wr Q9 V5 O5 j out) (hp : fs[j]? = some p) (hs : projS v out p = out) : PJ T0 c fs v w wr Q9 V5 O5 (j + 1) out :=
  ⟨h.three, h.box, by rw [take_nextW hp, List.foldl_append, h.eq]; exact hs, h.formed, h.at_⟩
theorem PJ.set {T0 : TypeId} {c : CF} {fs : List ByteArray} {v out y : JV} {w wr w1 : World} {Q9 V5 : Array Value} {j : Nat} {p : ByteArray} {a0 a1 a2 a3 a4 c0 c1 c2 c3 c4 : Value} (h : PJ T0 c fs v w wr Q9 V5 #[a0, a1, a2, a3, a4] j out) (hp : fs[j]? = some p) (hs : projS v out p = y) (hf : formedF 6 y = true)
    {B1 : Nat} (hB : w.heap.size + 4 ≤ B1) (hw1 : Below w1.heap.size w1 wr) {w2 : World} (hw2 : Below w2.heap.size w2 wr) (hj : JAt (cfV (cfV c (w.heap.size + 4) w1) B1 w2) y (.agg #[c0, c1, c2, c3, c4])) : PJ T0 c fs v w (set5 wr (w.heap.size + 3) c0 c1 c2 c3 c4) Q9 V5 #[c0, c1, c2, c3, c4] (j + 1) y :=
  ⟨⟨set5_below h.three.bel (by omega), by rw [set5_other (by omega)]; exact h.three.one, by rw [set5_other (by omega)]; exact h.three.two, by rw [set5_other (by omega)]; exact h.three.three⟩, set5_self h.box, by rw [take_nextW hp, List.foldl_append, h.eq]; exact hs, hf,
   hj.mono (cfV_thrice hB (fun b o u hb hu => by rw [set5_cells (by omega)]; exact cle_below hw1 _ _ _ hu) (fun b o u hb hu => by rw [set5_cells (by omega)]; exact cle_below hw2 _ _ _ hu))⟩
/-- what Project hands back -/
def ProjPost (c : CF) (y : JV) (w : World) (e : Ending) (w' : World) : Prop := ∃ k n t na nl nc ia il ic, e = .returned (.agg #[.int .i64 k, .int .i64 n, .string t, .slice na nl nc, .slice ia il ic]) ∧ JAt (cfV c w.heap.size w') y (.agg #[.int .i64 k, .int .i64 n, .string t, .slice na nl nc, .slice ia il ic]) ∧ Below w.heap.size w w'
theorem proj_mk {c : CF} {y : JV} {w w' : World} {k n : Int} {t : ByteArray} {na : Option Addr} {nl nc : Nat} {ia : Option Addr} {il ic : Nat} (h : JAt (cfV c w.heap.size w') y (.agg #[.int .i64 k, .int .i64 n, .string t, .slice na nl nc, .slice ia il ic])) (hb : Below w.heap.size w w') : ProjPost c y w (.returned (.agg #[.int .i64 k, .int .i64 n, .string t, .slice na nl nc, .slice ia il ic])) w' := ⟨_, _, _, _, _, _, _, _, _, rfl, h, hb⟩
theorem projS_none {v out : JV} {p : ByteArray} (h : getJ v p = none) : projS v out p = out := by unfold projS; rw [h]
theorem projS_put {v out u : JV} {p : ByteArray} {l : List ByteArray} (h : getJ v p = some u) (h2 : stepsF p = some l) (h3 : putJ l out u = none) : projS v out p = out := by unfold projS; rw [h]; simp only; rw [h2]; simp only; rw [h3]
theorem projS_bad {v out u y : JV} {p : ByteArray} {l : List ByteArray} (h : getJ v p = some u) (h2 : stepsF p = some l) (h3 : putJ l out u = some y) (h4 : formedF 6 y = false) : projS v out p = out := by unfold projS; rw [h]; simp only; rw [h2]; simp only; rw [h3]; simp only; rw [h4]
theorem projS_ok {v out u y : JV} {p : ByteArray} {l : List ByteArray} (h : getJ v p = some u) (h2 : stepsF p = some l) (h3 : putJ l out u = some y) (h4 : formedF 6 y = true) : projS v out p = y := by unfold projS; rw [h]; simp only; rw [h2]; simp only; rw [h3]; simp only; rw [h4]
theorem projF_some {fs : List ByteArray} {v : JV} (h : fs ≠ []) : projF fs v = fs.foldl (projS v) objE := by
  cases fs with
  | nil => exact absurd rfl h
  | cons p l => rfl
theorem objE_at (c : CF) : JAt c objE (.agg #[.int .i64 6, .int .i64 0, .string ⟨#[]⟩, .slice none 0 0, .slice none 0 0]) :=
  JAt.shut (by kernel_rfl) (by kernel_rfl) (by decide) ⟨none, 0, rfl, by decide, fun i x h => by simp at h⟩ ⟨none, 0, rfl, by decide, fun i x h => by simp at h⟩

set_option maxRecDepth 100000 in
set_option maxHeartbeats 32000000 in
theorem qProject_any (c : CF) (q : QR) (d : List Value) (v : JV) (x : Value) (w : World) (hq : QAt (cf w) q d) (hc : CLe c (cfU w.heap.size w)) (hx : JAt c v x) (hfz : ∀ p ∈ q.fields, p.size ≤ 1000000) (hT : Tabs w) :
    Calls Tryd.prog 21 #[.agg d.toArray, x] w (ProjPost c (projF q.fields v) w) := by
  obtain ⟨k, n, t, na, nl, nc, ia, il, ic, sv, fv, rfl, hj, hs, hf⟩ := hq
  have HFV := Hold.mk hf
  obtain ⟨fa, fcap, rfl, hfl, hfc, hfe⟩ := hf
  obtain ⟨vk, vn, vt, vnm, vit, vna, vnc, via, vic, hve, rfl, _⟩ := hx.open
  obtain ⟨vnl, hvnl⟩ : ∃ m, vnm.length = m := ⟨_, rfl⟩
  obtain ⟨vil, hvil⟩ : ∃ m, vit.length = m := ⟨_, rfl⟩
  rw [hvnl, hvil] at hx ⊢
  have HX := Hold.mk hx
  have HCL := Hold.mk hc
  have HFE := Hold.mk hfe
  have HFZ := Hold.mk hfz
  have HT := Hold.mk hT
  have HC4 : Hold (CLe c (cfU (w.heap.size + 4) w)) := ⟨cle_upA hc (by omega)⟩
  have H3 := Hold.mk (ThreeA.refl w #[.int .i64 k, .int .i64 n, .string t, .slice na nl nc, .slice ia il ic, sv, .slice fa q.fields.length fcap, .int .i64 q.skip, .int .i64 q.lim] #[.int .i64 vk, .int .i64 vn, .string vt, .slice vna vnl vnc, .slice via vil vic] #[.int .i64 0, .int .i64 0, .string ⟨#[]⟩, .slice none 0 0, .slice none 0 0] 28 25 25)
  clear hj hs hve hx hc hfe hfz hT hvnl hvil
  have hfl3 : q.fields.length ≤ 9223372036854775807 := by omega
  go_enter Tryd.func21, Tryd.ntmps21
  go_upto_region 1 with (fail)
  obtain ⟨W, hW⟩ : ∃ W, W = (((w.alloc (.cells #[.int .i64 k, .int .i64 n, .string t, .slice na nl nc, .slice ia il ic, sv, .slice fa q.fields.length fcap, .int .i64 q.skip, .int .i64 q.lim] 28)).alloc (.cells #[.int .i64 vk, .int .i64 vn, .string vt, .slice vna vnl vnc, .slice via vil vic] 25)).alloc (.cells #[.int .i64 0, .int .i64 0, .string ⟨#[]⟩, .slice none 0 0, .slice none 0 0] 25)) := ⟨_, rfl⟩
  have HWS : Hold (W.heap.size = w.heap.size + 3) := ⟨by rw [hW]; simp⟩
  rw [← hW] at H3 ⊢
  clear hW
  obtain ⟨y0, y1, y2, y3, y4, y5, y6, y7, y8⟩ := cells9A H3.out.one
  obtain ⟨x0, x1, x2, x3, x4⟩ := cells_five H3.out.two
  obtain ⟨z0, z1, z2, z3, z4⟩ := cells_five H3.out.three
  have f0 := free_box H3.out.three 0
  have f1 := free_box H3.out.three 1
  have f2 := free_box H3.out.three 2
  have f3 := free_box H3.out.three 3
  have f4 := free_box H3.out.three 4
  by_cases h0 : q.fields.length = 0
  · have HE : Hold (projF q.fields v = v) := ⟨by rw [List.length_eq_zero_iff.1 h0]; rfl⟩
    have hn0 : (q.fields.length : Int) = 0 := by omega
    go_wp2_with fail
    obtain ⟨q0, q1, q2, q3, q4⟩ := cells_five (set5_self (c0 := .int .i64 vk) (c1 := .int .i64 vn) (c2 := .string vt) (c3 := .slice vna vnl vnc) (c4 := .slice via vil vic) H3.out.three)
    refine bodyPost_ret (v := .agg #[.int .i64 vk, .int .i64 vn, .string vt, .slice vna vnl vnc, .slice via vil vic]) (by simp [results, Tryd.results21, go_sem, q0, q1, q2, q3, q4]) rfl (proj_mk ?_ (set5_below H3.out.bel (by omega)))
    rw [HE.out]
    exact HX.out.mono (cle_cfV HCL.out)
  have hn0 : ¬ (q.fields.length : Int) = 0 := by omega
  have hnb : ((q.fields.length : Int) == 0) = false := by simpa using hn0
  have HNE : Hold (q.fields ≠ []) := ⟨fun e => h0 (by rw [e]; rfl)⟩
  clear h0 x0 x1 x2 x3 x4 z0 z1 z2 z3 z4 f0 f1 f2 f3 f4
  go_upto_region 4 with (fail)
  obtain ⟨W2, hW2⟩ : ∃ W2, W2 = W.alloc (.cells #[.int .i64 6, .int .i64 0, .string ⟨#[]⟩, .slice none 0 0, .slice none 0 0] 25) := ⟨_, rfl⟩
  have HPJ : Hold (PJ 28 c q.fields v w W2 #[.int .i64 k, .int .i64 n, .string t, .slice na nl nc, .slice ia il ic, sv, .slice fa q.fields.length fcap, .int .i64 q.skip, .int .i64 q.lim] #[.int .i64 vk, .int .i64 vn, .string vt, .slice vna vnl vnc, .slice via vil vic] #[.int .i64 6, .int .i64 0, .string ⟨#[]⟩, .slice none 0 0, .slice none 0 0] 0 objE) := ⟨H3.out.next (by rw [hW2]; exact (Below.refl _ W).alloc (Nat.le_refl _) _), by rw [hW2, ← HWS.out]; exact heap_alloc_new W _, by rw [List.take_zero]; rfl, objE_formed, objE_at _⟩
  rw [← hW2, HWS.out]
  clear hW2 H3 HWS y0 y1 y2 y3 y4 y5 y6 y7 y8
  obtain ⟨y0, y1, y2, y3, y4, y5, y6, y7, y8⟩ := cells9A HPJ.out.three.one
  go_wp2_with fail
  go_loopw [23] (fun i wr => ∃ (j : Nat) (out : JV) (ok on : Int) (ot : ByteArray) (ona : Option Addr) (onl onc : Nat) (oia : Option Addr) (oil oic : Nat), i = .int .i64 j ∧ j ≤ q.fields.length ∧ PJ 28 c q.fields v w wr #[.int .i64 k, .int .i64 n, .string t, .slice na nl nc, .slice ia il ic, sv, .slice fa q.fields.length fcap, .int .i64 q.skip, .int .i64 q.lim] #[.int .i64 vk, .int .i64 vn, .string vt, .slice vna vnl vnc, .slice via vil vic] #[.int .i64 ok, .int .i64 on, .string ot, .slice ona onl onc, .slice oia oil oic] j out) (fun i _ => q.fields.length - (intOf i).toNat)
  case atStart => exact ⟨0, objE, 6, 0, _, _, _, _, _, _, _, rfl, Nat.zero_le _, HPJ.out⟩
  case round =>
    obtain ⟨j, out, ok, on, ot, ona, onl, onc, oia, oil, oic, rfl, hj, hpj⟩ := hrel
    clear HPJ y0 y1 y2 y3 y4 y5 y6 y7 y8
    have HP := Hold.mk hpj
    clear hpj
    by_cases hlt : j < q.fields.length
    · obtain ⟨p, hp⟩ : ∃ p, q.fields[j]? = some p := ⟨q.fields[j], List.getElem?_eq_getElem hlt⟩
      obtain ⟨b, off, d, rfl, hd, hcc, hpe⟩ := HFE.out j p hp
      obtain ⟨rfl, _⟩ := hpe
      have hps := HFZ.out p (List.mem_of_getElem? hp)
      have HPP := Hold.mk hp
      have HBW := Hold.mk HP.out.three.bel
      have z0 := cle_below HBW.out _ _ _ (hcc 0 _ rfl)
      unfold cf at z0
      rw [Nat.add_zero, Nat.mul_one] at z0
      obtain ⟨x0, x1, x2, x3, x4⟩ := cells_five HP.out.three.two
      have HG := Hold.mk (GetC_any c v _ p wr ((HCL.out.trans (cfU_keep HBW.out)).trans (cle_cfU wr)) HX.out hps (HT.out.below HBW.out))
      clear hp hd hcc
      go_wp2_with fail
      refine HG.out.mono ?_
      rintro e w2 hg
      obtain ⟨gk, gn, gt, gna, gnl, gnc, gia, gil, gic, rfl, hgu, hb2⟩ := get_optM hg
      obtain ⟨g, hgg⟩ : ∃ g, getJ v p = g := ⟨_, rfl⟩
      rw [hgg] at hgu ⊢
      have HGG := Hold.mk hgg
      have HGU := Hold.mk hgu
      obtain ⟨W3, hW3⟩ : ∃ W3, W3 = w2.alloc (.cells #[.int .i64 gk, .int .i64 gn, .string gt, .slice gna gnl gnc, .slice gia gil gic] 25) := ⟨_, rfl⟩
      have hb3 : Below w2.heap.size w2 W3 := by rw [hW3]; exact (Below.refl _ w2).alloc (Nat.le_refl _) _
      have HZ3 : Hold (W3.heap[w2.heap.size]? = some (.cells #[.int .i64 gk, .int .i64 gn, .string gt, .slice gna gnl gnc, .slice gia gil gic] 25 (0, 0))) := ⟨by rw [hW3]; exact heap_alloc_new w2 _⟩
      replace HP := Hold.mk (HP.out.next (hb2.trans (hb3.mono hb2.size)))
      clear hg hgu hgg hb2 hb3 HG x0 x1 x2 x3 x4 z0
      cases g with
      | none =>
        have HSK := Hold.mk (HP.out.skip HPP.out (projS_none HGG.out))
        subst hW3
        go_wp2_with fail
        exact ⟨⟨j + 1, out, ok, on, ot, _, _, _, _, _, _, by go_num, hlt, HSK.out⟩, by simp [intOf]; omega⟩
      | some u =>
        obtain ⟨l, hl⟩ := get_steps HGG.out
        have HLL := Hold.mk hl
        have HS := Hold.mk (Steps_any p W3 hps (HT.out.below HP.out.three.bel))
        clear hl
        go_upto_region 9 with (fail)
        rw [← hW3]
        clear hW3
        generalize w2.heap.size = gb at HZ3 ⊢
        go_wp2_with fail
        refine HS.out.mono ?_
        rintro e w4 ⟨hst, hb4⟩
        rw [HLL.out] at hst
        simp only at hst
        obtain ⟨lv, rfl, hsv, hcp⟩ := hst
        have hsa := sat_of_strs (hsv.mono (cfA_le _ _)) hcp
        obtain ⟨la, lcap, rfl⟩ := hsa.form
        have HSA := Hold.mk hsa
        replace HZ3 := Hold.mk (kept HZ3.out hb4)
        replace HP := Hold.mk (HP.out.next hb4)
        clear hsv hcp hsa hb4 HS
        obtain ⟨y0, y1, y2, y3, y4⟩ := cells_five HP.out.box
        obtain ⟨x0, x1, x2, x3, x4⟩ := cells_five HZ3.out
        have HCW : Hold (CLe (cfV c (w.heap.size + 4) w4) (cfU w4.heap.size w4)) := ⟨(cfV_cf2 HCL.out HP.out.three.bel).trans (cle_cfU _)⟩
        have HPU := Hold.mk (put_any l (steps_ne HLL.out) (cfV c (w.heap.size + 4) w4) out u _ _ _ w4 HCW.out HP.out.at_ HSA.out ((HGU.out u rfl).mono (cle_cfV HC4.out)) ⟨6, HP.out.formed⟩ (steps_small hps HLL.out))
        go_wp2_with fail
        refine HPU.out.mono ?_
        rintro e w5 ⟨pk, pn, pt, pna, pnl, pnc, pia, pil, pic, rfl, hpu, hb5⟩
        obtain ⟨r, hr⟩ : ∃ r, putJ l out u = r := ⟨_, rfl⟩
        rw [hr] at hpu ⊢
        have HRR := Hold.mk hr
        have HW4 : Hold (w.heap.size + 4 ≤ w4.heap.size) := ⟨heap_lt HP.out.box⟩
        obtain ⟨W6, hW6⟩ : ∃ W6, W6 = w5.alloc (.cells #[.int .i64 pk, .int .i64 pn, .string pt, .slice pna pnl pnc, .slice pia pil pic] 25) := ⟨_, rfl⟩
        have hb6 : Below w5.heap.size w5 W6 := by rw [hW6]; exact (Below.refl _ w5).alloc (Nat.le_refl _) _
        have HZ6 : Hold (W6.heap[w5.heap.size]? = some (.cells #[.int .i64 pk, .int .i64 pn, .string pt, .slice pna pnl pnc, .slice pia pil pic] 25 (0, 0))) := ⟨by rw [hW6]; exact heap_alloc_new w5 _⟩
        have HBL4 : Hold (Below w4.heap.size w4 W6) := ⟨hb5.trans (hb6.mono hb5.size)⟩
        have HBL5 := Hold.mk hb6
        have HPV := Hold.mk hpu
        have HCF : Hold (CLe (cfV (cfV c (w.heap.size + 4) w4) w4.heap.size w5) (cf W6)) := ⟨(cfV_cf2 HCW.out hb5).trans (cle_below hb6)⟩
        replace HP := Hold.mk (HP.out.next HBL4.out)
        clear hr hpu hb5 hb6 HPU HZ3 HSA x0 x1 x2 x3 x4 y0 y1 y2 y3 y4
        cases r with
        | none =>
          have HSK := Hold.mk (HP.out.skip HPP.out (projS_put HGG.out HLL.out HRR.out))
          subst hW6
          go_wp2_with fail
          exact ⟨⟨j + 1, out, ok, on, ot, _, _, _, _, _, _, by go_num, hlt, HSK.out⟩, by simp [intOf]; omega⟩
        | some y =>
          have HFM := Hold.mk (Formed_any y _ W6 ((HPV.out y rfl).mono HCF.out) (HT.out.below HP.out.three.bel))
          obtain ⟨fy, hfy⟩ : ∃ fy, formedF 6 y = fy := ⟨_, rfl⟩
          rw [hfy] at HFM
          have HFY := Hold.mk hfy
          clear hfy
          go_upto_region 11 with (fail)
          rw [← hW6]
          clear hW6
          generalize w5.heap.size = pb at HZ6 ⊢
          obtain ⟨x0, x1, x2, x3, x4⟩ := cells_five HZ6.out
          go_wp2_with fail
          refine HFM.out.mono ?_
          rintro e w7 ⟨rfl, hb7⟩
          replace HP := Hold.mk (HP.out.next hb7)
          replace HZ6 := Hold.mk (kept HZ6.out hb7)
          replace HBL4 := Hold.mk (HBL4.out.trans (hb7.mono HBL4.out.size))
          replace HBL5 := Hold.mk (HBL5.out.trans (hb7.mono HBL5.out.size))
          clear hb7 HFM x0 x1 x2 x3 x4
          cases fy with
          | false =>
            have HSK := Hold.mk (HP.out.skip HPP.out (projS_bad HGG.out HLL.out HRR.out HFY.out))
            go_wp2_with fail
            exact ⟨⟨j + 1, out, ok, on, ot, _, _, _, _, _, _, by go_num, hlt, HSK.out⟩, by simp [intOf]; omega⟩
          | true =>
            have HST := Hold.mk (HP.out.set HPP.out (projS_ok HGG.out HLL.out HRR.out HFY.out) HFY.out HW4.out HBL4.out HBL5.out (HPV.out y rfl))
            obtain ⟨x0, x1, x2, x3, x4⟩ := cells_five HZ6.out
            obtain ⟨z0, z1, z2, z3, z4⟩ := cells_five HP.out.box
            have f0 := free_box HP.out.box 0
            have f1 := free_box HP.out.box 1
            have f2 := free_box HP.out.box 2
            have f3 := free_box HP.out.box 3
            have f4 := free_box HP.out.box 4
            go_wp2_with fail
            exact ⟨⟨j + 1, y, pk, pn, pt, _, _, _, _, _, _, by go_num, hlt, HST.out⟩, by simp [intOf]; omega⟩
    · obtain rfl : j = q.fields.length := by omega
      have HE : Hold (projF q.fields v = out) := ⟨by rw [projF_some HNE.out, ← HP.out.eq, List.take_of_length_le (Nat.le_refl _)]⟩
      obtain ⟨x0, x1, x2, x3, x4⟩ := cells_five HP.out.box
      obtain ⟨z0, z1, z2, z3, z4⟩ := cells_five HP.out.three.three
      have f0 := free_box HP.out.three.three 0
      have f1 := free_box HP.out.three.three 1
      have f2 := free_box HP.out.three.three 2
      have f3 := free_box HP.out.three.three 3
      have f4 := free_box HP.out.three.three 4
      go_wp2_with fail
      obtain ⟨q0, q1, q2, q3, q4⟩ := cells_five (set5_self (c0 := .int .i64 ok) (c1 := .int .i64 on) (c2 := .string ot) (c3 := .slice ona onl onc) (c4 := .slice oia oil oic) HP.out.three.three)
      refine bodyPost_ret (v := .agg #[.int .i64 ok, .int .i64 on, .string ot, .slice ona onl onc, .slice oia oil oic]) (by simp [results, Tryd.results21, go_sem, q0, q1, q2, q3, q4]) rfl (proj_mk ?_ (set5_below HP.out.three.bel (by omega)))
      rw [HE.out]
      exact HP.out.at_.mono (cfV_to HCL.out (by omega) (fun b o u hb hu => by rw [set5_cells (by omega)]; exact hu))

end Go.Proofs.YtkhhbckpddkhlaaDoor
