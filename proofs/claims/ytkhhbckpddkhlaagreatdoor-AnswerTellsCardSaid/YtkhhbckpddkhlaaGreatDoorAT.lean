/- Answers: put of the reference walked. (printed by genXAT.py) -/
import Derived.Test.YtkhhbckpddkhlaaGreatDoorAS
import Derived.Test.YtkhhbckpddkhlaaGreatDoorAM
namespace Go.Proofs.YtkhhbckpddkhlaaGreatDoor
open Go.Shelf Go.RowKit

theorem ThreeA.keep {w wr w' : World} {a b c : Array Value} {s t u : TypeId} (h : ThreeA w wr a b c s t u) (hb : Below (w.heap.size + 3) wr w') : ThreeA w w' a b c s t u :=
  ⟨h.bel.trans (hb.mono (by omega)), by rw [hb.block _ (by omega)]; exact h.one, by rw [hb.block _ (by omega)]; exact h.two, by rw [hb.block _ (by omega)]; exact h.three⟩
/-- what a function that takes a value, steps and a value hands back -/
def PutC (f : FuncId) (l : List ByteArray) (g : JV → JV → Option JV) : Prop :=
  ∀ (c : CF) (v x : JV) (vv lv xv : Value) (w : World), CLe c (cfU w.heap.size w) → JAt c v vv → SAt 1 RS (cf w) lv l → JAt c x xv → (∃ d, formedF d v = true) → (∀ y ∈ l, y.size ≤ 1000000) → Calls Tryz.prog f #[vv, lv, xv] w (PutPost c (g v x) w)
theorem strK_eqT {a b : ByteArray} (h : a = b) : (a.toList == b.toList) = true := by rw [h]; simp
theorem strK_of {a b : ByteArray} (h : (a.toList == b.toList) = true) : a = b := by
  have := eq_of_beq h
  rw [ByteArray.toList_eq, ByteArray.toList_eq] at this
  cases a; cases b; exact congrArg ByteArray.mk (Array.toList_inj.1 this)
theorem inner_no {k n : Int} {t : ByteArray} {nm : List ByteArray} {it : List JV} {s nj : ByteArray} {r : Option JV} {j : Nat} {oN : List ByteArray} {oI : List JV} (hu : upN nm) (h : PInv nm it s r j false oN oI) (hn : nm[j]? = some nj) (hlt : strLt nj s = false) (he : nj ≠ s) : innerJ (.mk k n t nm it) s = objE := by
  have hj : placeN nm s = j := by
    have h1 := h.1
    rcases Nat.lt_or_ge j (placeN nm s) with h2 | h2
    · rw [placeN_lt h2 hn] at hlt; cases hlt
    · omega
  have hh : hasN nm s = false := by
    cases hh : hasN nm s with
    | false => rfl
    | true =>
      have := (placeN_mem hu s).1 ((hasN_iff nm s).1 hh)
      rw [hj, hn] at this
      exact absurd (Option.some.inj this) he
  unfold innerJ
  rw [show hasN (JV.mk k n t nm it).names s = false from hh]
theorem inner_yes {k n : Int} {t : ByteArray} {nm : List ByteArray} {it : List JV} {s nj : ByteArray} {x : JV} {r : Option JV} {j : Nat} {oN : List ByteArray} {oI : List JV} (h : PInv nm it s r j false oN oI) (hn : nm[j]? = some nj) (hx : it[j]? = some x) (hlt : strLt nj s = false) (he : nj = s) : innerJ (.mk k n t nm it) s = x := by
  have hj : placeN nm s = j := by
    have h1 := h.1
    rcases Nat.lt_or_ge j (placeN nm s) with h2 | h2
    · rw [placeN_lt h2 hn] at hlt; cases hlt
    · omega
  have hh : hasN nm s = true := (hasN_iff nm s).2 (he ▸ List.mem_of_getElem? hn)
  unfold innerJ
  rw [show hasN (JV.mk k n t nm it).names s = true from hh, show placeN (JV.mk k n t nm it).names s = j from hj]
  show (it[j]?).getD objE = x
  rw [hx]; rfl
theorem strK_neT {a b : ByteArray} (h : a ≠ b) : (a.toList == b.toList) = false := by
  cases he : (a.toList == b.toList) with
  | false => rfl
  | true =>
    exfalso; apply h
    have := eq_of_beq he
    rw [ByteArray.toList_eq, ByteArray.toList_eq] at this
    cases a; cases b; exact congrArg ByteArray.mk (Array.toList_inj.1 this)

set_option maxRecDepth 100000 in
set_option maxHeartbeats 16000000 in
theorem within_step (s : ByteArray) (l : List ByteArray) (ih : l ≠ [] → PutC 65 l (putJ l)) : PutC 110 (s :: l) (withinJ l) := by
  intro c v x vv lv xv w hc hv hl hx hf hsz
  have HIH := Hold.mk ih
  have HCL := Hold.mk hc
  have HV := Hold.mk hv
  have HX := Hold.mk hx
  have HF := Hold.mk hf
  have HSZ := Hold.mk hsz
  have HC3 : Hold (CLe c (cfU (w.heap.size + 3) w)) := ⟨cle_upA hc (by omega)⟩
  obtain ⟨k, n, t, nm, it, na, ncap, ia, icap, rfl, rfl, _, _, _, hst, hit⟩ := hv.open
  obtain ⟨k2, n2, t2, nm2, it2, na2, ncap2, ia2, icap2, hxe, rfl, _⟩ := hx.open
  obtain ⟨L, hL⟩ : ∃ L, L = l.length + 1 := ⟨_, rfl⟩
  obtain ⟨la, lcap, rfl, hle, hcap, hel⟩ := id hl
  rw [List.length_cons, ← hL] at hl hle ⊢
  have HLN := Hold.mk hL
  have hL0 : 1 ≤ L := by omega
  obtain ⟨lb, lo, ld, rfl, _, hlc, hls⟩ := hel 0 s rfl
  obtain ⟨rfl, _⟩ := hls
  have HL := Hold.mk hl
  have HLC := Hold.mk (hlc 0 _ rfl)
  have HST := Hold.mk hst
  have HIT := Hold.mk hit
  have H3 := Hold.mk (ThreeA.refl w #[.int .i64 k, .int .i64 n, .string t, .slice na nm.length ncap, .slice ia it.length icap] #[.int .i64 k2, .int .i64 n2, .string t2, .slice na2 nm2.length ncap2, .slice ia2 it2.length icap2] #[.int .i64 0, .int .i64 0, .string ⟨#[]⟩, .slice none 0 0, .slice none 0 0] 25 25 25)
  clear ih hc hv hx hl hf hsz hel hlc hst hit hxe hL
  go_enter Tryz.func110, Tryz.ntmps110
  go_upto_region 1 with (fail)
  obtain ⟨W, hW⟩ : ∃ W, W = (((w.alloc (.cells #[.int .i64 k, .int .i64 n, .string t, .slice na nm.length ncap, .slice ia it.length icap] 25)).alloc (.cells #[.int .i64 k2, .int .i64 n2, .string t2, .slice na2 nm2.length ncap2, .slice ia2 it2.length icap2] 25)).alloc (.cells #[.int .i64 0, .int .i64 0, .string ⟨#[]⟩, .slice none 0 0, .slice none 0 0] 25)) := ⟨_, rfl⟩
  rw [← hW] at H3 ⊢
  clear hW
  obtain ⟨y0, y1, y2, y3, y4⟩ := cells_five H3.out.two
  rcases l with _ | ⟨t1, l⟩
  · have hL1 : (L : Int) = 1 := by have := HLN.out; simp at this; omega
    clear hL0
    obtain ⟨z0, z1, z2, z3, z4⟩ := cells_five H3.out.three
    have f0 := free_box H3.out.three 0
    have f1 := free_box H3.out.three 1
    have f2 := free_box H3.out.three 2
    have f3 := free_box H3.out.three 3
    have f4 := free_box H3.out.three 4
    go_wp2_with fail
    obtain ⟨q0, q1, q2, q3, q4⟩ := cells_five (set5_self (c0 := .int .i64 k2) (c1 := .int .i64 n2) (c2 := .string t2) (c3 := .slice na2 nm2.length ncap2) (c4 := .slice ia2 it2.length icap2) H3.out.three)
    refine bodyPost_ret (v := .tuple #[.agg #[.int .i64 k2, .int .i64 n2, .string t2, .slice na2 nm2.length ncap2, .slice ia2 it2.length icap2], .bool true]) (by simp [results, Tryz.results110, go_sem, q0, q1, q2, q3, q4]) rfl (put_yes (r := withinJ [] _ x) rfl (HX.out.mono (cle_cfV HCL.out)) (set5_below H3.out.bel (by omega)))
  · have hL1 : ¬ (L : Int) = 1 := by have := HLN.out; simp at this; omega
    have hL2 : ((L : Int) == 1) = false := by simpa using hL1
    obtain ⟨a', hsl0, hsl1⟩ := slice_tail (n := 1) Tryz.underlying22 (by kernel_rfl) infoStr (some ⟨lb, lo, none⟩) L lcap 1 hL0 hle hcap
    have hsl : ∀ w, (Instr.slice 22 (.slice (some ⟨lb, lo, none⟩) L lcap) (some (.int .i64 1)) none none).run Tryz.prog w = .ok (.slice a' (L - 1) (lcap - 1)) w := hsl0
    have HLT := Hold.mk (hsl1 (l := s :: t1 :: l) (by have := HLN.out; simp at this ⊢; omega) HL.out)
    clear hsl0 hsl1
    obtain ⟨r, hr⟩ : ∃ r, putJ (t1 :: l) (.mk k n t nm it) x = r := ⟨_, rfl⟩
    have HR : Hold (withinJ (t1 :: l) (.mk k n t nm it) x = r) := ⟨hr⟩
    have HPUT : Hold (∀ ww, Below W.heap.size W ww → Calls Tryz.prog 65 #[.agg #[.int .i64 k, .int .i64 n, .string t, .slice na nm.length ncap, .slice ia it.length icap], .slice a' (L - 1) (lcap - 1), .agg #[.int .i64 k2, .int .i64 n2, .string t2, .slice na2 nm2.length ncap2, .slice ia2 it2.length icap2]] ww (PutPost c r ww)) := ⟨fun ww hbw => by
      rw [← hr]
      exact HIH.out (by simp) c _ x _ _ _ ww ((HCL.out.trans (cfU_keep (H3.out.bel.trans (hbw.mono H3.out.bel.size)))).trans (cle_cfU ww)) HV.out (HLT.out.mono RS_mono (cle_below (H3.out.bel.trans (hbw.mono H3.out.bel.size)))) HX.out HF.out (fun y hy => HSZ.out y (List.mem_cons_of_mem _ hy))⟩
    clear hr
    go_upto_region 3 with (fail)
    clear y0 y1 y2 y3 y4
    obtain ⟨y0, y1, y2, y3, y4⟩ := cells_five H3.out.one
    obtain ⟨x0, x1, x2, x3, x4⟩ := cells_five H3.out.two
    have HW3 : Hold (w.heap.size + 2 < W.heap.size) := ⟨heap_lt H3.out.three⟩
    have g0 := GrowB.cell (B := w.heap.size + 2) y0 (by show w.heap.size < w.heap.size + 2; omega)
    have g1 := GrowB.cell (B := w.heap.size + 2) y1 (by show w.heap.size < w.heap.size + 2; omega)
    have g2 := GrowB.cell (B := w.heap.size + 2) y2 (by show w.heap.size < w.heap.size + 2; omega)
    have g3 := GrowB.cell (B := w.heap.size + 2) y3 (by show w.heap.size < w.heap.size + 2; omega)
    have g4 := GrowB.cell (B := w.heap.size + 2) y4 (by show w.heap.size < w.heap.size + 2; omega)
    have h0 := GrowB.cell (B := w.heap.size + 2) x0 (by show w.heap.size + 1 < w.heap.size + 2; omega)
    have h1 := GrowB.cell (B := w.heap.size + 2) x1 (by show w.heap.size + 1 < w.heap.size + 2; omega)
    have h2 := GrowB.cell (B := w.heap.size + 2) x2 (by show w.heap.size + 1 < w.heap.size + 2; omega)
    have h3 := GrowB.cell (B := w.heap.size + 2) x3 (by show w.heap.size + 1 < w.heap.size + 2; omega)
    have h4 := GrowB.cell (B := w.heap.size + 2) x4 (by show w.heap.size + 1 < w.heap.size + 2; omega)
    clear y0 y1 y2 y3 y4 x0 x1 x2 x3 x4
    refine wp_region_mixB (w.heap.size + 2) 9 rfl (by kernel_rfl) ?_
    rintro w6 hw6 hb6
    clear hw6
    refine mixl_seg (by kernel_rfl) (fun _ _ d _ _ h => by cases d <;> exact h) [0, 1, 2, 3] [_, _, _, _] 5 9 rfl _ _ _ rfl (by kernel_rfl) (growBC (hb6.mono (by have := HW3.out; omega))) ?_
    repeat (go_big_quiet_step (fail))
    refine wpQuiet_nil ?_
    have HG := Hold.mk hb6
    have HS2 : Hold (w.heap.size + 2 ≤ W.heap.size) := ⟨Nat.le_of_lt HW3.out⟩
    clear hb6 g0 g1 g2 g3 g4 h0 h1 h2 h3 h4
    refine mixl_act (i := 4) rfl (by kernel_rfl) (growBC (HG.out.mono HS2.out)) rfl (fun K hK => ?_)
    go_wp2_with fail
    refine (HPUT.out w6 HG.out).mono ?_
    rintro e w7 ⟨yk, yn, yt, yna, ynl, ync, yia, yil, yic, rfl, hu, hb7⟩
    have HOU := Hold.mk hu
    have HWS6 : Hold (W.heap.size ≤ w6.heap.size) := ⟨HG.out.size⟩
    have HWW : Hold (w.heap.size ≤ w6.heap.size) := ⟨Nat.le_trans (by omega) (Nat.le_trans HS2.out HG.out.size)⟩
    replace HG : Hold (Below W.heap.size W w7) := ⟨HG.out.trans (hb7.mono HG.out.size)⟩
    have HW67 := Hold.mk hb7
    clear hb7 hu
    go_wp2_with fail
    refine mixl_seg (by kernel_rfl) (fun _ _ d _ _ h => by cases d <;> exact h) [5, 6] [_, _] 2 4 rfl _ _ _ rfl (by kernel_rfl) (growBC (HG.out.mono HS2.out)) ?_
    repeat (go_big_quiet_step (fail))
    refine wpQuiet_nil ?_
    refine mixl_act (i := 7) rfl (by kernel_rfl) (growBC (HG.out.mono HS2.out)) rfl (fun K hK => ?_)
    obtain ⟨z0, z1, z2, z3, z4⟩ := cells_five (H3.out.next HG.out).three
    have f0 := free_box (H3.out.next HG.out).three 0
    have f1 := free_box (H3.out.next HG.out).three 1
    have f2 := free_box (H3.out.next HG.out).three 2
    have f3 := free_box (H3.out.next HG.out).three 3
    have f4 := free_box (H3.out.next HG.out).three 4
    go_wp2_with fail
    clear z0 z1 z2 z3 z4 f0 f1 f2 f3 f4
    have HZ9 := Hold.mk (set5_self (c0 := .int .i64 yk) (c1 := .int .i64 yn) (c2 := .string yt) (c3 := .slice yna ynl ync) (c4 := .slice yia yil yic) (H3.out.next HG.out).three)
    have HB9 := Hold.mk (set5_below (k := w.heap.size + 2) (c0 := .int .i64 yk) (c1 := .int .i64 yn) (c2 := .string yt) (c3 := .slice yna ynl ync) (c4 := .slice yia yil yic) (H3.out.next HG.out).bel (by omega))
    have HG9 := Hold.mk (set5_below (k := w.heap.size + 2) (c0 := .int .i64 yk) (c1 := .int .i64 yn) (c2 := .string yt) (c3 := .slice yna ynl ync) (c4 := .slice yia yil yic) (HG.out.mono HS2.out) (Nat.le_refl _))
    have HC9 : Hold (∀ y, r = some y → JAt (cfV c w.heap.size (set5 w7 (w.heap.size + 2) (.int .i64 yk) (.int .i64 yn) (.string yt) (.slice yna ynl ync) (.slice yia yil yic))) y (.agg #[.int .i64 yk, .int .i64 yn, .string yt, .slice yna ynl ync, .slice yia yil yic])) := ⟨fun y hy => (HOU.out y hy).mono (cfV_to HCL.out HWW.out (fun b o u hb hu => by rw [set5_cells (by have := HG.out.size; have := HW67.out.size; have := HS2.out; have := heap_lt H3.out.three; have := HWS6.out; omega)]; exact hu))⟩
    unfold set5 at HZ9 HB9 HG9 HC9
    generalize hw8 : ((((w7.setCell ⟨w.heap.size + 2, 0, none⟩ (.int .i64 yk)).setCell ⟨w.heap.size + 2, 1, none⟩ (.int .i64 yn)).setCell ⟨w.heap.size + 2, 2, none⟩ (.string yt)).setCell ⟨w.heap.size + 2, 3, none⟩ (.slice yna ynl ync)).setCell ⟨w.heap.size + 2, 4, none⟩ (.slice yia yil yic) = w9 at HZ9 HB9 HG9 HC9 ⊢
    clear hw8
    refine mixl_seg (by kernel_rfl) (fun _ _ d _ _ h => by cases d <;> exact h) [8] [_] 0 1 rfl _ _ _ rfl (by kernel_rfl) (growBC HG9.out) ?_
    repeat (go_big_quiet_step (fail))
    refine wpQuiet_nil ?_
    refine mix_done (by kernel_rfl) (growBC HG9.out) ?_
    obtain ⟨q0, q1, q2, q3, q4⟩ := cells_five HZ9.out
    go_wp2_with fail
    exact bodyPost_ret (v := .tuple #[.agg #[.int .i64 yk, .int .i64 yn, .string yt, .slice yna ynl ync, .slice yia yil yic], .bool r.isSome]) (by simp [results, Tryz.results110, go_sem, q0, q1, q2, q3, q4]) rfl ⟨yk, yn, yt, yna, ynl, ync, yia, yil, yic, by rw [HR.out], fun y hy => HC9.out y (by rw [← HR.out]; exact hy), HB9.out⟩

set_option maxRecDepth 100000 in
set_option maxHeartbeats 64000000 in
theorem rput_step (s : ByteArray) (l : List ByteArray) (ih : PutC 110 (s :: l) (withinJ l)) : PutC 65 (s :: l) (putJ (s :: l)) := by
  intro c v x vv lv xv w hc hv hl hx hf hsz
  have HIH := Hold.mk ih
  have HCL := Hold.mk hc
  have HV := Hold.mk hv
  have HX := Hold.mk hx
  have HF := Hold.mk hf
  have HSZ := Hold.mk hsz
  have HC3 : Hold (CLe c (cfU (w.heap.size + 3) w)) := ⟨cle_upA hc (by omega)⟩
  obtain ⟨k, n, t, nm, it, na, ncap, ia, icap, rfl, rfl, _, _, _, hst, hit⟩ := hv.open
  obtain ⟨k2, n2, t2, nm2, it2, na2, ncap2, ia2, icap2, hxe, rfl, _⟩ := hx.open
  obtain ⟨L, hL⟩ : ∃ L, L = l.length + 1 := ⟨_, rfl⟩
  obtain ⟨la, lcap, rfl, hle, hcap, hel⟩ := id hl
  rw [List.length_cons, ← hL] at hl hle ⊢
  have HLN := Hold.mk hL
  have hL0 : 1 ≤ L := by omega
  obtain ⟨lb, lo, ld, rfl, _, hlc, hls⟩ := hel 0 s rfl
  obtain ⟨rfl, _⟩ := hls
  have HL := Hold.mk hl
  have HLC := Hold.mk (hlc 0 _ rfl)
  have HST := Hold.mk hst
  have HIT := Hold.mk hit
  have H3 := Hold.mk (ThreeA.refl w #[.int .i64 k, .int .i64 n, .string t, .slice na nm.length ncap, .slice ia it.length icap] #[.int .i64 k2, .int .i64 n2, .string t2, .slice na2 nm2.length ncap2, .slice ia2 it2.length icap2] #[.int .i64 0, .int .i64 0, .string ⟨#[]⟩, .slice none 0 0, .slice none 0 0] 25 25 25)
  clear ih hc hv hx hl hf hsz hel hlc hst hit hxe hL
  go_enter Tryz.func65, Tryz.ntmps65
  go_upto_region 1 with (fail)
  obtain ⟨W, hW⟩ : ∃ W, W = (((w.alloc (.cells #[.int .i64 k, .int .i64 n, .string t, .slice na nm.length ncap, .slice ia it.length icap] 25)).alloc (.cells #[.int .i64 k2, .int .i64 n2, .string t2, .slice na2 nm2.length ncap2, .slice ia2 it2.length icap2] 25)).alloc (.cells #[.int .i64 0, .int .i64 0, .string ⟨#[]⟩, .slice none 0 0, .slice none 0 0] 25)) := ⟨_, rfl⟩
  have HWS : Hold (W.heap.size = w.heap.size + 3) := ⟨by rw [hW]; simp⟩
  rw [← hW] at H3 ⊢
  clear hW
  obtain ⟨y0, y1, y2, y3, y4⟩ := cells_five H3.out.one
  by_cases h6 : k = 6
  case neg =>
    have HN : Hold (putJ (s :: l) (.mk k n t nm it) x = none) := ⟨by rw [putJ_step, if_neg (show ¬ (JV.mk k n t nm it).kind = 6 from h6)]⟩
    obtain ⟨z0, z1, z2, z3, z4⟩ := cells_five H3.out.three
    have f0 := free_box H3.out.three 0
    have f1 := free_box H3.out.three 1
    have f2 := free_box H3.out.three 2
    have f3 := free_box H3.out.three 3
    have f4 := free_box H3.out.three 4
    go_wp2_with fail
    obtain ⟨q0, q1, q2, q3, q4⟩ := cells_five (set5_self (c0 := .int .i64 k) (c1 := .int .i64 n) (c2 := .string t) (c3 := .slice na nm.length ncap) (c4 := .slice ia it.length icap) H3.out.three)
    exact bodyPost_ret (v := .tuple #[.agg #[.int .i64 k, .int .i64 n, .string t, .slice na nm.length ncap, .slice ia it.length icap], .bool false]) (by simp [results, Tryz.results65, go_sem, q0, q1, q2, q3, q4]) rfl (put_no HN.out (set5_below H3.out.bel (by omega)))
  subst h6
  have HO := Hold.mk (obj_facts HF.out rfl)
  have hup : Hold (upN nm) := ⟨HO.out.1⟩
  have HLEN : Hold (nm.length = it.length) := ⟨HO.out.2.1⟩
  have H24 : Hold (it.length ≤ 24) := ⟨HO.out.2.2.1⟩
  have hnl3 : nm.length ≤ 9223372036854775807 := by have := HLEN.out; have := H24.out; omega
  obtain ⟨r, hr⟩ : ∃ r, withinJ l (innerJ (.mk 6 n t nm it) s) x = r := ⟨_, rfl⟩
  have HR := Hold.mk hr
  have HPR : Hold (putJ (s :: l) (.mk 6 n t nm it) x = r.map (setJ (.mk 6 n t nm it) s)) := ⟨by rw [putJ_step, if_pos (show (JV.mk 6 n t nm it).kind = 6 from rfl), hr]⟩
  have HWI : Hold (∀ (ww : World) (uv : Value), Below w.heap.size w ww → JAt c (innerJ (.mk 6 n t nm it) s) uv → Calls Tryz.prog 110 #[uv, .slice (some ⟨lb, lo, none⟩) L lcap, .agg #[.int .i64 k2, .int .i64 n2, .string t2, .slice na2 nm2.length ncap2, .slice ia2 it2.length icap2]] ww (PutPost c r ww)) := ⟨fun ww uv hbw hu => by
    rw [← hr]
    exact HIH.out c _ x _ _ _ ww ((HCL.out.trans (cfU_keep hbw)).trans (cle_cfU ww)) hu (HL.out.mono RS_mono (cle_below hbw)) HX.out (inner_formed HF.out rfl s) HSZ.out⟩
  clear hr
  go_upto_region 4 with (fail)
  obtain ⟨W2, hW2⟩ : ∃ W2, W2 = W.alloc (.cells #[.int .i64 6, .int .i64 0, .string ⟨#[]⟩, .slice none 0 0, .slice none 0 0] 25) := ⟨_, rfl⟩
  have hb2 : Below W.heap.size W W2 := by rw [hW2]; exact (Below.refl _ W).alloc (Nat.le_refl _) _
  have HRP : Hold (RP c W2 (w.heap.size + 3) (.slice none 0 0) (.slice none 0 0) [] [] [] []) := ⟨RP.start (by rw [hW2, ← HWS.out]; exact heap_alloc_new W _)⟩
  replace H3 := Hold.mk (H3.out.next hb2)
  rw [← hW2, HWS.out]
  clear hW2 hb2 HWS y0 y1 y2 y3 y4
  obtain ⟨y0, y1, y2, y3, y4⟩ := cells_five H3.out.one
  go_wp2_with fail
  clear y0 y1 y2 y3 y4
  go_loopw [9, 10] (fun b i wr => ∃ (a1 : Option Addr) (c1 : Nat) (a2 : Option Addr) (c2 : Nat) (oN : List ByteArray) (oI : List JV) (csn csi : List Value) (j : Nat) (laid : Bool), b = .bool laid ∧ i = .int .i64 j ∧ j ≤ nm.length ∧ PInv nm it s r j laid oN oI ∧ RP c wr (w.heap.size + 3) (.slice a1 oN.length c1) (.slice a2 oI.length c2) oN oI csn csi ∧ ThreeA w wr #[.int .i64 6, .int .i64 n, .string t, .slice na nm.length ncap, .slice ia it.length icap] #[.int .i64 k2, .int .i64 n2, .string t2, .slice na2 nm2.length ncap2, .slice ia2 it2.length icap2] #[.int .i64 0, .int .i64 0, .string ⟨#[]⟩, .slice none 0 0, .slice none 0 0] 25 25 25) (fun _ i _ => nm.length - (intOf i).toNat)
  case atStart => exact ⟨none, 0, none, 0, [], [], [], [], 0, false, rfl, rfl, Nat.zero_le _, ⟨Nat.zero_le _, by simp, by simp⟩, HRP.out, H3.out⟩
  case round =>
    obtain ⟨a1, c1, a2, c2, oN, oI, csn, csi, j, laid, rfl, rfl, hj, hin, hrp, h3⟩ := hrel
    clear HRP H3
    have HRP := Hold.mk hrp
    have H3 := Hold.mk h3
    have HIN := Hold.mk hin
    clear hrp h3 hin
    obtain ⟨y0, y1, y2, y3, y4⟩ := cells_five H3.out.one
    by_cases hlt : j < nm.length
    · have hjI : j < it.length := by have := HLEN.out; omega
      obtain ⟨nj, hnj⟩ : ∃ nj, nm[j]? = some nj := ⟨nm[j], List.getElem?_eq_getElem hlt⟩
      obtain ⟨xj, hxj⟩ : ∃ xj, it[j]? = some xj := ⟨it[j], List.getElem?_eq_getElem hjI⟩
      obtain ⟨na', ncap', e, _, hnel⟩ := HST.out
      obtain ⟨rfl, _, rfl⟩ := Value.slice.inj e
      clear e
      obtain ⟨hnjs, nb, no, rfl, hnc⟩ := hnel j nj hnj
      obtain ⟨ia', icap', e, _, hiel⟩ := HIT.out
      obtain ⟨rfl, _, rfl⟩ := Value.slice.inj e
      clear e
      obtain ⟨ib, io, jk, jn, jt, jnm, jit, jna, jnc, jia, jic, rfl, hxe, xx0, xx1, xx2, xx3, xx4, hxja⟩ := hiel j xj hxj
      subst hxe
      have HNJ := Hold.mk hnj
      have HXJ := Hold.mk hxj
      have HNJS := Hold.mk hnjs
      have HNC := Hold.mk hnc
      have HXC := Hold.mk (And.intro xx0 (And.intro xx1 (And.intro xx2 (And.intro xx3 xx4))))
      have HXA := Hold.mk hxja
      clear hnj hxj hnel hiel hnjs hnc xx0 xx1 xx2 xx3 xx4 hxja
      have HCW : Hold (CLe c (cf w)) := ⟨HCL.out.trans (cfU_keep (Below.refl _ w))⟩
      have hnw : w.cell? ⟨nb, no + j, none⟩ = some (.string nj) := HCW.out _ _ _ HNC.out
      have hlw : w.cell? ⟨lb, lo, none⟩ = some (.string s) := by have := HLC.out; unfold cf at this; simpa using this
      have HNW := Hold.mk hnw
      have HLW := Hold.mk hlw
      obtain ⟨lt, hlt2⟩ : ∃ lt, strLt nj s = lt := ⟨_, rfl⟩
      have hlb : Op.bytesLess nj.toList s.toList = lt := hlt2
      have HLT := Hold.mk hlt2
      clear hlt2 hnw hlw
      have HLB : Hold (lb < w.heap.size) := ⟨lt_of_cell HLW.out⟩
      have HNB : Hold (nb < w.heap.size) := ⟨lt_of_cell HNW.out⟩
      have HSR : Hold (∀ c : CF, RS c s [.string s]) := ⟨fun _ => ⟨rfl, by have := HSZ.out s (List.mem_cons_self ..); omega⟩⟩
      have HNR : Hold (∀ c : CF, RS c nj [.string nj]) := ⟨fun _ => ⟨rfl, HNJS.out⟩⟩
      have HJ24 : Hold (j < 24) := ⟨by have := H24.out; omega⟩
      obtain ⟨eq, heq⟩ : ∃ eq, (nj.toList == s.toList) = eq := ⟨_, rfl⟩
      have HEQ := Hold.mk heq
      clear heq
      go_upto_region 8 with (fail)
      have z0 := Grow.cell (cle_below H3.out.bel _ _ _ HNW.out)
      have z1 := Grow.cell (cle_below H3.out.bel _ _ _ HLW.out)
      have z3 := Grow.cell y3
      go_cut [40] (fun s40 wx => s40 = .bool (!lt && !laid) ∧ Below wr.heap.size wr wx)
      case first =>
        cases lt with
        | true =>
          refine wp_region_grow (by kernel_rfl) (by kernel_rfl) ?_
          repeat (go_big_quiet_step (fail))
          refine wpQuiet_nil ?_
          rintro ⟨w3, hb3⟩
          simp only
          go_wp2_with fail
          go_meet
          case rel => exact ⟨rfl, hb3⟩
        | false =>
          cases laid with
          | true =>
            refine wp_region_grow (by kernel_rfl) (by kernel_rfl) ?_
            repeat (go_big_quiet_step (fail))
            refine wpQuiet_nil ?_
            rintro ⟨w3, hb3⟩
            simp only
            go_wp2_with fail
            go_meet
            case rel => exact ⟨rfl, hb3⟩
          | false =>
            refine wp_region_grow (by kernel_rfl) (by kernel_rfl) ?_
            repeat (go_big_quiet_step (fail))
            refine wpQuiet_nil ?_
            rintro ⟨w3, hb3⟩
            simp only
            go_wp2_with fail
            go_meet
            case rel => exact ⟨rfl, hb3⟩
      case rest =>
      obtain ⟨rfl, hbq⟩ := hcut
      generalize wc = wq at *
      replace HRP := Hold.mk (HRP.out.quiet hbq)
      replace H3 := Hold.mk (H3.out.next hbq)
      clear hbq z0 z1 z3 y0 y1 y2 y3 y4
      obtain ⟨b40, hb40⟩ : ∃ b40, (!lt && !laid) = b40 := ⟨_, rfl⟩
      rw [hb40]
      have HB40 := Hold.mk hb40
      clear hb40
      go_upto_if 40 with (fail)
      go_cut [9, 11, 12, 13] (fun s9 _ _ _ wx => ∃ (a1 : Option Addr) (c1 : Nat) (a2 : Option Addr) (c2 : Nat) (oN : List ByteArray) (oI : List JV) (csn csi : List Value) (laid : Bool), s9 = .bool laid ∧ PMid nm it s r j nj (.mk jk jn jt jnm jit) laid oN oI ∧ RP c wx (w.heap.size + 3) (.slice a1 oN.length c1) (.slice a2 oI.length c2) oN oI csn csi ∧ ThreeA w wx #[.int .i64 6, .int .i64 n, .string t, .slice (some ⟨nb, no, none⟩) nm.length ncap, .slice (some ⟨ib, io, none⟩) it.length icap] #[.int .i64 k2, .int .i64 n2, .string t2, .slice na2 nm2.length ncap2, .slice ia2 it2.length icap2] #[.int .i64 0, .int .i64 0, .string ⟨#[]⟩, .slice none 0 0, .slice none 0 0] 25 25 25)
      case first =>
        cases b40 with
        | false =>
          have HPM : Hold (PMid nm it s r j nj (.mk jk jn jt jnm jit) laid oN oI) := ⟨by
            cases laid with
            | true => exact (pmid_high hup.out HLEN.out HIN.out HNJ.out HXJ.out).1
            | false => exact pmid_low hup.out HIN.out HNJ.out HXJ.out (by rw [HLT.out]; have := HB40.out; simpa using this)⟩
          go_wp2_with fail
          go_meet
          case rel => exact ⟨_, _, _, _, _, _, _, _, laid, rfl, HPM.out, HRP.out, H3.out⟩
        | true =>
          have hl0 : lt = false ∧ laid = false := by have := HB40.out; simpa using this
          obtain ⟨rfl, rfl⟩ := hl0
          have HPC := Hold.mk (hup.out)
          go_upto_region 11 with (fail)
          obtain ⟨w4, hw4⟩ : ∃ w4, w4 = wq.alloc (.cells #[.int .i64 6, .int .i64 0, .string ⟨#[]⟩, .slice none 0 0, .slice none 0 0] 25) := ⟨_, rfl⟩
          have HB4 : Hold (Below wq.heap.size wq w4) := ⟨by rw [hw4]; exact (Below.refl _ wq).alloc (Nat.le_refl _) _⟩
          have HZ4 : Hold (w4.heap[wq.heap.size]? = some (.cells #[.int .i64 6, .int .i64 0, .string ⟨#[]⟩, .slice none 0 0, .slice none 0 0] 25 (0, 0))) := ⟨by rw [hw4]; exact heap_alloc_new wq _⟩
          rw [← hw4]
          clear hw4
          obtain ⟨y0, y1, y2, y3, y4⟩ := cells_five (H3.out.next HB4.out).one
          have z0 := Grow.cell (cle_below (H3.out.next HB4.out).bel _ _ _ HNW.out)
          have z1 := Grow.cell (cle_below (H3.out.next HB4.out).bel _ _ _ HLW.out)
          have z3 := Grow.cell y3
          have heq := HEQ.out
          go_cut [50] (fun s50 wx => s50 = .bool eq ∧ Below wq.heap.size wq wx ∧ wx.heap[wq.heap.size]? = some (.cells #[.int .i64 6, .int .i64 0, .string ⟨#[]⟩, .slice none 0 0, .slice none 0 0] 25 (0, 0)))
          case first =>
            refine wp_region_grow (by kernel_rfl) (by kernel_rfl) ?_
            repeat (go_big_quiet_step (fail))
            refine wpQuiet_nil ?_
            rintro ⟨w3, hb3⟩
            simp only
            go_wp2_with fail
            go_meet
            case rel => exact ⟨by first | rfl | rw [heq], HB4.out.trans (hb3.mono HB4.out.size), kept HZ4.out hb3⟩
          case rest =>
          obtain ⟨rfl, hbq, hzq⟩ := hcut
          generalize wc = w5 at *
          replace HB4 := Hold.mk hbq
          replace HZ4 := Hold.mk hzq
          clear hbq hzq z0 z1 z3 heq y0 y1 y2 y3 y4
          go_upto_if 50 with (fail)
          go_cut [] (fun wx => ∃ (kk kn : Int) (kt : ByteArray) (ka : Option Addr) (kl kc : Nat) (kia : Option Addr) (kil kic : Nat), wx.heap[wq.heap.size]? = some (.cells #[.int .i64 kk, .int .i64 kn, .string kt, .slice ka kl kc, .slice kia kil kic] 25 (0, 0)) ∧ JAt c (innerJ (.mk 6 n t nm it) s) (.agg #[.int .i64 kk, .int .i64 kn, .string kt, .slice ka kl kc, .slice kia kil kic]) ∧ Below wq.heap.size wq wx)
          case first =>
            cases eq with
            | false =>
              have HRR : Hold (JAt c (innerJ (.mk 6 n t nm it) s) (.agg #[.int .i64 6, .int .i64 0, .string ⟨#[]⟩, .slice none 0 0, .slice none 0 0])) := ⟨by
                rw [inner_no hup.out HIN.out HNJ.out HLT.out (fun e => by have := HEQ.out; rw [strK_eqT e] at this; cases this)]
                exact objE_at c⟩
              go_wp2_with fail
              go_meet
              case rel => exact ⟨6, 0, _, _, _, _, _, _, _, HZ4.out, HRR.out, HB4.out⟩
            | true =>
              have HRR : Hold (JAt c (innerJ (.mk 6 n t nm it) s) (.agg #[.int .i64 jk, .int .i64 jn, .string jt, .slice jna jnm.length jnc, .slice jia jit.length jic])) := ⟨by
                rw [inner_yes HIN.out HNJ.out HXJ.out HLT.out (strK_of HEQ.out)]
                exact HXA.out⟩
              have hcl := (HCL.out.trans (cfU_keep (H3.out.next HB4.out).bel))
              obtain ⟨xx0, xx1, xx2, xx3, xx4⟩ := HXC.out
              have z0 := hcl _ _ _ xx0
              have z1 := hcl _ _ _ xx1
              have z2 := hcl _ _ _ xx2
              have z3 := hcl _ _ _ xx3
              have z4 := hcl _ _ _ xx4
              unfold cf at z0 z1 z2 z3 z4
              obtain ⟨y0, y1, y2, y3, y4⟩ := cells_five (H3.out.next HB4.out).one
              obtain ⟨v0, v1, v2, v3, v4⟩ := cells_five HZ4.out
              have f0 := free_box HZ4.out 0
              have f1 := free_box HZ4.out 1
              have f2 := free_box HZ4.out 2
              have f3 := free_box HZ4.out 3
              have f4 := free_box HZ4.out 4
              clear xx0 xx1 xx2 xx3 xx4 hcl
              go_wp2_with fail
              go_meet
              case rel => exact ⟨jk, jn, jt, _, _, _, _, _, _, set5_self HZ4.out, HRR.out, set5_below HB4.out (Nat.le_refl _)⟩
          case rest =>
          obtain ⟨kk, kn, kt, ka, kl, kc, kia, kil, kic, hzi, hji, hbq⟩ := hcut
          generalize wc = w6 at *
          have HZI := Hold.mk hzi
          have HJI := Hold.mk hji
          replace HRP := Hold.mk (HRP.out.quiet hbq)
          replace H3 := Hold.mk (H3.out.next hbq)
          clear hzi hji hbq HZ4 HB4
          obtain ⟨v0, v1, v2, v3, v4⟩ := cells_five HZI.out
          obtain ⟨x0, x1, x2, x3, x4⟩ := cells_five H3.out.two
          have HCA := Hold.mk (HWI.out w6 _ H3.out.bel HJI.out)
          go_wp2_with fail
          refine HCA.out.mono ?_
          rintro e w7 ⟨yk, yn, yt, yna, ynl, ync, yia, yil, yic, rfl, hu, hb7⟩
          have HOU := Hold.mk hu
          have HB7 := Hold.mk hb7
          clear hu hb7 v0 v1 v2 v3 v4 x0 x1 x2 x3 x4 HCA
          go_upto_region 14 with (fail)
          obtain ⟨w8, hw8⟩ : ∃ w8, w8 = w7.alloc (.cells #[.int .i64 yk, .int .i64 yn, .string yt, .slice yna ynl ync, .slice yia yil yic] 25) := ⟨_, rfl⟩
          have hb8 : Below w7.heap.size w7 w8 := by rw [hw8]; exact (Below.refl _ w7).alloc (Nat.le_refl _) _
          have HZ8 : Hold (w8.heap[w7.heap.size]? = some (.cells #[.int .i64 yk, .int .i64 yn, .string yt, .slice yna ynl ync, .slice yia yil yic] 25 (0, 0))) := ⟨by rw [hw8]; exact heap_alloc_new w7 _⟩
          have HYZ : Hold (w.heap.size + 3 < w7.heap.size) := ⟨Nat.lt_of_lt_of_le (heap_lt HRP.out.box) HB7.out.size⟩
          have HNEW : Hold (∀ w3, Below w8.heap.size w8 w3 → CLe (cfV c w6.heap.size w7) (cfP c (w.heap.size + 3 + 1) (.slice a1 oN.length c1) (.slice a2 oI.length c2) w3)) := ⟨fun w3 h => HRP.out.new HCL.out (by omega) (Nat.le_refl _) (hb8.trans (h.mono hb8.size))⟩
          have HB8 := Hold.mk hb8
          have HNL : Hold (∀ g, (Value.slice a1 oN.length c1).ownBlock = some g → g < w7.heap.size) := ⟨fun g hg => Nat.lt_of_lt_of_le (HRP.out.n.low g hg).2 HB7.out.size⟩
          have hb68 := HB7.out.trans (hb8.mono HB7.out.size)
          replace HRP := Hold.mk (HRP.out.quiet hb68)
          replace H3 := Hold.mk (H3.out.next hb68)
          rw [← hw8]
          clear hw8 hb8 hb68
          generalize hyb : w7.heap.size = yb at HZ8 HYZ HNL ⊢
          have HYB := Hold.mk hyb
          clear hyb
          cases r with
          | none =>
            obtain ⟨y0, y1, y2, y3, y4⟩ := cells_five H3.out.one
            obtain ⟨z0, z1, z2, z3, z4⟩ := cells_five H3.out.three
            have f0 := free_box H3.out.three 0
            have f1 := free_box H3.out.three 1
            have f2 := free_box H3.out.three 2
            have f3 := free_box H3.out.three 3
            have f4 := free_box H3.out.three 4
            go_wp2_with fail
            obtain ⟨q0, q1, q2, q3, q4⟩ := cells_five (set5_self (c0 := .int .i64 6) (c1 := .int .i64 n) (c2 := .string t) (c3 := .slice (some ⟨nb, no, none⟩) nm.length ncap) (c4 := .slice (some ⟨ib, io, none⟩) it.length icap) H3.out.three)
            exact bodyPost_ret (v := .tuple #[.agg #[.int .i64 6, .int .i64 n, .string t, .slice (some ⟨nb, no, none⟩) nm.length ncap, .slice (some ⟨ib, io, none⟩) it.length icap], .bool false]) (by simp [results, Tryz.results65, go_sem, q0, q1, q2, q3, q4]) rfl (put_no (by rw [HPR.out]; rfl) (set5_below H3.out.bel (by omega)))
          | some y =>
            have HOL : Hold (oN.length ≤ 1000 ∧ oI.length ≤ 1000) := ⟨by have := pinv_len HLEN.out HIN.out; have := HJ24.out; omega⟩
            go_upto_region 16 with (fail)
            have z1 := cle_below H3.out.bel _ _ _ HLW.out
            have g1 := GrowB.cell (B := w.heap.size + 3) z1 (by have := HLB.out; show lb < w.heap.size + 3; omega)
            clear z1
            obtain ⟨x0, x1, x2, x3, x4⟩ := cells_five HRP.out.box
            have h3 := BoxT.cell (B := w.heap.size + 3) x3
            clear x0 x1 x2 x3 x4
            refine wp_region_mixL (KeepC (w.heap.size + 3) (w.heap.size + 3) w8 [6]) 9 rfl (by kernel_rfl) ?_
            obtain ⟨w9, hw9⟩ : ∃ w9, w9 = w8.drew := ⟨_, rfl⟩
            have hb9 : Below w8.heap.size w8 w9 := by rw [hw9]; exact (Below.refl _ _).drew
            have HK9 : Hold (Below (w.heap.size + 3) w8 w9 ∧ w9.heap[w.heap.size + 3]? = w8.heap[w.heap.size + 3]?) := ⟨by rw [hw9]; exact ⟨(Below.refl _ _).drew, rfl⟩⟩
            have HB9 := Hold.mk hb9
            have HR9 := Hold.mk (HRP.out.quiet hb9)
            rw [← hw9]
            clear hw9 hb9
            refine mixL_seg (by kernel_rfl) (fun _ _ d _ _ h => by cases d <;> exact h) (GrowBC (w.heap.size + 3) w8) keepC_base [0, 2, 3, 4] (keepC_back rfl) [_, _, _, _] 5 9 rfl _ _ _ rfl (by kernel_rfl) ?_
            repeat (go_big_quiet_step (fail))
            refine wpQuiet_nil ?_
            clear g1
            refine mixL_one (by kernel_rfl) (fun _ _ d _ _ h => by cases d <;> exact h) (BoxC (w.heap.size + 3) (w.heap.size + 3) w8) 6 (keepC_box (by decide)) 1 (fun l w => keepC_back (is := [1]) rfl 1 (by simp) l w) _ 4 _ _ _ rfl (by kernel_rfl) (by kernel_rfl) (by kernel_rfl) ?_
            repeat (go_big_quiet_step (fail))
            refine wpQuiet_nil ?_
            clear h3
            refine mixL_act (i := 5) rfl (by kernel_rfl) (keepC_on HK9.out.1 HK9.out.2) rfl (fun K hK => ?_)
            go_wp2_with fail
            have HKA : Hold (Below (w.heap.size + 3) w8 (w9.alloc (.cells #[.string s] 9)) ∧ (w9.alloc (.cells #[.string s] 9)).heap[w.heap.size + 3]? = w8.heap[w.heap.size + 3]?) := ⟨by
              have hpl := heap_lt HRP.out.box
              have hb : Below w9.heap.size w9 (w9.alloc (.cells #[.string s] 9)) := (Below.refl _ w9).alloc (Nat.le_refl _) _
              have hs9 := HB9.out.size
              exact ⟨HK9.out.1.trans (hb.mono (by omega)), by rw [hb.block _ (by omega)]; exact HK9.out.2⟩⟩
            refine mixL_act (i := 6) rfl (by kernel_rfl) (keepC_on HKA.out.1 HKA.out.2) rfl (fun K hK => ?_)
            refine wp_push RS_mono _ _ rfl infoStr Tryz.underlying22 rfl (by decide) _ w9 _ oN.length _ _ HR9.out.n rfl #[.string s] [.string s] rfl rfl (by simp [Value.oneCell']) s (HSR.out _) _ rfl rfl (by have := HOL.out; omega) (by decide) ?_
            intro sl2 wA hoA hgA
            obtain ⟨pa, pc, rfl⟩ := hoA.shape
            have HPN := Hold.mk (HRP.out.pushN HB9.out (by simp) hoA hgA)
            have HBA : Hold (Below (w.heap.size + 3) w8 wA) := ⟨by
              have hlow := HR9.out.n.low
              have hpl := heap_lt HR9.out.box
              exact HK9.out.1.grown hgA.by_ (by omega) (fun g hg => by have := (hlow g hg).1; omega)⟩
            have HXA' : Hold (wA.heap[w.heap.size + 3]? = some (.cells #[.int .i64 6, .int .i64 0, .string ⟨#[]⟩, .slice a1 oN.length c1, .slice a2 oI.length c2] 25 (0, 0))) := ⟨by
              have hlow := HR9.out.n.low
              rw [hgA.by_.block _ (heap_lt HR9.out.box) (fun e => by have := (hlow _ e.symm).1; omega)]; exact HR9.out.box⟩
            have HZB : Hold ((wA.setCell ⟨w.heap.size + 3, 3, none⟩ (.slice pa (oN.length + 1) pc)).heap[yb]? = some (.cells #[.int .i64 yk, .int .i64 yn, .string yt, .slice yna ynl ync, .slice yia yil yic] 25 (0, 0))) := ⟨by
              rw [Below.heap_setCell _ _ _ _ (by show yb ≠ w.heap.size + 3; have := HYZ.out; omega), hgA.by_.block yb (heap_lt (kept HZ8.out HB9.out)) (fun e => by have := HNL.out yb e.symm; omega)]
              exact kept HZ8.out HB9.out⟩
            have HYV : Hold (∀ c', RVc (cfP c (w.heap.size + 3 + 1) (.slice pa (oN.length + 1) pc) (.slice a2 oI.length c2) (wA.setCell ⟨w.heap.size + 3, 3, none⟩ (.slice pa (oN.length + 1) pc))) c' y [.int .i64 yk, .int .i64 yn, .string yt, .slice yna ynl ync, .slice yia yil yic]) := ⟨fun _ => ⟨rfl, by simp [Value.oneCell'], (HOU.out y rfl).mono ((HNEW.out _ HB9.out).trans HPN.out.2.2)⟩⟩
            clear hoA hgA HKA HR9
            go_wp2_with fail
            refine mixL_seg (by kernel_rfl) (fun _ _ d _ _ h => by cases d <;> exact h) (GrowBC (w.heap.size + 3) w8) keepC_base [7] (keepC_back rfl) [_] 1 2 rfl _ _ _ rfl (by kernel_rfl) ?_
            repeat (go_big_quiet_step (fail))
            refine wpQuiet_nil ?_
            refine mixL_act (i := 8) rfl (by kernel_rfl) (keepC_off HBA.out (by kernel_rfl)) rfl (fun K hK => ?_)
            obtain ⟨x0, x1, x2, x3, x4⟩ := cells_five HXA'.out
            have f3 := free_box HXA'.out 3
            go_wp2_with fail
            clear x0 x1 x2 x3 x4 f3
            generalize hwB : wA.setCell ⟨w.heap.size + 3, 3, none⟩ (.slice pa (oN.length + 1) pc) = wB at HPN HZB HYV ⊢
            clear hwB
            refine mixL_done (by kernel_rfl) (keepC_off HPN.out.2.1 (by kernel_rfl)) ?_
            replace H3 := Hold.mk (H3.out.keep HPN.out.2.1)
            go_upto_region 17 with (fail)
            obtain ⟨x0, x1, x2, x3, x4⟩ := cells_five HPN.out.1.box
            obtain ⟨v0, v1, v2, v3, v4⟩ := cells_five HZB.out
            have HI := Hold.mk HPN.out.1.i
            go_wp2_with (at_builtin; refine push_new (RVc_mono _) rfl _ _ rfl infoVal Tryz.underlying23 rfl (by decide) _ _ _ oI.length _ _ HI.out rfl _ [.int .i64 yk, .int .i64 yn, .string yt, .slice yna ynl ync, .slice yia yil yic] rfl rfl (by simp [Value.oneCell']) y (HYV.out _) _ rfl rfl (by have := HOL.out; omega) (by decide) ?_)
            intro sl3 wC hoC hgC
            obtain ⟨qa, qc, rfl⟩ := hoC.shape
            have HPI := Hold.mk (HPN.out.1.pushI (Below.refl _ _) (by simp) hoC hgC)
            have HXC' : Hold (wC.heap[w.heap.size + 3]? = some (.cells #[.int .i64 6, .int .i64 0, .string ⟨#[]⟩, .slice pa (oN.length + 1) pc, .slice a2 oI.length c2] 25 (0, 0))) := ⟨by
              have hlow := HI.out.low
              rw [hgC.by_.block _ (heap_lt HPN.out.1.box) (fun e => by have := (hlow _ e.symm).1; omega)]; exact HPN.out.1.box⟩
            clear hoC hgC x0 x1 x2 x3 x4 v0 v1 v2 v3 v4
            obtain ⟨x0, x1, x2, x3, x4⟩ := cells_five HXC'.out
            have f4 := free_box HXC'.out 4
            replace H3 := Hold.mk (H3.out.keep HPI.out.2)
            have HPM : Hold (PMid nm it s (some y) j nj (.mk jk jn jt jnm jit) true (oN ++ [s]) (oI ++ [y])) := ⟨pmid_at hup.out HLEN.out HIN.out HNJ.out HXJ.out HLT.out rfl⟩
            have HRF : Hold (RP c (wC.setCell ⟨w.heap.size + 3, 4, none⟩ (.slice qa (oI.length + 1) qc)) (w.heap.size + 3) (.slice pa (oN ++ [s]).length pc) (.slice qa (oI ++ [y]).length qc) (oN ++ [s]) (oI ++ [y]) _ _) := ⟨by
              rw [show (oN ++ [s]).length = oN.length + 1 by simp, show (oI ++ [y]).length = oI.length + 1 by simp]; exact HPI.out.1⟩
            go_wp2_with fail
            go_meet
            case rel => exact ⟨_, _, _, _, _, _, _, _, true, rfl, HPM.out, HRF.out, H3.out⟩
      case rest =>
      obtain ⟨a1, c1, a2, c2, oN, oI, csn, csi, laid, rfl, hpm, hrp, h3⟩ := hcut
      generalize wc = wr at *
      replace HRP := Hold.mk hrp
      replace H3 := Hold.mk h3
      have HPM := Hold.mk hpm
      have hpl : oN.length ≤ 1000 ∧ oI.length ≤ 1000 := pmid_len HLEN.out hpm HJ24.out
      have HOL := Hold.mk hpl
      clear hrp h3 hpm hpl HIN
      go_upto_region 18 with (fail)
      obtain ⟨y0, y1, y2, y3, y4⟩ := cells_five H3.out.one
      have z0 := Grow.cell (cle_below H3.out.bel _ _ _ HNW.out)
      have z1 := Grow.cell (cle_below H3.out.bel _ _ _ HLW.out)
      have z3 := Grow.cell y3
      have heq := HEQ.out
      go_cut [88] (fun s88 wx => s88 = .bool (!eq) ∧ Below wr.heap.size wr wx)
      case first =>
        refine wp_region_grow (by kernel_rfl) (by kernel_rfl) ?_
        repeat (go_big_quiet_step (fail))
        refine wpQuiet_nil ?_
        rintro ⟨w3, hb3⟩
        simp only
        go_wp2_with fail
        go_meet
        case rel => exact ⟨by first | rfl | simp [bne, heq], hb3⟩
      case rest =>
      obtain ⟨rfl, hbq⟩ := hcut
      generalize wc = wq at *
      replace HRP := Hold.mk (HRP.out.quiet hbq)
      replace H3 := Hold.mk (H3.out.next hbq)
      clear hbq z0 z1 z3 heq y0 y1 y2 y3 y4
      cases eq with
      | true =>
        have HNX := Hold.mk (HPM.out.1 (strK_of HEQ.out))
        go_wp2_with fail
        exact ⟨⟨_, _, _, _, _, _, _, _, j + 1, laid, rfl, by go_num, hlt, HNX.out, HRP.out, H3.out⟩, by simp [intOf]; omega⟩
      | false =>
        have HNX := Hold.mk (HPM.out.2 (fun e => by have := HEQ.out; rw [strK_eqT e] at this; cases this))
        go_upto_region 19 with (fail)
        obtain ⟨y0, y1, y2, y3, y4⟩ := cells_five H3.out.one
        have z1 := cle_below H3.out.bel _ _ _ HNW.out
        have g1 := GrowB.cell (B := w.heap.size + 3) z1 (by have := HNB.out; show nb < w.heap.size + 3; omega)
        have g2 := GrowB.cell (B := w.heap.size + 3) y3 (by show w.heap.size < w.heap.size + 3; omega)
        clear z1 y0 y1 y2 y3 y4
        obtain ⟨x0, x1, x2, x3, x4⟩ := cells_five HRP.out.box
        have h3 := BoxT.cell (B := w.heap.size + 3) x3
        clear x0 x1 x2 x3 x4
        refine wp_region_mixL (KeepC (w.heap.size + 3) (w.heap.size + 3) wq [8]) 11 rfl (by kernel_rfl) ?_
        obtain ⟨w9, hw9⟩ : ∃ w9, w9 = wq.drew := ⟨_, rfl⟩
        have hb9 : Below wq.heap.size wq w9 := by rw [hw9]; exact (Below.refl _ _).drew
        have HK9 : Hold (Below (w.heap.size + 3) wq w9 ∧ w9.heap[w.heap.size + 3]? = wq.heap[w.heap.size + 3]?) := ⟨by rw [hw9]; exact ⟨(Below.refl _ _).drew, rfl⟩⟩
        have HB9 := Hold.mk hb9
        have HR9 := Hold.mk (HRP.out.quiet hb9)
        rw [← hw9]
        clear hw9 hb9
        refine mixL_seg (by kernel_rfl) (fun _ _ d _ _ h => by cases d <;> exact h) (GrowBC (w.heap.size + 3) wq) keepC_base [0, 2, 3, 4, 5, 6] (keepC_back rfl) [_, _, _, _, _, _] 5 11 rfl _ _ _ rfl (by kernel_rfl) ?_
        repeat (go_big_quiet_step (fail))
        refine wpQuiet_nil ?_
        clear g1 g2
        refine mixL_one (by kernel_rfl) (fun _ _ d _ _ h => by cases d <;> exact h) (BoxC (w.heap.size + 3) (w.heap.size + 3) wq) 8 (keepC_box (by decide)) 1 (fun l w => keepC_back (is := [1]) rfl 1 (by simp) l w) _ 4 _ _ _ rfl (by kernel_rfl) (by kernel_rfl) (by kernel_rfl) ?_
        repeat (go_big_quiet_step (fail))
        refine wpQuiet_nil ?_
        clear h3
        refine mixL_act (i := 7) rfl (by kernel_rfl) (keepC_on HK9.out.1 HK9.out.2) rfl (fun K hK => ?_)
        go_wp2_with fail
        have HKA : Hold (Below (w.heap.size + 3) wq (w9.alloc (.cells #[.string nj] 9)) ∧ (w9.alloc (.cells #[.string nj] 9)).heap[w.heap.size + 3]? = wq.heap[w.heap.size + 3]?) := ⟨by
          have hpl := heap_lt HRP.out.box
          have hb : Below w9.heap.size w9 (w9.alloc (.cells #[.string nj] 9)) := (Below.refl _ w9).alloc (Nat.le_refl _) _
          have hs9 := HB9.out.size
          exact ⟨HK9.out.1.trans (hb.mono (by omega)), by rw [hb.block _ (by omega)]; exact HK9.out.2⟩⟩
        refine mixL_act (i := 8) rfl (by kernel_rfl) (keepC_on HKA.out.1 HKA.out.2) rfl (fun K hK => ?_)
        refine wp_push RS_mono _ _ rfl infoStr Tryz.underlying22 rfl (by decide) _ w9 _ oN.length _ _ HR9.out.n rfl #[.string nj] [.string nj] rfl rfl (by simp [Value.oneCell']) nj (HNR.out _) _ rfl rfl (by have := HOL.out; omega) (by decide) ?_
        intro sl2 wA hoA hgA
        obtain ⟨pa, pc, rfl⟩ := hoA.shape
        have HPN := Hold.mk (HRP.out.pushN HB9.out (by simp) hoA hgA)
        have HBA : Hold (Below (w.heap.size + 3) wq wA) := ⟨by
          have hlow := HR9.out.n.low
          have hpl := heap_lt HR9.out.box
          exact HK9.out.1.grown hgA.by_ (by omega) (fun g hg => by have := (hlow g hg).1; omega)⟩
        have HXA' : Hold (wA.heap[w.heap.size + 3]? = some (.cells #[.int .i64 6, .int .i64 0, .string ⟨#[]⟩, .slice a1 oN.length c1, .slice a2 oI.length c2] 25 (0, 0))) := ⟨by
          have hlow := HR9.out.n.low
          rw [hgA.by_.block _ (heap_lt HR9.out.box) (fun e => by have := (hlow _ e.symm).1; omega)]; exact HR9.out.box⟩
        clear hoA hgA HKA HR9
        go_wp2_with fail
        refine mixL_seg (by kernel_rfl) (fun _ _ d _ _ h => by cases d <;> exact h) (GrowBC (w.heap.size + 3) wq) keepC_base [9] (keepC_back rfl) [_] 1 2 rfl _ _ _ rfl (by kernel_rfl) ?_
        repeat (go_big_quiet_step (fail))
        refine wpQuiet_nil ?_
        refine mixL_act (i := 10) rfl (by kernel_rfl) (keepC_off HBA.out (by kernel_rfl)) rfl (fun K hK => ?_)
        obtain ⟨x0, x1, x2, x3, x4⟩ := cells_five HXA'.out
        have f3 := free_box HXA'.out 3
        go_wp2_with fail
        clear x0 x1 x2 x3 x4 f3
        generalize hwB : wA.setCell ⟨w.heap.size + 3, 3, none⟩ (.slice pa (oN.length + 1) pc) = wB at HPN ⊢
        clear hwB
        refine mixL_done (by kernel_rfl) (keepC_off HPN.out.2.1 (by kernel_rfl)) ?_
        replace H3 := Hold.mk (H3.out.keep HPN.out.2.1)
        replace HRP : Hold (RP c wB (w.heap.size + 3) (.slice pa (oN.length + 1) pc) (.slice a2 oI.length c2) (oN ++ [nj]) oI _ _) := ⟨HPN.out.1⟩
        clear HPN HXA' HBA HK9 HB9
        obtain ⟨xx0, xx1, xx2, xx3, xx4⟩ := HXC.out
        have HIB : Hold (ib < w.heap.size) := ⟨(cfU_lt (HCL.out _ _ _ xx0)).1⟩
        have hcl := (HCL.out.trans (cfU_keep H3.out.bel))
        go_upto_region 20 with (fail)
        obtain ⟨y0, y1, y2, y3, y4⟩ := cells_five H3.out.one
        have g2 := GrowB.cell (B := w.heap.size + 3) y4 (by show w.heap.size < w.heap.size + 3; omega)
        have e0 := GrowB.cell (B := w.heap.size + 3) (hcl _ _ _ xx0) (by have := HIB.out; show ib < w.heap.size + 3; omega)
        have e1 := GrowB.cell (B := w.heap.size + 3) (hcl _ _ _ xx1) (by have := HIB.out; show ib < w.heap.size + 3; omega)
        have e2 := GrowB.cell (B := w.heap.size + 3) (hcl _ _ _ xx2) (by have := HIB.out; show ib < w.heap.size + 3; omega)
        have e3 := GrowB.cell (B := w.heap.size + 3) (hcl _ _ _ xx3) (by have := HIB.out; show ib < w.heap.size + 3; omega)
        have e4 := GrowB.cell (B := w.heap.size + 3) (hcl _ _ _ xx4) (by have := HIB.out; show ib < w.heap.size + 3; omega)
        clear y0 y1 y2 y3 y4 xx0 xx1 xx2 xx3 xx4 hcl
        obtain ⟨x0, x1, x2, x3, x4⟩ := cells_five HRP.out.box
        have h3 := BoxT.cell (B := w.heap.size + 3) x4
        clear x0 x1 x2 x3 x4
        refine wp_region_mixL (KeepC (w.heap.size + 3) (w.heap.size + 3) wB [8]) 11 rfl (by kernel_rfl) ?_
        obtain ⟨w9, hw9⟩ : ∃ w9, w9 = wB.drew := ⟨_, rfl⟩
        have hb9 : Below wB.heap.size wB w9 := by rw [hw9]; exact (Below.refl _ _).drew
        have HK9 : Hold (Below (w.heap.size + 3) wB w9 ∧ w9.heap[w.heap.size + 3]? = wB.heap[w.heap.size + 3]?) := ⟨by rw [hw9]; exact ⟨(Below.refl _ _).drew, rfl⟩⟩
        have HB9 := Hold.mk hb9
        have HR9 := Hold.mk (HRP.out.quiet hb9)
        rw [← hw9]
        clear hw9 hb9
        refine mixL_seg (by kernel_rfl) (fun _ _ d _ _ h => by cases d <;> exact h) (GrowBC (w.heap.size + 3) wB) keepC_base [0, 2, 3, 4, 5, 6] (keepC_back rfl) [_, _, _, _, _, _] 5 11 rfl _ _ _ rfl (by kernel_rfl) ?_
        repeat (go_big_quiet_step (fail))
        refine wpQuiet_nil ?_
        clear g2 e0 e1 e2 e3 e4
        refine mixL_one (by kernel_rfl) (fun _ _ d _ _ h => by cases d <;> exact h) (BoxC (w.heap.size + 3) (w.heap.size + 3) wB) 8 (keepC_box (by decide)) 1 (fun l w => keepC_back (is := [1]) rfl 1 (by simp) l w) _ 4 _ _ _ rfl (by kernel_rfl) (by kernel_rfl) (by kernel_rfl) ?_
        repeat (go_big_quiet_step (fail))
        refine wpQuiet_nil ?_
        clear h3
        refine mixL_act (i := 7) rfl (by kernel_rfl) (keepC_on HK9.out.1 HK9.out.2) rfl (fun K hK => ?_)
        go_wp2_with fail
        have HKA : Hold (Below (w.heap.size + 3) wB (w9.alloc (.cells #[.int .i64 jk, .int .i64 jn, .string jt, .slice jna jnm.length jnc, .slice jia jit.length jic] 25)) ∧ (w9.alloc (.cells #[.int .i64 jk, .int .i64 jn, .string jt, .slice jna jnm.length jnc, .slice jia jit.length jic] 25)).heap[w.heap.size + 3]? = wB.heap[w.heap.size + 3]?) := ⟨by
          have hpl := heap_lt HRP.out.box
          have hb : Below w9.heap.size w9 (w9.alloc (.cells #[.int .i64 jk, .int .i64 jn, .string jt, .slice jna jnm.length jnc, .slice jia jit.length jic] 25)) := (Below.refl _ w9).alloc (Nat.le_refl _) _
          have hs9 := HB9.out.size
          exact ⟨HK9.out.1.trans (hb.mono (by omega)), by rw [hb.block _ (by omega)]; exact HK9.out.2⟩⟩
        refine mixL_act (i := 8) rfl (by kernel_rfl) (keepC_on HKA.out.1 HKA.out.2) rfl (fun K hK => ?_)
        refine wp_push (RVc_mono _) _ _ rfl infoVal Tryz.underlying23 rfl (by decide) _ w9 _ oI.length _ _ HR9.out.i rfl #[.int .i64 jk, .int .i64 jn, .string jt, .slice jna jnm.length jnc, .slice jia jit.length jic] [.int .i64 jk, .int .i64 jn, .string jt, .slice jna jnm.length jnc, .slice jia jit.length jic] rfl rfl (by simp [Value.oneCell']) (.mk jk jn jt jnm jit) (show RVc _ _ _ _ from ⟨rfl, by simp [Value.oneCell'], HXA.out.mono (cfP_old HCL.out (by omega))⟩) _ rfl rfl (by have := HOL.out; omega) (by decide) ?_
        intro sl22 wA2 hoA hgA
        obtain ⟨pa2, pc2, rfl⟩ := hoA.shape
        have HPN2 := Hold.mk (HRP.out.pushI HB9.out (by simp) hoA hgA)
        have HBA : Hold (Below (w.heap.size + 3) wB wA2) := ⟨by
          have hlow := HR9.out.i.low
          have hpl := heap_lt HR9.out.box
          exact HK9.out.1.grown hgA.by_ (by omega) (fun g hg => by have := (hlow g hg).1; omega)⟩
        have HXA' : Hold (wA2.heap[w.heap.size + 3]? = some (.cells #[.int .i64 6, .int .i64 0, .string ⟨#[]⟩, .slice pa (oN.length + 1) pc, .slice a2 oI.length c2] 25 (0, 0))) := ⟨by
          have hlow := HR9.out.i.low
          rw [hgA.by_.block _ (heap_lt HR9.out.box) (fun e => by have := (hlow _ e.symm).1; omega)]; exact HR9.out.box⟩
        clear hoA hgA HKA HR9
        go_wp2_with fail
        refine mixL_seg (by kernel_rfl) (fun _ _ d _ _ h => by cases d <;> exact h) (GrowBC (w.heap.size + 3) wB) keepC_base [9] (keepC_back rfl) [_] 1 2 rfl _ _ _ rfl (by kernel_rfl) ?_
        repeat (go_big_quiet_step (fail))
        refine wpQuiet_nil ?_
        refine mixL_act (i := 10) rfl (by kernel_rfl) (keepC_off HBA.out (by kernel_rfl)) rfl (fun K hK => ?_)
        obtain ⟨x0, x1, x2, x3, x4⟩ := cells_five HXA'.out
        have f3 := free_box HXA'.out 4
        go_wp2_with fail
        clear x0 x1 x2 x3 x4 f3
        generalize hwB2 : wA2.setCell ⟨w.heap.size + 3, 4, none⟩ (.slice pa2 (oI.length + 1) pc2) = wB2 at HPN2 ⊢
        clear hwB2
        refine mixL_done (by kernel_rfl) (keepC_off HPN2.out.2 (by kernel_rfl)) ?_
        replace H3 := Hold.mk (H3.out.keep HPN2.out.2)
        have HRF : Hold (RP c wB2 (w.heap.size + 3) (.slice pa (oN ++ [nj]).length pc) (.slice pa2 (oI ++ [JV.mk jk jn jt jnm jit]).length pc2) (oN ++ [nj]) (oI ++ [.mk jk jn jt jnm jit]) _ _) := ⟨by
          rw [show (oN ++ [nj]).length = oN.length + 1 by simp, show (oI ++ [JV.mk jk jn jt jnm jit]).length = oI.length + 1 by simp]; exact HPN2.out.1⟩
        go_wp2_with fail
        exact ⟨⟨_, _, _, _, _, _, _, _, j + 1, laid, rfl, by go_num, hlt, HNX.out, HRF.out, H3.out⟩, by simp [intOf]; omega⟩
    · have HJE : Hold (j = nm.length) := ⟨by omega⟩
      cases laid with
      | true =>
        obtain ⟨y, hry, heN, heI⟩ := pend_true (r := r) HLEN.out (by have := HIN.out; rwa [HJE.out] at this)
        subst hry
        have HEND : Hold (oN = setN nm s ∧ oI = setI nm it s y) := ⟨heN, heI⟩
        have HOL : Hold (oN.length ≤ 1000 ∧ oI.length ≤ 1000) := ⟨by have := pinv_len HLEN.out HIN.out; have := H24.out; have := HLEN.out; omega⟩
        clear heN heI
        obtain ⟨x0, x1, x2, x3, x4⟩ := cells_five HRP.out.box
        obtain ⟨z0, z1, z2, z3, z4⟩ := cells_five H3.out.three
        have f0 := free_box H3.out.three 0
        have f1 := free_box H3.out.three 1
        have f2 := free_box H3.out.three 2
        have f3 := free_box H3.out.three 3
        have f4 := free_box H3.out.three 4
        have HJD := Hold.mk (HRP.out.done (by have := HOL.out; simp; try omega))
        go_wp2_with fail
        obtain ⟨q0, q1, q2, q3, q4⟩ := cells_five (set5_self (c0 := .int .i64 6) (c1 := .int .i64 0) (c2 := .string ⟨#[]⟩) (c3 := .slice a1 oN.length c1) (c4 := .slice a2 oI.length c2) H3.out.three)
        refine bodyPost_ret (v := .tuple #[.agg #[.int .i64 6, .int .i64 0, .string ⟨#[]⟩, .slice a1 oN.length c1, .slice a2 oI.length c2], .bool true]) (by simp [results, Tryz.results65, go_sem, q0, q1, q2, q3, q4]) rfl (put_yes (y := .mk 6 0 ⟨#[]⟩ (oN) (oI)) (by rw [HPR.out, HEND.out.1, HEND.out.2]; rfl) (HJD.out.mono (cfV_to HCL.out (by omega) (fun b o u hb hu => by rw [set5_cells (by omega)]; exact hu))) (set5_below H3.out.bel (by omega)))
      | false =>
        have HEX : Hold (∀ y, setN nm s = oN ++ [s] ∧ setI nm it s y = oI ++ [y] ∧ hasN nm s = false) := ⟨fun y => pend_false (r := r) hup.out HLEN.out (by have := HIN.out; rwa [HJE.out] at this) y⟩
        have HOL : Hold (oN.length ≤ 1000 ∧ oI.length ≤ 1000) := ⟨by have := pinv_len HLEN.out HIN.out; have := H24.out; have := HLEN.out; omega⟩
        have HJI : Hold (JAt c (innerJ (.mk 6 n t nm it) s) (.agg #[.int .i64 6, .int .i64 0, .string ⟨#[]⟩, .slice none 0 0, .slice none 0 0])) := ⟨by
          have e : innerJ (.mk 6 n t nm it) s = objE := by unfold innerJ; rw [show hasN (JV.mk 6 n t nm it).names s = false from (HEX.out objE).2.2]
          rw [e]; exact objE_at c⟩
        obtain ⟨x0, x1, x2, x3, x4⟩ := cells_five H3.out.two
        have HLB : Hold (lb < w.heap.size) := ⟨lt_of_cell (show w.cell? ⟨lb, lo, none⟩ = some (.string s) by have := HLC.out; unfold cf at this; simpa using this)⟩
        have HLW : Hold (w.cell? ⟨lb, lo, none⟩ = some (.string s)) := ⟨by have := HLC.out; unfold cf at this; simpa using this⟩
        have HSR : Hold (∀ c : CF, RS c s [.string s]) := ⟨fun _ => ⟨rfl, by have := HSZ.out s (List.mem_cons_self ..); omega⟩⟩
        have HCA := Hold.mk (HWI.out wr _ H3.out.bel HJI.out)
        go_wp2_with fail
        refine HCA.out.mono ?_
        rintro e w7 ⟨yk, yn, yt, yna, ynl, ync, yia, yil, yic, rfl, hu, hb7⟩
        have HOU := Hold.mk hu
        have HB7 := Hold.mk hb7
        clear hu hb7 x0 x1 x2 x3 x4 y0 y1 y2 y3 y4 HCA
        go_upto_region 23 with (fail)
        obtain ⟨w8, hw8⟩ : ∃ w8, w8 = w7.alloc (.cells #[.int .i64 yk, .int .i64 yn, .string yt, .slice yna ynl ync, .slice yia yil yic] 25) := ⟨_, rfl⟩
        have hb8 : Below w7.heap.size w7 w8 := by rw [hw8]; exact (Below.refl _ w7).alloc (Nat.le_refl _) _
        have HZ8 : Hold (w8.heap[w7.heap.size]? = some (.cells #[.int .i64 yk, .int .i64 yn, .string yt, .slice yna ynl ync, .slice yia yil yic] 25 (0, 0))) := ⟨by rw [hw8]; exact heap_alloc_new w7 _⟩
        have HYZ : Hold (w.heap.size + 3 < w7.heap.size) := ⟨Nat.lt_of_lt_of_le (heap_lt HRP.out.box) HB7.out.size⟩
        have HNEW : Hold (∀ w3, Below w8.heap.size w8 w3 → CLe (cfV c wr.heap.size w7) (cfP c (w.heap.size + 3 + 1) (.slice a1 oN.length c1) (.slice a2 oI.length c2) w3)) := ⟨fun w3 h => HRP.out.new HCL.out (by omega) (Nat.le_refl _) (hb8.trans (h.mono hb8.size))⟩
        have HNL : Hold (∀ g, (Value.slice a1 oN.length c1).ownBlock = some g → g < w7.heap.size) := ⟨fun g hg => Nat.lt_of_lt_of_le (HRP.out.n.low g hg).2 HB7.out.size⟩
        have hb68 := HB7.out.trans (hb8.mono HB7.out.size)
        replace HRP := Hold.mk (HRP.out.quiet hb68)
        replace H3 := Hold.mk (H3.out.next hb68)
        rw [← hw8]
        clear hw8 hb8 hb68
        generalize hyb : w7.heap.size = yb at HZ8 HYZ HNL ⊢
        clear hyb
        cases r with
        | none =>
          obtain ⟨y0, y1, y2, y3, y4⟩ := cells_five H3.out.one
          obtain ⟨z0, z1, z2, z3, z4⟩ := cells_five H3.out.three
          have f0 := free_box H3.out.three 0
          have f1 := free_box H3.out.three 1
          have f2 := free_box H3.out.three 2
          have f3 := free_box H3.out.three 3
          have f4 := free_box H3.out.three 4
          go_wp2_with fail
          obtain ⟨q0, q1, q2, q3, q4⟩ := cells_five (set5_self (c0 := .int .i64 6) (c1 := .int .i64 n) (c2 := .string t) (c3 := .slice na nm.length ncap) (c4 := .slice ia it.length icap) H3.out.three)
          exact bodyPost_ret (v := .tuple #[.agg #[.int .i64 6, .int .i64 n, .string t, .slice na nm.length ncap, .slice ia it.length icap], .bool false]) (by simp [results, Tryz.results65, go_sem, q0, q1, q2, q3, q4]) rfl (put_no (by rw [HPR.out]; rfl) (set5_below H3.out.bel (by omega)))
        | some y =>
          go_upto_region 25 with (fail)
          have z1 := cle_below H3.out.bel _ _ _ HLW.out
          have g1 := GrowB.cell (B := w.heap.size + 3) z1 (by have := HLB.out; show lb < w.heap.size + 3; omega)
          clear z1
          obtain ⟨x0, x1, x2, x3, x4⟩ := cells_five HRP.out.box
          have h3 := BoxT.cell (B := w.heap.size + 3) x3
          clear x0 x1 x2 x3 x4
          refine wp_region_mixL (KeepC (w.heap.size + 3) (w.heap.size + 3) w8 [6]) 9 rfl (by kernel_rfl) ?_
          obtain ⟨w9, hw9⟩ : ∃ w9, w9 = w8.drew := ⟨_, rfl⟩
          have hb9 : Below w8.heap.size w8 w9 := by rw [hw9]; exact (Below.refl _ _).drew
          have HK9 : Hold (Below (w.heap.size + 3) w8 w9 ∧ w9.heap[w.heap.size + 3]? = w8.heap[w.heap.size + 3]?) := ⟨by rw [hw9]; exact ⟨(Below.refl _ _).drew, rfl⟩⟩
          have HB9 := Hold.mk hb9
          have HR9 := Hold.mk (HRP.out.quiet hb9)
          rw [← hw9]
          clear hw9 hb9
          refine mixL_seg (by kernel_rfl) (fun _ _ d _ _ h => by cases d <;> exact h) (GrowBC (w.heap.size + 3) w8) keepC_base [0, 2, 3, 4] (keepC_back rfl) [_, _, _, _] 5 9 rfl _ _ _ rfl (by kernel_rfl) ?_
          repeat (go_big_quiet_step (fail))
          refine wpQuiet_nil ?_
          clear g1
          refine mixL_one (by kernel_rfl) (fun _ _ d _ _ h => by cases d <;> exact h) (BoxC (w.heap.size + 3) (w.heap.size + 3) w8) 6 (keepC_box (by decide)) 1 (fun l w => keepC_back (is := [1]) rfl 1 (by simp) l w) _ 4 _ _ _ rfl (by kernel_rfl) (by kernel_rfl) (by kernel_rfl) ?_
          repeat (go_big_quiet_step (fail))
          refine wpQuiet_nil ?_
          clear h3
          refine mixL_act (i := 5) rfl (by kernel_rfl) (keepC_on HK9.out.1 HK9.out.2) rfl (fun K hK => ?_)
          go_wp2_with fail
          have HKA : Hold (Below (w.heap.size + 3) w8 (w9.alloc (.cells #[.string s] 9)) ∧ (w9.alloc (.cells #[.string s] 9)).heap[w.heap.size + 3]? = w8.heap[w.heap.size + 3]?) := ⟨by
            have hpl := heap_lt HRP.out.box
            have hb : Below w9.heap.size w9 (w9.alloc (.cells #[.string s] 9)) := (Below.refl _ w9).alloc (Nat.le_refl _) _
            have hs9 := HB9.out.size
            exact ⟨HK9.out.1.trans (hb.mono (by omega)), by rw [hb.block _ (by omega)]; exact HK9.out.2⟩⟩
          refine mixL_act (i := 6) rfl (by kernel_rfl) (keepC_on HKA.out.1 HKA.out.2) rfl (fun K hK => ?_)
          refine wp_push RS_mono _ _ rfl infoStr Tryz.underlying22 rfl (by decide) _ w9 _ oN.length _ _ HR9.out.n rfl #[.string s] [.string s] rfl rfl (by simp [Value.oneCell']) s (HSR.out _) _ rfl rfl (by have := HOL.out; omega) (by decide) ?_
          intro sl2 wA hoA hgA
          obtain ⟨pa, pc, rfl⟩ := hoA.shape
          have HPN := Hold.mk (HRP.out.pushN HB9.out (by simp) hoA hgA)
          have HBA : Hold (Below (w.heap.size + 3) w8 wA) := ⟨by
            have hlow := HR9.out.n.low
            have hpl := heap_lt HR9.out.box
            exact HK9.out.1.grown hgA.by_ (by omega) (fun g hg => by have := (hlow g hg).1; omega)⟩
          have HXA' : Hold (wA.heap[w.heap.size + 3]? = some (.cells #[.int .i64 6, .int .i64 0, .string ⟨#[]⟩, .slice a1 oN.length c1, .slice a2 oI.length c2] 25 (0, 0))) := ⟨by
            have hlow := HR9.out.n.low
            rw [hgA.by_.block _ (heap_lt HR9.out.box) (fun e => by have := (hlow _ e.symm).1; omega)]; exact HR9.out.box⟩
          have HZB : Hold ((wA.setCell ⟨w.heap.size + 3, 3, none⟩ (.slice pa (oN.length + 1) pc)).heap[yb]? = some (.cells #[.int .i64 yk, .int .i64 yn, .string yt, .slice yna ynl ync, .slice yia yil yic] 25 (0, 0))) := ⟨by
            rw [Below.heap_setCell _ _ _ _ (by show yb ≠ w.heap.size + 3; have := HYZ.out; omega), hgA.by_.block yb (heap_lt (kept HZ8.out HB9.out)) (fun e => by have := HNL.out yb e.symm; omega)]
            exact kept HZ8.out HB9.out⟩
          have HYV : Hold (∀ c', RVc (cfP c (w.heap.size + 3 + 1) (.slice pa (oN.length + 1) pc) (.slice a2 oI.length c2) (wA.setCell ⟨w.heap.size + 3, 3, none⟩ (.slice pa (oN.length + 1) pc))) c' y [.int .i64 yk, .int .i64 yn, .string yt, .slice yna ynl ync, .slice yia yil yic]) := ⟨fun _ => ⟨rfl, by simp [Value.oneCell'], (HOU.out y rfl).mono ((HNEW.out _ HB9.out).trans HPN.out.2.2)⟩⟩
          clear hoA hgA HKA HR9
          go_wp2_with fail
          refine mixL_seg (by kernel_rfl) (fun _ _ d _ _ h => by cases d <;> exact h) (GrowBC (w.heap.size + 3) w8) keepC_base [7] (keepC_back rfl) [_] 1 2 rfl _ _ _ rfl (by kernel_rfl) ?_
          repeat (go_big_quiet_step (fail))
          refine wpQuiet_nil ?_
          refine mixL_act (i := 8) rfl (by kernel_rfl) (keepC_off HBA.out (by kernel_rfl)) rfl (fun K hK => ?_)
          obtain ⟨x0, x1, x2, x3, x4⟩ := cells_five HXA'.out
          have f3 := free_box HXA'.out 3
          go_wp2_with fail
          clear x0 x1 x2 x3 x4 f3
          generalize hwB : wA.setCell ⟨w.heap.size + 3, 3, none⟩ (.slice pa (oN.length + 1) pc) = wB at HPN HZB HYV ⊢
          clear hwB
          refine mixL_done (by kernel_rfl) (keepC_off HPN.out.2.1 (by kernel_rfl)) ?_
          replace H3 := Hold.mk (H3.out.keep HPN.out.2.1)
          go_upto_region 26 with (fail)
          obtain ⟨x0, x1, x2, x3, x4⟩ := cells_five HPN.out.1.box
          obtain ⟨v0, v1, v2, v3, v4⟩ := cells_five HZB.out
          have HI := Hold.mk HPN.out.1.i
          go_wp2_with (at_builtin; refine push_new (RVc_mono _) rfl _ _ rfl infoVal Tryz.underlying23 rfl (by decide) _ _ _ oI.length _ _ HI.out rfl _ [.int .i64 yk, .int .i64 yn, .string yt, .slice yna ynl ync, .slice yia yil yic] rfl rfl (by simp [Value.oneCell']) y (HYV.out _) _ rfl rfl (by have := HOL.out; omega) (by decide) ?_)
          intro sl3 wC hoC hgC
          obtain ⟨qa, qc, rfl⟩ := hoC.shape
          have HPI := Hold.mk (HPN.out.1.pushI (Below.refl _ _) (by simp) hoC hgC)
          have HXC' : Hold (wC.heap[w.heap.size + 3]? = some (.cells #[.int .i64 6, .int .i64 0, .string ⟨#[]⟩, .slice pa (oN.length + 1) pc, .slice a2 oI.length c2] 25 (0, 0))) := ⟨by
            have hlow := HI.out.low
            rw [hgC.by_.block _ (heap_lt HPN.out.1.box) (fun e => by have := (hlow _ e.symm).1; omega)]; exact HPN.out.1.box⟩
          clear hoC hgC x0 x1 x2 x3 x4 v0 v1 v2 v3 v4
          obtain ⟨x0, x1, x2, x3, x4⟩ := cells_five HXC'.out
          have f4 := free_box HXC'.out 4
          replace H3 := Hold.mk (H3.out.keep HPI.out.2)
          have HEND : Hold (oN ++ [s] = setN nm s ∧ oI ++ [y] = setI nm it s y) := ⟨(HEX.out y).1.symm, (HEX.out y).2.1.symm⟩
          go_upto_region 27 with (fail)
          generalize hwD : wC.setCell ⟨w.heap.size + 3, 4, none⟩ (.slice qa (oI.length + 1) qc) = wD at HPI H3 ⊢
          clear hwD x0 x1 x2 x3 x4 f4
          replace HRP : Hold (RP c wD (w.heap.size + 3) (.slice pa (oN.length + 1) pc) (.slice qa (oI.length + 1) qc) (oN ++ [s]) (oI ++ [y]) _ _) := ⟨HPI.out.1⟩
          obtain ⟨x0, x1, x2, x3, x4⟩ := cells_five HRP.out.box
          obtain ⟨z0, z1, z2, z3, z4⟩ := cells_five H3.out.three
          have f0 := free_box H3.out.three 0
          have f1 := free_box H3.out.three 1
          have f2 := free_box H3.out.three 2
          have f3 := free_box H3.out.three 3
          have f4 := free_box H3.out.three 4
          have HJD := Hold.mk (HRP.out.done (by have := HOL.out; simp; try omega))
          go_wp2_with fail
          obtain ⟨q0, q1, q2, q3, q4⟩ := cells_five (set5_self (c0 := .int .i64 6) (c1 := .int .i64 0) (c2 := .string ⟨#[]⟩) (c3 := .slice pa (oN.length + 1) pc) (c4 := .slice qa (oI.length + 1) qc) H3.out.three)
          refine bodyPost_ret (v := .tuple #[.agg #[.int .i64 6, .int .i64 0, .string ⟨#[]⟩, .slice pa (oN.length + 1) pc, .slice qa (oI.length + 1) qc], .bool true]) (by simp [results, Tryz.results65, go_sem, q0, q1, q2, q3, q4]) rfl (put_yes (y := .mk 6 0 ⟨#[]⟩ (oN ++ [s]) (oI ++ [y])) (by rw [HPR.out, HEND.out.1, HEND.out.2]; rfl) (HJD.out.mono (cfV_to HCL.out (by omega) (fun b o u hb hu => by rw [set5_cells (by omega)]; exact hu))) (set5_below H3.out.bel (by omega)))
theorem rput_any : ∀ (l : List ByteArray), l ≠ [] → PutC 65 l (putJ l)
  | [], h => absurd rfl h
  | s :: l, _ => rput_step s l (within_step s l fun h => rput_any l h)

end Go.Proofs.YtkhhbckpddkhlaaGreatDoor
