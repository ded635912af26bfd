/- Plans: Rank and Make of the reference (printed by genXHV.py). -/
import Derived.Test.YtcmfanfkcbjeoaaGreatDoorHU
import Derived.Test.YtcmfanfkcbjeoaaGreatDoorEE
namespace Go.Proofs.YtcmfanfkcbjeoaaGreatDoor
open Go.RowKit

theorem good_paths {all : List Fd} : ∀ (l : List Fd) (j : Nat), goodF all j l = true → ∀ p ∈ l, pathOk p.1 = true
  | [], _, _, p, hp => by simp at hp
  | f :: l, j, h, p, hp => by
    rw [goodF, Bool.and_eq_true, Bool.and_eq_true] at h
    rcases List.mem_cons.1 hp with rfl | hp
    · exact h.1.1
    · exact good_paths l (j + 1) h.2 p hp
theorem path_sign {s : ByteArray} (h : pathOk s = true) : signF s = false := by
  rw [path_parts, Bool.and_eq_true] at h
  have h2 := h.2
  unfold plainS at h2
  rw [List.all_eq_true] at h2
  unfold signF
  cases e : s.data.toList with
  | nil => rfl
  | cons b l =>
    have h3 := h2 b (by rw [e]; simp)
    rw [List.head?_cons]
    by_cases hb : b = 36
    · subst hb; exact absurd h3 (by decide)
    · simpa using hb
theorem formI_sign {x : IX} (h : formI x = true) : ∀ p ∈ x.fields, signF p.1 = false := fun p hp => by
  unfold formI at h
  rw [Bool.and_eq_true] at h
  exact path_sign (good_paths _ _ h.2 p hp)
theorem formI_90 {x : IX} (h : formI x = true) : x.fields.length ≤ 90 := by
  unfold formI at h
  rw [Bool.and_eq_true, Bool.and_eq_true] at h
  have := of_decide_eq_true h.1.2
  omega

set_option maxRecDepth 100000 in
set_option maxHeartbeats 8000000 in
theorem rRank_any (f : JV) (fx : Value) (x : IX) (v : Value) (w : World) (hfx : JAt (cf w) f fx) (hx : IAt (cf w) x v) (hsm : ∀ p ∈ x.fields, p.1.size ≤ 1000000) :
    Calls Tryz.prog 16 #[fx, v] w fun e w' => e = .returned (.int .i64 (rankR f x : Int)) ∧ Below w.heap.size w w' := by
  have HFX := Hold.mk hfx
  have HIX := Hold.mk hx
  obtain ⟨k, n, t, nm, it, na, ncap, ia, icap, hfe, rfl, _⟩ := id hfx.open
  clear hfe
  obtain ⟨hnm, fv0, rfl, a, cap, rfl, _⟩ := hx
  obtain ⟨W0, hW0⟩ : ∃ W0, W0 = (w.alloc (.cells #[.int .i64 k, .int .i64 n, .string t, .slice na nm.length ncap, .slice ia it.length icap] 25)).alloc (.cells #[.string x.name, .slice a x.fields.length cap, .bool x.uniq] 48) := ⟨_, rfl⟩
  have hb0 : Below w.heap.size w W0 := by rw [hW0]; exact ((Below.refl _ w).alloc (Nat.le_refl _) _).alloc (by simp) _
  have e1 : W0.heap[w.heap.size + 1]? = some (.cells #[.string x.name, .slice a x.fields.length cap, .bool x.uniq] 48 (0, 0)) := by
    rw [hW0]
    have := heap_alloc_new (w.alloc (.cells #[.int .i64 k, .int .i64 n, .string t, .slice na nm.length ncap, .slice ia it.length icap] 25)) (.cells #[.string x.name, .slice a x.fields.length cap, .bool x.uniq] 48)
    simpa using this
  have e3 : W0.heap[w.heap.size]? = some (.cells #[.int .i64 k, .int .i64 n, .string t, .slice na nm.length ncap, .slice ia it.length icap] 25 (0, 0)) := by
    rw [hW0]
    exact kept (heap_alloc_new w _) ((Below.refl _ _).alloc (Nat.le_refl _) _)
  have HB := Hold.mk hb0
  have HE1 := Hold.mk e1
  have HE3 := Hold.mk e3
  have HSM := Hold.mk hsm
  have HC := Hold.mk (rCheck_any f _ W0 (HFX.out.mono (cle_below hb0)))
  have HFI := Hold.mk (fun w' (hb : Below w.heap.size w w') => rFormedI_any x _ w' (HIX.out.mono (cle_below hb)) HSM.out)
  have HSPN := Hold.mk (fun w' (hb : Below w.heap.size w w') (h1 : formedF 6 f = true) (h2 : formI x = true) => rspan_any f _ x _ (cf w) w' h1 HFX.out HIX.out (cle_below hb) (formI_sign h2) (formI_90 h2))
  obtain ⟨y0, y1, y2, y3, y4⟩ := cells_five e3
  clear hfx hb0 hsm e1 e3
  by_cases hc : checkF f = 0
  · have HCF := Hold.mk (check_formed hc)
    rw [hc] at HC
    go_enter Tryz.func16, Tryz.ntmps16
    go_upto_region 1 with (fail)
    rw [← hW0]
    clear hW0
    have HC0 := Hold.mk hc
    clear hc
    go_wp2_with fail
    refine HC.out.mono ?_
    rintro e w2 ⟨rfl, hb2⟩
    have HB2 := Hold.mk (HB.out.trans (hb2.mono HB.out.size))
    obtain ⟨x0, x1, x2⟩ := cells_three (kept HE1.out hb2)
    replace HE1 := Hold.mk (kept HE1.out hb2)
    replace HE3 := Hold.mk (kept HE3.out hb2)
    clear hb2 HC y0 y1 y2 y3 y4
    go_wp2_with fail
    refine (HFI.out w2 HB2.out).mono ?_
    rintro e w3 ⟨rfl, hb3⟩
    have HB3 := Hold.mk (HB2.out.trans (hb3.mono HB2.out.size))
    replace HE1 := Hold.mk (kept HE1.out hb3)
    replace HE3 := Hold.mk (kept HE3.out hb3)
    clear hb3 x0 x1 x2
    cases hfo : formI x with
    | false =>
      have HR : Hold (rankR f x = 0) := ⟨by unfold rankR rankI; rw [if_pos HC0.out, hfo]; rfl⟩
      clear hfo
      go_wp2_with fail
      go_ret
      exact ⟨by rw [HR.out]; rfl, HB3.out⟩
    | true =>
      have HR : Hold (rankR f x = (spanF (asksF 6 f) x.fields).2) := ⟨by unfold rankR rankI; rw [if_pos HC0.out, if_pos hfo]⟩
      have HS := Hold.mk (HSPN.out w3 HB3.out HCF.out hfo)
      obtain ⟨y0, y1, y2, y3, y4⟩ := cells_five HE3.out
      obtain ⟨x0, x1, x2⟩ := cells_three HE1.out
      obtain ⟨sr, hsr⟩ : ∃ sr, sr = spanF (asksF 6 f) x.fields := ⟨_, rfl⟩
      rw [← hsr] at HS HR
      clear hfo hsr
      go_wp2_with fail
      refine HS.out.mono ?_
      rintro e w4 ⟨fv, tv, rfl, hfr, htr, hb4⟩
      obtain ⟨⟨fl, tl⟩, r⟩ := sr
      simp only at hfr htr HR ⊢
      obtain ⟨fa, fcap, rfl, _⟩ := hfr.shape
      obtain ⟨ta, tcap, rfl, _⟩ := htr.shape
      have HB4 := Hold.mk ((HB3.out.trans (hb4.mono HB3.out.size)).alloc (by have := HB3.out.size; have := hb4.size; omega) (.cells #[.int .i64 0, .slice fa fl.length fcap, .slice ta tl.length tcap] 35))
      clear hfr htr hb4 y0 y1 y2 y3 y4 x0 x1 x2
      go_wp2_with fail
      go_ret
      exact ⟨by rw [HR.out]; rfl, HB4.out⟩
  · have hcb : (checkF f != 0) = true := by simpa using hc
    have HR : Hold (rankR f x = 0) := ⟨by unfold rankR; rw [if_neg hc]⟩
    clear hc
    go_enter Tryz.func16, Tryz.ntmps16
    go_upto_region 1 with (fail)
    rw [← hW0]
    clear hW0
    go_wp2_with fail
    refine HC.out.mono ?_
    rintro e w2 ⟨rfl, hb2⟩
    have HB2 := Hold.mk (HB.out.trans (hb2.mono HB.out.size))
    clear hb2 HC y0 y1 y2 y3 y4
    go_wp2_with fail
    go_ret
    exact ⟨by rw [HR.out]; rfl, HB2.out⟩


/-- where Make stands -/
structure MkInR (w wr : World) (F : Array Value) (pb : Nat) (ix : Int) (fv tv : Value) (fl tl : List UInt8) : Prop where
  bel : Below w.heap.size w wr
  fb : wr.heap[w.heap.size]? = some (.cells F 25 (0, 0))
  rb : wr.heap[w.heap.size + 1]? = some (.cells #[.int .i64 0, .slice none 0 0, .slice none 0 0] 35 (0, 0))
  bb : wr.heap[pb]? = some (.cells #[.int .i64 ix, fv, tv] 35 (0, 0))
  fr : BRow w.heap.size wr fv fl
  tr : BRow w.heap.size wr tv tl
  lo : w.heap.size + 1 < pb
theorem MkInR.quiet {w wr w' : World} {F : Array Value} {pb : Nat} {ix : Int} {fv tv : Value} {fl tl : List UInt8} (h : MkInR w wr F pb ix fv tv fl tl) (k : Below wr.heap.size wr w') : MkInR w w' F pb ix fv tv fl tl :=
  ⟨h.bel.trans (k.mono h.bel.size), kept h.fb k, kept h.rb k, kept h.bb k, h.fr.quiet k, h.tr.quiet k, h.lo⟩
theorem MkInR.butR {w wr w' : World} {F : Array Value} {pb ob : Nat} {ix : Int} {fv tv : Value} {fl tl : List UInt8} {cs : Array Value} (h : MkInR w wr F pb ix fv tv fl tl) (ho : wr.heap[ob]? = some (.cells cs 35 (0, 0))) (k : wr.grownBy w' (some ob)) (h1 : w.heap.size + 1 < ob) (h2 : pb ≠ ob) : MkInR w w' F pb ix fv tv fl tl :=
  ⟨h.bel.trans (grown_low k h.bel.size (by omega)), grown_block k h.fb (by omega), grown_block k h.rb (by omega), grown_block k h.bb h2, h.fr.butR ho k, h.tr.butR ho k, h.lo⟩
theorem MkInR.best {w wr w' : World} {F : Array Value} {pb : Nat} {ix jx : Int} {fv tv gv uv : Value} {fl tl gl ul : List UInt8} (h : MkInR w wr F pb ix fv tv fl tl) (k : wr.grownBy w' (some pb)) (hb : w'.heap[pb]? = some (.cells #[.int .i64 jx, gv, uv] 35 (0, 0))) (hg : BRow w.heap.size wr gv gl) (hu : BRow w.heap.size wr uv ul) : MkInR w w' F pb jx gv uv gl ul :=
  have := h.lo
  ⟨h.bel.trans (grown_low k h.bel.size (by omega)), grown_block k h.fb (by omega), grown_block k h.rb (by omega), hb, hg.butR h.bb k, hu.butR h.bb k, h.lo⟩
theorem MkInR.done {w wr : World} {F : Array Value} {pb : Nat} {ix jx : Int} {fv tv gv uv : Value} {fl tl gl ul : List UInt8} (h : MkInR w wr F pb ix fv tv fl tl) (hg : BRow w.heap.size wr gv gl) (hu : BRow w.heap.size wr uv ul) {W : World} (hW : W = ((wr.setCell ⟨w.heap.size + 1, 0, none⟩ (.int .i64 jx)).setCell ⟨w.heap.size + 1, 1, none⟩ gv).setCell ⟨w.heap.size + 1, 2, none⟩ uv) :
    W.heap[w.heap.size + 1]? = some (.cells #[.int .i64 jx, gv, uv] 35 (0, 0)) ∧ BRow w.heap.size W gv gl ∧ BRow w.heap.size W uv ul ∧ Below w.heap.size w W := by
  have hk : wr.grownBy W (some (w.heap.size + 1)) := by rw [hW]; exact grown_trans (grown_trans (grown_set _ _ _ _) (grown_set _ _ _ _)) (grown_set _ _ _ _)
  refine ⟨by rw [hW, setP (setP (setP h.rb))]; rfl, hg.butR h.rb hk, hu.butR h.rb hk, h.bel.trans (grown_low hk h.bel.size (by omega))⟩


/-- a range and its rank, in a box -/
def PBoxR (B : Nat) (sr : SpanR) (w : World) (s1 s2 : Value) (wx : World) : Prop := ∃ zb gv uv, s1 = .pointer (some ⟨zb, 0, none⟩) ∧ s2 = .int .i64 (sr.2 : Int) ∧ wx.heap[zb]? = some (.cells #[.int .i64 0, gv, uv] 35 (0, 0)) ∧ BRow B wx gv sr.1.1 ∧ BRow B wx uv sr.1.2 ∧ Below w.heap.size w wx

set_option maxRecDepth 100000 in
set_option maxHeartbeats 16000000 in
theorem rMake_any (f : JV) (fx : Value) (l : List IX) (lv : Value) (w : World) (hfx : JAt (cf w) f fx) (hl : SAt 3 RX (cf w) lv l) (hsm : ∀ x ∈ l, ∀ p ∈ x.fields, p.1.size ≤ 1000000) :
    Calls Tryz.prog 12 #[fx, lv] w (MakePost f l w) := by
  have HFX := Hold.mk hfx
  obtain ⟨k, n, t, nm, it, na, ncap, ia, icap, hfe, rfl, _⟩ := id hfx.open
  clear hfe
  obtain ⟨la, lcap, rfl, hle, hcap, hel⟩ := hl
  obtain ⟨W0, hW0⟩ : ∃ W0, W0 = (w.alloc (.cells #[.int .i64 k, .int .i64 n, .string t, .slice na nm.length ncap, .slice ia it.length icap] 25)).alloc (.cells #[.int .i64 0, .slice none 0 0, .slice none 0 0] 35) := ⟨_, rfl⟩
  have hb0 : Below w.heap.size w W0 := by rw [hW0]; exact ((Below.refl _ w).alloc (Nat.le_refl _) _).alloc (by simp) _
  have e1 : W0.heap[w.heap.size + 1]? = some (.cells #[.int .i64 0, .slice none 0 0, .slice none 0 0] 35 (0, 0)) := by
    rw [hW0]
    have := heap_alloc_new (w.alloc (.cells #[.int .i64 k, .int .i64 n, .string t, .slice na nm.length ncap, .slice ia it.length icap] 25)) (.cells #[.int .i64 0, .slice none 0 0, .slice none 0 0] 35)
    simpa using this
  have e3 : W0.heap[w.heap.size]? = some (.cells #[.int .i64 k, .int .i64 n, .string t, .slice na nm.length ncap, .slice ia it.length icap] 25 (0, 0)) := by
    rw [hW0]
    exact kept (heap_alloc_new w _) ((Below.refl _ _).alloc (Nat.le_refl _) _)
  have HB := Hold.mk hb0
  have HE1 := Hold.mk e1
  have HE3 := Hold.mk e3
  have HE := Hold.mk hel
  have HSM := Hold.mk hsm
  have HC := Hold.mk (rCheck_any f _ W0 (HFX.out.mono (cle_below hb0)))
  have HFI := Hold.mk (fun w' (hb : Below w.heap.size w w') (x : IX) (v : Value) (hm : x ∈ l) (hi : IAt (cf w) x v) => rFormedI_any x v w' (hi.mono (cle_below hb)) (HSM.out x hm))
  have HSPN := Hold.mk (fun w' (hb : Below w.heap.size w w') (x : IX) (v : Value) (hi : IAt (cf w) x v) (h1 : formedF 6 f = true) (h2 : formI x = true) => rspan_any f _ x v (cf w) w' h1 HFX.out hi (cle_below hb) (formI_sign h2) (formI_90 h2))
  obtain ⟨y0, y1, y2, y3, y4⟩ := cells_five e3
  clear hfx hb0 hsm e1 e3 hel
  by_cases hc : checkF f = 0
  case neg =>
    have hcb : (checkF f != 0) = true := by simpa using hc
    have HME : Hold (makeE f l = checkF f) := ⟨by unfold makeE; rw [if_neg hc]⟩
    have HNE := Hold.mk hc
    clear hc
    go_enter Tryz.func12, Tryz.ntmps12
    go_upto_region 1 with (fail)
    rw [← hW0]
    clear hW0
    go_wp2_with fail
    refine HC.out.mono ?_
    rintro e w2 ⟨rfl, hb2⟩
    have HB2 := Hold.mk (HB.out.trans (hb2.mono HB.out.size))
    have HRR := Hold.mk (kept HE1.out hb2)
    obtain ⟨r0, r1, r2⟩ := cells_three HRR.out
    have f0 := free_box HRR.out 0
    have f1 := free_box HRR.out 1
    have f2 := free_box HRR.out 2
    clear hb2 HC y0 y1 y2 y3 y4
    go_wp2_with fail
    obtain ⟨W, hW⟩ : ∃ W, W = ((w2.setCell ⟨w.heap.size + 1, 0, none⟩ (.int .i64 0)).setCell ⟨w.heap.size + 1, 1, none⟩ (.slice none 0 0)).setCell ⟨w.heap.size + 1, 2, none⟩ (.slice none 0 0) := ⟨_, rfl⟩
    rw [← hW]
    have hbw : Below w.heap.size w W := by
      rw [hW]
      exact ((HB2.out.setCell (p := ⟨w.heap.size + 1, 0, none⟩) (by simp) _).setCell (p := ⟨w.heap.size + 1, 1, none⟩) (by simp) _).setCell (p := ⟨w.heap.size + 1, 2, none⟩) (by simp) _
    have hbk : W.heap[w.heap.size + 1]? = some (.cells #[.int .i64 0, .slice none 0 0, .slice none 0 0] 35 (0, 0)) := by
      rw [hW, setP (setP (setP HRR.out))]; rfl
    obtain ⟨c0, c1, c2⟩ := cells_three hbk
    refine bodyPost_ret (v := .tuple #[.agg #[.int .i64 0, .slice none 0 0, .slice none 0 0], .int .i64 (checkF f)]) (by simp [results, Tryz.results12, go_sem, c0, c1, c2]) rfl ?_
    unfold MakePost
    rw [HME.out, if_neg HNE.out, if_neg HNE.out, if_neg HNE.out]
    exact ⟨_, _, rfl, ⟨World.ownsRow_nil _ _ _ _, hbw.size⟩, ⟨World.ownsRow_nil _ _ _ _, hbw.size⟩, hbw⟩
  have HCF := Hold.mk (check_formed hc)
  have HC0 := Hold.mk hc
  rw [hc] at HC
  clear hc
  go_enter Tryz.func12, Tryz.ntmps12
  go_upto_region 1 with (fail)
  rw [← hW0]
  clear hW0
  go_wp2_with fail
  refine HC.out.mono ?_
  rintro e w2 ⟨rfl, hb2⟩
  have HB2 := Hold.mk (HB.out.trans (hb2.mono HB.out.size))
  obtain ⟨W3, hW3⟩ : ∃ W3, W3 = w2.alloc (.cells #[.int .i64 (-1), .slice none 0 0, .slice none 0 0] 35) := ⟨_, rfl⟩
  have hb3 : Below w2.heap.size w2 W3 := by rw [hW3]; exact (Below.refl _ w2).alloc (Nat.le_refl _) _
  obtain ⟨Lk, hLk⟩ : ∃ Lk, Lk = asksF 6 f := ⟨_, rfl⟩
  have HIN0 : Hold (MkInR w W3 #[.int .i64 k, .int .i64 n, .string t, .slice na nm.length ncap, .slice ia it.length icap] w2.heap.size (stI (none, 0)) (.slice none 0 0) (.slice none 0 0) (stF (none, 0)) (stT (none, 0))) := ⟨⟨HB2.out.trans (hb3.mono HB2.out.size), kept (kept HE3.out hb2) hb3, kept (kept HE1.out hb2) hb3, by rw [hW3]; exact heap_alloc_new w2 _, ⟨World.ownsRow_nil _ _ _ _, by have := HB2.out.size; have := hb3.size; omega⟩, ⟨World.ownsRow_nil _ _ _ _, by have := HB2.out.size; have := hb3.size; omega⟩, heap_lt (kept HE1.out hb2)⟩⟩
  have HMB : Hold (makeB f l = bestM Lk 0 (l.drop 0) (none, 0)) := ⟨by rw [hLk]; rfl⟩
  have HLK := Hold.mk hLk
  clear hb2 hb3 HC y0 y1 y2 y3 y4 HE1 HE3 hLk
  go_upto_region 5 with (fail)
  rw [← hW3]
  clear hW3
  generalize w2.heap.size = pb at *
  go_wp2_with fail
  go_loopw [8, 9] (fun mv i wr => ∃ (j : Nat) (st : BestS) (fv tv : Value), i = .int .i64 j ∧ mv = .int .i64 (st.2 : Int) ∧ j ≤ l.length ∧ (∀ (q : Nat) x, q < j → l[q]? = some x → formI x = true) ∧ makeB f l = bestM Lk j (l.drop j) st ∧ MkInR w wr #[.int .i64 k, .int .i64 n, .string t, .slice na nm.length ncap, .slice ia it.length icap] pb (stI st) fv tv (stF st) (stT st)) (fun _ i _ => l.length - (intOf i).toNat)
  case atStart => exact ⟨0, (none, 0), _, _, rfl, rfl, Nat.zero_le _, fun _ _ h => by omega, HMB.out, HIN0.out⟩
  case round =>
    obtain ⟨j, st, fv, tv, rfl, rfl, hj, hall, hmb, hin⟩ := hrel
    obtain ⟨fl, hfl⟩ : ∃ fl, fl = stF st := ⟨_, rfl⟩
    obtain ⟨tl, htl⟩ : ∃ tl, tl = stT st := ⟨_, rfl⟩
    obtain ⟨ix, hix⟩ : ∃ ix, ix = stI st := ⟨_, rfl⟩
    rw [← hfl, ← htl, ← hix] at hin
    obtain ⟨fa, fcap, rfl, _⟩ := hin.fr.shape
    obtain ⟨ta, tcap, rfl, _⟩ := hin.tr.shape
    have HIN := Hold.mk hin
    have HALL := Hold.mk hall
    have HST := Hold.mk hmb
    have HSV := Hold.mk (And.intro hfl (And.intro htl hix))
    clear hin hall hmb HIN0 HMB hfl htl hix
    by_cases hlt : j < l.length
    · obtain ⟨x, hx⟩ : ∃ x, l[j]? = some x := ⟨l[j], List.getElem?_eq_getElem hlt⟩
      obtain ⟨b, off, d, rfl, hd, hcc, hxi⟩ := HE.out j x hx
      obtain ⟨xa, xcap, rfl⟩ := hxi.open
      have hcl := cle_below HIN.out.bel
      have z0 := hcl _ _ _ (hcc 0 _ rfl)
      have z1 := hcl _ _ _ (hcc 1 _ rfl)
      have z2 := hcl _ _ _ (hcc 2 _ rfl)
      unfold cf at z0 z1 z2
      rw [Nat.add_zero] at z0
      have HCC := Hold.mk hcc
      have HXI : Hold (IAt (cf w) x (.agg #[.string x.name, .slice xa x.fields.length xcap, .bool x.uniq])) := ⟨hxi⟩
      have HXM := Hold.mk (List.mem_of_getElem? hx)
      have HXE := Hold.mk hx
      have HSTP := Hold.mk (HST.out.trans (bestM_step hx st))
      clear hx hd hcc hxi hcl
      go_wp2_with fail
      refine (HFI.out _ HIN.out.bel x _ HXM.out HXI.out).mono ?_
      rintro e w5 ⟨rfl, hb5⟩
      replace HIN := Hold.mk (HIN.out.quiet hb5)
      clear hb5 z0 z1 z2
      cases hfo : formI x with
      | false =>
        have HME : Hold (makeE f l = 2) := ⟨by
          unfold makeE
          rw [if_pos HC0.out, if_neg]
          intro h
          have := List.all_eq_true.1 h x HXM.out
          rw [hfo] at this; cases this⟩
        obtain ⟨r0, r1, r2⟩ := cells_three HIN.out.rb
        have f0 := free_box HIN.out.rb 0
        have f1 := free_box HIN.out.rb 1
        have f2 := free_box HIN.out.rb 2
        clear hfo
        go_wp2_with fail
        obtain ⟨W, hW⟩ : ∃ W, W = ((w5.setCell ⟨w.heap.size + 1, 0, none⟩ (.int .i64 0)).setCell ⟨w.heap.size + 1, 1, none⟩ (.slice none 0 0)).setCell ⟨w.heap.size + 1, 2, none⟩ (.slice none 0 0) := ⟨_, rfl⟩
        rw [← hW]
        have hn : BRow w.heap.size w5 (.slice none 0 0) [] := ⟨World.ownsRow_nil _ _ _ _, HIN.out.bel.size⟩
        obtain ⟨hbk, h1, h2, hbw⟩ := HIN.out.done hn hn hW
        clear hW r0 r1 r2 f0 f1 f2
        obtain ⟨c0, c1, c2⟩ := cells_three hbk
        refine bodyPost_ret (v := .tuple #[.agg #[.int .i64 0, .slice none 0 0, .slice none 0 0], .int .i64 2]) (by simp [results, Tryz.results12, go_sem, c0, c1, c2]) rfl ?_
        unfold MakePost
        rw [HME.out]
        exact ⟨_, _, rfl, h1, h2, hbw⟩
      | true =>
        have HA2 : Hold (∀ (q : Nat) x, q < j + 1 → l[q]? = some x → formI x = true) := ⟨fun q y hq hy => by
          by_cases e : q = j
          · subst e; rw [HXE.out] at hy; cases hy; exact hfo
          · exact HALL.out q y (by omega) hy⟩
        have HFO := Hold.mk hfo
        obtain ⟨sr, hsr⟩ : ∃ sr, sr = spanF Lk x.fields := ⟨_, rfl⟩
        have HSR := Hold.mk hsr
        have HS := Hold.mk (fun (W : World) (hb : Below w5.heap.size w5 W) => (show Calls Tryz.prog 48 #[.agg #[.int .i64 k, .int .i64 n, .string t, .slice na nm.length ncap, .slice ia it.length icap], .agg #[.string x.name, .slice xa x.fields.length xcap, .bool x.uniq]] W (SpanPost sr W) by
          have h := HSPN.out W (HIN.out.bel.trans (hb.mono HIN.out.bel.size)) x _ HXI.out HCF.out HFO.out
          rw [← HLK.out, ← HSR.out] at h
          exact h))
        obtain ⟨y0, y1, y2, y3, y4⟩ := cells_five HIN.out.fb
        have hcl := cle_below HIN.out.bel
        have z0 := hcl _ _ _ (HCC.out 0 _ rfl)
        have z1 := hcl _ _ _ (HCC.out 1 _ rfl)
        have z2 := hcl _ _ _ (HCC.out 2 _ rfl)
        unfold cf at z0 z1 z2
        rw [Nat.add_zero] at z0
        have g0 := Grow.cell y0
        have g1 := Grow.cell y1
        have g2 := Grow.cell y2
        have g3 := Grow.cell y3
        have g4 := Grow.cell y4
        have g5 := Grow.cell z0
        have g6 := Grow.cell z1
        have g7 := Grow.cell z2
        clear hfo HALL hsr hcl y0 y1 y2 y3 y4 z0 z1 z2
        go_upto_region 11 with (fail)
        go_cut [10, 11] (fun s1 s2 wx => PBoxR w.heap.size sr w5 s1 s2 wx)
        case first =>
          refine wp_region_mix 12 rfl (by kernel_rfl) ?_
          rintro w6 hb6
          refine mixl_seg (by kernel_rfl) (fun _ _ d _ _ h => by cases d <;> exact h) [0, 1, 2, 3, 4] [_, _, _, _, _] 7 12 rfl _ _ _ rfl (by kernel_rfl) (growC hb6) ?_
          repeat (go_big_quiet_step (fail))
          refine wpQuiet_nil ?_
          clear g0 g1 g2 g3 g4 g5 g6 g7
          have HB6 := Hold.mk hb6
          have HWS := Hold.mk HIN.out.bel.size
          clear hb6
          refine mixl_two (i := 5) (j := 9) rfl rfl (by kernel_rfl) (growC HB6.out) rfl rfl (fun K hK => ?_) (fun K hK => ?_)
          · skip
            go_wp2_with fail
            refine (HS.out w6 HB6.out).mono ?_
            rintro e w7 ⟨gv, uv, rfl, hgr, hur, hb7⟩
            obtain ⟨⟨gl, ul⟩, r⟩ := sr
            simp only at hgr hur
            obtain ⟨ga, gcap, rfl, _⟩ := hgr.shape
            obtain ⟨ua, ucap, rfl, _⟩ := hur.shape
            have HB7 := Hold.mk (HB6.out.trans (hb7.mono HB6.out.size))
            have HB6S := Hold.mk HB6.out.size
            obtain ⟨w8, hw8⟩ : ∃ w8, w8 = w7.alloc (.cells #[.int .i64 0, .slice none 0 0, .slice none 0 0] 35) := ⟨_, rfl⟩
            have hb8 : Below w7.heap.size w7 w8 := by rw [hw8]; exact (Below.refl _ w7).alloc (Nat.le_refl _) _
            have HZB : Hold (w8.heap[w7.heap.size]? = some (.cells #[.int .i64 0, .slice none 0 0, .slice none 0 0] 35 (0, 0))) := ⟨by rw [hw8]; exact heap_alloc_new w7 _⟩
            have HB8 := Hold.mk (HB7.out.trans (hb8.mono HB7.out.size))
            have HGR := Hold.mk ((hgr.quiet hb8).bel (Nat.le_trans HWS.out HB6S.out))
            have HUR := Hold.mk ((hur.quiet hb8).bel (Nat.le_trans HWS.out HB6S.out))
            have HZL : Hold (w5.heap.size ≤ w7.heap.size) := ⟨HB7.out.size⟩
            clear hgr hur hb7 hb8
            go_wp2_with fail
            refine mixl_seg (by kernel_rfl) (fun _ _ d _ _ h => by cases d <;> exact h) [6, 7, 8] [_, _, _] 3 6 rfl _ _ _ rfl (by kernel_rfl) (growC HB7.out) ?_
            repeat (go_big_quiet_step (fail))
            refine wpQuiet_nil ?_
            refine mixl_act (i := 9) rfl (by kernel_rfl) (growC HB7.out) rfl (fun K hK => ?_)
            go_wp2_with fail
            rw [← hw8]
            clear hw8
            generalize w7.heap.size = zb at *
            obtain ⟨c0, c1, c2⟩ := cells_three HZB.out
            have f0 := free_box HZB.out 0
            have f1 := free_box HZB.out 1
            have f2 := free_box HZB.out 2
            refine mixl_act (i := 10) rfl (by kernel_rfl) (growC HB8.out) rfl (fun K hK => ?_)
            go_wp2_with fail
            obtain ⟨W9, hW9⟩ : ∃ W9, W9 = ((w8.setCell ⟨zb, 0, none⟩ (.int .i64 0)).setCell ⟨zb, 1, none⟩ (.slice ga gl.length gcap)).setCell ⟨zb, 2, none⟩ (.slice ua ul.length ucap) := ⟨_, rfl⟩
            rw [← hW9]
            have hk : w8.grownBy W9 (some zb) := by rw [hW9]; exact grown_trans (grown_trans (grown_set _ _ _ _) (grown_set _ _ _ _)) (grown_set _ _ _ _)
            have HB9 := Hold.mk (HB8.out.trans (grown_low hk HB8.out.size HZL.out))
            have HPX : Hold (PBoxR w.heap.size ((gl, ul), r) w5 (.pointer (some ⟨zb, 0, none⟩)) (.int .i64 (r : Int)) W9) := ⟨⟨zb, _, _, rfl, rfl, by rw [hW9, setP (setP (setP HZB.out))]; rfl, HGR.out.butR HZB.out hk, HUR.out.butR HZB.out hk, HB9.out⟩⟩
            clear hW9 hk c0 c1 c2 f0 f1 f2
            refine mixl_seg (by kernel_rfl) (fun _ _ d _ _ h => by cases d <;> exact h) [11] [_] 0 1 rfl _ _ _ rfl (by kernel_rfl) (growC HB9.out) ?_
            repeat (go_big_quiet_step (fail))
            refine wpQuiet_nil ?_
            refine mix_done (by kernel_rfl) (growC HB9.out) ?_
            go_wp2_with fail
            go_meet
            case rel => exact HPX.out
          · skip
            go_wp2_with fail
            obtain ⟨w7, hw7⟩ : ∃ w7, w7 = w6.alloc (.cells #[.int .i64 0, .slice none 0 0, .slice none 0 0] 35) := ⟨_, rfl⟩
            rw [← hw7]
            have hb7 : Below w6.heap.size w6 w7 := by rw [hw7]; exact (Below.refl _ w6).alloc (Nat.le_refl _) _
            have HZ7 : Hold (w7.heap[w6.heap.size]? = some (.cells #[.int .i64 0, .slice none 0 0, .slice none 0 0] 35 (0, 0))) := ⟨by rw [hw7]; exact heap_alloc_new w6 _⟩
            have HB7 := Hold.mk (HB6.out.trans (hb7.mono HB6.out.size))
            have HZL : Hold (w5.heap.size ≤ w6.heap.size) := ⟨HB6.out.size⟩
            clear hw7 hb7
            generalize w6.heap.size = zb at *
            refine mixl_act (i := 5) rfl (by kernel_rfl) (growC HB7.out) rfl (fun K hK => ?_)
            go_wp2_with fail
            refine (HS.out w7 HB7.out).mono ?_
            rintro e w8 ⟨gv, uv, rfl, hgr, hur, hb8⟩
            obtain ⟨⟨gl, ul⟩, r⟩ := sr
            simp only at hgr hur
            obtain ⟨ga, gcap, rfl, _⟩ := hgr.shape
            obtain ⟨ua, ucap, rfl, _⟩ := hur.shape
            have HB8 := Hold.mk (HB7.out.trans (hb8.mono HB7.out.size))
            have HZB := Hold.mk (kept HZ7.out hb8)
            have HGR := Hold.mk (hgr.bel (Nat.le_trans HWS.out HB7.out.size))
            have HUR := Hold.mk (hur.bel (Nat.le_trans HWS.out HB7.out.size))
            clear hgr hur hb8
            go_wp2_with fail
            refine mixl_seg (by kernel_rfl) (fun _ _ d _ _ h => by cases d <;> exact h) [6, 7, 8] [_, _, _] 2 5 rfl _ _ _ rfl (by kernel_rfl) (growC HB8.out) ?_
            repeat (go_big_quiet_step (fail))
            refine wpQuiet_nil ?_
            obtain ⟨c0, c1, c2⟩ := cells_three HZB.out
            have f0 := free_box HZB.out 0
            have f1 := free_box HZB.out 1
            have f2 := free_box HZB.out 2
            refine mixl_act (i := 10) rfl (by kernel_rfl) (growC HB8.out) rfl (fun K hK => ?_)
            go_wp2_with fail
            obtain ⟨W9, hW9⟩ : ∃ W9, W9 = ((w8.setCell ⟨zb, 0, none⟩ (.int .i64 0)).setCell ⟨zb, 1, none⟩ (.slice ga gl.length gcap)).setCell ⟨zb, 2, none⟩ (.slice ua ul.length ucap) := ⟨_, rfl⟩
            rw [← hW9]
            have hk : w8.grownBy W9 (some zb) := by rw [hW9]; exact grown_trans (grown_trans (grown_set _ _ _ _) (grown_set _ _ _ _)) (grown_set _ _ _ _)
            have HB9 := Hold.mk (HB8.out.trans (grown_low hk HB8.out.size HZL.out))
            have HPX : Hold (PBoxR w.heap.size ((gl, ul), r) w5 (.pointer (some ⟨zb, 0, none⟩)) (.int .i64 (r : Int)) W9) := ⟨⟨zb, _, _, rfl, rfl, by rw [hW9, setP (setP (setP HZB.out))]; rfl, HGR.out.butR HZB.out hk, HUR.out.butR HZB.out hk, HB9.out⟩⟩
            clear hW9 hk c0 c1 c2 f0 f1 f2
            refine mixl_seg (by kernel_rfl) (fun _ _ d _ _ h => by cases d <;> exact h) [11] [_] 0 1 rfl _ _ _ rfl (by kernel_rfl) (growC HB9.out) ?_
            repeat (go_big_quiet_step (fail))
            refine wpQuiet_nil ?_
            refine mix_done (by kernel_rfl) (growC HB9.out) ?_
            go_wp2_with fail
            go_meet
            case rel => exact HPX.out
        case rest =>
          clear g0 g1 g2 g3 g4 g5 g6 g7
          obtain ⟨ob, gv, uv, rfl, rfl, hob, hgr, hur, hbx⟩ := hcut
          generalize wc = W7 at *
          obtain ⟨⟨gl, ul⟩, r⟩ := sr
          simp only at hgr hur ⊢
          obtain ⟨ga, gcap, rfl, _⟩ := hgr.shape
          obtain ⟨ua, ucap, rfl, _⟩ := hur.shape
          have HOB := Hold.mk hob
          have HGR := Hold.mk hgr
          have HUR := Hold.mk hur
          replace HIN := Hold.mk (HIN.out.quiet hbx)
          have hsr2 := HSR.out
          clear hob hgr hur hbx
          by_cases hm : st.2 < r
          · have hmb : (st.2 : Int) < (r : Int) := by omega
            have HNX : Hold (stepM Lk j x st = (some (j, (gl, ul)), r)) := ⟨by
              unfold stepM
              rw [← HSR.out, if_pos hm]⟩
            clear hm hsr2
            obtain ⟨c0, c1, c2⟩ := cells_three HOB.out
            obtain ⟨b0, b1, b2⟩ := cells_three HIN.out.bb
            have f0 := free_box HIN.out.bb 0
            have f1 := free_box HIN.out.bb 1
            have f2 := free_box HIN.out.bb 2
            obtain ⟨W9, hW9⟩ : ∃ W9, W9 = ((W7.setCell ⟨pb, 0, none⟩ (.int .i64 j)).setCell ⟨pb, 1, none⟩ (.slice ga gl.length gcap)).setCell ⟨pb, 2, none⟩ (.slice ua ul.length ucap) := ⟨_, rfl⟩
            have hk9 : W7.grownBy W9 (some pb) := by rw [hW9]; exact grown_trans (grown_trans (grown_set _ _ _ _) (grown_set _ _ _ _)) (grown_set _ _ _ _)
            have hb9 : W9.heap[pb]? = some (.cells #[.int .i64 j, .slice ga gl.length gcap, .slice ua ul.length ucap] 35 (0, 0)) := by rw [hW9, setP (setP (setP HIN.out.bb))]; rfl
            have HI9 := Hold.mk (HIN.out.best hk9 hb9 HGR.out HUR.out)
            clear hk9 hb9
            go_upto_region 14 with (fail)
            rw [← hW9]
            clear hW9 c0 c1 c2 b0 b1 b2 f0 f1 f2
            go_wp2_with fail
            refine ⟨⟨j + 1, (some (j, (gl, ul)), r), _, _, by go_num, rfl, hlt, HA2.out, ?_, HI9.out⟩, by simp [intOf]; omega⟩
            rw [HSTP.out, HNX.out]
          · have hmb : ¬ (st.2 : Int) < (r : Int) := by omega
            have HNX : Hold (stepM Lk j x st = st) := ⟨by
              unfold stepM
              rw [← HSR.out, if_neg hm]⟩
            clear hm hsr2
            go_wp2_with fail
            refine ⟨⟨j + 1, st, .slice fa fl.length fcap, .slice ta tl.length tcap, by go_num, rfl, hlt, HA2.out, by rw [HSTP.out, HNX.out], ?_⟩, by simp [intOf]; omega⟩
            rw [← HSV.out.1, ← HSV.out.2.1, ← HSV.out.2.2]
            exact HIN.out
    · obtain rfl : j = l.length := by omega
      have HME : Hold (makeE f l = 0) := ⟨by
        unfold makeE
        rw [if_pos HC0.out, if_pos]
        rw [List.all_eq_true]
        intro x hx
        obtain ⟨q, hq, e⟩ := List.getElem_of_mem hx
        exact HALL.out q x hq (by rw [← e]; exact List.getElem?_eq_getElem hq)⟩
      have HMF : Hold (makeB f l = st) := ⟨by rw [HST.out, List.drop_length, bestM]⟩
      obtain ⟨b0, b1, b2⟩ := cells_three HIN.out.bb
      obtain ⟨r0, r1, r2⟩ := cells_three HIN.out.rb
      have f0 := free_box HIN.out.rb 0
      have f1 := free_box HIN.out.rb 1
      have f2 := free_box HIN.out.rb 2
      go_wp2_with fail
      obtain ⟨W, hW⟩ : ∃ W, W = ((wr.setCell ⟨w.heap.size + 1, 0, none⟩ (.int .i64 ix)).setCell ⟨w.heap.size + 1, 1, none⟩ (.slice fa fl.length fcap)).setCell ⟨w.heap.size + 1, 2, none⟩ (.slice ta tl.length tcap) := ⟨_, rfl⟩
      rw [← hW]
      obtain ⟨hbk, h1, h2, hbw⟩ := HIN.out.done HIN.out.fr HIN.out.tr hW
      clear hW b0 b1 b2 r0 r1 r2 f0 f1 f2
      obtain ⟨c0, c1, c2⟩ := cells_three hbk
      refine bodyPost_ret (v := .tuple #[.agg #[.int .i64 ix, .slice fa fl.length fcap, .slice ta tl.length tcap], .int .i64 0]) (by simp [results, Tryz.results12, go_sem, c0, c1, c2]) rfl ?_
      unfold MakePost
      rw [HME.out, if_pos rfl, if_pos rfl, if_pos rfl, HMF.out, ← HSV.out.1, ← HSV.out.2.1, ← HSV.out.2.2]
      exact ⟨_, _, rfl, h1, h2, hbw⟩


end Go.Proofs.YtcmfanfkcbjeoaaGreatDoor
