/- Plans: Rank and Make of the program (printed by genXHM.py). -/
import Derived.Test.YtcmfanfkcbjeoaaGreatDoorHL
namespace Go.Proofs.YtcmfanfkcbjeoaaGreatDoor
open Go.RowKit

/-- an index's three cells -/
def RX : Rep IX := fun c x d => IAt c x (.agg d.toArray)
theorem RX_mono : Mono RX := fun _ _ _ _ hc h => IAt.mono h hc
theorem RX.open {c : CF} {x : IX} {d : List Value} (h : RX c x d) : ∃ a cap, d = [.string x.name, .slice a x.fields.length cap, .bool x.uniq] := by
  obtain ⟨_, fv, e, a, cap, rfl, _⟩ := h
  exact ⟨a, cap, congrArg Array.toList (Value.agg.inj e)⟩
theorem formI_len {x : IX} (h : formI x = true) : x.fields.length ≤ 100 := by
  unfold formI at h
  rw [Bool.and_eq_true, Bool.and_eq_true] at h
  have := of_decide_eq_true h.1.2
  omega

set_option maxRecDepth 100000 in
set_option maxHeartbeats 8000000 in
theorem Rank_any (f : JV) (fx : Value) (x : IX) (v : Value) (w : World) (hfx : JAt (cf w) f fx) (hx : IAt (cf w) x v) (hsm : ∀ p ∈ x.fields, p.1.size ≤ 1000000) (hT : Tabs w) :
    Calls Tryz.prog 15 #[fx, v] w fun e w' => e = .returned (.int .i64 (rankR f x : Int)) ∧ Below w.heap.size w w' := by
  have HFX := Hold.mk hfx
  have HIX := Hold.mk hx
  obtain ⟨k, n, t, nm, it, na, ncap, ia, icap, hfe, rfl, _⟩ := id hfx.open
  clear hfe
  obtain ⟨hnm, fv0, rfl, a, cap, rfl, _⟩ := hx
  obtain ⟨W0, hW0⟩ : ∃ W0, W0 = (w.alloc (.cells #[.int .i64 k, .int .i64 n, .string t, .slice na nm.length ncap, .slice ia it.length icap] 25)).alloc (.cells #[.string x.name, .slice a x.fields.length cap, .bool x.uniq] 44) := ⟨_, rfl⟩
  have hb0 : Below w.heap.size w W0 := by rw [hW0]; exact ((Below.refl _ w).alloc (Nat.le_refl _) _).alloc (by simp) _
  have e1 : W0.heap[w.heap.size + 1]? = some (.cells #[.string x.name, .slice a x.fields.length cap, .bool x.uniq] 44 (0, 0)) := by
    rw [hW0]
    have := heap_alloc_new (w.alloc (.cells #[.int .i64 k, .int .i64 n, .string t, .slice na nm.length ncap, .slice ia it.length icap] 25)) (.cells #[.string x.name, .slice a x.fields.length cap, .bool x.uniq] 44)
    simpa using this
  have e3 : W0.heap[w.heap.size]? = some (.cells #[.int .i64 k, .int .i64 n, .string t, .slice na nm.length ncap, .slice ia it.length icap] 25 (0, 0)) := by
    rw [hW0]
    exact kept (heap_alloc_new w _) ((Below.refl _ _).alloc (Nat.le_refl _) _)
  have HB := Hold.mk hb0
  have HE1 := Hold.mk e1
  have HE3 := Hold.mk e3
  have HT := Hold.mk hT
  have HSM := Hold.mk hsm
  have HC := Hold.mk (Check_any f _ W0 (HFX.out.mono (cle_below hb0)) (hT.below hb0))
  have HFI := Hold.mk (fun w' (hb : Below w.heap.size w w') => FormedI_any x _ w' (HIX.out.mono (cle_below hb)) HSM.out (HT.out.below hb))
  have HSPN := Hold.mk (fun w' (hb : Below w.heap.size w w') (h1 : formedF 6 f = true) (h2 : x.fields.length ≤ 100) => span_any f _ x _ w' h1 (HFX.out.mono (cle_below hb)) (HIX.out.mono (cle_below hb)) h2 HSM.out (HT.out.below hb))
  obtain ⟨y0, y1, y2, y3, y4⟩ := cells_five e3
  clear hfx hb0 hT hsm e1 e3
  by_cases hc : checkF f = 0
  · have HCF := Hold.mk (check_formed hc)
    rw [hc] at HC
    go_enter Tryz.func15, Tryz.ntmps15
    go_upto_region 1 with (fail)
    rw [← hW0]
    clear hW0
    have HC0 := Hold.mk hc
    clear hc
    go_wp2_with fail
    refine HC.out.mono ?_
    rintro e w2 ⟨rfl, hb2⟩
    have HB2 := Hold.mk (HB.out.trans (hb2.mono HB.out.size))
    obtain ⟨x0, x1, x2⟩ := cells_three (kept HE1.out hb2)
    replace HE1 := Hold.mk (kept HE1.out hb2)
    replace HE3 := Hold.mk (kept HE3.out hb2)
    clear hb2 HC y0 y1 y2 y3 y4
    go_wp2_with fail
    refine (HFI.out w2 HB2.out).mono ?_
    rintro e w3 ⟨rfl, hb3⟩
    have HB3 := Hold.mk (HB2.out.trans (hb3.mono HB2.out.size))
    replace HE1 := Hold.mk (kept HE1.out hb3)
    replace HE3 := Hold.mk (kept HE3.out hb3)
    clear hb3 x0 x1 x2
    cases hfo : formI x with
    | false =>
      have HR : Hold (rankR f x = 0) := ⟨by unfold rankR rankI; rw [if_pos HC0.out, hfo]; rfl⟩
      clear hfo
      go_wp2_with fail
      go_ret
      exact ⟨by rw [HR.out]; rfl, HB3.out⟩
    | true =>
      have HR : Hold (rankR f x = (spanF (asksF 6 f) x.fields).2) := ⟨by unfold rankR rankI; rw [if_pos HC0.out, if_pos hfo]⟩
      have HS := Hold.mk (HSPN.out w3 HB3.out HCF.out (formI_len hfo))
      obtain ⟨y0, y1, y2, y3, y4⟩ := cells_five HE3.out
      obtain ⟨x0, x1, x2⟩ := cells_three HE1.out
      obtain ⟨sr, hsr⟩ : ∃ sr, sr = spanF (asksF 6 f) x.fields := ⟨_, rfl⟩
      rw [← hsr] at HS HR
      clear hfo hsr
      go_wp2_with fail
      refine HS.out.mono ?_
      rintro e w4 ⟨fv, tv, rfl, hfr, htr, hb4⟩
      obtain ⟨⟨fl, tl⟩, r⟩ := sr
      simp only at hfr htr HR ⊢
      obtain ⟨fa, fcap, rfl, _⟩ := hfr.shape
      obtain ⟨ta, tcap, rfl, _⟩ := htr.shape
      have HB4 := Hold.mk ((HB3.out.trans (hb4.mono HB3.out.size)).alloc (by have := HB3.out.size; have := hb4.size; omega) (.cells #[.int .i64 0, .slice fa fl.length fcap, .slice ta tl.length tcap] 31))
      clear hfr htr hb4 y0 y1 y2 y3 y4 x0 x1 x2
      go_wp2_with fail
      go_ret
      exact ⟨by rw [HR.out]; rfl, HB4.out⟩
  · have hcb : (checkF f != 0) = true := by simpa using hc
    have HR : Hold (rankR f x = 0) := ⟨by unfold rankR; rw [if_neg hc]⟩
    clear hc
    go_enter Tryz.func15, Tryz.ntmps15
    go_upto_region 1 with (fail)
    rw [← hW0]
    clear hW0
    go_wp2_with fail
    refine HC.out.mono ?_
    rintro e w2 ⟨rfl, hb2⟩
    have HB2 := Hold.mk (HB.out.trans (hb2.mono HB.out.size))
    clear hb2 HC y0 y1 y2 y3 y4
    go_wp2_with fail
    go_ret
    exact ⟨by rw [HR.out]; rfl, HB2.out⟩

/-- what Make answers, plainly -/
def stI (b : BestS) : Int := match b.1 with
  | none => -1
  | some q => (q.1 : Int)
def stF (b : BestS) : List UInt8 := match b.1 with
  | none => []
  | some q => q.2.1
def stT (b : BestS) : List UInt8 := match b.1 with
  | none => []
  | some q => q.2.2
def MakePost (f : JV) (l : List IX) (w : World) (e : Ending) (w' : World) : Prop := ∃ fv tv, e = .returned (.tuple #[.agg #[.int .i64 (if makeE f l = 0 then stI (makeB f l) else 0), fv, tv], .int .i64 (makeE f l)]) ∧ BRow w.heap.size w' fv (if makeE f l = 0 then stF (makeB f l) else []) ∧ BRow w.heap.size w' tv (if makeE f l = 0 then stT (makeB f l) else []) ∧ Below w.heap.size w w'
/-- where Make stands -/
structure MkIn (w wr : World) (F : Array Value) (pb : Nat) (ix : Int) (fv tv : Value) (fl tl : List UInt8) : Prop where
  bel : Below w.heap.size w wr
  fb : wr.heap[w.heap.size]? = some (.cells F 25 (0, 0))
  rb : wr.heap[w.heap.size + 1]? = some (.cells #[.int .i64 0, .slice none 0 0, .slice none 0 0] 31 (0, 0))
  bb : wr.heap[pb]? = some (.cells #[.int .i64 ix, fv, tv] 31 (0, 0))
  fr : BRow w.heap.size wr fv fl
  tr : BRow w.heap.size wr tv tl
  lo : w.heap.size + 1 < pb
theorem MkIn.quiet {w wr w' : World} {F : Array Value} {pb : Nat} {ix : Int} {fv tv : Value} {fl tl : List UInt8} (h : MkIn w wr F pb ix fv tv fl tl) (k : Below wr.heap.size wr w') : MkIn w w' F pb ix fv tv fl tl :=
  ⟨h.bel.trans (k.mono h.bel.size), kept h.fb k, kept h.rb k, kept h.bb k, h.fr.quiet k, h.tr.quiet k, h.lo⟩
theorem MkIn.but {w wr w' : World} {F : Array Value} {pb ob : Nat} {ix : Int} {fv tv : Value} {fl tl : List UInt8} {cs : Array Value} (h : MkIn w wr F pb ix fv tv fl tl) (ho : wr.heap[ob]? = some (.cells cs 31 (0, 0))) (k : wr.grownBy w' (some ob)) (h1 : w.heap.size + 1 < ob) (h2 : pb ≠ ob) : MkIn w w' F pb ix fv tv fl tl :=
  ⟨h.bel.trans (grown_low k h.bel.size (by omega)), grown_block k h.fb (by omega), grown_block k h.rb (by omega), grown_block k h.bb h2, h.fr.but ho k, h.tr.but ho k, h.lo⟩
theorem MkIn.best {w wr w' : World} {F : Array Value} {pb : Nat} {ix jx : Int} {fv tv gv uv : Value} {fl tl gl ul : List UInt8} (h : MkIn w wr F pb ix fv tv fl tl) (k : wr.grownBy w' (some pb)) (hb : w'.heap[pb]? = some (.cells #[.int .i64 jx, gv, uv] 31 (0, 0))) (hg : BRow w.heap.size wr gv gl) (hu : BRow w.heap.size wr uv ul) : MkIn w w' F pb jx gv uv gl ul :=
  have := h.lo
  ⟨h.bel.trans (grown_low k h.bel.size (by omega)), grown_block k h.fb (by omega), grown_block k h.rb (by omega), hb, hg.but h.bb k, hu.but h.bb k, h.lo⟩
theorem MkIn.done {w wr : World} {F : Array Value} {pb : Nat} {ix jx : Int} {fv tv gv uv : Value} {fl tl gl ul : List UInt8} (h : MkIn w wr F pb ix fv tv fl tl) (hg : BRow w.heap.size wr gv gl) (hu : BRow w.heap.size wr uv ul) {W : World} (hW : W = ((wr.setCell ⟨w.heap.size + 1, 0, none⟩ (.int .i64 jx)).setCell ⟨w.heap.size + 1, 1, none⟩ gv).setCell ⟨w.heap.size + 1, 2, none⟩ uv) :
    W.heap[w.heap.size + 1]? = some (.cells #[.int .i64 jx, gv, uv] 31 (0, 0)) ∧ BRow w.heap.size W gv gl ∧ BRow w.heap.size W uv ul ∧ Below w.heap.size w W := by
  have hk : wr.grownBy W (some (w.heap.size + 1)) := by rw [hW]; exact grown_trans (grown_trans (grown_set _ _ _ _) (grown_set _ _ _ _)) (grown_set _ _ _ _)
  refine ⟨by rw [hW, setP (setP (setP h.rb))]; rfl, hg.but h.rb hk, hu.but h.rb hk, h.bel.trans (grown_low hk h.bel.size (by omega))⟩

set_option maxRecDepth 100000 in
set_option maxHeartbeats 16000000 in
theorem Make_any (f : JV) (fx : Value) (l : List IX) (lv : Value) (w : World) (hfx : JAt (cf w) f fx) (hl : SAt 3 RX (cf w) lv l) (hsm : ∀ x ∈ l, ∀ p ∈ x.fields, p.1.size ≤ 1000000) (hT : Tabs w) :
    Calls Tryz.prog 11 #[fx, lv] w (MakePost f l w) := by
  have HFX := Hold.mk hfx
  obtain ⟨k, n, t, nm, it, na, ncap, ia, icap, hfe, rfl, _⟩ := id hfx.open
  clear hfe
  obtain ⟨la, lcap, rfl, hle, hcap, hel⟩ := hl
  obtain ⟨W0, hW0⟩ : ∃ W0, W0 = (w.alloc (.cells #[.int .i64 k, .int .i64 n, .string t, .slice na nm.length ncap, .slice ia it.length icap] 25)).alloc (.cells #[.int .i64 0, .slice none 0 0, .slice none 0 0] 31) := ⟨_, rfl⟩
  have hb0 : Below w.heap.size w W0 := by rw [hW0]; exact ((Below.refl _ w).alloc (Nat.le_refl _) _).alloc (by simp) _
  have e1 : W0.heap[w.heap.size + 1]? = some (.cells #[.int .i64 0, .slice none 0 0, .slice none 0 0] 31 (0, 0)) := by
    rw [hW0]
    have := heap_alloc_new (w.alloc (.cells #[.int .i64 k, .int .i64 n, .string t, .slice na nm.length ncap, .slice ia it.length icap] 25)) (.cells #[.int .i64 0, .slice none 0 0, .slice none 0 0] 31)
    simpa using this
  have e3 : W0.heap[w.heap.size]? = some (.cells #[.int .i64 k, .int .i64 n, .string t, .slice na nm.length ncap, .slice ia it.length icap] 25 (0, 0)) := by
    rw [hW0]
    exact kept (heap_alloc_new w _) ((Below.refl _ _).alloc (Nat.le_refl _) _)
  have HB := Hold.mk hb0
  have HE1 := Hold.mk e1
  have HE3 := Hold.mk e3
  have HE := Hold.mk hel
  have HT := Hold.mk hT
  have HSM := Hold.mk hsm
  have HC := Hold.mk (Check_any f _ W0 (HFX.out.mono (cle_below hb0)) (hT.below hb0))
  have HFI := Hold.mk (fun w' (hb : Below w.heap.size w w') (x : IX) (v : Value) (hm : x ∈ l) (hi : IAt (cf w) x v) => FormedI_any x v w' (hi.mono (cle_below hb)) (HSM.out x hm) (HT.out.below hb))
  have HSPN := Hold.mk (fun w' (hb : Below w.heap.size w w') (x : IX) (v : Value) (hm : x ∈ l) (hi : IAt (cf w) x v) (h1 : formedF 6 f = true) (h2 : x.fields.length ≤ 100) => span_any f _ x v w' h1 (HFX.out.mono (cle_below hb)) (hi.mono (cle_below hb)) h2 (HSM.out x hm) (HT.out.below hb))
  obtain ⟨y0, y1, y2, y3, y4⟩ := cells_five e3
  clear hfx hb0 hT hsm e1 e3 hel
  by_cases hc : checkF f = 0
  case neg =>
    have hcb : (checkF f != 0) = true := by simpa using hc
    have HME : Hold (makeE f l = checkF f) := ⟨by unfold makeE; rw [if_neg hc]⟩
    have HNE := Hold.mk hc
    clear hc
    go_enter Tryz.func11, Tryz.ntmps11
    go_upto_region 1 with (fail)
    rw [← hW0]
    clear hW0
    go_wp2_with fail
    refine HC.out.mono ?_
    rintro e w2 ⟨rfl, hb2⟩
    have HB2 := Hold.mk (HB.out.trans (hb2.mono HB.out.size))
    have HRR := Hold.mk (kept HE1.out hb2)
    obtain ⟨r0, r1, r2⟩ := cells_three HRR.out
    have f0 := free_box HRR.out 0
    have f1 := free_box HRR.out 1
    have f2 := free_box HRR.out 2
    clear hb2 HC y0 y1 y2 y3 y4
    go_wp2_with fail
    obtain ⟨W, hW⟩ : ∃ W, W = ((w2.setCell ⟨w.heap.size + 1, 0, none⟩ (.int .i64 0)).setCell ⟨w.heap.size + 1, 1, none⟩ (.slice none 0 0)).setCell ⟨w.heap.size + 1, 2, none⟩ (.slice none 0 0) := ⟨_, rfl⟩
    rw [← hW]
    have hbw : Below w.heap.size w W := by
      rw [hW]
      exact ((HB2.out.setCell (p := ⟨w.heap.size + 1, 0, none⟩) (by simp) _).setCell (p := ⟨w.heap.size + 1, 1, none⟩) (by simp) _).setCell (p := ⟨w.heap.size + 1, 2, none⟩) (by simp) _
    have hbk : W.heap[w.heap.size + 1]? = some (.cells #[.int .i64 0, .slice none 0 0, .slice none 0 0] 31 (0, 0)) := by
      rw [hW, setP (setP (setP HRR.out))]; rfl
    obtain ⟨c0, c1, c2⟩ := cells_three hbk
    refine bodyPost_ret (v := .tuple #[.agg #[.int .i64 0, .slice none 0 0, .slice none 0 0], .int .i64 (checkF f)]) (by simp [results, Tryz.results11, go_sem, c0, c1, c2]) rfl ?_
    unfold MakePost
    rw [HME.out, if_neg HNE.out, if_neg HNE.out, if_neg HNE.out]
    exact ⟨_, _, rfl, ⟨World.ownsRow_nil _ _ _ _, hbw.size⟩, ⟨World.ownsRow_nil _ _ _ _, hbw.size⟩, hbw⟩
  have HCF := Hold.mk (check_formed hc)
  have HC0 := Hold.mk hc
  rw [hc] at HC
  clear hc
  go_enter Tryz.func11, Tryz.ntmps11
  go_upto_region 1 with (fail)
  rw [← hW0]
  clear hW0
  go_wp2_with fail
  refine HC.out.mono ?_
  rintro e w2 ⟨rfl, hb2⟩
  have HB2 := Hold.mk (HB.out.trans (hb2.mono HB.out.size))
  obtain ⟨W3, hW3⟩ : ∃ W3, W3 = w2.alloc (.cells #[.int .i64 (-1), .slice none 0 0, .slice none 0 0] 31) := ⟨_, rfl⟩
  have hb3 : Below w2.heap.size w2 W3 := by rw [hW3]; exact (Below.refl _ w2).alloc (Nat.le_refl _) _
  obtain ⟨Lk, hLk⟩ : ∃ Lk, Lk = asksF 6 f := ⟨_, rfl⟩
  have HIN0 : Hold (MkIn w W3 #[.int .i64 k, .int .i64 n, .string t, .slice na nm.length ncap, .slice ia it.length icap] w2.heap.size (stI (none, 0)) (.slice none 0 0) (.slice none 0 0) (stF (none, 0)) (stT (none, 0))) := ⟨⟨HB2.out.trans (hb3.mono HB2.out.size), kept (kept HE3.out hb2) hb3, kept (kept HE1.out hb2) hb3, by rw [hW3]; exact heap_alloc_new w2 _, ⟨World.ownsRow_nil _ _ _ _, by have := HB2.out.size; have := hb3.size; omega⟩, ⟨World.ownsRow_nil _ _ _ _, by have := HB2.out.size; have := hb3.size; omega⟩, heap_lt (kept HE1.out hb2)⟩⟩
  have HMB : Hold (makeB f l = bestM Lk 0 (l.drop 0) (none, 0)) := ⟨by rw [hLk]; rfl⟩
  have HLK := Hold.mk hLk
  clear hb2 hb3 HC y0 y1 y2 y3 y4 HE1 HE3 hLk
  go_upto_region 5 with (fail)
  rw [← hW3]
  clear hW3
  generalize w2.heap.size = pb at *
  go_wp2_with fail
  go_loopw [8, 22] (fun mv i wr => ∃ (j : Nat) (st : BestS) (fv tv : Value), i = .int .i64 j ∧ mv = .int .i64 (st.2 : Int) ∧ j ≤ l.length ∧ (∀ (q : Nat) x, q < j → l[q]? = some x → formI x = true) ∧ makeB f l = bestM Lk j (l.drop j) st ∧ MkIn w wr #[.int .i64 k, .int .i64 n, .string t, .slice na nm.length ncap, .slice ia it.length icap] pb (stI st) fv tv (stF st) (stT st)) (fun _ i _ => l.length - (intOf i).toNat)
  case atStart => exact ⟨0, (none, 0), _, _, rfl, rfl, Nat.zero_le _, fun _ _ h => by omega, HMB.out, HIN0.out⟩
  case round =>
    obtain ⟨j, st, fv, tv, rfl, rfl, hj, hall, hmb, hin⟩ := hrel
    obtain ⟨fl, hfl⟩ : ∃ fl, fl = stF st := ⟨_, rfl⟩
    obtain ⟨tl, htl⟩ : ∃ tl, tl = stT st := ⟨_, rfl⟩
    obtain ⟨ix, hix⟩ : ∃ ix, ix = stI st := ⟨_, rfl⟩
    rw [← hfl, ← htl, ← hix] at hin
    obtain ⟨fa, fcap, rfl, _⟩ := hin.fr.shape
    obtain ⟨ta, tcap, rfl, _⟩ := hin.tr.shape
    have HIN := Hold.mk hin
    have HALL := Hold.mk hall
    have HST := Hold.mk hmb
    have HSV := Hold.mk (And.intro hfl (And.intro htl hix))
    clear hin hall hmb HIN0 HMB hfl htl hix
    by_cases hlt : j < l.length
    · obtain ⟨x, hx⟩ : ∃ x, l[j]? = some x := ⟨l[j], List.getElem?_eq_getElem hlt⟩
      obtain ⟨b, off, d, rfl, hd, hcc, hxi⟩ := HE.out j x hx
      obtain ⟨xa, xcap, rfl⟩ := hxi.open
      have hcl := cle_below HIN.out.bel
      have z0 := hcl _ _ _ (hcc 0 _ rfl)
      have z1 := hcl _ _ _ (hcc 1 _ rfl)
      have z2 := hcl _ _ _ (hcc 2 _ rfl)
      unfold cf at z0 z1 z2
      rw [Nat.add_zero] at z0
      have HXI : Hold (IAt (cf w) x (.agg #[.string x.name, .slice xa x.fields.length xcap, .bool x.uniq])) := ⟨hxi⟩
      have HXM := Hold.mk (List.mem_of_getElem? hx)
      have HXE := Hold.mk hx
      have HSTP := Hold.mk (HST.out.trans (bestM_step hx st))
      obtain ⟨W4, hW4⟩ : ∃ W4, W4 = wr.alloc (.cells #[.string x.name, .slice xa x.fields.length xcap, .bool x.uniq] 44) := ⟨_, rfl⟩
      have hb4 : Below wr.heap.size wr W4 := by rw [hW4]; exact (Below.refl _ wr).alloc (Nat.le_refl _) _
      have HK4 : Hold (W4.heap[wr.heap.size]? = some (.cells #[.string x.name, .slice xa x.fields.length xcap, .bool x.uniq] 44 (0, 0))) := ⟨by rw [hW4]; exact heap_alloc_new wr _⟩
      replace HIN := Hold.mk (HIN.out.quiet hb4)
      clear hx hd hcc hxi hcl hb4
      go_upto_region 8 with (fail)
      rw [← hW4]
      clear hW4 z0 z1 z2
      obtain ⟨x0, x1, x2⟩ := cells_three HK4.out
      go_wp2_with fail
      refine (HFI.out _ HIN.out.bel x _ HXM.out HXI.out).mono ?_
      rintro e w5 ⟨rfl, hb5⟩
      replace HIN := Hold.mk (HIN.out.quiet hb5)
      replace HK4 := Hold.mk (kept HK4.out hb5)
      clear hb5 x0 x1 x2
      cases hfo : formI x with
      | false =>
        have HME : Hold (makeE f l = 2) := ⟨by
          unfold makeE
          rw [if_pos HC0.out, if_neg]
          intro h
          have := List.all_eq_true.1 h x HXM.out
          rw [hfo] at this; cases this⟩
        obtain ⟨r0, r1, r2⟩ := cells_three HIN.out.rb
        have f0 := free_box HIN.out.rb 0
        have f1 := free_box HIN.out.rb 1
        have f2 := free_box HIN.out.rb 2
        clear hfo
        go_wp2_with fail
        obtain ⟨W, hW⟩ : ∃ W, W = ((w5.setCell ⟨w.heap.size + 1, 0, none⟩ (.int .i64 0)).setCell ⟨w.heap.size + 1, 1, none⟩ (.slice none 0 0)).setCell ⟨w.heap.size + 1, 2, none⟩ (.slice none 0 0) := ⟨_, rfl⟩
        rw [← hW]
        have hn : BRow w.heap.size w5 (.slice none 0 0) [] := ⟨World.ownsRow_nil _ _ _ _, HIN.out.bel.size⟩
        obtain ⟨hbk, h1, h2, hbw⟩ := HIN.out.done hn hn hW
        clear hW r0 r1 r2 f0 f1 f2
        obtain ⟨c0, c1, c2⟩ := cells_three hbk
        refine bodyPost_ret (v := .tuple #[.agg #[.int .i64 0, .slice none 0 0, .slice none 0 0], .int .i64 2]) (by simp [results, Tryz.results11, go_sem, c0, c1, c2]) rfl ?_
        unfold MakePost
        rw [HME.out]
        exact ⟨_, _, rfl, h1, h2, hbw⟩
      | true =>
        have HA2 : Hold (∀ (q : Nat) x, q < j + 1 → l[q]? = some x → formI x = true) := ⟨fun q y hq hy => by
          by_cases e : q = j
          · subst e; rw [HXE.out] at hy; cases hy; exact hfo
          · exact HALL.out q y (by omega) hy⟩
        have HS := Hold.mk (HSPN.out w5 HIN.out.bel x _ HXM.out HXI.out HCF.out (formI_len hfo))
        rw [← HLK.out] at HS
        obtain ⟨sr, hsr⟩ : ∃ sr, sr = spanF Lk x.fields := ⟨_, rfl⟩
        rw [← hsr] at HS
        have HSR := Hold.mk hsr
        obtain ⟨y0, y1, y2, y3, y4⟩ := cells_five HIN.out.fb
        obtain ⟨x0, x1, x2⟩ := cells_three HK4.out
        clear hfo HALL hsr
        go_wp2_with fail
        refine HS.out.mono ?_
        rintro e w6 ⟨gv, uv, rfl, hgr, hur, hb6⟩
        obtain ⟨⟨gl, ul⟩, r⟩ := sr
        simp only at hgr hur ⊢
        obtain ⟨ga, gcap, rfl, _⟩ := hgr.shape
        obtain ⟨ua, ucap, rfl, _⟩ := hur.shape
        obtain ⟨W7, hW7⟩ : ∃ W7, W7 = w6.alloc (.cells #[.int .i64 0, .slice ga gl.length gcap, .slice ua ul.length ucap] 31) := ⟨_, rfl⟩
        have hb7 : Below w6.heap.size w6 W7 := by rw [hW7]; exact (Below.refl _ w6).alloc (Nat.le_refl _) _
        have HOB : Hold (W7.heap[w6.heap.size]? = some (.cells #[.int .i64 0, .slice ga gl.length gcap, .slice ua ul.length ucap] 31 (0, 0))) := ⟨by rw [hW7]; exact heap_alloc_new w6 _⟩
        have HGR := Hold.mk ((hgr.quiet hb7).bel HIN.out.bel.size)
        have HUR := Hold.mk ((hur.quiet hb7).bel HIN.out.bel.size)
        have HPB : Hold (pb < w6.heap.size) := ⟨by have := heap_lt HIN.out.bb; have := hb6.size; omega⟩
        replace HIN := Hold.mk ((HIN.out.quiet hb6).quiet hb7)
        clear hgr hur hb6 hb7 HS y0 y1 y2 y3 y4 x0 x1 x2 HK4
        go_upto_region 11 with (fail)
        rw [← hW7]
        clear hW7
        generalize w6.heap.size = ob at *
        have hsr2 := HSR.out
        by_cases hm : st.2 < r
        · have hmb : (st.2 : Int) < (r : Int) := by omega
          have HNX : Hold (stepM Lk j x st = (some (j, (gl, ul)), r)) := ⟨by
            unfold stepM
            rw [← HSR.out, if_pos hm]⟩
          obtain ⟨c0, c1, c2⟩ := cells_three HOB.out
          have fo0 := free_box HOB.out 0
          obtain ⟨W8, hW8⟩ : ∃ W8, W8 = W7.setCell ⟨ob, 0, none⟩ (.int .i64 j) := ⟨_, rfl⟩
          have HO8 : Hold (W8.heap[ob]? = some (.cells #[.int .i64 j, .slice ga gl.length gcap, .slice ua ul.length ucap] 31 (0, 0))) := ⟨by
            rw [hW8]
            have := set_self (o := 0) (c := .int .i64 (j : Int)) HOB.out
            simpa using this⟩
          have hg8 : W7.grownBy W8 (some ob) := by rw [hW8]; exact grown_set _ _ _ _
          have HI8 := Hold.mk (HIN.out.but HOB.out hg8 (by have := HIN.out.lo; have := HPB.out; omega) (by have := HPB.out; omega))
          have HG8 := Hold.mk (HGR.out.but HOB.out hg8)
          have HU8 := Hold.mk (HUR.out.but HOB.out hg8)
          clear hm hsr2 hg8
          go_upto_region 13 with (fail)
          rw [← hW8]
          clear hW8 c0 c1 c2 fo0
          obtain ⟨c0, c1, c2⟩ := cells_three HO8.out
          obtain ⟨b0, b1, b2⟩ := cells_three HI8.out.bb
          have f0 := free_box HI8.out.bb 0
          have f1 := free_box HI8.out.bb 1
          have f2 := free_box HI8.out.bb 2
          obtain ⟨W9, hW9⟩ : ∃ W9, W9 = ((W8.setCell ⟨pb, 0, none⟩ (.int .i64 j)).setCell ⟨pb, 1, none⟩ (.slice ga gl.length gcap)).setCell ⟨pb, 2, none⟩ (.slice ua ul.length ucap) := ⟨_, rfl⟩
          have hk9 : W8.grownBy W9 (some pb) := by rw [hW9]; exact grown_trans (grown_trans (grown_set _ _ _ _) (grown_set _ _ _ _)) (grown_set _ _ _ _)
          have hb9 : W9.heap[pb]? = some (.cells #[.int .i64 j, .slice ga gl.length gcap, .slice ua ul.length ucap] 31 (0, 0)) := by rw [hW9, setP (setP (setP HI8.out.bb))]; rfl
          have HI9 := Hold.mk (HI8.out.best hk9 hb9 HG8.out HU8.out)
          clear hk9 hb9
          go_upto_region 14 with (fail)
          rw [← hW9]
          clear hW9 c0 c1 c2 b0 b1 b2 f0 f1 f2
          go_wp2_with fail
          refine ⟨⟨j + 1, (some (j, (gl, ul)), r), _, _, by go_num, rfl, hlt, HA2.out, ?_, HI9.out⟩, by simp [intOf]; omega⟩
          rw [HSTP.out, HNX.out]
        · have hmb : ¬ (st.2 : Int) < (r : Int) := by omega
          have HNX : Hold (stepM Lk j x st = st) := ⟨by
            unfold stepM
            rw [← HSR.out, if_neg hm]⟩
          clear hm hsr2
          go_wp2_with fail
          refine ⟨⟨j + 1, st, .slice fa fl.length fcap, .slice ta tl.length tcap, by go_num, rfl, hlt, HA2.out, by rw [HSTP.out, HNX.out], ?_⟩, by simp [intOf]; omega⟩
          rw [← HSV.out.1, ← HSV.out.2.1, ← HSV.out.2.2]
          exact HIN.out
    · obtain rfl : j = l.length := by omega
      have HME : Hold (makeE f l = 0) := ⟨by
        unfold makeE
        rw [if_pos HC0.out, if_pos]
        rw [List.all_eq_true]
        intro x hx
        obtain ⟨q, hq, e⟩ := List.getElem_of_mem hx
        exact HALL.out q x hq (by rw [← e]; exact List.getElem?_eq_getElem hq)⟩
      have HMF : Hold (makeB f l = st) := ⟨by rw [HST.out, List.drop_length, bestM]⟩
      obtain ⟨b0, b1, b2⟩ := cells_three HIN.out.bb
      obtain ⟨r0, r1, r2⟩ := cells_three HIN.out.rb
      have f0 := free_box HIN.out.rb 0
      have f1 := free_box HIN.out.rb 1
      have f2 := free_box HIN.out.rb 2
      go_wp2_with fail
      obtain ⟨W, hW⟩ : ∃ W, W = ((wr.setCell ⟨w.heap.size + 1, 0, none⟩ (.int .i64 ix)).setCell ⟨w.heap.size + 1, 1, none⟩ (.slice fa fl.length fcap)).setCell ⟨w.heap.size + 1, 2, none⟩ (.slice ta tl.length tcap) := ⟨_, rfl⟩
      rw [← hW]
      obtain ⟨hbk, h1, h2, hbw⟩ := HIN.out.done HIN.out.fr HIN.out.tr hW
      clear hW b0 b1 b2 r0 r1 r2 f0 f1 f2
      obtain ⟨c0, c1, c2⟩ := cells_three hbk
      refine bodyPost_ret (v := .tuple #[.agg #[.int .i64 ix, .slice fa fl.length fcap, .slice ta tl.length tcap], .int .i64 0]) (by simp [results, Tryz.results11, go_sem, c0, c1, c2]) rfl ?_
      unfold MakePost
      rw [HME.out, if_pos rfl, if_pos rfl, if_pos rfl, HMF.out, ← HSV.out.1, ← HSV.out.2.1, ← HSV.out.2.2]
      exact ⟨_, _, rfl, h1, h2, hbw⟩

end Go.Proofs.YtcmfanfkcbjeoaaGreatDoor
