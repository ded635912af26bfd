import Derived.Test.YtafilaiinbggoaaGreatQS36
namespace Go.Proofs.YtafilaiinbggoaaGreat
open Go.RowKit Go.Maps
def RE (c : CF) : Rep (Bts × Bts) := fun _ e d => ∃ kv vv, d = [kv, vv] /\ YAt c kv e.1 /\ YAt c vv e.2
theorem RE_mono (c : CF) : Mono (RE c) := fun _ _ _ _ _ h => h
theorem RE_le {c c' : CF} (hc : CLe c c') : ∀ (m : CF) (x : Bts × Bts) (d : List Value), RE c m x d -> RE c' m x d := fun _ _ _ ⟨kv, vv, e, h1, h2⟩ => ⟨kv, vv, e, h1.mono RY_mono hc, h2.mono RY_mono hc⟩
structure SpanB (w : World) (sb pb : Nat) (f t : Bts) (fv tv fn : Value) (back : Bool) : Prop where
 box : w.heap[sb]? = some (.cells #[.pointer (some ⟨pb, 0, none⟩), fv, tv, .bool back, fn] 153 (0, 0))
 from_ : YAt (cf w) fv f
 to_ : YAt (cf w) tv t
theorem SpanB.below {w w' : World} {sb pb : Nat} {f t : Bts} {fv tv fn : Value} {back : Bool} (h : SpanB w sb pb f t fv tv fn back) (hb : Below w.heap.size w w') : SpanB w' sb pb f t fv tv fn back := ⟨kept h.box hb, h.from_.mono RY_mono (cle_below hb), h.to_.mono RY_mono (cle_below hb)⟩
theorem SpanB.turn {X X' : BS} {w w' : World} {sb pb : Nat} {f t : Bts} {fv tv fn : Value} {back : Bool} (h : SpanB w sb pb f t fv tv fn back) (hX : ¬ X sb) (hT : TurnS X w X' w') (hf : YAt (cf w') fv f) (ht : YAt (cf w') tv t) : SpanB w' sb pb f t fv tv fn back := ⟨(hT.kept h.box hX).1, hf, ht⟩
def cfL (A : Nat) (w : World) : CF := fun b o => if b < A then w.cell? ⟨b, o, none⟩ else cfU w b o
theorem cfL_cf (A : Nat) (w : World) : CLe (cfL A w) (cf w) := fun b o u h => by
 unfold cfL at h
 split at h
 ·exact h
 ·exact cfU_cf w b o u h
theorem cfU_cfL (A : Nat) (w : World) : CLe (cfU w) (cfL A w) := fun b o u h => by
 unfold cfL
 split
 ·exact cfU_cf w b o u h
 ·exact h
theorem cfL_below {A : Nat} {w w' : World} (hb : Below w.heap.size w w') : CLe (cfL A w) (cfL A w') := fun b o u h => by
 unfold cfL at h |-
 split at h
 ·rename_i e
  rw [if_pos e]
  exact cle_below hb b o u h
 ·rename_i e
  rw [if_neg e]
  exact cfU_below hb b o u h
theorem cfL_turn {A : Nat} {X X' : BS} {w w' : World} (hT : TurnS X w X' w') (hA : ∀ b, X b -> A <= b) (hn : ∀ b, X b -> ¬ IsU w b) : CLe (cfL A w) (cfL A w') := fun b o u h => by
 unfold cfL at h |-
 split at h
 ·rename_i e
  rw [if_pos e, World.cell?_of_block (w := w) (hT.out b (lt_of_cell h) (fun x => by have := hA b x; omega)).1]
  exact h
 ·rename_i e
  rw [if_neg e]
  exact cfU_turn hT hn b o u h
theorem cfL_grown {A : Nat} {w w' : World} {r : Option Nat} (hg : w.grownBy w' r) (hr : ∀ b, r = some b -> A <= b /\ ¬ IsU w b) : CLe (cfL A w) (cfL A w') := fun b o u h => by
 unfold cfL at h |-
 split at h
 ·rename_i e
  rw [if_pos e, World.cell?_of_block (w := w) (hg.block b (lt_of_cell h) (fun x => by have := (hr b x.symm).1; omega))]
  exact h
 ·rename_i e
  rw [if_neg e]
  exact cfU_grown hg (fun b x => (hr b x).2) b o u h
theorem TurnS.above {A : Nat} {X X' : BS} {w w' : World} (hT : TurnS X w X' w') (hA : ∀ b, X b -> A <= b) (hw : A <= w.heap.size) : ∀ b, X' b -> A <= b := fun b hb => by
 by_cases e : b < w.heap.size
 ·by_cases x : X b
  ·exact hA b x
  ·exact absurd hb (hT.out b e x).2
 ·omega
theorem SpanB.cells {w : World} {sb pb : Nat} {f t : Bts} {fv tv fn : Value} {back : Bool} (h : SpanB w sb pb f t fv tv fn back) : w.cell? ⟨sb, 0, none⟩ = some (.pointer (some ⟨pb, 0, none⟩)) /\ w.cell? ⟨sb, 1, none⟩ = some fv /\ w.cell? ⟨sb, 2, none⟩ = some tv /\ w.cell? ⟨sb, 3, none⟩ = some (.bool back) /\ w.cell? ⟨sb, 4, none⟩ = some fn := by
 have := h.box
 refine ⟨?_, ?_, ?_, ?_, ?_⟩ <;> simp [World.cell?, this]
set_option maxHeartbeats 4000000 in
set_option maxRecDepth 100000 in
theorem span_holds {w : World} {sb pb : Nat} {f t k : Bts} {fv tv fn kv : Value} {back : Bool} (h : SpanB w sb pb f t fv tv fn back) (hk : YAt (cfU w) kv k) :
  Calls Tryz.prog 118 #[.pointer (some ⟨sb, 0, none⟩), kv] w fun e w' => e = .returned (.bool (inR f t k)) /\ w' = w := by
 obtain ⟨fa, fc, rfl⟩ := h.from_.form
 obtain ⟨ta, tc, rfl⟩ := h.to_.form
 obtain ⟨ka, kc, rfl⟩ := hk.form
 obtain ⟨fl, hfl⟩ : ∃ x, x = f.length := ⟨_, rfl⟩
 obtain ⟨tl, htl⟩ : ∃ x, x = t.length := ⟨_, rfl⟩
 obtain ⟨kl, hkl⟩ : ∃ x, x = k.length := ⟨_, rfl⟩
 have C1 := CompareB_any k f (.slice ka k.length kc) (.slice fa f.length fc) w (ybytes hk) (YAt.bytes h.from_)
 have C2 := CompareB_any k t (.slice ka k.length kc) (.slice ta t.length tc) w (ybytes hk) (YAt.bytes h.to_)
 obtain ⟨_, x1, x2, _, _⟩ := h.cells
 obtain ⟨z1, hz1⟩ : ∃ z, z = lexC k f := ⟨_, rfl⟩
 obtain ⟨z2, hz2⟩ : ∃ z, z = lexC k t := ⟨_, rfl⟩
 rw [<- hfl] at x1 C1
 rw [<- htl] at x2 C2
 rw [<- hkl, <- hz1] at C1
 rw [<- hkl, <- hz2] at C2
 rw [<- hkl]
 have HC1 := HoldT.mk C1
 have HC2 := HoldT.mk C2
 have hR : inR f t k = (!decide (z1 < 0) && (decide (tl = 0) || decide (z2 < 0))) := by
  unfold inR ltB
  rw [<- hz1, <- hz2, htl]
  congr 2
  by_cases e : t = []
  ·simp [e]
  ·simp [e]
 rw [hR]
 clear h hk C1 C2 hfl htl hkl hz1 hz2 hR
 by_cases h1 : z1 < 0
 ·have h1' : ¬ (0 <= z1) := by omega
  go_enter Tryz.func118, Tryz.ntmps118
  go_wp2_with (go_at_call 60; refine HC1.out.mono ?_; rintro e w' ⟨rfl, rfl⟩)
  go_ret
  exact ⟨by simp, rfl⟩
 ·have h1' : 0 <= z1 := by omega
  by_cases h2 : tl = 0
  ·have h2' : (tl : Int) = 0 := by omega
   go_enter Tryz.func118, Tryz.ntmps118
   go_wp2_with (go_at_call 60; refine HC1.out.mono ?_; rintro e w' ⟨rfl, rfl⟩)
   go_ret
   exact ⟨by simp [h1, h2], rfl⟩
  ·have h2' : ¬ (tl : Int) = 0 := by omega
   by_cases h3 : z2 < 0
   ·go_enter Tryz.func118, Tryz.ntmps118
    go_wp2_with fail
    refine HC1.out.mono ?_
    rintro e w' ⟨rfl, rfl⟩
    go_wp2_with fail
    refine HC2.out.mono ?_
    rintro e w' ⟨rfl, rfl⟩
    go_wp2_with fail
    go_ret
    exact ⟨by simp [h1, h2, h3], rfl⟩
   ·go_enter Tryz.func118, Tryz.ntmps118
    go_wp2_with fail
    refine HC1.out.mono ?_
    rintro e w' ⟨rfl, rfl⟩
    go_wp2_with fail
    refine HC2.out.mono ?_
    rintro e w' ⟨rfl, rfl⟩
    go_wp2_with fail
    go_ret
    exact ⟨by rw [decide_eq_false h2, decide_eq_false (show ¬ z2 < 0 by omega), show ((tl : Int) == 0) = false from beq_false_of_ne h2']; simp; try omega, rfl⟩
def BndAt (c : CF) (v : Value) (o : Option Bts) : Prop := match o with
 | none => v = .slice none 0 0
 | some k => YAt c v k /\ 1 <= k.length
theorem BndAt.mono {c c' : CF} {v : Value} {o : Option Bts} (h : BndAt c v o) (hc : CLe c c') : BndAt c' v o := by
 cases o with
 | none => exact h
 | some k => exact ⟨h.1.mono RY_mono hc, h.2⟩
theorem YAt.some_addr {c : CF} {v : Value} {k : Bts} (h : YAt c v k) (h1 : 1 <= k.length) : ∃ b off cap, v = .slice (some ⟨b, off, none⟩) k.length cap := by
 obtain ⟨b, off, cap, _, e, _⟩ := sat_cells RY_one h h1
 exact ⟨b, off, cap, e⟩
set_option maxHeartbeats 4000000 in
set_option maxRecDepth 100000 in
theorem span_meets {w : World} {sb pb : Nat} {f t : Bts} {fv tv fn lv hv : Value} {back : Bool} {lo hi : Option Bts} (h : SpanB w sb pb f t fv tv fn back) (hl : BndAt (cfU w) lv lo) (hh : BndAt (cfU w) hv hi) :
  Calls Tryz.prog 119 #[.pointer (some ⟨sb, 0, none⟩), lv, hv] w fun e w' => e = .returned (.bool (meetsB f t lo hi)) /\ w' = w := by
 obtain ⟨fa, fc, rfl⟩ := h.from_.form
 obtain ⟨ta, tc, rfl⟩ := h.to_.form
 obtain ⟨fl, hfl⟩ : ∃ x, x = f.length := ⟨_, rfl⟩
 obtain ⟨tl, htl⟩ : ∃ x, x = t.length := ⟨_, rfl⟩
 have q22 : ∀ (w : World) (a : Option Addr) (n c n' c' : Nat), (binOp .eql 23 (.slice a n c) (.slice none n' c')).run Tryz.prog w = .ok (.bool a.isNone) w := fun w a n c n' c' => Lib.run_eql_slice_nil w _ _ a n c n' c' Tryz.underlying23
 obtain ⟨_, x1, x2, _, _⟩ := h.cells
 rw [<- hfl] at x1
 rw [<- htl] at x2
 have htl0 : decide (t = []) = decide (tl = 0) := by
  rw [htl]
  by_cases e : t = []
  ·simp [e]
  ·simp [e]
 have HC1 : HoldT (∀ c, hi = some c -> ∃ b off cap, hv = .slice (some ⟨b, off, none⟩) c.length cap /\ Calls Tryz.prog 60 #[.slice (some ⟨b, off, none⟩) c.length cap, .slice fa fl fc] w (fun e w' => e = .returned (.int .i64 (lexC c f)) /\ w' = w)) := ⟨fun c e => by
  subst e
  obtain ⟨b, off, cap, e⟩ := hh.1.some_addr hh.2
  refine ⟨b, off, cap, e, ?_⟩
  have h1 := hh.1
  rw [e] at h1
  rw [hfl]
  exact CompareB_any c f _ _ w (ybytes h1) (YAt.bytes h.from_)⟩
 have HC2 : HoldT (∀ a, lo = some a -> ∃ b off cap, lv = .slice (some ⟨b, off, none⟩) a.length cap /\ Calls Tryz.prog 60 #[.slice (some ⟨b, off, none⟩) a.length cap, .slice ta tl tc] w (fun e w' => e = .returned (.int .i64 (lexC a t)) /\ w' = w)) := ⟨fun a e => by
  subst e
  obtain ⟨b, off, cap, e⟩ := hl.1.some_addr hl.2
  refine ⟨b, off, cap, e, ?_⟩
  have h1 := hl.1
  rw [e] at h1
  rw [htl]
  exact CompareB_any a t _ _ w (ybytes h1) (YAt.bytes h.to_)⟩
 have hN1 : hi = none -> hv = .slice none 0 0 := fun e => by subst e; exact hh
 have hN2 : lo = none -> lv = .slice none 0 0 := fun e => by subst e; exact hl
 clear h hl hh hfl htl
 unfold meetsB
 cases hi with
 | none =>
  obtain rfl := hN1 rfl
  cases lo with
  | none =>
   obtain rfl := hN2 rfl
   go_enter Tryz.func119, Tryz.ntmps119
   go_wp2_with fail
   go_ret
   exact ⟨by simp [], rfl⟩
  | some a =>
   obtain ⟨lb, lo2, lc, rfl, C2⟩ := HC2.out a rfl
   obtain ⟨z2, hz2⟩ : ∃ z, z = lexC a t := ⟨_, rfl⟩
   obtain ⟨al, hal⟩ : ∃ x, x = a.length := ⟨_, rfl⟩
   rw [<- hz2, <- hal] at C2
   rw [<- hal]
   have C2 := HoldT.mk C2
   have hl2 : ltB a t = decide (z2 < 0) := by unfold ltB; rw [hz2]
   have HL2 := HoldT.mk (And.intro hl2 htl0)
   clear hz2 hal hl2 htl0
   by_cases ht0 : tl = 0
   ·have ht0' : (tl : Int) = 0 := by omega
    go_enter Tryz.func119, Tryz.ntmps119
    go_wp2_with fail
    go_ret
    exact ⟨by simp [HL2.out.2, ht0], rfl⟩
   ·have ht0' : ¬ (tl : Int) = 0 := by omega
    by_cases h2 : z2 < 0
    ·go_enter Tryz.func119, Tryz.ntmps119
     go_wp2_with fail
     refine C2.out.mono ?_
     rintro e w' ⟨rfl, rfl⟩
     go_wp2_with fail
     go_ret
     exact ⟨by simp [HL2.out.1, HL2.out.2, ht0, h2], rfl⟩
    ·go_enter Tryz.func119, Tryz.ntmps119
     go_wp2_with fail
     refine C2.out.mono ?_
     rintro e w' ⟨rfl, rfl⟩
     go_wp2_with fail
     go_ret
     exact ⟨by simp [HL2.out.1, HL2.out.2, ht0], rfl⟩
 | some c =>
  obtain ⟨hb, ho, hc, rfl, C1⟩ := HC1.out c rfl
  obtain ⟨z1, hz1⟩ : ∃ z, z = lexC c f := ⟨_, rfl⟩
  obtain ⟨cl, hcl⟩ : ∃ x, x = c.length := ⟨_, rfl⟩
  rw [<- hz1, <- hcl] at C1
  rw [<- hcl]
  have C1 := HoldT.mk C1
  have hl1 : ltB f c = decide (0 < z1) := by unfold ltB; rw [lexC_flip c f, <- hz1]; congr 1; exact propext ⟨fun _ => by omega, fun _ => by omega⟩
  have HL1 := HoldT.mk hl1
  clear hz1 hcl hl1
  by_cases h1 : 0 < z1
  ·cases lo with
   | none =>
    obtain rfl := hN2 rfl
    go_enter Tryz.func119, Tryz.ntmps119
    go_wp2_with fail
    refine C1.out.mono ?_
    rintro e w' ⟨rfl, rfl⟩
    go_wp2_with fail
    go_ret
    exact ⟨by simp [HL1.out, h1], rfl⟩
   | some a =>
    obtain ⟨lb, lo2, lc, rfl, C2⟩ := HC2.out a rfl
    obtain ⟨z2, hz2⟩ : ∃ z, z = lexC a t := ⟨_, rfl⟩
    obtain ⟨al, hal⟩ : ∃ x, x = a.length := ⟨_, rfl⟩
    rw [<- hz2, <- hal] at C2
    rw [<- hal]
    have C2 := HoldT.mk C2
    have hl2 : ltB a t = decide (z2 < 0) := by unfold ltB; rw [hz2]
    have HL2 := HoldT.mk (And.intro hl2 htl0)
    clear hz2 hal hl2 htl0
    by_cases ht0 : tl = 0
    ·have ht0' : (tl : Int) = 0 := by omega
     go_enter Tryz.func119, Tryz.ntmps119
     go_wp2_with fail
     refine C1.out.mono ?_
     rintro e w' ⟨rfl, rfl⟩
     go_wp2_with fail
     go_ret
     exact ⟨by simp [HL1.out, h1, HL2.out.2, ht0], rfl⟩
    ·have ht0' : ¬ (tl : Int) = 0 := by omega
     by_cases h2 : z2 < 0
     ·go_enter Tryz.func119, Tryz.ntmps119
      go_wp2_with fail
      refine C1.out.mono ?_
      rintro e w' ⟨rfl, rfl⟩
      go_wp2_with fail
      refine C2.out.mono ?_
      rintro e w' ⟨rfl, rfl⟩
      go_wp2_with fail
      go_ret
      exact ⟨by simp [HL1.out, h1, HL2.out.1, HL2.out.2, ht0, h2], rfl⟩
     ·go_enter Tryz.func119, Tryz.ntmps119
      go_wp2_with fail
      refine C1.out.mono ?_
      rintro e w' ⟨rfl, rfl⟩
      go_wp2_with fail
      refine C2.out.mono ?_
      rintro e w' ⟨rfl, rfl⟩
      go_wp2_with fail
      go_ret
      exact ⟨by simp [HL1.out, h1, HL2.out.1, HL2.out.2, ht0], rfl⟩
  ·cases lo with
   | none =>
    go_enter Tryz.func119, Tryz.ntmps119
    go_wp2_with fail
    refine C1.out.mono ?_
    rintro e w' ⟨rfl, rfl⟩
    go_wp2_with fail
    go_ret
    exact ⟨by simp [HL1.out, show ¬ 0 < z1 by omega], rfl⟩
   | some a =>
    go_enter Tryz.func119, Tryz.ntmps119
    go_wp2_with fail
    refine C1.out.mono ?_
    rintro e w' ⟨rfl, rfl⟩
    go_wp2_with fail
    go_ret
    exact ⟨by simp [HL1.out, show ¬ 0 < z1 by omega], rfl⟩
end Go.Proofs.YtafilaiinbggoaaGreat
namespace Go.Proofs.YtafilaiinbggoaaGreat
open Go.RowKit Go.Maps
structure OutS (B : Nat) (w : World) (ob : Nat) (sl : Value) (es : EL) : Prop where
 box : w.heap[ob]? = some (.cells #[sl] 123 (0, 0))
 row : ∃ cs, OwnS 2 (RE (cfU w)) 127 B w sl es.length es cs
 low : B <= ob
def outX (ob : Nat) (sl : Value) : BS := fun b => b = ob \/ sl.ownBlock = some b
theorem OutS.kind {B : Nat} {w : World} {ob : Nat} {sl : Value} {es : EL} (h : OutS B w ob sl es) {b : Nat} (hb : outX ob sl b) : B <= b /\ b < w.heap.size /\ ∃ cur T, w.heap[b]? = some (.cells cur T (0, 0)) /\ (T = 123 \/ T = 127) := by
 obtain ⟨cs, ho⟩ := h.row
 rcases hb with rfl | hb
 ·exact ⟨h.low, heap_lt h.box, _, _, h.box, .inl rfl⟩
 ·obtain ⟨cur, hc⟩ := own_kind ho hb
  exact ⟨(ho.low b hb).1, (ho.low b hb).2, _, _, hc, .inr rfl⟩
theorem OutS.noU {B : Nat} {w : World} {ob : Nat} {sl : Value} {es : EL} (h : OutS B w ob sl es) : ∀ b, outX ob sl b -> ¬ IsU w b := fun b hb ⟨_, _, e⟩ => by
 obtain ⟨_, _, _, T, e2, e3⟩ := h.kind hb
 rw [e2] at e
 cases e
 rcases e3 with e3 | e3 <;> exact absurd e3 (by decide)
theorem OutS.stand {B : Nat} {w w' : World} {ob : Nat} {sl : Value} {es : EL} (h : OutS B w ob sl es) (hs : w.heap.size <= w'.heap.size) (hk : ∀ b, outX ob sl b -> w'.heap[b]? = w.heap[b]?) (hu : CLe (cfU w) (cfU w')) : OutS B w' ob sl es := by
 obtain ⟨cs, ho⟩ := h.row
 exact ⟨(hk ob (.inl rfl)).trans h.box, ⟨cs, (own_stand (fun _ _ _ _ h => h) ho hs fun g e => hk g (.inr e)).rep (RE_le hu)⟩, h.low⟩
theorem OutS.below {B : Nat} {w w' : World} {ob : Nat} {sl : Value} {es : EL} (h : OutS B w ob sl es) (hb : Below w.heap.size w w') : OutS B w' ob sl es := h.stand hb.size (fun b hx => hb.block b (h.kind hx).2.1) (cfU_below hb)
theorem infoE : (Tryz.prog.info? 127).map (fun i => (i.zero, i.size, i.bytes)) = some (some (.agg #[.slice none 0 0, .slice none 0 0]), 2, 48) := by kernel_rfl
def YieldPost (B ob most : Nat) (sl : Value) (es : EL) (x : Bts × Bts) (w : World) (e : Ending) (w' : World) : Prop :=
 ∃ sl', e = .returned (.bool (decide (es.length + 1 < most))) /\ OutS B w' ob sl' (es ++ [x]) /\ TurnS (outX ob sl) w (outX ob sl') w'
set_option maxHeartbeats 4000000 in
set_option maxRecDepth 100000 in
theorem span_yield {B ob mb most : Nat} {w : World} {sl kv vv : Value} {es : EL} {k v : Bts} (h : OutS B w ob sl es) (hm : w.heap[mb]? = some (.cells #[.int .i64 (most : Int)] 3 (0, 0))) (hk : YAt (cfU w) kv k) (hv : YAt (cfU w) vv v) (hl : es.length <= 1000000) :
  Calls Tryz.prog 92 #[.agg #[kv, vv], .pointer (some ⟨ob, 0, none⟩), .pointer (some ⟨mb, 0, none⟩)] w (YieldPost B ob most sl es (k, v) w) := by
 obtain ⟨ka, kc, rfl⟩ := hk.form
 obtain ⟨va, vc, rfl⟩ := hv.form
 obtain ⟨kl, hkl⟩ : ∃ x, x = k.length := ⟨_, rfl⟩
 obtain ⟨vl, hvl⟩ : ∃ x, x = v.length := ⟨_, rfl⟩
 rw [<- hkl] at hk |-
 rw [<- hvl] at hv |-
 obtain ⟨n, hn⟩ : ∃ x, x = es.length := ⟨_, rfl⟩
 obtain ⟨cs, ho⟩ := h.row
 obtain ⟨g, cap, rfl⟩ := ho.shape
 rw [<- hn] at h ho hl |-
 obtain ⟨w1, hw1⟩ : ∃ x, x = w.alloc (.cells #[.slice ka kl kc, .slice va vl vc] 127) := ⟨_, rfl⟩
 obtain ⟨q, hq⟩ : ∃ x, x = w.heap.size := ⟨_, rfl⟩
 have hb1 : Below w.heap.size w w1 := by rw [hw1]; exact (Below.refl _ w).alloc (Nat.le_refl _) _
 have hbq : w1.heap[q]? = some (.cells #[.slice ka kl kc, .slice va vl vc] 127 (0, 0)) := by rw [hw1, hq]; exact heap_alloc_new w _
 have h1 := h.below hb1
 have hm1 := kept hm hb1
 have hk1 := hk.mono RY_mono (cfU_below hb1)
 have hv1 := hv.mono RY_mono (cfU_below hb1)
 obtain ⟨cs1, ho1⟩ := h1.row
 rw [<- hn] at ho1
 have HO1 := HoldT.mk ho1
 have HH := HoldT.mk (And.intro h1 (And.intro hm1 (And.intro hk1 (And.intro hv1 (And.intro hb1 hn)))))
 have HW := HoldT.mk hw1
 have hbo := h1.box
 have x0 : w1.cell? ⟨ob, 0, none⟩ = some (.slice g n cap) := by simp [World.cell?, hbo]
 have x1 : w1.cell? ⟨q, 0, none⟩ = some (.slice ka kl kc) := by simp [World.cell?, hbq]
 have x2 : w1.cell? ⟨q, 1, none⟩ = some (.slice va vl vc) := by simp [World.cell?, hbq]
 have HQ0 := HoldT.mk h
 clear h hm hk hv ho ho1 hb1 hbq h1 hm1 hk1 hv1 hw1 hbo hkl hvl hn
 go_enter Tryz.func92, Tryz.ntmps92
 go_upto_region 1 with (fail)
 rw [<- HW.out, <- hq]
 clear hq
 go_wp2_with (at_builtin; refine push_new (RE_mono _) rfl _ _ rfl infoE Tryz.underlying123 rfl (by decide) B _ _ n _ _ HO1.out rfl _ [.slice ka kl kc, .slice va vl vc] rfl rfl (by simp [Value.oneCell']) (k, v) ⟨_, _, rfl, HH.out.2.2.1, HH.out.2.2.2.1⟩ _ rfl rfl (by omega) (by decide) ?_)
 intro sl2 w2 ho2 hg2
 obtain ⟨g2, cap2, rfl⟩ := ho2.shape
 have hne : ∀ x, (Value.slice g n cap).ownBlock = some x -> ob ≠ x := fun x e e2 => by
  obtain ⟨cur, hc⟩ := own_kind HO1.out e
  have h3 := HH.out.1.box
  rw [e2, hc] at h3
  cases h3
 have hbo2 := hg2.kept HH.out.1.box hne
 have hmo : mb ≠ ob := fun e => by have h3 := HH.out.2.1; rw [e, HH.out.1.box] at h3; cases h3
 have hm2 : w2.heap[mb]? = some (.cells #[.int .i64 (most : Int)] 3 (0, 0)) := hg2.kept HH.out.2.1 (fun x e e2 => by
  obtain ⟨cur, hc⟩ := own_kind HO1.out e
  have h3 := HH.out.2.1
  rw [e2, hc] at h3
  cases h3)
 have hu2 := grew_cfU HO1.out (by decide) hg2
 obtain ⟨w3, hw3⟩ : ∃ x, x = w2.setCell ⟨ob, 0, none⟩ (.slice g2 (n + 1) cap2) := ⟨_, rfl⟩
 have hg3 : w2.grownBy w3 (some ob) := by rw [hw3]; exact set6_grown _ _
 have hbo3 : w3.heap[ob]? = some (.cells #[.slice g2 (n + 1) cap2] 123 (0, 0)) := by rw [hw3, set_selfT hbo2]; rfl
 have hm3 : w3.heap[mb]? = some (.cells #[.int .i64 (most : Int)] 3 (0, 0)) := (hg3.block mb (heap_lt hm2) (fun e => hmo (Option.some.inj e))).trans hm2
 have hu3 : CLe (cfU w2) (cfU w3) := cfU_grown hg3 fun b e => by
  cases e
  rintro ⟨_, _, e2⟩
  rw [hbo2] at e2
  cases e2
 have hne2 : ∀ x, (Value.slice g2 (n + 1) cap2).ownBlock = some x -> some x ≠ some ob := fun x e e2 => by
  obtain rfl := Option.some.inj e2
  obtain ⟨cur, hc⟩ := own_kind ho2 e
  rw [hbo2] at hc
  cases hc
 have hO3 : OutS B w3 ob (.slice g2 (n + 1) cap2) (es ++ [(k, v)]) := ⟨hbo3, ⟨_, by
  have h4 := (own_stand (fun _ _ _ _ h => h) ho2 hg3.size (fun x e => hg3.block x (ho2.low x e).2 (hne2 x e))).rep (RE_le (fun a b c d => hu3 a b c (hu2 a b c d)))
  rw [List.length_append, <- HH.out.2.2.2.2.2]
  exact h4⟩, HH.out.1.low⟩
 have hT3 : TurnS (outX ob (.slice g n cap)) w (outX ob (.slice g2 (n + 1) cap2)) w3 := by
  have hb1 := HH.out.2.2.2.2.1
  refine ⟨hg3.os.trans (hg2.by_.os.trans hb1.os), hg3.tape.trans (hg2.by_.tape.trans hb1.tape), hg3.output.trans (hg2.by_.output.trans hb1.output), Nat.le_trans hb1.size (Nat.le_trans hg2.by_.size hg3.size), fun b hb hn => ⟨?_, fun hx => ?_⟩⟩
  ·have e1 : b ≠ ob := fun e => hn (.inl e)
   have e2 : some b ≠ (Value.slice g n cap).ownBlock := fun e => hn (.inr e.symm)
   have hb2 := Nat.lt_of_lt_of_le hb hb1.size
   exact (hg3.block b (Nat.lt_of_lt_of_le hb2 hg2.by_.size) (fun e => e1 (Option.some.inj e))).trans ((hg2.by_.block b hb2 e2).trans (hb1.block b hb))
  ·rcases hx with e | e
   ·exact hn (.inl e)
   ·rcases hg2.own b e with e3 | e3
    ·exact hn (.inr e3)
    ·have := hb1.size; omega
 have HFIN : HoldT (YieldPost B ob most (.slice g n cap) es (k, v) w (.returned (.bool (decide (n + 1 < most)))) w3) := ⟨⟨_, by rw [HH.out.2.2.2.2.2], hO3, hT3⟩⟩
 have f0 : w2.frozen? ⟨ob, 0, none⟩ = false := by simp [World.frozen?, hbo2]
 have x0 : w2.cell? ⟨ob, 0, none⟩ = some (.slice g n cap) := by simp [World.cell?, hbo2]
 have x3 : w3.cell? ⟨ob, 0, none⟩ = some (.slice g2 (n + 1) cap2) := by simp [World.cell?, hbo3]
 have x4 : w3.cell? ⟨mb, 0, none⟩ = some (.int .i64 (most : Int)) := by simp [World.cell?, hm3]
 have HW3 := HoldT.mk hw3
 clear ho2 hg2 hne hbo2 hmo hm2 hu2 hg3 hbo3 hm3 hu3 hne2 hO3 hT3 hw3
 go_upto_region 2 with (fail)
 rw [<- HW3.out]
 clear f0 x0
 go_wp2_with fail
 go_ret
 have e : decide ((n : Int) + 1 < (most : Int)) = decide (n + 1 < most) := by congr 1; exact propext ⟨fun _ => by omega, fun _ => by omega⟩
 rw [e]
 exact HFIN.out
end Go.Proofs.YtafilaiinbggoaaGreat
namespace Go.Proofs.YtafilaiinbggoaaGreat
open Go.RowKit Go.Maps
def XS (H : HS) (ob : Nat) (sl : Value) : BS := fun b => H.all b \/ outX ob sl b
structure SI (Q : PQ) (R : Int -> Option Bts) (H : HS) (S : PS) (p B sb ob mb most : Nat) (back : Bool) (f t : Bts) (fv tv fn sl : Value) (es : EL) (w : World) : Prop where
 pg : PG Q R H S p w
 span : SpanB w sb Q.pb f t fv tv fn back
 out : OutS B w ob sl es
 mbx : w.heap[mb]? = some (.cells #[.int .i64 (most : Int)] 3 (0, 0))
 sbH : ¬ H.all sb
 obH : ∀ b, outX ob sl b -> ¬ H.all b
 mbH : ¬ H.all mb
 args : ∃ A, A <= w.heap.size /\ (∀ b, XS H ob sl b -> A <= b) /\ YAt (cfL A w) fv f /\ YAt (cfL A w) tv t
 fnv : fn = .func (.func 92) #[] #[.pointer (some ⟨ob, 0, none⟩), .pointer (some ⟨mb, 0, none⟩)]
theorem SI.sbX {Q : PQ} {R : Int -> Option Bts} {H : HS} {S : PS} {p B sb ob mb most : Nat} {back : Bool} {f t : Bts} {fv tv fn sl : Value} {es : EL} {w : World} (h : SI Q R H S p B sb ob mb most back f t fv tv fn sl es w) : ¬ XS H ob sl sb := fun e => by
 rcases e with e | e
 ·exact h.sbH e
 ·obtain ⟨_, _, _, T, e2, e3⟩ := h.out.kind e
  rw [h.span.box] at e2
  cases e2
  rcases e3 with e3 | e3 <;> exact absurd e3 (by decide)
theorem SI.mbX {Q : PQ} {R : Int -> Option Bts} {H : HS} {S : PS} {p B sb ob mb most : Nat} {back : Bool} {f t : Bts} {fv tv fn sl : Value} {es : EL} {w : World} (h : SI Q R H S p B sb ob mb most back f t fv tv fn sl es w) : ¬ XS H ob sl mb := fun e => by
 rcases e with e | e
 ·exact h.mbH e
 ·obtain ⟨_, _, _, T, e2, e3⟩ := h.out.kind e
  rw [h.mbx] at e2
  cases e2
  rcases e3 with e3 | e3 <;> exact absurd e3 (by decide)
theorem SI.noU {Q : PQ} {R : Int -> Option Bts} {H : HS} {S : PS} {p B sb ob mb most : Nat} {back : Bool} {f t : Bts} {fv tv fn sl : Value} {es : EL} {w : World} (h : SI Q R H S p B sb ob mb most back f t fv tv fn sl es w) : ∀ b, XS H ob sl b -> ¬ IsU w b := fun b hb => hb.elim (h.pg.noU b) (h.out.noU b)
theorem SI.lt {Q : PQ} {R : Int -> Option Bts} {H : HS} {S : PS} {p B sb ob mb most : Nat} {back : Bool} {f t : Bts} {fv tv fn sl : Value} {es : EL} {w : World} (h : SI Q R H S p B sb ob mb most back f t fv tv fn sl es w) : ∀ b, XS H ob sl b -> b < w.heap.size := fun b hb => hb.elim (h.pg.lt b) (fun e => (h.out.kind e).2.1)
theorem SI.below {Q : PQ} {R : Int -> Option Bts} {H : HS} {S : PS} {p B sb ob mb most : Nat} {back : Bool} {f t : Bts} {fv tv fn sl : Value} {es : EL} {w w' : World} (h : SI Q R H S p B sb ob mb most back f t fv tv fn sl es w) (hb : Below w.heap.size w w') : SI Q R H S p B sb ob mb most back f t fv tv fn sl es w' :=
 ⟨h.pg.below hb, h.span.below hb, h.out.below hb, kept h.mbx hb, h.sbH, h.obH, h.mbH, h.args.elim fun A hA => ⟨A, Nat.le_trans hA.1 hb.size, hA.2.1, hA.2.2.1.mono RY_mono (cfL_below hb), hA.2.2.2.mono RY_mono (cfL_below hb)⟩, h.fnv⟩
theorem SI.turn {Q : PQ} {R : Int -> Option Bts} {H H' : HS} {S S' : PS} {p p' B sb ob mb most : Nat} {back : Bool} {f t : Bts} {fv tv fn sl : Value} {es : EL} {w w' : World} (h : SI Q R H S p B sb ob mb most back f t fv tv fn sl es w) (hG : PG Q R H' S' p' w') (hT : TurnS H.all w H'.all w') : SI Q R H' S' p' B sb ob mb most back f t fv tv fn sl es w' /\ TurnS (XS H ob sl) w (XS H' ob sl) w' := by
 have hk : ∀ b, outX ob sl b -> w'.heap[b]? = w.heap[b]? /\ ¬ H'.all b := fun b hb => hT.out b (h.out.kind hb).2.1 (h.obH b hb)
 have hm := hT.kept h.mbx h.mbH
 have hT2 : TurnS (XS H ob sl) w (XS H' ob sl) w' := ⟨hT.os, hT.tape, hT.output, hT.size, fun b hb hn => by
  obtain ⟨h1, h2⟩ := hT.out b hb (fun e => hn (.inl e))
  exact ⟨h1, fun e => e.elim h2 (fun e => hn (.inr e))⟩⟩
 obtain ⟨A, hA1, hA2, hA3, hA4⟩ := h.args
 have hl := cfL_turn hT2 hA2 h.noU
 have hA5 := hT2.above hA2 hA1
 refine ⟨⟨hG, h.span.turn h.sbH hT (hA3.mono RY_mono (hl.trans (cfL_cf A w'))) (hA4.mono RY_mono (hl.trans (cfL_cf A w'))), h.out.stand hT.size (fun b hb => (hk b hb).1) (cfU_turn hT h.pg.noU), hm.1, (hT.kept h.span.box h.sbH).2, fun b hb => (hk b hb).2, hm.2, ⟨A, Nat.le_trans hA1 hT.size, hA5, hA3.mono RY_mono hl, hA4.mono RY_mono hl⟩, h.fnv⟩, hT2⟩
theorem SI.given {Q : PQ} {R : Int -> Option Bts} {H : HS} {S : PS} {p B sb ob mb most : Nat} {back : Bool} {f t : Bts} {fv tv fn sl sl' : Value} {es es' : EL} {w w' : World} (h : SI Q R H S p B sb ob mb most back f t fv tv fn sl es w) (hO : OutS B w' ob sl' es') (hT : TurnS (outX ob sl) w (outX ob sl') w') : SI Q R H S p B sb ob mb most back f t fv tv fn sl' es' w' /\ TurnS (XS H ob sl) w (XS H ob sl') w' := by
 have hk : ∀ b, H.all b -> w'.heap[b]? = w.heap[b]? /\ ¬ outX ob sl' b := fun b hb => hT.out b (h.pg.lt b hb) (fun e => h.obH b e hb)
 have hu := cfU_turn hT h.out.noU
 have hm := hT.kept h.mbx (fun e => h.mbX (.inr e))
 have hT2 : TurnS (XS H ob sl) w (XS H ob sl') w' := ⟨hT.os, hT.tape, hT.output, hT.size, fun b hb hn => by
  obtain ⟨h1, h2⟩ := hT.out b hb (fun e => hn (.inr e))
  exact ⟨h1, fun e => e.elim (fun e => hn (.inl e)) h2⟩⟩
 obtain ⟨A, hA1, hA2, hA3, hA4⟩ := h.args
 have hl := cfL_turn hT2 hA2 h.noU
 have hA5 := hT2.above hA2 hA1
 refine ⟨⟨h.pg.stand hT.size (fun b hb => (hk b hb).1) hu, h.span.turn (fun e => h.sbX (.inr e)) hT (hA3.mono RY_mono (hl.trans (cfL_cf A w'))) (hA4.mono RY_mono (hl.trans (cfL_cf A w'))), hO, hm.1, h.sbH, fun b hb e => (hk b e).2 hb, h.mbH, ⟨A, Nat.le_trans hA1 hT.size, hA5, hA3.mono RY_mono hl, hA4.mono RY_mono hl⟩, h.fnv⟩, hT2⟩
theorem NT.walk {H H' : HS} {B0 B ob : Nat} {sl sl' : Value} {es : EL} {w w' : World} {n : ND} {kv vv iv : Value} (h : NT H B0 w n kv vv iv) (ho : OutS B w ob sl es) (hT : TurnS (XS H ob sl) w (XS H' ob sl') w') (hu : CLe (cfU w) (cfU w')) : NT H' B0 w' n kv vv iv := by
 have hx : ∀ g, kv.ownBlock = some g \/ vv.ownBlock = some g \/ iv.ownBlock = some g -> ¬ XS H ob sl g := fun g hg e => by
  rcases e with e | e
  ·exact h.off g hg e
  ·obtain ⟨_, _, _, T, e2, e3⟩ := ho.kind e
   obtain ⟨cur, T2, e4, e5⟩ := h.own.kind hg
   rw [e2] at e4
   cases e4
   rcases e3 with e3 | e3 <;> rcases e5 with e5 | e5 <;> rw [e3] at e5 <;> exact absurd e5 (by decide)
 exact ⟨h.own.stand hT.size (fun g hg => (hT.out g (h.own.low hg).2.1 (hx g hg)).1) hu, fun g hg e => (hT.out g (h.own.low hg).2.1 (hx g hg)).2 (.inl e)⟩
end Go.Proofs.YtafilaiinbggoaaGreat
