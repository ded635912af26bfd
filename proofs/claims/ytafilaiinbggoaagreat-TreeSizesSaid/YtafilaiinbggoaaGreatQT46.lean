import Derived.Test.YtafilaiinbggoaaGreatQT40
import Derived.Test.YtafilaiinbggoaaGreatQT41
import Derived.Test.YtafilaiinbggoaaGreatQT44
namespace Go.Proofs.YtafilaiinbggoaaGreat
def CutM (S S' : PS) (h : Nat) (t : Tree h) (k : Bts) (r : Option (Tree h)) : Prop := CutR h t k r /\ Moves S S' (pagesT h t) (match r with | none => [] | some u => pagesT h u) /\ ∀ u, r = some u -> sitsT (contP S') h u /\ pgT h u = pgT h t
def pageO {h : Nat} (r : Option (Tree h)) : Int := match r with
 | none => -1
 | some u => (pgT h u : Int)
end Go.Proofs.YtafilaiinbggoaaGreat
namespace Go.Proofs.YtafilaiinbggoaaGreat
open Go.RowKit Go.Maps
def CutPost (Q : PQ) (R : Int -> Option Bts) (H : HS) (S : PS) (p c h : Nat) (t : Tree h) (k : Bts) (w : World) (e : Ending) (w' : World) : Prop :=
 ∃ (r : Option (Tree h)) (H' : HS) (S' : PS) (p' : Nat), e = .returned (.tuple #[.int .i64 (pageO r), .int .i64 0]) /\ CutM S S' h t k r /\ PG Q R H' S' p' w' /\ TurnS H.all w H'.all w' /\ p' <= p + c
end Go.Proofs.YtafilaiinbggoaaGreat
namespace Go.Proofs.YtafilaiinbggoaaGreat
open Go.RowKit Go.Maps
theorem CutPost.wide {Q : PQ} {R : Int -> Option Bts} {H : HS} {S : PS} {p c c' h : Nat} {t : Tree h} {k : Bts} {w w' : World} {e : Ending} (hp : CutPost Q R H S p c h t k w e w') (hc : c <= c') : CutPost Q R H S p c' h t k w e w' := by
 obtain ⟨r, H', S', p', h1, h2, h3, h4, h5⟩ := hp
 exact ⟨r, H', S', p', h1, h2, h3, h4, by omega⟩
end Go.Proofs.YtafilaiinbggoaaGreat
namespace Go.Proofs.YtafilaiinbggoaaGreat
open Go.RowKit Go.Maps
theorem TopIn.same {S S' : PS} {o : Top} {root : Int} (h : TopIn S o root) (hs : SameP S S') : TopIn S' o root := by
 match o, h with
 | none, h => exact h
 | some ⟨g, t⟩, h => exact ⟨h.1, h.2.same hs⟩
def DelPost (Q : PQ) (R : Int -> Option Bts) (H : HS) (S : PS) (p tb : Nat) (o : Top) (k : Bts) (w : World) (e : Ending) (w' : World) : Prop :=
 ∃ (o' : Top) (root' : Int) (H' : HS) (S' : PS) (p' : Nat), e = .returned (.tuple #[.bool (getE k (esO o)).isSome, .int .i64 0]) /\ PG Q R H' S' p' w' /\ TB H' w' tb Q.pb root' /\ TopIn S' o' root' /\ ((getE k (esO o)).isSome = true -> CutTop o k o') /\ ((getE k (esO o)).isSome = false -> o' = o) /\ Moves S S' (pagesO o) (pagesO o') /\ TurnS (fun b => H.all b \/ b = tb) w (fun b => H'.all b \/ b = tb) w' /\ p' <= p + (200 * heightO o + 40)
structure DL (Q : PQ) (R : Int -> Option Bts) (H0 : HS) (S0 : PS) (tb : Nat) (o : Top) (k : Bts) (w : World) (pm g : Nat) (v : Tree g) (H : HS) (S : PS) (p : Nat) (w' : World) : Prop where
 pg : PG Q R H S p w'
 tbx : TB H w' tb Q.pb (pgT g v : Int)
 wf : WFS g v
 sits : sitsT (contP S) g v
 mv : Moves S0 S (pagesO o) (pagesT g v)
 turn : TurnS (fun b => H0.all b \/ b = tb) w (fun b => H.all b \/ b = tb) w'
 few : p <= pm
 lift : ¬ thinT g v -> CutTop o k (some ⟨g, v⟩)
theorem DL.post {Q : PQ} {R : Int -> Option Bts} {H0 H H' : HS} {S0 S S' : PS} {p0 tb : Nat} {o : Top} {k : Bts} {w w' w2 : World} {pm g : Nat} {v : Tree g} {p p' : Nat} (h : DL Q R H0 S0 tb o k w pm g v H S p w') (hth : ¬ thinT g v) (hs : (getE k (esO o)).isSome = true) (hG : PG Q R H' S' p' w2) (hS : SameP S S') (hT : TurnS H.all w' H'.all w2) (hp : p' <= p0 + (200 * heightO o + 40)) : DelPost Q R H0 S0 p0 tb o k w (.returned (.tuple #[.bool true, .int .i64 0])) w2 := by
 have hw := wft_of g h.wf hth
 refine ⟨some ⟨g, v⟩, _, H', S', p', by rw [hs], hG, h.tbx.turn hT, ⟨rfl, hw, sits_same g (fun q _ => hS.2 q) h.sits, h.mv.nd, fun q hq => by rw [hS.1]; exact h.mv.fresh q hq⟩, fun _ => h.lift hth, fun e => (by rw [hs] at e; cases e), ?_, h.turn.trans hT.wide, hp⟩
 have h1 := hS.moves.wide h.mv.nd (fun p _ e => by cases e) h.mv.fresh
 rw [List.append_nil] at h1
 exact h.mv.trans h1
end Go.Proofs.YtafilaiinbggoaaGreat
namespace Go.Proofs.YtafilaiinbggoaaGreat
open Go.RowKit Go.Maps
def RE (c : CF) : Rep (Bts × Bts) := fun _ e d => ∃ kv vv, d = [kv, vv] /\ YAt c kv e.1 /\ YAt c vv e.2
theorem RE_le {c c' : CF} (hc : CLe c c') : ∀ (m : CF) (x : Bts × Bts) (d : List Value), RE c m x d -> RE c' m x d := fun _ _ _ ⟨kv, vv, e, h1, h2⟩ => ⟨kv, vv, e, h1.mono RY_mono hc, h2.mono RY_mono hc⟩
structure SpanB (w : World) (sb pb : Nat) (f t : Bts) (fv tv fn : Value) (back : Bool) : Prop where
 box : w.heap[sb]? = some (.cells #[.pointer (some ⟨pb, 0, none⟩), fv, tv, .bool back, fn] 153 (0, 0))
 from_ : YAt (cf w) fv f
 to_ : YAt (cf w) tv t
theorem SpanB.below {w w' : World} {sb pb : Nat} {f t : Bts} {fv tv fn : Value} {back : Bool} (h : SpanB w sb pb f t fv tv fn back) (hb : Below w.heap.size w w') : SpanB w' sb pb f t fv tv fn back := ⟨kept h.box hb, h.from_.mono RY_mono (cle_below hb), h.to_.mono RY_mono (cle_below hb)⟩
theorem SpanB.turn {X X' : BS} {w w' : World} {sb pb : Nat} {f t : Bts} {fv tv fn : Value} {back : Bool} (h : SpanB w sb pb f t fv tv fn back) (hX : ¬ X sb) (hT : TurnS X w X' w') (hf : YAt (cf w') fv f) (ht : YAt (cf w') tv t) : SpanB w' sb pb f t fv tv fn back := ⟨(hT.kept h.box hX).1, hf, ht⟩
def cfL (A : Nat) (w : World) : CF := fun b o => if b < A then w.cell? ⟨b, o, none⟩ else cfU w b o
theorem cfL_cf (A : Nat) (w : World) : CLe (cfL A w) (cf w) := fun b o u h => by
 unfold cfL at h
 split at h
 ·exact h
 ·exact cfU_cf w b o u h
theorem cfL_below {A : Nat} {w w' : World} (hb : Below w.heap.size w w') : CLe (cfL A w) (cfL A w') := fun b o u h => by
 unfold cfL at h |-
 split at h
 ·rename_i e
  rw [if_pos e]
  exact cle_below hb b o u h
 ·rename_i e
  rw [if_neg e]
  exact cfU_below hb b o u h
theorem cfL_turn {A : Nat} {X X' : BS} {w w' : World} (hT : TurnS X w X' w') (hA : ∀ b, X b -> A <= b) (hn : ∀ b, X b -> ¬ IsU w b) : CLe (cfL A w) (cfL A w') := fun b o u h => by
 unfold cfL at h |-
 split at h
 ·rename_i e
  rw [if_pos e, World.cell?_of_block (w := w) (hT.out b (lt_of_cell h) (fun x => by have := hA b x; omega)).1]
  exact h
 ·rename_i e
  rw [if_neg e]
  exact cfU_turn hT hn b o u h
theorem TurnS.above {A : Nat} {X X' : BS} {w w' : World} (hT : TurnS X w X' w') (hA : ∀ b, X b -> A <= b) (hw : A <= w.heap.size) : ∀ b, X' b -> A <= b := fun b hb => by
 by_cases e : b < w.heap.size
 ·by_cases x : X b
  ·exact hA b x
  ·exact absurd hb (hT.out b e x).2
 ·omega
theorem SpanB.cells {w : World} {sb pb : Nat} {f t : Bts} {fv tv fn : Value} {back : Bool} (h : SpanB w sb pb f t fv tv fn back) : w.cell? ⟨sb, 0, none⟩ = some (.pointer (some ⟨pb, 0, none⟩)) /\ w.cell? ⟨sb, 1, none⟩ = some fv /\ w.cell? ⟨sb, 2, none⟩ = some tv /\ w.cell? ⟨sb, 3, none⟩ = some (.bool back) /\ w.cell? ⟨sb, 4, none⟩ = some fn := by
 have := h.box
 refine ⟨?_, ?_, ?_, ?_, ?_⟩ <;> simp [World.cell?, this]
def BndAt (c : CF) (v : Value) (o : Option Bts) : Prop := match o with
 | none => v = .slice none 0 0
 | some k => YAt c v k /\ 1 <= k.length
theorem BndAt.mono {c c' : CF} {v : Value} {o : Option Bts} (h : BndAt c v o) (hc : CLe c c') : BndAt c' v o := by
 cases o with
 | none => exact h
 | some k => exact ⟨h.1.mono RY_mono hc, h.2⟩
end Go.Proofs.YtafilaiinbggoaaGreat
namespace Go.Proofs.YtafilaiinbggoaaGreat
open Go.RowKit Go.Maps
structure OutS (B : Nat) (w : World) (ob : Nat) (sl : Value) (es : EL) : Prop where
 box : w.heap[ob]? = some (.cells #[sl] 123 (0, 0))
 row : ∃ cs, OwnS 2 (RE (cfU w)) 127 B w sl es.length es cs
 low : B <= ob
def outX (ob : Nat) (sl : Value) : BS := fun b => b = ob \/ sl.ownBlock = some b
theorem OutS.kind {B : Nat} {w : World} {ob : Nat} {sl : Value} {es : EL} (h : OutS B w ob sl es) {b : Nat} (hb : outX ob sl b) : B <= b /\ b < w.heap.size /\ ∃ cur T, w.heap[b]? = some (.cells cur T (0, 0)) /\ (T = 123 \/ T = 127) := by
 obtain ⟨cs, ho⟩ := h.row
 rcases hb with rfl | hb
 ·exact ⟨h.low, heap_lt h.box, _, _, h.box, .inl rfl⟩
 ·obtain ⟨cur, hc⟩ := own_kind ho hb
  exact ⟨(ho.low b hb).1, (ho.low b hb).2, _, _, hc, .inr rfl⟩
theorem OutS.noU {B : Nat} {w : World} {ob : Nat} {sl : Value} {es : EL} (h : OutS B w ob sl es) : ∀ b, outX ob sl b -> ¬ IsU w b := fun b hb ⟨_, _, e⟩ => by
 obtain ⟨_, _, _, T, e2, e3⟩ := h.kind hb
 rw [e2] at e
 cases e
 rcases e3 with e3 | e3 <;> exact absurd e3 (by decide)
theorem OutS.stand {B : Nat} {w w' : World} {ob : Nat} {sl : Value} {es : EL} (h : OutS B w ob sl es) (hs : w.heap.size <= w'.heap.size) (hk : ∀ b, outX ob sl b -> w'.heap[b]? = w.heap[b]?) (hu : CLe (cfU w) (cfU w')) : OutS B w' ob sl es := by
 obtain ⟨cs, ho⟩ := h.row
 exact ⟨(hk ob (.inl rfl)).trans h.box, ⟨cs, (own_stand (fun _ _ _ _ h => h) ho hs fun g e => hk g (.inr e)).rep (RE_le hu)⟩, h.low⟩
theorem OutS.below {B : Nat} {w w' : World} {ob : Nat} {sl : Value} {es : EL} (h : OutS B w ob sl es) (hb : Below w.heap.size w w') : OutS B w' ob sl es := h.stand hb.size (fun b hx => hb.block b (h.kind hx).2.1) (cfU_below hb)
end Go.Proofs.YtafilaiinbggoaaGreat
namespace Go.Proofs.YtafilaiinbggoaaGreat
open Go.RowKit Go.Maps
def XS (H : HS) (ob : Nat) (sl : Value) : BS := fun b => H.all b \/ outX ob sl b
structure SI (Q : PQ) (R : Int -> Option Bts) (H : HS) (S : PS) (p B sb ob mb most : Nat) (back : Bool) (f t : Bts) (fv tv fn sl : Value) (es : EL) (w : World) : Prop where
 pg : PG Q R H S p w
 span : SpanB w sb Q.pb f t fv tv fn back
 out : OutS B w ob sl es
 mbx : w.heap[mb]? = some (.cells #[.int .i64 (most : Int)] 3 (0, 0))
 sbH : ¬ H.all sb
 obH : ∀ b, outX ob sl b -> ¬ H.all b
 mbH : ¬ H.all mb
 args : ∃ A, A <= w.heap.size /\ (∀ b, XS H ob sl b -> A <= b) /\ YAt (cfL A w) fv f /\ YAt (cfL A w) tv t
 fnv : fn = .func (.func 92) #[] #[.pointer (some ⟨ob, 0, none⟩), .pointer (some ⟨mb, 0, none⟩)]
theorem SI.noU {Q : PQ} {R : Int -> Option Bts} {H : HS} {S : PS} {p B sb ob mb most : Nat} {back : Bool} {f t : Bts} {fv tv fn sl : Value} {es : EL} {w : World} (h : SI Q R H S p B sb ob mb most back f t fv tv fn sl es w) : ∀ b, XS H ob sl b -> ¬ IsU w b := fun b hb => hb.elim (h.pg.noU b) (h.out.noU b)
theorem SI.lt {Q : PQ} {R : Int -> Option Bts} {H : HS} {S : PS} {p B sb ob mb most : Nat} {back : Bool} {f t : Bts} {fv tv fn sl : Value} {es : EL} {w : World} (h : SI Q R H S p B sb ob mb most back f t fv tv fn sl es w) : ∀ b, XS H ob sl b -> b < w.heap.size := fun b hb => hb.elim (h.pg.lt b) (fun e => (h.out.kind e).2.1)
theorem SI.below {Q : PQ} {R : Int -> Option Bts} {H : HS} {S : PS} {p B sb ob mb most : Nat} {back : Bool} {f t : Bts} {fv tv fn sl : Value} {es : EL} {w w' : World} (h : SI Q R H S p B sb ob mb most back f t fv tv fn sl es w) (hb : Below w.heap.size w w') : SI Q R H S p B sb ob mb most back f t fv tv fn sl es w' :=
 ⟨h.pg.below hb, h.span.below hb, h.out.below hb, kept h.mbx hb, h.sbH, h.obH, h.mbH, h.args.elim fun A hA => ⟨A, Nat.le_trans hA.1 hb.size, hA.2.1, hA.2.2.1.mono RY_mono (cfL_below hb), hA.2.2.2.mono RY_mono (cfL_below hb)⟩, h.fnv⟩
theorem SI.turn {Q : PQ} {R : Int -> Option Bts} {H H' : HS} {S S' : PS} {p p' B sb ob mb most : Nat} {back : Bool} {f t : Bts} {fv tv fn sl : Value} {es : EL} {w w' : World} (h : SI Q R H S p B sb ob mb most back f t fv tv fn sl es w) (hG : PG Q R H' S' p' w') (hT : TurnS H.all w H'.all w') : SI Q R H' S' p' B sb ob mb most back f t fv tv fn sl es w' /\ TurnS (XS H ob sl) w (XS H' ob sl) w' := by
 have hk : ∀ b, outX ob sl b -> w'.heap[b]? = w.heap[b]? /\ ¬ H'.all b := fun b hb => hT.out b (h.out.kind hb).2.1 (h.obH b hb)
 have hm := hT.kept h.mbx h.mbH
 have hT2 : TurnS (XS H ob sl) w (XS H' ob sl) w' := ⟨hT.os, hT.tape, hT.output, hT.size, fun b hb hn => by
  obtain ⟨h1, h2⟩ := hT.out b hb (fun e => hn (.inl e))
  exact ⟨h1, fun e => e.elim h2 (fun e => hn (.inr e))⟩⟩
 obtain ⟨A, hA1, hA2, hA3, hA4⟩ := h.args
 have hl := cfL_turn hT2 hA2 h.noU
 have hA5 := hT2.above hA2 hA1
 refine ⟨⟨hG, h.span.turn h.sbH hT (hA3.mono RY_mono (hl.trans (cfL_cf A w'))) (hA4.mono RY_mono (hl.trans (cfL_cf A w'))), h.out.stand hT.size (fun b hb => (hk b hb).1) (cfU_turn hT h.pg.noU), hm.1, (hT.kept h.span.box h.sbH).2, fun b hb => (hk b hb).2, hm.2, ⟨A, Nat.le_trans hA1 hT.size, hA5, hA3.mono RY_mono hl, hA4.mono RY_mono hl⟩, h.fnv⟩, hT2⟩
theorem NT.walk {H H' : HS} {B0 B ob : Nat} {sl sl' : Value} {es : EL} {w w' : World} {n : ND} {kv vv iv : Value} (h : NT H B0 w n kv vv iv) (ho : OutS B w ob sl es) (hT : TurnS (XS H ob sl) w (XS H' ob sl') w') (hu : CLe (cfU w) (cfU w')) : NT H' B0 w' n kv vv iv := by
 have hx : ∀ g, kv.ownBlock = some g \/ vv.ownBlock = some g \/ iv.ownBlock = some g -> ¬ XS H ob sl g := fun g hg e => by
  rcases e with e | e
  ·exact h.off g hg e
  ·obtain ⟨_, _, _, T, e2, e3⟩ := ho.kind e
   obtain ⟨cur, T2, e4, e5⟩ := h.own.kind hg
   rw [e2] at e4
   cases e4
   rcases e3 with e3 | e3 <;> rcases e5 with e5 | e5 <;> rw [e3] at e5 <;> exact absurd e5 (by decide)
 exact ⟨h.own.stand hT.size (fun g hg => (hT.out g (h.own.low hg).2.1 (hx g hg)).1) hu, fun g hg e => (hT.out g (h.own.low hg).2.1 (hx g hg)).2 (.inl e)⟩
end Go.Proofs.YtafilaiinbggoaaGreat
