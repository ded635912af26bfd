import Derived.Test.YtafilaiinbggoaaGreatQS08
namespace Go.Proofs.YtafilaiinbggoaaGreat
open Go.RowKit Go.Maps
abbrev BS := Nat -> Prop
structure TurnS (H : BS) (w : World) (H' : BS) (w' : World) : Prop where
 os : w'.os = w.os
 tape : w'.tape = w.tape
 output : w'.output = w.output
 size : w.heap.size <= w'.heap.size
 out : ∀ b, b < w.heap.size -> ¬ H b -> w'.heap[b]? = w.heap[b]? /\ ¬ H' b
theorem TurnS.refl (H : BS) (w : World) : TurnS H w H w := ⟨rfl, rfl, rfl, Nat.le_refl _, fun _ _ h => ⟨rfl, h⟩⟩
theorem TurnS.trans {H H1 H2 : BS} {w w1 w2 : World} (h : TurnS H w H1 w1) (k : TurnS H1 w1 H2 w2) : TurnS H w H2 w2 :=
 ⟨k.os.trans h.os, k.tape.trans h.tape, k.output.trans h.output, Nat.le_trans h.size k.size, fun b hb hn => by
  obtain ⟨h1, h2⟩ := h.out b hb hn
  obtain ⟨k1, k2⟩ := k.out b (Nat.lt_of_lt_of_le hb h.size) h2
  exact ⟨k1.trans h1, k2⟩⟩
theorem TurnS.quiet {H : BS} {w w' : World} (hb : Below w.heap.size w w') : TurnS H w H w' := ⟨hb.os, hb.tape, hb.output, hb.size, fun b h hn => ⟨hb.block b h, hn⟩⟩
theorem TurnS.grown {H : BS} {w w' : World} {r : Option Nat} (h : w.grownBy w' r) (hr : ∀ b, r = some b -> H b \/ w.heap.size <= b) : TurnS H w H w' :=
 ⟨h.os, h.tape, h.output, h.size, fun b hb hn => ⟨h.block b hb (fun e => (hr b e.symm).elim hn (fun e => by omega)), hn⟩⟩
theorem TurnS.wide {H H' K : BS} {w w' : World} (h : TurnS H w H' w') : TurnS (fun b => H b \/ K b) w (fun b => H' b \/ K b) w' :=
 ⟨h.os, h.tape, h.output, h.size, fun b hb hn => by
  obtain ⟨h1, h2⟩ := h.out b hb (fun e => hn (.inl e))
  exact ⟨h1, fun e => e.elim h2 (fun e => hn (.inr e))⟩⟩
theorem TurnS.congr {H H' K K' : BS} {w w' : World} (h : TurnS H w H' w') (h1 : ∀ b, H b ↔ K b) (h2 : ∀ b, H' b ↔ K' b) : TurnS K w K' w' :=
 ⟨h.os, h.tape, h.output, h.size, fun b hb hn => by
  obtain ⟨e1, e2⟩ := h.out b hb (fun e => hn ((h1 b).1 e))
  exact ⟨e1, fun e => e2 ((h2 b).2 e)⟩⟩
theorem TurnS.more {H H' K : BS} {w w' : World} (h : TurnS H w H' w') (hk : ∀ b, K b -> H' b \/ w.heap.size <= b) : TurnS H w K w' :=
 ⟨h.os, h.tape, h.output, h.size, fun b hb hn => by
  obtain ⟨e1, e2⟩ := h.out b hb hn
  exact ⟨e1, fun e => (hk b e).elim e2 (fun e => by omega)⟩⟩
theorem TurnS.kept {H H' : BS} {w w' : World} (h : TurnS H w H' w') {b : Nat} {o : Obj} (hk : w.heap[b]? = some o) (hn : ¬ H b) : w'.heap[b]? = some o /\ ¬ H' b := by
 obtain ⟨h1, h2⟩ := h.out b (heap_lt hk) hn
 exact ⟨h1.trans hk, h2⟩
def IsU (w : World) (b : Nat) : Prop := ∃ cs fr, w.heap[b]? = some (.cells cs 5 fr)
def cfU (w : World) : CF := fun b o => match w.heap[b]? with
 | some (.cells _ t _) => if t = 5 then w.cell? ⟨b, o, none⟩ else none
 | _ => none
theorem cfU_cf (w : World) : CLe (cfU w) (cf w) := fun b o u h => by
 unfold cfU at h
 split at h
 ·split at h
  ·exact h
  ·cases h
 ·cases h
theorem cfU_at {w : World} {b : Nat} (h : IsU w b) (o : Nat) : cfU w b o = w.cell? ⟨b, o, none⟩ := by
 obtain ⟨cs, fr, h⟩ := h
 unfold cfU
 rw [h]
 simp
theorem cfU_is {w : World} {b o : Nat} {u : Value} (h : cfU w b o = some u) : IsU w b := by
 unfold cfU at h
 split at h
 ·rename_i cs t fr e
  split at h
  ·rename_i et
   exact ⟨cs, fr, by rw [e, et]⟩
  ·cases h
 ·cases h
theorem cfU_le {w w' : World} (h : ∀ b, IsU w b -> w'.heap[b]? = w.heap[b]?) : CLe (cfU w) (cfU w') := fun b o u hu => by
 have h1 := cfU_is hu
 have h2 := h b h1
 rw [cfU_at h1] at hu
 obtain ⟨cs, fr, h3⟩ := h1
 rw [cfU_at ⟨cs, fr, h2.trans h3⟩, World.cell?_of_block (w := w) h2]
 exact hu
theorem IsU.lt {w : World} {b : Nat} (h : IsU w b) : b < w.heap.size := by obtain ⟨_, _, h⟩ := h; exact heap_lt h
theorem cfU_below {w w' : World} (hb : Below w.heap.size w w') : CLe (cfU w) (cfU w') := cfU_le fun b h => hb.block b h.lt
theorem cfU_turn {H H' : BS} {w w' : World} (h : TurnS H w H' w') (hn : ∀ b, H b -> ¬ IsU w b) : CLe (cfU w) (cfU w') := cfU_le fun b hb => (h.out b hb.lt (fun e => hn b e hb)).1
theorem cfU_grown {w w' : World} {r : Option Nat} (h : w.grownBy w' r) (hn : ∀ b, r = some b -> ¬ IsU w b) : CLe (cfU w) (cfU w') := cfU_le fun b hb => h.block b hb.lt (fun e => hn b e.symm hb)
theorem OwnS.yat {B : Nat} {w : World} {sv : Value} {n : Nat} {b : Bts} {ds : List Value} (h : OwnS 1 RY 5 B w sv n b ds) : YAt (cfU w) sv b := by
 obtain ⟨a, cap, e, h1, h2, h3⟩ := h.at_ RY_mono
 refine ⟨a, cap, e, h1, h2, fun i x hx => ?_⟩
 obtain ⟨g, off, d, ea, hd, hc, hr⟩ := h3 i x hx
 refine ⟨g, off, d, ea, hd, fun j u hu => ?_, hr⟩
 have hcu := hc j u hu
 rcases id h.own.2 with ⟨hv, hn⟩ | ⟨g2, cap2, cur, hv, _, hg, _⟩
 ·rw [hv] at e
  simp only [Value.slice.injEq] at e
  rw [<- e.1] at ea
  cases ea
 ·rw [hv] at e
  simp only [Value.slice.injEq] at e
  rw [<- e.1] at ea
  cases ea
  rw [cfU_at ⟨cur, (0, 0), hg⟩]
  exact hcu
theorem own_kind {n : Nat} {α : Type} {R : Rep α} {T : TypeId} {B : Nat} {w : World} {sl : Value} {p : Nat} {xs : List α} {cs : List Value} (h : OwnS n R T B w sl p xs cs) {g : Nat} (hg : sl.ownBlock = some g) : ∃ cur, w.heap[g]? = some (.cells cur T (0, 0)) := by
 rcases id h.own.2 with ⟨hv, _⟩ | ⟨g2, cap2, cur, hv, _, hgb, _⟩
 ·rw [hv] at hg; cases hg
 ·rw [hv] at hg
  cases hg
  exact ⟨cur, hgb⟩
def SecAt (c : CF) (f : Int -> Option Value) (D : Int -> Option Bts) : Prop := ∀ k, match D k with
 | none => f k = none
 | some b => b.length = 256 /\ ∃ a cap, f k = some (.slice a 256 cap) /\ YAt c (.slice a 256 cap) b
theorem SecAt.mono {c c' : CF} {f : Int -> Option Value} {D : Int -> Option Bts} (h : SecAt c f D) (hc : CLe c c') : SecAt c' f D := fun k => by
 have := h k
 split at this
 ·exact this
 ·obtain ⟨h1, a, cap, h2, h3⟩ := this
  exact ⟨h1, a, cap, h2, h3.mono RY_mono hc⟩
theorem secat_some {c : CF} {f : Int -> Option Value} {D : Int -> Option Bts} (h : SecAt c f D) {k : Int} {b : Bts} (hk : D k = some b) : b.length = 256 /\ ∃ a cap, f k = some (.slice a 256 cap) /\ YAt c (.slice a 256 cap) b := by
 have := h k
 rw [hk] at this
 exact this
theorem secat_none {c : CF} {f : Int -> Option Value} {D : Int -> Option Bts} (h : SecAt c f D) {k : Int} (hk : D k = none) : f k = none := by
 have := h k
 rw [hk] at this
 exact this
theorem SecAt.dom {c : CF} {f : Int -> Option Value} {D : Int -> Option Bts} (h : SecAt c f D) {k : Int} (hk : (f k).isSome = true) : (D k).isSome = true := by
 cases e : D k with
 | none => rw [secat_none h e] at hk; cases hk
 | some b => rfl
theorem SecAt.put {c : CF} {f : Int -> Option Value} {D : Int -> Option Bts} (h : SecAt c f D) {s : Int} {b : Bts} {a : Option Addr} {cap : Nat} (hb : b.length = 256) (hy : YAt c (.slice a 256 cap) b) :
  SecAt c (fun j => if j = s then some (.slice a 256 cap) else f j) (fun j => if j = s then some b else D j) := fun k => by
 by_cases e : k = s
 ·simp only [if_pos e]
  exact ⟨hb, a, cap, rfl, hy⟩
 ·simp only [if_neg e]
  exact h k
def PendOk (size : Nat) (xs : List (Value × Value)) : Prop := ∀ x ∈ xs, ∃ (s : Int) (a : Option Addr) (c : Nat), x = (.int .i64 s, .slice a 256 c) /\ 0 <= s /\ s < size
structure DG (H : BS) (db size : Nat) (D : Int -> Option Bts) (p : Nat) (w : World) : Prop where
 ex : ∃ nb lb pend a0 a1 a2 f fl xs cs, DBox w db (size : Int) nb lb pend a0 a1 a2 /\ MapI nb f w /\ MapI lb fl w /\ nb ≠ db /\ lb ≠ nb /\ H nb /\ H lb /\ OwnS 2 RAny 214 0 w pend p xs cs /\ PendOk size xs /\ (∀ g, pend.ownBlock = some g -> H g) /\ SecAt (cfU w) f D /\ ∀ k, (fl k).isSome = true -> 0 <= k /\ k < size
 dom : ∀ k, (D k).isSome = true -> 0 <= k /\ k < size
 few : size <= 65536
 box : H db
 lt : ∀ b, H b -> b < w.heap.size
 noU : ∀ b, H b -> ¬ IsU w b
theorem map_not {b : Nat} {f : Int -> Option Value} {w : World} (h : MapI b f w) {cs : Array Value} {T : TypeId} {fr : Nat × Nat} : w.heap[b]? ≠ some (.cells cs T fr) := fun e => by
 obtain ⟨D, ⟨es, c, hb, _⟩, _⟩ := h
 rw [hb] at e
 cases e
theorem DG.stand {H : BS} {db size : Nat} {D : Int -> Option Bts} {p : Nat} {w w' : World} (h : DG H db size D p w) (hs : w.heap.size <= w'.heap.size) (hk : ∀ b, H b -> w'.heap[b]? = w.heap[b]?) (hu : CLe (cfU w) (cfU w')) : DG H db size D p w' := by
 obtain ⟨⟨nb, lb, pend, a0, a1, a2, f, fl, xs, cs, h1, h2, h3, h4, h5, h6, h7, h8, h9, h10, h11, h12⟩, d1, d2, d3, d4, d5⟩ := h
 refine ⟨⟨nb, lb, pend, a0, a1, a2, f, fl, xs, cs, (hk db d3).trans h1, h2.same (hk nb h6), h3.same (hk lb h7), h4, h5, h6, h7, ?_, h9, h10, h11.mono hu, h12⟩, d1, d2, d3, fun b hb => Nat.lt_of_lt_of_le (d4 b hb) hs, fun b hb hu2 => d5 b hb ?_⟩
 ·refine ⟨⟨h8.own.1, ?_⟩, h8.len, h8.row, Nat.zero_le _⟩
  rcases id h8.own.2 with e | ⟨g, cap, cur, e, e1, e2, e3⟩
  ·exact .inl e
  ·exact .inr ⟨g, cap, cur, e, e1, (hk g (h10 g (by rw [e]; rfl))).trans e2, e3⟩
 ·obtain ⟨cs, fr, e⟩ := hu2
  exact ⟨cs, fr, (hk b hb).symm.trans e⟩
theorem DG.below {H : BS} {db size : Nat} {D : Int -> Option Bts} {p : Nat} {w w' : World} (h : DG H db size D p w) (hb : Below w.heap.size w w') : DG H db size D p w' :=
 h.stand hb.size (fun b hk => hb.block b (h.lt b hk)) (cfU_below hb)
end Go.Proofs.YtafilaiinbggoaaGreat
namespace Go.Proofs.YtafilaiinbggoaaGreat
open Go.RowKit Go.Maps
theorem isU_set {w : World} {q o : Nat} {v : Value} {b : Nat} (h : IsU (w.setCell ⟨q, o, none⟩ v) b) (hq : ¬ IsU w q) : IsU w b /\ b ≠ q := by
 obtain ⟨cs, fr, h⟩ := h
 by_cases e : b = q
 ·subst e
  exfalso
  rw [World.setCell] at h
  simp only [Array.getElem?_modify] at h
  cases hb : w.heap[b]? with
  | none => simp [hb] at h
  | some ob =>
   simp only [hb, if_true, Option.map_some, Option.some.injEq] at h
   cases ob with
   | cells c2 t2 f2 =>
    simp only at h
    cases h
    exact hq ⟨_, _, hb⟩
   | _ => cases h
 ·rw [Below.heap_setCell _ _ _ _ e] at h
  exact ⟨⟨cs, fr, h⟩, e⟩
theorem dbox_noU {w : World} {db : Nat} {size : Int} {nb lb : Nat} {pend : Value} {a0 a1 a2 : Int} (h : DBox w db size nb lb pend a0 a1 a2) : ¬ IsU w db := fun ⟨cs, fr, e⟩ => by
 unfold DBox at h
 rw [h] at e
 cases e
theorem cfU_set {w : World} {q o : Nat} {v : Value} (hq : ¬ IsU w q) : CLe (cfU w) (cfU (w.setCell ⟨q, o, none⟩ v)) := cfU_le fun b hb => Below.heap_setCell _ _ _ _ (fun e => hq (by have e2 : b = q := e; rw [<- e2]; exact hb))
theorem WfI_small {k : Int} (h0 : 0 <= k) (h1 : k < 9223372036854775808) : WfI k := by
 have e1 : IntKind.min .i64 = -9223372036854775808 := by decide
 have e2 : IntKind.max .i64 = 9223372036854775807 := by decide
 unfold WfI Lit.wf
 simp only [e1, e2, Bool.and_eq_true, decide_eq_true_eq]
 omega
def Counted (db : Nat) (w w' : World) : Prop := ∃ cs y, w.heap[db]? = some (.cells cs 90 (0, 0)) /\ w'.heap[db]? = some (.cells (cs.set! 6 (.int .i64 y)) 90 (0, 0))
def secD (D : Int -> Option Bts) (s : Int) : Bts := (D s).getD zeros256
theorem disk_get {H : BS} {db size : Nat} {D : Int -> Option Bts} {p : Nat} {w : World} {s : Int} (h : DG H db size D p w) (h0 : 0 <= s) (h1 : s < size) :
  Calls Tryz.prog 86 #[.pointer (some ⟨db, 0, none⟩), .int .i64 s] w fun e w' => ∃ sv cs, e = .returned (.tuple #[sv, .int .i64 0]) /\ OwnS 1 RY 5 w.heap.size w' sv 256 (secD D s) cs /\ DG H db size D p w' /\ TurnS H w H w' /\ w.grownBy w' (some db) /\ Counted db w w' := by
 have hD := h
 obtain ⟨⟨nb, lb, pend, a0, a1, a2, f, fl, xs, cs, g1, g2, g3, g4, g5, g6, g7, g8, g9, g10, g11, g12⟩, d1, d2, d3, d4, d5⟩ := h
 have hwf : WfI s := WfI_small h0 (by omega)
 have key : ∀ (b : Bts) (e : Ending) (w' : World), b.length = 256 -> secD D s = b -> ReadPost b db (size : Int) nb lb pend a1 a2 (cf w) w e w' -> ∃ sv cs, e = .returned (.tuple #[sv, .int .i64 0]) /\ OwnS 1 RY 5 w.heap.size w' sv 256 (secD D s) cs /\ DG H db size D p w' /\ TurnS H w H w' /\ w.grownBy w' (some db) /\ Counted db w w' := by
  rintro b e w' hb hs ⟨sv, ds, y, rfl, ho, hg, hbox, hgr⟩
  have hT : TurnS H w H w' := TurnS.grown hgr (fun b e => .inl (by cases e; exact d3))
  have hne : ∀ g, g ≠ db -> g < w.heap.size -> w'.heap[g]? = w.heap[g]? := fun g h1 h2 => hgr.block g h2 (fun e => h1 (Option.some.inj e))
  have hcu := cfU_grown hgr (fun b e => by cases e; exact d5 _ d3)
  refine ⟨sv, ds, rfl, ⟨by rw [<- hb]; exact ho, by rw [hs, hb], by rw [hs]; exact hg, hgr.size⟩, ⟨⟨nb, lb, pend, y, a1, a2, f, fl, xs, cs, hbox, g2.same (hne nb g4 g2.lt), g3.same (hne lb (fun e => by subst e; exact map_not g3 g1) g3.lt), g4, g5, g6, g7, ?_, g9, g10, g11.mono hcu, g12⟩, d1, d2, d3, fun b hb => Nat.lt_of_lt_of_le (d4 b hb) hgr.size, fun b hb hu => ?_⟩, hT, hgr, ⟨_, y, g1, hbox⟩⟩
  ·refine own_keep (fun _ _ _ _ h => h) g8 hgr (fun g hg e => ?_)
   obtain ⟨cur, hc⟩ := own_kind g8 hg
   cases e
   rw [g1] at hc
   cases hc
  ·by_cases e : b = db
   ·subst e; exact dbox_noU hbox hu
   ·obtain ⟨cs, fr, hu⟩ := hu
    exact d5 b hb ⟨cs, fr, (hne b e (d4 b hb)).symm.trans hu⟩
 cases hs : D s with
 | none =>
  exact (disk_read_zero g1 g2 g4 h0 (by omega) hwf (secat_none g11 hs)).mono fun e w' hp => key zeros256 e w' (by unfold zeros256; exact List.length_replicate ..) (by unfold secD; rw [hs]; rfl) hp
 | some b =>
  obtain ⟨hb, a, cap, e1, e2⟩ := secat_some g11 hs
  exact (disk_read_there g1 g2 g4 h0 (by omega) hwf e1 (fun y => (e2.mono RY_mono (cfU_set (d5 db d3))).mono RY_mono (cfU_cf _)) (by omega)).mono fun e w' hp => key b e w' hb (by unfold secD; rw [hs]; rfl) hp
theorem Counted.trans {db : Nat} {w w1 w2 : World} (h : Counted db w w1) (k : Counted db w1 w2) : Counted db w w2 := by
 obtain ⟨cs, y, h1, h2⟩ := h
 obtain ⟨cs2, y2, k1, k2⟩ := k
 rw [h2] at k1
 cases k1
 refine ⟨cs, y2, h1, k2.trans ?_⟩
 rw [Array.set!_eq_setIfInBounds, Array.set!_eq_setIfInBounds, Array.setIfInBounds_setIfInBounds, Array.set!_eq_setIfInBounds]
theorem Counted.same {db : Nat} {w w1 w2 : World} (h : Counted db w w1) (k : w2.heap[db]? = w1.heap[db]?) : Counted db w w2 := by
 obtain ⟨cs, y, h1, h2⟩ := h
 exact ⟨cs, y, h1, k.trans h2⟩
theorem DG.counted {H : BS} {db size : Nat} {D : Int -> Option Bts} {p : Nat} {w w' : World} (h : DG H db size D p w) (hgr : w.grownBy w' (some db)) (hc : Counted db w w') : DG H db size D p w' := by
 obtain ⟨⟨nb, lb, pend, a0, a1, a2, f, fl, xs, cs, g1, g2, g3, g4, g5, g6, g7, g8, g9, g10, g11, g12⟩, d1, d2, d3, d4, d5⟩ := h
 obtain ⟨c9, y, e1, e2⟩ := hc
 have hne : ∀ g, g ≠ db -> g < w.heap.size -> w'.heap[g]? = w.heap[g]? := fun g h1 h2 => hgr.block g h2 (fun e => h1 (Option.some.inj e))
 have hcu := cfU_grown hgr (fun b e => by cases e; exact d5 _ d3)
 have hbox : DBox w' db (size : Int) nb lb pend y a1 a2 := by
  have g1' := g1
  unfold DBox at g1' |-
  rw [g1'] at e1
  cases e1
  rw [e2]
  rfl
 refine ⟨⟨nb, lb, pend, y, a1, a2, f, fl, xs, cs, hbox, g2.same (hne nb g4 g2.lt), g3.same (hne lb (fun e => by subst e; exact map_not g3 g1) g3.lt), g4, g5, g6, g7, ?_, g9, g10, g11.mono hcu, g12⟩, d1, d2, d3, fun b hb => Nat.lt_of_lt_of_le (d4 b hb) hgr.size, fun b hb hu => ?_⟩
 ·refine own_keep (fun _ _ _ _ h => h) g8 hgr (fun g hg e => ?_)
  obtain ⟨cur, hc⟩ := own_kind g8 hg
  cases e
  rw [g1] at hc
  cases hc
 ·by_cases e : b = db
  ·subst e; exact dbox_noU hbox hu
  ·obtain ⟨cs, fr, hu⟩ := hu
   exact d5 b hb ⟨cs, fr, (hne b e (d4 b hb)).symm.trans hu⟩
theorem disk_put {H : BS} {db size : Nat} {D : Int -> Option Bts} {p : Nat} {w : World} {s : Int} {b : Bts} {va : Option Addr} {vc : Nat} (h : DG H db size D p w) (h0 : 0 <= s) (h1 : s < size) (hv : YAt (cfU w) (.slice va 256 vc) b) (hb : b.length = 256) (hp : p <= 1000000000) :
  Calls Tryz.prog 124 #[.pointer (some ⟨db, 0, none⟩), .int .i64 s, .slice va 256 vc] w fun e w' => e = .returned (.int .i64 0) /\ ∃ H', DG H' db size (fun k => if k = s then some b else D k) (p + 1) w' /\ TurnS H w H' w' := by
 obtain ⟨⟨nb, lb, pend, a0, a1, a2, f, fl, xs, cs, g1, g2, g3, g4, g5, g6, g7, g8, g9, g10, g11, g12⟩, d1, d2, d3, d4, d5⟩ := h
 have hwf : WfI s := WfI_small h0 (by omega)
 have hnb : ∀ g, pend.ownBlock = some g -> g ≠ db /\ g ≠ nb /\ g ≠ lb := fun g hg => by
  obtain ⟨cur, hc⟩ := own_kind g8 hg
  refine ⟨fun e => ?_, fun e => ?_, fun e => ?_⟩
  ·subst e
   rw [show w.heap[g]? = _ from g1] at hc
   cases hc
  ·subst e; exact map_not g2 hc
  ·subst e; exact map_not g3 hc
 have hlb : lb ≠ db := fun e => by subst e; exact map_not g3 g1
 refine (disk_write g1 g2 g4 h0 (by omega) hwf (fun y => (hv.mono RY_mono (cfU_set (d5 db d3))).mono RY_mono (cfU_cf _)) hb (l := (List.range size).map fun (n : Nat) => (n : Int)) (fun k hk => ?_) ?_ g8 hp (fun g hg => ⟨(hnb g hg).1, (hnb g hg).2.1⟩)).mono ?_
 ·have := d1 k (g11.dom hk)
  exact List.mem_map.2 ⟨k.toNat, List.mem_range.2 (by omega), by omega⟩
 ·rw [List.length_map, List.length_range]; omega
 rintro e w' ⟨rfl, ⟨sa, sc, y, p4, ds, q1, q2, q3, q4, es, q5⟩, q6, q7, q8, q9, q10⟩
 have hlbk : w'.heap[lb]? = w.heap[lb]? := q10 lb g3.lt hlb g5 (fun e => (hnb lb e).2.2 rfl)
 have hu : ∀ b, b < w.heap.size -> IsU w b -> w'.heap[b]? = w.heap[b]? := fun b hb hu => q10 b hb (fun e => d5 b (e ▸ d3) hu) (fun e => d5 b (e ▸ g6) hu) (fun e => d5 b (g10 b e) hu)
 have hcu : CLe (cfU w) (cfU w') := cfU_le fun b hb => hu b hb.lt hb
 have hq1 : ∀ b, b = db \/ b = nb \/ b = lb \/ p4.ownBlock = some b -> b < w'.heap.size /\ ¬ IsU w' b := fun b hb => by
  rcases hb with rfl | rfl | rfl | hb
  ·exact ⟨heap_lt q1, dbox_noU q1⟩
  ·exact ⟨q2.lt, fun ⟨_, _, e⟩ => map_not q2 e⟩
  ·exact ⟨(g3.same hlbk).lt, fun ⟨_, _, e⟩ => map_not (g3.same hlbk) e⟩
  ·obtain ⟨cur, hc⟩ := own_kind q3 hb
   exact ⟨heap_lt hc, fun ⟨_, _, e⟩ => by rw [hc] at e; cases e⟩
 have hyat : YAt (cfU w') (.slice sa 256 sc) b := q5.yat
 refine ⟨rfl, fun b => b = db \/ b = nb \/ b = lb \/ p4.ownBlock = some b, ⟨⟨nb, lb, p4, a0, y, a2, _, fl, _, ds, q1, q2, g3.same hlbk, g4, g5, .inr (.inl rfl), .inr (.inr (.inl rfl)), q3, fun x hx => ?_, fun g hg => .inr (.inr (.inr hg)), (g11.mono hcu).put hb hyat, g12⟩, fun k hk => ?_, d2, .inl rfl, fun b hb => (hq1 b hb).1, fun b hb => (hq1 b hb).2⟩, q6, q7, q8, q9, fun b hb hn => ⟨q10 b hb (fun e => hn (e ▸ d3)) (fun e => hn (e ▸ g6)) (fun e => hn (g10 b e)), fun h2 => ?_⟩⟩
 ·rcases List.mem_append.1 hx with hx | hx
  ·exact g9 x hx
  ·obtain rfl := List.mem_singleton.1 hx
   exact ⟨s, sa, sc, rfl, h0, h1⟩
 ·by_cases e : k = s
  ·subst e; exact ⟨h0, h1⟩
  ·simp only [if_neg e] at hk
   exact d1 k hk
 ·rcases h2 with rfl | rfl | rfl | h2
  ·exact hn d3
  ·exact hn g6
  ·exact hn g7
  ·rcases q4 b h2 with h5 | h5
   ·exact hn (g10 b h5)
   ·omega
end Go.Proofs.YtafilaiinbggoaaGreat
