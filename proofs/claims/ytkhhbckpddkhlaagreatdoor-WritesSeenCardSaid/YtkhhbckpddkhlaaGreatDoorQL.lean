/- The reader of the reference: with. (printed by genXQL.py) The reader of the reference: array. (printed by genXQM.py) The reader of the reference: object. (printed by genXQN.py) The reader of the reference: value. (printed by genXQO.py) -/
import Derived.Test.YtkhhbckpddkhlaaGreatDoorQI
import Derived.Test.YtkhhbckpddkhlaaGreatDoorRL
import Derived.Test.YtkhhbckpddkhlaaGreatDoorOW
import Derived.Test.YtkhhbckpddkhlaaGreatDoorRQ
import Derived.Deep.DeepCutAuto
import Derived.Deep.CutBlock
namespace Go.Proofs.YtkhhbckpddkhlaaGreatDoor
open Go.Shelf Go.RowKit

/-- five cells, as they are -/
def Raw5 : Rep (List Value) := fun _ x d => d = x ∧ x.length = 5 ∧ ∀ u ∈ x, u.oneCell' = true
theorem Raw5_mono : Mono Raw5 := fun _ _ _ _ _ h => h
theorem Raw5_one : ∀ (c : CF) (x : List Value) (d : List Value), Raw5 c x d → ∀ u ∈ d, u.oneCell' = true := fun c x d ⟨e, _, h⟩ => by rw [e]; exact h
theorem grow_raw {c c' : CF} {xs : List (List Value)} {cs : List Value} (h : GRow 5 Raw5 c xs cs) : GRow 5 Raw5 c' xs cs := h
theorem OwnS.keepB {α : Type} {n : Nat} {R : Rep α} (hS : ∀ c c' x d, R c x d → R c' x d) {T : TypeId} {B : Nat} {w w' : World} {sl : Value} {p : Nat} {xs : List α} {cs : List Value} (h : OwnS n R T B w sl p xs cs) {g : Option Nat} (hg : w.grownBy w' g) (hne : ∀ q, sl.ownBlock = some q → g ≠ some q) : OwnS n R T B w' sl p xs cs :=
  ⟨own_keep h.own hg hne, h.len, ⟨h.row.1, fun i x hx => by
    obtain ⟨d, h1, h2, h3⟩ := h.row.2 i x hx
    exact ⟨d, h1, h2, hS _ _ _ _ h3⟩⟩, Nat.le_trans h.le hg.size⟩

/-- the object under way -/
structure WV (N : Nat) (W wr : World) (sv tv : Value) (p p2 : Nat) (a : List ByteArray) (l : List (List Value)) (cs ds : List Value) : Prop where
  bel : Below (N + 3) W wr
  box : wr.heap[N + 3]? = some (.cells #[.int .i64 6, .int .i64 0, .string ⟨#[]⟩, sv, tv] 25 (0, 0))
  nam : OwnS 1 RS 9 (N + 4) wr sv p a cs
  itm : OwnS 5 Raw5 25 (N + 4) wr tv p2 l ds
  apart : ∀ g, sv.ownBlock = some g → tv.ownBlock ≠ some g
theorem WV.alloc {N : Nat} {W wr : World} {sv tv : Value} {p p2 : Nat} {a : List ByteArray} {l : List (List Value)} {cs ds : List Value} (h : WV N W wr sv tv p p2 a l cs ds) (o : Obj) : WV N W (wr.alloc o) sv tv p p2 a l cs ds :=
  ⟨h.bel.alloc (by have := h.nam.le; omega) o, kept h.box ((Below.refl _ wr).alloc (Nat.le_refl _) o), h.nam.alloc RS_mono o, h.itm.alloc Raw5_mono o, h.apart⟩
theorem WV.drew {N : Nat} {W wr : World} {sv tv : Value} {p p2 : Nat} {a : List ByteArray} {l : List (List Value)} {cs ds : List Value} (h : WV N W wr sv tv p p2 a l cs ds) : WV N W wr.drew sv tv p p2 a l cs ds :=
  ⟨h.bel.drew, h.box, h.nam.drew, h.itm.drew, h.apart⟩
theorem WV.name {N : Nat} {W wr w' : World} {sv tv sv' : Value} {p p' p2 : Nat} {a a' : List ByteArray} {l : List (List Value)} {cs cs' ds : List Value} (h : WV N W wr sv tv p p2 a l cs ds) (hg : Grew wr w' sv sv') (ho : OwnS 1 RS 9 (N + 4) w' sv' p' a' cs') : WV N W (w'.setCell ⟨N + 3, 3, none⟩ sv') sv' tv p' p2 a' l cs' ds := by
  have hlt := ltR h.box
  have hle := h.nam.le
  have hset := But.set (b := N + 3) w' 3 sv'
  have hs1 : ∀ q, sv.ownBlock = some q → N + 4 ≤ q := fun q hq => (h.nam.low q hq).1
  have hs2 : ∀ q, sv'.ownBlock = some q → N + 4 ≤ q := fun q hq => (ho.low q hq).1
  have hs3 : ∀ q, tv.ownBlock = some q → N + 4 ≤ q ∧ q < wr.heap.size := fun q hq => h.itm.low q hq
  refine ⟨?_, ?_, ?_, ?_, ?_⟩
  · have h1 := h.bel.trans (hg.below (B := N + 3) (by omega) (fun g hq => by have := hs1 g hq; omega))
    exact h1.setCell (p := ⟨N + 3, 3, none⟩) (Nat.le_refl _) _
  · rw [set_at (hg.kept h.box (fun g hq e => by have := hs1 g hq; omega))]; rfl
  · exact ho.keepB (fun _ _ _ _ h => h) hset (fun q hq e => by have := hs2 q hq; have := Option.some.inj e; omega)
  · refine (h.itm.keepB (fun _ _ _ _ h => h) hg.by_ (fun q hq e => h.apart q e hq)).keepB (fun _ _ _ _ h => h) hset (fun q hq e => by have := (hs3 q hq).1; have := Option.some.inj e; omega)
  · intro g hgg ht
    rcases hg.own g hgg with e | e
    · exact h.apart g e ht
    · have := (hs3 g ht).2; omega
theorem WV.item {N : Nat} {W wr w' : World} {sv tv tv' : Value} {p p2 p2' : Nat} {a : List ByteArray} {l l' : List (List Value)} {cs ds ds' : List Value} (h : WV N W wr sv tv p p2 a l cs ds) (hg : Grew wr w' tv tv') (ho : OwnS 5 Raw5 25 (N + 4) w' tv' p2' l' ds') : WV N W (w'.setCell ⟨N + 3, 4, none⟩ tv') sv tv' p p2' a l' cs ds' := by
  have hlt := ltR h.box
  have hle := h.nam.le
  have hset := But.set (b := N + 3) w' 4 tv'
  have hs1 : ∀ q, tv.ownBlock = some q → N + 4 ≤ q := fun q hq => (h.itm.low q hq).1
  have hs2 : ∀ q, tv'.ownBlock = some q → N + 4 ≤ q := fun q hq => (ho.low q hq).1
  have hs3 : ∀ q, sv.ownBlock = some q → N + 4 ≤ q ∧ q < wr.heap.size := fun q hq => h.nam.low q hq
  refine ⟨?_, ?_, ?_, ?_, ?_⟩
  · have h1 := h.bel.trans (hg.below (B := N + 3) (by omega) (fun g hq => by have := hs1 g hq; omega))
    exact h1.setCell (p := ⟨N + 3, 4, none⟩) (Nat.le_refl _) _
  · rw [set_at (hg.kept h.box (fun g hq e => by have := hs1 g hq; omega))]; rfl
  · refine (h.nam.keepB (fun _ _ _ _ h => h) hg.by_ (fun q hq e => h.apart q hq e)).keepB (fun _ _ _ _ h => h) hset (fun q hq e => by have := (hs3 q hq).1; have := Option.some.inj e; omega)
  · exact ho.keepB (fun _ _ _ _ h => h) hset (fun q hq e => by have := hs2 q hq; have := Option.some.inj e; omega)
  · intro g hgs ht
    rcases hg.own g ht with e | e
    · exact h.apart g hgs e
    · have := (hs3 g hgs).2; omega
theorem WV.setb {N : Nat} {W wr : World} {sv tv : Value} {p p2 : Nat} {a : List ByteArray} {l : List (List Value)} {cs ds : List Value} {b : Nat} {s : ByteArray} {j : Nat} {no : Bool} (h : WV N W wr sv tv p p2 a l cs ds) (hb : b < N) (hr : RC b s j no W) (hr2 : RC b s j no wr) (v : Value) : WV N (W.setCell ⟨b, 2, none⟩ v) (wr.setCell ⟨b, 2, none⟩ v) sv tv p p2 a l cs ds := by
  have s1 := But.set (b := b) W 2 v
  have s2 := But.set (b := b) wr 2 v
  have hlt := hr.lt
  refine ⟨⟨s2.os.trans (h.bel.os.trans s1.os.symm), s2.tape.trans (h.bel.tape.trans s1.tape.symm), s2.output.trans (h.bel.output.trans s1.output.symm), ?_, fun q hq => ?_⟩, But.keep s2 h.box (by omega), h.nam.keepB (fun _ _ _ _ h => h) s2 (fun q hq e => by have := (h.nam.low q hq).1; have := Option.some.inj e; omega), h.itm.keepB (fun _ _ _ _ h => h) s2 (fun q hq e => by have := (h.itm.low q hq).1; have := Option.some.inj e; omega), h.apart⟩
  · have := h.bel.size; simpa using this
  · by_cases e : q = b
    · subst e
      rw [set_at hr.box, set_at hr2.box]
    · by_cases hl : q < W.heap.size
      · rw [s1.block q hl (fun e2 => e (Option.some.inj e2)), s2.block q (Nat.lt_of_lt_of_le hl h.bel.size) (fun e2 => e (Option.some.inj e2)), h.bel.block q hq]
      · have h1 : W.heap[q]? = wr.heap[q]? := (h.bel.block q hq).symm
        have h2 : W.heap[q]? = none := Array.getElem?_eq_none (by omega)
        have h3 : wr.heap.size ≤ q := by
          rw [h2] at h1
          exact Array.getElem?_eq_none_iff.1 h1.symm
        rw [Array.getElem?_eq_none (by simpa using h3), Array.getElem?_eq_none (by simp; omega)]
theorem WV.start {w : World} {o1 o2 o3 : Obj} {W : World} (hW : W = (((w.alloc o1).alloc o2).alloc o3).alloc (.cells #[.int .i64 6, .int .i64 0, .string ⟨#[]⟩, .slice none 0 0, .slice none 0 0] 25)) : WV w.heap.size W W (.slice none 0 0) (.slice none 0 0) 0 0 [] [] [] [] := by
  subst hW
  refine ⟨Below.refl _ _, ?_, OwnS.start _ _ _ (by simp), OwnS.start _ _ _ (by simp), fun g h => by simp [Value.ownBlock] at h⟩
  have := heap_alloc_new (((w.alloc o1).alloc o2).alloc o3) (.cells #[.int .i64 6, .int .i64 0, .string ⟨#[]⟩, .slice none 0 0, .slice none 0 0] 25)
  simpa using this
theorem four_new (w : World) (o1 o2 o3 o4 : Obj) : ∃ W, W = (((w.alloc o1).alloc o2).alloc o3).alloc o4 ∧ Below w.heap.size w W ∧ W.heap[w.heap.size]? = some o1 ∧ W.heap[w.heap.size + 1]? = some o2 ∧ W.heap[w.heap.size + 2]? = some o3 ∧ W.heap.size = w.heap.size + 4 := by
  refine ⟨_, rfl, ((((Below.refl _ w).alloc (Nat.le_refl _) o1).alloc (by simp) o2).alloc (by simp; omega) o3).alloc (by simp; omega) o4, ?_, ?_, ?_, by simp⟩
  · have h1 := kept (heap_alloc_new w o1) ((Below.refl _ (w.alloc o1)).alloc (Nat.le_refl _) o2)
    have h2 := kept h1 ((Below.refl _ _).alloc (Nat.le_refl _) o3)
    exact kept h2 ((Below.refl _ _).alloc (Nat.le_refl _) o4)
  · have h1 := heap_alloc_new (w.alloc o1) o2
    have h2 := kept h1 ((Below.refl _ _).alloc (Nat.le_refl _) o3)
    have h3 := kept h2 ((Below.refl _ _).alloc (Nat.le_refl _) o4)
    simpa using h3
  · have h1 := heap_alloc_new ((w.alloc o1).alloc o2) o3
    have h2 := kept h1 ((Below.refl _ _).alloc (Nat.le_refl _) o4)
    simpa using h2

/-- a member more, where its name stands -/
def RWithPost (b : Nat) (s : ByteArray) (j : Nat) (no : Bool) (C : Nat) (nm : List ByteArray) (ls : List (List Value)) (name : ByteArray) (xl : List Value) (w : World) (e : Ending) (w' : World) : Prop :=
  But b w w' ∧ ∃ nv' iv', e = .returned (.agg #[.int .i64 6, .int .i64 0, .string ⟨#[]⟩, nv', iv']) ∧ RC b s j (no || decide (nm[placeN nm name]? = some name)) w' ∧ SAt 1 RS (cfF C w') nv' (insA (placeN nm name) name nm) ∧ SAt 5 Raw5 (cfF C w') iv' (insA (placeN nm name) xl ls)
theorem place_at {nm : List ByteArray} {name : ByteArray} {m : Nat} (hall : ∀ (q : Nat) a, q < m → nm[q]? = some a → strLt a name = true) (hm : m ≤ nm.length) (hno : ∀ a, nm[m]? = some a → strLt a name = false) : placeN nm name = m := by
  unfold placeN
  induction nm generalizing m with
  | nil => simp at hm ⊢; omega
  | cons x nm ih =>
    cases m with
    | zero =>
      rw [List.takeWhile_cons, hno x rfl]; rfl
    | succ m =>
      rw [List.takeWhile_cons, hall 0 x (by omega) rfl, if_pos rfl, List.length_cons, ih (m := m) (fun q a hq ha => hall (q + 1) a (by omega) (by simpa using ha)) (by simpa using hm) (fun a ha => hno a (by simpa using ha))]
theorem with_post {b : Nat} {s : ByteArray} {j : Nat} {no no6 : Bool} {C m : Nat} {nm dn : List ByteArray} {ls dl : List (List Value)} {name : ByteArray} {xl : List Value} {w W6 w12 : World} {sv tv : Value} {p p2 : Nat} {cs ds : List Value}
    (h : WV w.heap.size W6 w12 sv tv p p2 ((nm.take m ++ [name]) ++ dn) ((ls.take m ++ [xl]) ++ dl) cs ds) (hW : But b w W6) (hbC : b < C) (hC : C ≤ w.heap.size) (hres : W6.heap[w.heap.size + 2]? = some (.cells zero5R 25 (0, 0))) (hr : RC b s j no6 W6) (hp : placeN nm name = m) (hno : no6 = (no || decide (nm[m]? = some name))) (hdn : dn = nm.drop m) (hdl : dl = ls.drop m) :
    ∃ W2, W2 = set5R w12 (w.heap.size + 2) (.int .i64 6) (.int .i64 0) (.string ⟨#[]⟩) sv tv ∧ W2.heap[w.heap.size + 2]? = some (.cells #[.int .i64 6, .int .i64 0, .string ⟨#[]⟩, sv, tv] 25 (0, 0)) ∧ RWithPost b s j no C nm ls name xl w (.returned (.agg #[.int .i64 6, .int .i64 0, .string ⟨#[]⟩, sv, tv])) W2 := by
  have hb12 : But b w w12 := ⟨h.bel.os.trans hW.os, h.bel.tape.trans hW.tape, h.bel.output.trans hW.output, Nat.le_trans hW.size h.bel.size, fun q hq hne => by rw [h.bel.block q (by omega)]; exact hW.block q hq hne⟩
  have hres12 : w12.heap[w.heap.size + 2]? = some (.cells zero5R 25 (0, 0)) := by rw [h.bel.block _ (by omega)]; exact hres
  have hr12 : RC b s j no6 w12 := ⟨by rw [h.bel.block b (by omega)]; exact hr.box, hr.le⟩
  have hcl : CLe (cfA (w.heap.size + 4) w12) (cfF C (set5R w12 (w.heap.size + 2) (.int .i64 6) (.int .i64 0) (.string ⟨#[]⟩) sv tv)) :=
    CLe.trans (b := cfF (w.heap.size + 4) (set5R w12 (w.heap.size + 2) (.int .i64 6) (.int .i64 0) (.string ⟨#[]⟩) sv tv)) (cfF_but (set5R_but _ _ _ _ _ _ _) (by omega)) (cfF_le _ (by omega))
  subst hp hno hdn hdl
  refine ⟨_, rfl, set5R_self hres12, But.own hb12 (by omega) (set5R_but _ _ _ _ _ _ _), sv, tv, rfl, ⟨But.keep (set5R_but _ _ _ _ _ _ _) hr12.box (by omega), hr12.le⟩, ?_, ?_⟩
  · have h9 := (h.nam.atA (grow_texts (c' := cfA (w.heap.size + 4) w12) h.nam.row)).mono RS_mono hcl
    rw [List.append_assoc] at h9
    exact h9
  · have h9 := (h.itm.atA (grow_raw (c' := cfA (w.heap.size + 4) w12) h.itm.row)).mono Raw5_mono hcl
    rw [List.append_assoc] at h9
    exact h9

theorem keptB3 {N : Nat} {W wr : World} {q : Nat} {o : Obj} (h : W.heap[q]? = some o) (hb : Below (N + 3) W wr) (hq : q < N + 3) : wr.heap[q]? = some o := by rw [hb.block q hq]; exact h
theorem cell_bel {b B off : Nat} {w W wr : World} {g : Nat} {u : Value} (hb : Below (w.heap.size + 3) W wr) (hW : But b w W) (hbB : b < B) (h : cfF B w g off = some u) : wr.cell? ⟨g, off, none⟩ = some u := by
  unfold cfF at h; split at h
  · have hlt := lt_of_cell h
    rw [hb.cell (p := ⟨g, off, none⟩) (by show g < w.heap.size + 3; omega)]
    exact hW.cell h (fun e => by have e2 : g = b := Option.some.inj e; omega)
  · cases h
theorem cle_belN {b B : Nat} {w W wr : World} {sl : Value} (hb : Below (w.heap.size + 3) W wr) (hW : But b w W) (hbB : b < B) (hs : ∀ g, sl.ownBlock = some g → w.heap.size + 4 ≤ g ∧ g < wr.heap.size) : CLe (cfF B w) (cfN sl wr) := fun g off u h => by
  have h1 := cell_bel hb hW hbB h
  unfold cfF at h; split at h
  · have hlt := lt_of_cell h
    unfold cfN; rw [if_neg (fun e => by have := (hs g e).1; omega)]; exact h1
  · cases h
/-- an element's five cells -/
theorem five_of {d : List Value} (h : d.length = 5) : ∃ c0 c1 c2 c3 c4, d = [c0, c1, c2, c3, c4] := by
  match d, h with
  | [c0, c1, c2, c3, c4], _ => exact ⟨c0, c1, c2, c3, c4, rfl⟩

set_option maxHeartbeats 16000000 in
set_option maxRecDepth 100000 in
theorem rWith_any (b : Nat) (s : ByteArray) (j : Nat) (no : Bool) (C : Nat) (nv iv : Value) (nm : List ByteArray) (ls : List (List Value)) (name : ByteArray) (xk xn : Int) (xt : ByteArray) (xna xia : Option Addr) (xnl xnc xil xic : Nat) (w : World)
    (h : RC b s j no w) (hbC : b < C) (hC : C ≤ w.heap.size) (hnv : SAt 1 RS (cfF C w) nv nm) (hiv : SAt 5 Raw5 (cfF C w) iv ls) (hl : ls.length = nm.length) (hlen : nm.length ≤ 1000000) (hname : name.size ≤ 9223372036854775807) :
    Calls Tryz.prog 183 #[.pointer (some ⟨b, 0, none⟩), .agg #[.int .i64 6, .int .i64 0, .string ⟨#[]⟩, nv, iv], .string name, .agg #[.int .i64 xk, .int .i64 xn, .string xt, .slice xna xnl xnc, .slice xia xil xic]] w
      (RWithPost b s j no C nm ls name [.int .i64 xk, .int .i64 xn, .string xt, .slice xna xnl xnc, .slice xia xil xic] w) := by
  obtain ⟨na, ncap, rfl, hncap, hncap2, hnel⟩ := id hnv
  obtain ⟨ia, icap, rfl, hicap, hicap2, hiel⟩ := id hiv
  obtain ⟨W, hW, hbW, hvb, hxb, hrb, hWs⟩ := four_new w (.cells #[.int .i64 6, .int .i64 0, .string ⟨#[]⟩, .slice na nm.length ncap, .slice ia ls.length icap] 25) (.cells #[.int .i64 xk, .int .i64 xn, .string xt, .slice xna xnl xnc, .slice xia xil xic] 25) (.cells zero5R 25) (.cells #[.int .i64 6, .int .i64 0, .string ⟨#[]⟩, .slice none 0 0, .slice none 0 0] 25)
  have HV0 := Hold.mk (WV.start hW)
  have HR := Hold.mk h
  have HRW := Hold.mk (h.below hbW)
  have HVB := Hold.mk hvb
  have HXB := Hold.mk hxb
  have HRB := Hold.mk hrb
  have HW3 : Hold (But b w W) := ⟨But.of_below hbW⟩
  have HNV := Hold.mk hnv
  have HIV := Hold.mk hiv
  have HNE := Hold.mk hnel
  have HIE := Hold.mk hiel
  have HL := Hold.mk hl
  have hbw := h.lt
  clear h hvb hxb hrb hbW hnv hiv hnel hiel hl
  go_enter Tryz.func183, Tryz.ntmps183
  go_upto_region 2 with (fail)
  rw [← hW, show w.heap.size + 1 + 1 = w.heap.size + 2 from rfl, show w.heap.size + 2 + 1 = w.heap.size + 3 from rfl]
  clear hW
  go_wp2_with fail
  go_loopw [10] (fun i wr => ∃ (m : Nat) (sv tv : Value) (cs ds : List Value), i = .int .i64 m ∧ m ≤ nm.length ∧ (∀ (q : Nat) a, q < m → nm[q]? = some a → strLt a name = true) ∧ WV w.heap.size W wr sv tv m m (nm.take m) (ls.take m) cs ds) (fun i _ => nm.length - (intOf i).toNat)
  case atStart => exact ⟨0, _, _, _, _, rfl, Nat.zero_le _, fun q a h => by omega, HV0.out⟩
  case round =>
    obtain ⟨m, sv, tv, cs, ds, rfl, hm, hall, hv⟩ := hrel
    clear HV0
    have HV := Hold.mk hv
    have HALL := Hold.mk hall
    obtain ⟨sa, scap, rfl⟩ := hv.nam.shape
    obtain ⟨ta, tcap, rfl⟩ := hv.itm.shape
    clear hv hall
    obtain ⟨u0, u1, u2, u3, u4⟩ := cells5R (keptB3 HVB.out HV.out.bel (by omega))
    have hgo : (∃ a, nm[m]? = some a ∧ strLt a name = true) ∨ (∀ a, nm[m]? = some a → strLt a name = false) := by
      cases e : nm[m]? with
      | none => exact .inr (fun a h => by cases h)
      | some a =>
        cases h : strLt a name with
        | true => exact .inl ⟨a, rfl, h⟩
        | false => exact .inr (fun b hb => by cases hb; exact h)
    rcases hgo with ⟨a, ha, hst⟩ | hno
    · obtain ⟨hm2, _⟩ := List.getElem?_eq_some_iff.1 ha
      obtain ⟨g, off, d, rfl, _, hc, rfl, hasz⟩ := HNE.out m a ha
      have hac := hc 0 _ rfl
      simp only [Nat.mul_one, Nat.add_zero] at hac
      obtain ⟨x, hx⟩ : ∃ x, ls[m]? = some x := ⟨ls[m]'(by have := HL.out; omega), List.getElem?_eq_getElem _⟩
      obtain ⟨g2, off2, d, rfl, hd5, hc2, rfl, _, hone⟩ := HIE.out m x hx
      obtain ⟨c0, c1, c2, c3, c4, rfl⟩ := five_of hd5
      have ha0 := hc2 0 _ rfl
      have ha1 := hc2 1 _ rfl
      have ha2 := hc2 2 _ rfl
      have ha3 := hc2 3 _ rfl
      have ha4 := hc2 4 _ rfl
      simp only [Nat.add_zero] at ha0
      have hm3 : m < ls.length := by have := HL.out; omega
      have HAC := Hold.mk hac
      have hgl : g < w.heap.size := lt_of_cell (cfF_cf _ _ _ _ _ hac)
      have hgl2 : g2 < w.heap.size := lt_of_cell (cfF_cf _ _ _ _ _ ha0)
      have HIC := Hold.mk (And.intro ha0 (And.intro ha1 (And.intro ha2 (And.intro ha3 ha4))))
      have hb1 : Op.bytesLess a.toList name.toList = true := hst
      have z0 := cell_bel HV.out.bel HW3.out hbC hac
      have HTK : Hold (nm.take (m + 1) = nm.take m ++ [a]) := ⟨take_succ ha⟩
      have HTL : Hold (ls.take (m + 1) = ls.take m ++ [[c0, c1, c2, c3, c4]]) := ⟨take_succ hx⟩
      have HA2 : Hold (∀ (q : Nat) b, q < m + 1 → nm[q]? = some b → strLt b name = true) := ⟨fun q b hq hb => by
        by_cases e : q = m
        · subst e; rw [ha] at hb; cases hb; exact hst
        · exact HALL.out q b (by omega) hb⟩
      have HSR : Hold (∀ c : CF, RS c a [.string a]) := ⟨fun _ => ⟨rfl, hasz⟩⟩
      have HON : Hold (∀ u ∈ [c0, c1, c2, c3, c4], u.oneCell' = true) := ⟨hone⟩
      have HSI : Hold (∀ c : CF, Raw5 c [c0, c1, c2, c3, c4] [c0, c1, c2, c3, c4]) := ⟨fun _ => ⟨rfl, rfl, hone⟩⟩
      clear hst ha hx hc hc2 hac ha0 ha1 ha2 ha3 ha4 hasz hd5
      go_upto_region 4 with (fail)
      clear u0 u1 u2 u3 u4 z0 hb1
      go_cut [] (fun wx => ∃ sv cs, WV w.heap.size W wx sv (.slice ta m tcap) (m + 1) m (nm.take (m + 1)) (ls.take m) cs ds)
      case first =>

        obtain ⟨wd, hwd⟩ : ∃ wd, wd = wr.drew := ⟨_, rfl⟩
        refine wp_region_mixC (GrowBC (w.heap.size + 3) wd) 11 rfl (by kernel_rfl) ?_
        rw [← hwd]
        replace HV : Hold (WV w.heap.size W wd (.slice sa m scap) (.slice ta m tcap) m m _ _ cs ds) := ⟨by rw [hwd]; exact HV.out.drew⟩
        clear hwd
        have hlt := ltR HV.out.box
        have HBA : Hold (Below (w.heap.size + 3) wd (wd.alloc (.cells #[.string a] 9))) := ⟨(Below.refl _ wd).alloc (by omega) _⟩
        obtain ⟨u0, u1, u2, u3, u4⟩ := cells5R (keptB3 HVB.out HV.out.bel (by omega))
        have z3 := GrowB.cell (B := w.heap.size + 3) u3 (by show w.heap.size < w.heap.size + 3; omega)
        clear u0 u1 u2 u3 u4
        have zc := GrowB.cell (B := w.heap.size + 3) (cell_bel HV.out.bel HW3.out hbC HAC.out) (by show g < w.heap.size + 3; omega)
        refine mixl_seg (by kernel_rfl) (fun _ _ d _ _ h => by cases d <;> exact h) [0, 2, 3, 4, 5, 6] [_, _, _, _, _, _] 5 11 rfl _ _ _ rfl (by kernel_rfl) (growBC (Below.refl _ _)) ?_
        repeat (go_big_quiet_step (fail))
        refine wpQuiet_nil ?_
        clear z3 zc
        refine mixl_two (i := 1) (j := 7) rfl rfl (by kernel_rfl) (growBC (Below.refl _ _)) rfl rfl (fun K hK => ?_) (fun K hK => ?_)
        · obtain ⟨y0, y1, y2, y3, y4⟩ := cells5R HV.out.box
          go_wp2_with fail
          clear y0 y1 y2 y3 y4
          refine mixl_act (i := 7) rfl (by kernel_rfl) (growBC (Below.refl _ _)) rfl (fun K hK => ?_)
          go_wp2_with fail
          refine mixl_act (i := 8) rfl (by kernel_rfl) (growBC HBA.out) rfl (fun K hK => ?_)
          refine wp_push RS_mono _ _ rfl infoStr Tryz.underlying22 rfl (by decide) _ wd _ m _ _ HV.out.nam rfl #[.string a] [.string a] rfl rfl (by simp [Value.oneCell']) a (HSR.out _) _ rfl rfl (by omega) (by decide) ?_
          intro sv2 w4 ho4 hg4
          refine hK _ _ ?_
          clear hK K
          obtain ⟨ra, rcap, rfl⟩ := ho4.shape
          have HB4 : Hold (Below (w.heap.size + 3) wd w4) := ⟨hg4.below (by have := HV.out.nam.le; omega) (fun g hg => by have := (HV.out.nam.low g hg).1; omega)⟩
          have hbx := hg4.kept HV.out.box (fun g hg e => by have := (HV.out.nam.low g hg).1; omega)
          have HVN := Hold.mk (HV.out.name hg4 ho4)
          have HB5 : Hold (Below (w.heap.size + 3) wd (w4.setCell ⟨w.heap.size + 3, 3, none⟩ (.slice ra (m + 1) rcap))) := ⟨HB4.out.setCell (p := ⟨w.heap.size + 3, 3, none⟩) (Nat.le_refl _) _⟩
          clear ho4 hg4
          refine mixl_act (i := 9) rfl (by kernel_rfl) (growBC HB4.out) rfl (fun K hK => ?_)
          go_wp2_with fail
          refine mixl_act (i := 10) rfl (by kernel_rfl) (growBC HB4.out) rfl (fun K hK => ?_)
          obtain ⟨y0, y1, y2, y3, y4⟩ := cells5R hbx
          have f4 := freeR hbx 3
          clear hbx
          go_wp2_with fail
          clear y0 y1 y2 y3 y4 f4
          refine mix_done (by kernel_rfl) (growBC HB5.out) ?_
          go_wp2_with fail
          go_meet
          case rel => exact ⟨_, _, by rw [HTK.out]; exact HVN.out⟩
        · go_wp2_with fail
          refine mixl_act (i := 1) rfl (by kernel_rfl) (growBC HBA.out) rfl (fun K hK => ?_)
          obtain ⟨y0, y1, y2, y3, y4⟩ := cells5R HV.out.box
          go_wp2_with fail
          clear y0 y1 y2 y3 y4
          refine mixl_act (i := 8) rfl (by kernel_rfl) (growBC HBA.out) rfl (fun K hK => ?_)
          refine wp_push RS_mono _ _ rfl infoStr Tryz.underlying22 rfl (by decide) _ wd _ m _ _ HV.out.nam rfl #[.string a] [.string a] rfl rfl (by simp [Value.oneCell']) a (HSR.out _) _ rfl rfl (by omega) (by decide) ?_
          intro sv2 w4 ho4 hg4
          refine hK _ _ ?_
          clear hK K
          obtain ⟨ra, rcap, rfl⟩ := ho4.shape
          have HB4 : Hold (Below (w.heap.size + 3) wd w4) := ⟨hg4.below (by have := HV.out.nam.le; omega) (fun g hg => by have := (HV.out.nam.low g hg).1; omega)⟩
          have hbx := hg4.kept HV.out.box (fun g hg e => by have := (HV.out.nam.low g hg).1; omega)
          have HVN := Hold.mk (HV.out.name hg4 ho4)
          have HB5 : Hold (Below (w.heap.size + 3) wd (w4.setCell ⟨w.heap.size + 3, 3, none⟩ (.slice ra (m + 1) rcap))) := ⟨HB4.out.setCell (p := ⟨w.heap.size + 3, 3, none⟩) (Nat.le_refl _) _⟩
          clear ho4 hg4
          refine mixl_act (i := 9) rfl (by kernel_rfl) (growBC HB4.out) rfl (fun K hK => ?_)
          go_wp2_with fail
          refine mixl_act (i := 10) rfl (by kernel_rfl) (growBC HB4.out) rfl (fun K hK => ?_)
          obtain ⟨y0, y1, y2, y3, y4⟩ := cells5R hbx
          have f4 := freeR hbx 3
          clear hbx
          go_wp2_with fail
          clear y0 y1 y2 y3 y4 f4
          refine mix_done (by kernel_rfl) (growBC HB5.out) ?_
          go_wp2_with fail
          go_meet
          case rel => exact ⟨_, _, by rw [HTK.out]; exact HVN.out⟩
      case rest =>
        obtain ⟨sv, cs, hv⟩ := hcut
        generalize wc = wr at *
        replace HV := Hold.mk hv
        obtain ⟨sa, scap, rfl⟩ := hv.nam.shape
        clear hv
        go_upto_region 5 with (fail)
        go_cut [] (fun wx => ∃ tv ds, WV w.heap.size W wx (.slice sa (m + 1) scap) tv (m + 1) (m + 1) (nm.take (m + 1)) (ls.take (m + 1)) cs ds)
        case first =>

          obtain ⟨wd, hwd⟩ : ∃ wd, wd = wr.drew := ⟨_, rfl⟩
          refine wp_region_mixC (GrowBC (w.heap.size + 3) wd) 11 rfl (by kernel_rfl) ?_
          rw [← hwd]
          replace HV : Hold (WV w.heap.size W wd (.slice sa (m + 1) scap) (.slice ta m tcap) (m + 1) m _ _ cs ds) := ⟨by rw [hwd]; exact HV.out.drew⟩
          clear hwd
          have hlt := ltR HV.out.box
          have HBA : Hold (Below (w.heap.size + 3) wd (wd.alloc (.cells #[c0, c1, c2, c3, c4] 25))) := ⟨(Below.refl _ wd).alloc (by omega) _⟩
          obtain ⟨u0, u1, u2, u3, u4⟩ := cells5R (keptB3 HVB.out HV.out.bel (by omega))
          have z3 := GrowB.cell (B := w.heap.size + 3) u4 (by show w.heap.size < w.heap.size + 3; omega)
          clear u0 u1 u2 u3 u4
          obtain ⟨ha0, ha1, ha2, ha3, ha4⟩ := HIC.out
          have zc0 := GrowB.cell (B := w.heap.size + 3) (cell_bel HV.out.bel HW3.out hbC ha0) (by show g2 < w.heap.size + 3; omega)
          have zc1 := GrowB.cell (B := w.heap.size + 3) (cell_bel HV.out.bel HW3.out hbC ha1) (by show g2 < w.heap.size + 3; omega)
          have zc2 := GrowB.cell (B := w.heap.size + 3) (cell_bel HV.out.bel HW3.out hbC ha2) (by show g2 < w.heap.size + 3; omega)
          have zc3 := GrowB.cell (B := w.heap.size + 3) (cell_bel HV.out.bel HW3.out hbC ha3) (by show g2 < w.heap.size + 3; omega)
          have zc4 := GrowB.cell (B := w.heap.size + 3) (cell_bel HV.out.bel HW3.out hbC ha4) (by show g2 < w.heap.size + 3; omega)
          clear ha0 ha1 ha2 ha3 ha4
          refine mixl_seg (by kernel_rfl) (fun _ _ d _ _ h => by cases d <;> exact h) [0, 2, 3, 4, 5, 6] [_, _, _, _, _, _] 5 11 rfl _ _ _ rfl (by kernel_rfl) (growBC (Below.refl _ _)) ?_
          repeat (go_big_quiet_step (fail))
          refine wpQuiet_nil ?_
          clear z3 zc0 zc1 zc2 zc3 zc4
          refine mixl_two (i := 1) (j := 7) rfl rfl (by kernel_rfl) (growBC (Below.refl _ _)) rfl rfl (fun K hK => ?_) (fun K hK => ?_)
          · obtain ⟨y0, y1, y2, y3, y4⟩ := cells5R HV.out.box
            go_wp2_with fail
            clear y0 y1 y2 y3 y4
            refine mixl_act (i := 7) rfl (by kernel_rfl) (growBC (Below.refl _ _)) rfl (fun K hK => ?_)
            go_wp2_with fail
            refine mixl_act (i := 8) rfl (by kernel_rfl) (growBC HBA.out) rfl (fun K hK => ?_)
            refine wp_push Raw5_mono _ _ rfl infoVal Tryz.underlying23 rfl (by decide) _ wd _ m _ _ HV.out.itm rfl #[c0, c1, c2, c3, c4] [c0, c1, c2, c3, c4] rfl rfl HON.out [c0, c1, c2, c3, c4] (HSI.out _) _ rfl rfl (by omega) (by decide) ?_
            intro sv2 w4 ho4 hg4
            refine hK _ _ ?_
            clear hK K
            obtain ⟨ra, rcap, rfl⟩ := ho4.shape
            have HB4 : Hold (Below (w.heap.size + 3) wd w4) := ⟨hg4.below (by have := HV.out.itm.le; omega) (fun g hg => by have := (HV.out.itm.low g hg).1; omega)⟩
            have hbx := hg4.kept HV.out.box (fun g hg e => by have := (HV.out.itm.low g hg).1; omega)
            have HVN := Hold.mk (HV.out.item hg4 ho4)
            have HB5 : Hold (Below (w.heap.size + 3) wd (w4.setCell ⟨w.heap.size + 3, 4, none⟩ (.slice ra (m + 1) rcap))) := ⟨HB4.out.setCell (p := ⟨w.heap.size + 3, 4, none⟩) (Nat.le_refl _) _⟩
            clear ho4 hg4
            refine mixl_act (i := 9) rfl (by kernel_rfl) (growBC HB4.out) rfl (fun K hK => ?_)
            go_wp2_with fail
            refine mixl_act (i := 10) rfl (by kernel_rfl) (growBC HB4.out) rfl (fun K hK => ?_)
            obtain ⟨y0, y1, y2, y3, y4⟩ := cells5R hbx
            have f4 := freeR hbx 4
            clear hbx
            go_wp2_with fail
            clear y0 y1 y2 y3 y4 f4
            refine mix_done (by kernel_rfl) (growBC HB5.out) ?_
            go_wp2_with fail
            go_meet
            case rel => exact ⟨_, _, by rw [HTL.out]; exact HVN.out⟩
          · go_wp2_with fail
            refine mixl_act (i := 1) rfl (by kernel_rfl) (growBC HBA.out) rfl (fun K hK => ?_)
            obtain ⟨y0, y1, y2, y3, y4⟩ := cells5R HV.out.box
            go_wp2_with fail
            clear y0 y1 y2 y3 y4
            refine mixl_act (i := 8) rfl (by kernel_rfl) (growBC HBA.out) rfl (fun K hK => ?_)
            refine wp_push Raw5_mono _ _ rfl infoVal Tryz.underlying23 rfl (by decide) _ wd _ m _ _ HV.out.itm rfl #[c0, c1, c2, c3, c4] [c0, c1, c2, c3, c4] rfl rfl HON.out [c0, c1, c2, c3, c4] (HSI.out _) _ rfl rfl (by omega) (by decide) ?_
            intro sv2 w4 ho4 hg4
            refine hK _ _ ?_
            clear hK K
            obtain ⟨ra, rcap, rfl⟩ := ho4.shape
            have HB4 : Hold (Below (w.heap.size + 3) wd w4) := ⟨hg4.below (by have := HV.out.itm.le; omega) (fun g hg => by have := (HV.out.itm.low g hg).1; omega)⟩
            have hbx := hg4.kept HV.out.box (fun g hg e => by have := (HV.out.itm.low g hg).1; omega)
            have HVN := Hold.mk (HV.out.item hg4 ho4)
            have HB5 : Hold (Below (w.heap.size + 3) wd (w4.setCell ⟨w.heap.size + 3, 4, none⟩ (.slice ra (m + 1) rcap))) := ⟨HB4.out.setCell (p := ⟨w.heap.size + 3, 4, none⟩) (Nat.le_refl _) _⟩
            clear ho4 hg4
            refine mixl_act (i := 9) rfl (by kernel_rfl) (growBC HB4.out) rfl (fun K hK => ?_)
            go_wp2_with fail
            refine mixl_act (i := 10) rfl (by kernel_rfl) (growBC HB4.out) rfl (fun K hK => ?_)
            obtain ⟨y0, y1, y2, y3, y4⟩ := cells5R hbx
            have f4 := freeR hbx 4
            clear hbx
            go_wp2_with fail
            clear y0 y1 y2 y3 y4 f4
            refine mix_done (by kernel_rfl) (growBC HB5.out) ?_
            go_wp2_with fail
            go_meet
            case rel => exact ⟨_, _, by rw [HTL.out]; exact HVN.out⟩
        case rest =>
          obtain ⟨tv, ds, hv⟩ := hcut
          generalize wc = wr at *
          have HVN := Hold.mk hv
          clear hv HV
          have hm1 : m + 1 ≤ nm.length := by omega
          go_wp2_with fail
          exact ⟨⟨m + 1, _, _, _, _, by go_num, hm1, HA2.out, HVN.out⟩, by simp [intOf]; omega⟩
    · have HPL : Hold (placeN nm name = m) := ⟨place_at HALL.out hm hno⟩
      obtain ⟨no6, hno6⟩ : ∃ no6, no6 = (no || decide (nm[m]? = some name)) := ⟨_, rfl⟩
      have HNO := Hold.mk hno6
      have HRR : Hold (RC b s j no wr) := ⟨by rw [HV.out.bel.block b (by omega)]; exact HRW.out.box, HRW.out.le⟩
      -- the three ways out
      have hways : (¬ (m : Int) < (nm.length : Int) ∧ ∃ W6 w6, W6 = W ∧ w6 = wr ∧ RC b s j no6 W6 ∧ WV w.heap.size W6 w6 (.slice sa m scap) (.slice ta m tcap) m m (nm.take m) (ls.take m) cs ds ∧ But b w W6) ∨
          (∃ a g off, na = some ⟨g, off, none⟩ ∧ m < nm.length ∧ Op.bytesLess a.toList name.toList = false ∧ wr.cell? ⟨g, off + m, none⟩ = some (.string a) ∧ (a.toList == name.toList) = false ∧ ∃ W6 w6, W6 = W ∧ w6 = wr ∧ RC b s j no6 W6 ∧ WV w.heap.size W6 w6 (.slice sa m scap) (.slice ta m tcap) m m (nm.take m) (ls.take m) cs ds ∧ But b w W6) ∨
          (∃ g off, na = some ⟨g, off, none⟩ ∧ m < nm.length ∧ Op.bytesLess name.toList name.toList = false ∧ wr.cell? ⟨g, off + m, none⟩ = some (.string name) ∧ ∃ W6 w6, W6 = W.setCell ⟨b, 2, none⟩ (.bool true) ∧ w6 = wr.setCell ⟨b, 2, none⟩ (.bool true) ∧ RC b s j no6 W6 ∧ WV w.heap.size W6 w6 (.slice sa m scap) (.slice ta m tcap) m m (nm.take m) (ls.take m) cs ds ∧ But b w W6) := by
        have hrw := HRR.out
        cases e : nm[m]? with
        | none =>
          rw [e] at hno6
          obtain rfl : no6 = no := by rw [hno6]; simp
          exact .inl ⟨by have := List.getElem?_eq_none_iff.1 e; omega, W, wr, rfl, rfl, HRW.out, HV.out, HW3.out⟩
        | some a =>
          have hlt := (List.getElem?_eq_some_iff.1 e).1
          obtain ⟨g, off, d, hna, _, hc, rfl, hasz⟩ := HNE.out m a e
          have hac := hc 0 _ rfl
          simp only [Nat.mul_one, Nat.add_zero] at hac
          have z0 := cell_bel HV.out.bel HW3.out hbC hac
          by_cases hes : a = name
          · subst hes
            rw [e] at hno6
            obtain rfl : no6 = true := by rw [hno6]; simp
            exact .inr (.inr ⟨g, off, hna, hlt, hno _ e, z0, _, _, rfl, rfl, HRW.out.not, HV.out.setb hbw HRW.out hrw _, HW3.out.trans (But.set _ _ _)⟩)
          · rw [e] at hno6
            obtain rfl : no6 = no := by rw [hno6]; simp [hes]
            exact .inr (.inl ⟨a, g, off, hna, hlt, hno _ e, z0, str_ne hes, W, wr, rfl, rfl, HRW.out, HV.out, HW3.out⟩)
      have HSN : Hold (∀ c : CF, RS c name [.string name]) := ⟨fun _ => ⟨rfl, hname⟩⟩
      have HSX : Hold (∀ c : CF, Raw5 c [.int .i64 xk, .int .i64 xn, .string xt, .slice xna xnl xnc, .slice xia xil xic] [.int .i64 xk, .int .i64 xn, .string xt, .slice xna xnl xnc, .slice xia xil xic]) := ⟨fun _ => ⟨rfl, rfl, by simp [Value.oneCell']⟩⟩
      obtain ⟨a', hsl, hslA⟩ := slice_tail (n := 1) Tryz.underlying22 (by kernel_rfl) infoStr na nm.length ncap m hm hncap hncap2
      obtain ⟨a'', htl, htlA⟩ := slice_tail (n := 5) Tryz.underlying23 (by kernel_rfl) infoVal ia ls.length icap m (by have := HL.out; omega) hicap hicap2
      obtain ⟨dn, hdn⟩ : ∃ dn, dn = nm.drop m := ⟨_, rfl⟩
      obtain ⟨dm, hdm⟩ : ∃ dm, dm = ls.drop m := ⟨_, rfl⟩
      have HDN := Hold.mk hdn
      have HDM := Hold.mk hdm
      have hdnl : dn.length ≤ 1000000 := by rw [hdn, List.length_drop]; omega
      have hdml : dm.length ≤ 1000000 := by have := HL.out; rw [hdm, List.length_drop]; omega
      have HYS : Hold (∀ (W6 wd : World) (sl : Value), But b w W6 → Below (w.heap.size + 3) W6 wd → (∀ g, sl.ownBlock = some g → w.heap.size + 4 ≤ g ∧ g < wd.heap.size) → SAt 1 RS (cfN sl wd) (.slice a' (nm.length - m) (ncap - m)) dn) := ⟨fun W6 wd sl h6 hb hs => by rw [HDN.out]; exact hslA rfl (HNV.out.mono RS_mono (cle_belN hb h6 hbC hs))⟩
      have HZS : Hold (∀ (W6 wd : World) (sl : Value), But b w W6 → Below (w.heap.size + 3) W6 wd → (∀ g, sl.ownBlock = some g → w.heap.size + 4 ≤ g ∧ g < wd.heap.size) → SAt 5 Raw5 (cfN sl wd) (.slice a'' (ls.length - m) (icap - m)) dm) := ⟨fun W6 wd sl h6 hb hs => by rw [HDM.out]; exact htlA rfl (HIV.out.mono Raw5_mono (cle_belN hb h6 hbC hs))⟩
      clear hslA htlA hno6 hno HV HRW hdn hdm
      rcases hways with ⟨hml, W6, w6, hW6, hw6, hr6, hv6, hb6⟩ | ⟨a, g, off, rfl, hml, hb1, z0, he, W6, w6, hW6, hw6, hr6, hv6, hb6⟩ | ⟨g, off, rfl, hml, hb1, z0, W6, w6, hW6, hw6, hr6, hv6, hb6⟩
      all_goals
        have HVB6 : Hold (W6.heap[w.heap.size]? = some (.cells #[.int .i64 6, .int .i64 0, .string ⟨#[]⟩, .slice _ nm.length ncap, .slice ia ls.length icap] 25 (0, 0))) := ⟨by
          rw [hW6]
          first
            | exact HVB.out
            | exact But.keep (But.set (b := b) _ _ _) HVB.out (by omega)⟩
        have HXB6 : Hold (W6.heap[w.heap.size + 1]? = some (.cells #[.int .i64 xk, .int .i64 xn, .string xt, .slice xna xnl xnc, .slice xia xil xic] 25 (0, 0))) := ⟨by
          rw [hW6]
          first
            | exact HXB.out
            | exact But.keep (But.set (b := b) _ _ _) HXB.out (by omega)⟩
        have HRB6 : Hold (W6.heap[w.heap.size + 2]? = some (.cells zero5R 25 (0, 0))) := ⟨by
          rw [hW6]
          first
            | exact HRB.out
            | exact But.keep (But.set (b := b) _ _ _) HRB.out (by omega)⟩
        have HR6 := Hold.mk hr6
        have HV6 := Hold.mk hv6
        have HB6 := Hold.mk hb6
        have HW6 := Hold.mk hw6
        have x2 := HRR.out.c2
        have f2 := HRR.out.fz 2
        clear hW6 hr6 hv6 hb6 hw6
        go_upto_region 9 with (fail)
        rw [← HW6.out]
        clear u0 u1 u2 u3 u4 x2 f2 HW6 HRR
        obtain ⟨y0, y1, y2, y3, y4⟩ := cells5R HV6.out.box
        have hlt := ltR HV6.out.box
        go_wp2_with (at_builtin; refine push_new RS_mono rfl _ _ rfl infoStr Tryz.underlying22 rfl (by decide) _ _ _ m _ _ HV6.out.nam rfl _ [_] rfl rfl (by simp [Value.oneCell']) name (HSN.out _) _ rfl rfl (by omega) (by decide) ?_)
        intro sv7 w7 ho7 hg7
        clear y0 y1 y2 y3 y4 hlt
        obtain ⟨qa, qcap, rfl⟩ := ho7.shape
        have hbx := hg7.kept HV6.out.box (fun g hg e => by have := (HV6.out.nam.low g hg).1; omega)
        have HV7 := Hold.mk (HV6.out.name hg7 ho7)
        obtain ⟨w8, hw8⟩ : ∃ w8, w8 = w7.setCell ⟨w.heap.size + 3, 3, none⟩ (.slice qa (m + 1) qcap) := ⟨_, rfl⟩
        rw [← hw8] at HV7
        obtain ⟨y0, y1, y2, y3, y4⟩ := cells5R hbx
        have f3 := freeR hbx 3
        clear ho7 hg7 hbx HV6
        go_upto_region 10 with (fail)
        rw [← hw8]
        clear y0 y1 y2 y3 y4 f3 hw8
        obtain ⟨y0, y1, y2, y3, y4⟩ := cells5R HV7.out.box
        obtain ⟨t0, t1, t2, t3, t4⟩ := cells5R (keptB3 HXB6.out HV7.out.bel (by omega))
        have hlt := ltR HV7.out.box
        go_wp2_with (at_builtin; refine push_new Raw5_mono rfl _ _ rfl infoVal Tryz.underlying23 rfl (by decide) _ _ _ m _ _ HV7.out.itm rfl _ [_, _, _, _, _] rfl rfl (by simp [Value.oneCell']) [.int .i64 xk, .int .i64 xn, .string xt, .slice xna xnl xnc, .slice xia xil xic] (HSX.out _) _ rfl rfl (by omega) (by decide) ?_)
        intro sv9 w9 ho9 hg9
        clear y0 y1 y2 y3 y4 t0 t1 t2 t3 t4 hlt
        obtain ⟨pa, pcap, rfl⟩ := ho9.shape
        have hbx := hg9.kept HV7.out.box (fun g hg e => by have := (HV7.out.itm.low g hg).1; omega)
        have HV := Hold.mk (HV7.out.item hg9 ho9)
        obtain ⟨w10, hw10⟩ : ∃ w10, w10 = w9.setCell ⟨w.heap.size + 3, 4, none⟩ (.slice pa (m + 1) pcap) := ⟨_, rfl⟩
        rw [← hw10] at HV
        obtain ⟨y0, y1, y2, y3, y4⟩ := cells5R hbx
        have f4 := freeR hbx 4
        clear ho9 hg9 hbx HV7
        go_upto_region 11 with (fail)
        rw [← hw10]
        clear y0 y1 y2 y3 y4 f4 hw10

        obtain ⟨wd, hwd⟩ : ∃ wd, wd = w10.drew := ⟨_, rfl⟩
        refine wp_region_mixC (GrowBC (w.heap.size + 3) wd) 9 rfl (by kernel_rfl) ?_
        rw [← hwd]
        replace HV := Hold.mk HV.out.drew
        rw [← hwd] at HV
        clear hwd
        have hlt := ltR HV.out.box
        obtain ⟨u0, u1, u2, u3, u4⟩ := cells5R (keptB3 HVB6.out HV.out.bel (by omega))
        have z3 := GrowB.cell (B := w.heap.size + 3) u3 (by show w.heap.size < w.heap.size + 3; omega)
        clear u0 u1 u2 u3 u4
        refine mixl_seg (by kernel_rfl) (fun _ _ d _ _ h => by cases d <;> exact h) [0, 2, 3, 4, 5] [_, _, _, _, _] 4 9 rfl _ _ _ rfl (by kernel_rfl) (growBC (Below.refl _ _)) ?_
        repeat (go_big_quiet_step (fail))
        refine wpQuiet_nil ?_
        clear z3
        refine mixl_act (i := 1) rfl (by kernel_rfl) (growBC (Below.refl _ _)) rfl (fun K hK => ?_)
        obtain ⟨y0, y1, y2, y3, y4⟩ := cells5R HV.out.box
        go_wp2_with fail
        clear y0 y1 y2 y3 y4
        refine mixl_act (i := 6) rfl (by kernel_rfl) (growBC (Below.refl _ _)) rfl (fun K hK => ?_)
        have hys := HYS.out W6 wd _ HB6.out HV.out.bel HV.out.nam.low
        refine wp_push_src RS_mono RS_one _ _ rfl infoStr Tryz.underlying22 rfl (by decide) _ wd _ _ _ _ HV.out.nam rfl _ _ hys rfl (by omega) (by decide) ?_
        intro sv2 w4 cs2 ho4 hg4
        refine hK _ _ ?_
        clear hK K hys
        have HB4 : Hold (Below (w.heap.size + 3) wd w4) := ⟨hg4.below (by have := HV.out.nam.le; omega) (fun g hg => by have := (HV.out.nam.low g hg).1; omega)⟩
        have hbx := hg4.kept HV.out.box (fun g hg e => by have := (HV.out.nam.low g hg).1; omega)
        have HVN := Hold.mk (HV.out.name hg4 ho4)
        obtain ⟨ra, rcap, hra⟩ := ho4.shape
        have HB5 : Hold (Below (w.heap.size + 3) wd (w4.setCell ⟨w.heap.size + 3, 3, none⟩ sv2)) := ⟨HB4.out.setCell (p := ⟨w.heap.size + 3, 3, none⟩) (Nat.le_refl _) _⟩
        clear ho4 hg4
        refine mixl_act (i := 7) rfl (by kernel_rfl) (growBC HB4.out) rfl (fun K hK => ?_)
        go_wp2_with fail
        refine mixl_act (i := 8) rfl (by kernel_rfl) (growBC HB4.out) rfl (fun K hK => ?_)
        subst hra
        obtain ⟨y0, y1, y2, y3, y4⟩ := cells5R hbx
        have f4 := freeR hbx 3
        clear hbx
        go_wp2_with fail
        clear y0 y1 y2 y3 y4 f4
        refine mix_done (by kernel_rfl) (growBC HB5.out) ?_
        clear HB4 HB5 hlt HV
        go_upto_region 12 with (fail)
        obtain ⟨w11, hw11⟩ : ∃ w11, w11 = w4.setCell ⟨w.heap.size + 3, 3, none⟩ (.slice ra (m + 1 + dn.length) rcap) := ⟨_, rfl⟩
        have HV := HVN
        rw [← hw11] at HV ⊢
        clear hw11 HVN
        obtain ⟨wd, hwd⟩ : ∃ wd, wd = w11.drew := ⟨_, rfl⟩
        refine wp_region_mixC (GrowBC (w.heap.size + 3) wd) 9 rfl (by kernel_rfl) ?_
        rw [← hwd]
        replace HV := Hold.mk HV.out.drew
        rw [← hwd] at HV
        clear hwd
        have hlt := ltR HV.out.box
        obtain ⟨u0, u1, u2, u3, u4⟩ := cells5R (keptB3 HVB6.out HV.out.bel (by omega))
        have z3 := GrowB.cell (B := w.heap.size + 3) u4 (by show w.heap.size < w.heap.size + 3; omega)
        clear u0 u1 u2 u3 u4
        refine mixl_seg (by kernel_rfl) (fun _ _ d _ _ h => by cases d <;> exact h) [0, 2, 3, 4, 5] [_, _, _, _, _] 4 9 rfl _ _ _ rfl (by kernel_rfl) (growBC (Below.refl _ _)) ?_
        repeat (go_big_quiet_step (fail))
        refine wpQuiet_nil ?_
        clear z3
        refine mixl_act (i := 1) rfl (by kernel_rfl) (growBC (Below.refl _ _)) rfl (fun K hK => ?_)
        obtain ⟨y0, y1, y2, y3, y4⟩ := cells5R HV.out.box
        go_wp2_with fail
        clear y0 y1 y2 y3 y4
        refine mixl_act (i := 6) rfl (by kernel_rfl) (growBC (Below.refl _ _)) rfl (fun K hK => ?_)
        have hys := HZS.out W6 wd _ HB6.out HV.out.bel HV.out.itm.low
        refine wp_push_src Raw5_mono Raw5_one _ _ rfl infoVal Tryz.underlying23 rfl (by decide) _ wd _ _ _ _ HV.out.itm rfl _ _ hys rfl (by omega) (by decide) ?_
        intro sv2 w4 cs2 ho4 hg4
        refine hK _ _ ?_
        clear hK K hys
        have HB4 : Hold (Below (w.heap.size + 3) wd w4) := ⟨hg4.below (by have := HV.out.itm.le; omega) (fun g hg => by have := (HV.out.itm.low g hg).1; omega)⟩
        have hbx := hg4.kept HV.out.box (fun g hg e => by have := (HV.out.itm.low g hg).1; omega)
        have HVN := Hold.mk (HV.out.item hg4 ho4)
        obtain ⟨ra, rcap, hra⟩ := ho4.shape
        have HB5 : Hold (Below (w.heap.size + 3) wd (w4.setCell ⟨w.heap.size + 3, 4, none⟩ sv2)) := ⟨HB4.out.setCell (p := ⟨w.heap.size + 3, 4, none⟩) (Nat.le_refl _) _⟩
        clear ho4 hg4
        refine mixl_act (i := 7) rfl (by kernel_rfl) (growBC HB4.out) rfl (fun K hK => ?_)
        go_wp2_with fail
        refine mixl_act (i := 8) rfl (by kernel_rfl) (growBC HB4.out) rfl (fun K hK => ?_)
        subst hra
        obtain ⟨y0, y1, y2, y3, y4⟩ := cells5R hbx
        have f4 := freeR hbx 4
        clear hbx
        go_wp2_with fail
        clear y0 y1 y2 y3 y4 f4
        refine mix_done (by kernel_rfl) (growBC HB5.out) ?_
        clear HB4 HB5 hlt HV
        go_upto_region 13 with (fail)
        obtain ⟨w12, hw12⟩ : ∃ w12, w12 = w4.setCell ⟨w.heap.size + 3, 4, none⟩ (.slice ra (m + 1 + dm.length) rcap) := ⟨_, rfl⟩
        rw [← hw12] at HVN ⊢
        clear hw12
        have HP := Hold.mk (with_post HVN.out HB6.out hbC hC HRB6.out HR6.out HPL.out HNO.out HDN.out HDM.out)
        have hv8 := HVN.out.box
        have hv9 := keptB3 HRB6.out HVN.out.bel (by omega)
        clear HVN HYS HZS
        obtain ⟨y0, y1, y2, y3, y4⟩ := cells5R hv8
        obtain ⟨v0, v1, v2, v3, v4⟩ := cells5R hv9
        have g0 := freeR hv9 0
        have g1 := freeR hv9 1
        have g2 := freeR hv9 2
        have g3 := freeR hv9 3
        have g4 := freeR hv9 4
        clear hv8 hv9
        go_wp2_with fail
        clear y0 y1 y2 y3 y4 v0 v1 v2 v3 v4 g0 g1 g2 g3 g4
        obtain ⟨W2, hW2, hv3, hp⟩ := HP.out
        unfold set5R at hW2
        rw [← hW2]
        clear hW2
        obtain ⟨v0, v1, v2, v3, v4⟩ := cells5R hv3
        exact bodyPost_ret (v := .agg #[.int .i64 6, .int .i64 0, .string ⟨#[]⟩, _, _]) (by simp [results, Tryz.results183, go_sem, v0, v1, v2, v3, v4]) rfl hp


end Go.Proofs.YtkhhbckpddkhlaaGreatDoor

namespace Go.Proofs.YtkhhbckpddkhlaaGreatDoor
open Go.Shelf Go.RowKit

/-- a value that is read, or it is none -/
def RResPost (b : Nat) (s : ByteArray) (R : Option (JV × List UInt8)) (w : World) (e : Ending) (w' : World) : Prop :=
  But b w w' ∧ ∃ (bd : Bool) (x : Value) (j : Nat), e = .returned x ∧ shape5 x ∧ RC b s j bd w' ∧ (bd = false → ∃ v, R = some (v, dl s j) ∧ JAt (cfF w.heap.size w') v x) ∧ (bd = true → R = none)
/-- behind a value the blanks are passed over -/
def skp (p : JV × List UInt8) : JV × List UInt8 := (p.1, skipL p.2)
theorem skp_some {R : Option (JV × List UInt8)} {v : JV} {l : List UInt8} (h : R.map skp = some (v, l)) : ∃ r, R = some (v, r) ∧ l = skipL r := by
  cases R with
  | none => cases h
  | some p =>
    obtain ⟨x, r⟩ := p
    have := Option.some.inj h
    unfold skp at this
    simp only [Prod.mk.injEq] at this
    exact ⟨r, by rw [this.1], this.2.symm⟩
theorem skp_none {R : Option (JV × List UInt8)} (h : R.map skp = none) : R = none := by
  cases R with
  | none => rfl
  | some p => cases h

/-- values, and the cells that they lie in -/
def Vals (c : CF) (xs : List JV) (ls : List (List Value)) : Prop := ls.length = xs.length ∧ ∀ (i : Nat) x l, xs[i]? = some x → ls[i]? = some l → JAt c x (.agg l.toArray)
theorem Vals.mono {c d : CF} {xs : List JV} {ls : List (List Value)} (h : Vals c xs ls) (hl : CLe c d) : Vals d xs ls := ⟨h.1, fun i x l hx hy => (h.2 i x l hx hy).mono hl⟩
theorem Vals.nil (c : CF) : Vals c [] [] := ⟨rfl, fun i x l h => by simp at h⟩
theorem Vals.add {c : CF} {xs : List JV} {ls : List (List Value)} {x : JV} {l : List Value} (h : Vals c xs ls) (hx : JAt c x (.agg l.toArray)) : Vals c (xs ++ [x]) (ls ++ [l]) := by
  refine ⟨by simp [h.1], fun i y m hy hm => ?_⟩
  by_cases hi : i < xs.length
  · rw [List.getElem?_append_left hi] at hy
    rw [List.getElem?_append_left (by rw [h.1]; exact hi)] at hm
    exact h.2 i y m hy hm
  · rw [List.getElem?_append_right (by omega)] at hy
    rw [List.getElem?_append_right (by rw [h.1]; omega), h.1] at hm
    cases he : i - xs.length with
    | zero =>
      rw [he] at hy hm
      obtain rfl : x = y := by simpa using hy
      obtain rfl : l = m := by simpa using hm
      exact hx
    | succ q => rw [he] at hy; simp at hy
/-- a row of raw cells that hold values is a slice of values -/
theorem items_raw {c d : CF} {v : Value} {xs : List JV} {ls : List (List Value)} (h : SAt 5 Raw5 c v ls) (hv : Vals d xs ls) (hc : CLe c d) : ItemsAt d v xs := by
  obtain ⟨a, cap, rfl, hle, hcap, hel⟩ := h
  refine ⟨a, cap, by rw [hv.1], by rw [← hv.1]; omega, fun i x hx => ?_⟩
  have hi : i < ls.length := by rw [hv.1]; exact (List.getElem?_eq_some_iff.1 hx).1
  obtain ⟨b, off, dd, rfl, h5, hcell, rfl, _, _⟩ := hel i _ (List.getElem?_eq_getElem hi)
  have hj := hv.2 i x _ hx (List.getElem?_eq_getElem hi)
  obtain ⟨c0, c1, c2, c3, c4, e5⟩ := five_of h5
  rw [e5] at hj hcell
  obtain ⟨k, n, t, nm, it, na, ncap, ia, icap, hxe, e, _⟩ := id hj.open
  simp only [Value.agg.injEq, Array.mk.injEq, List.cons.injEq, and_true] at e
  obtain ⟨rfl, rfl, rfl, rfl, rfl⟩ := e
  exact ⟨b, off, k, n, t, nm, it, na, ncap, ia, icap, rfl, hxe, hc _ _ _ (by simpa using hcell 0 _ rfl), hc _ _ _ (hcell 1 _ rfl), hc _ _ _ (hcell 2 _ rfl), hc _ _ _ (hcell 3 _ rfl), hc _ _ _ (hcell 4 _ rfl), hj⟩

/-- the array under way -/
structure AV (B : Nat) (sl : Value) (ls : List (List Value)) (cs : List Value) (w : World) : Prop where
  box : w.heap[B + 1]? = some (.cells #[.int .i64 5, .int .i64 0, .string ⟨#[]⟩, .slice none 0 0, sl] 25 (0, 0))
  res : w.heap[B]? = some (.cells zero5R 25 (0, 0))
  itm : OwnS 5 Raw5 25 (B + 2) w sl ls.length ls cs
theorem AV.but {B : Nat} {sl : Value} {ls : List (List Value)} {cs : List Value} {w w' : World} (h : AV B sl ls cs w) {b : Nat} (hb : But b w w') (hbB : b < B) : AV B sl ls cs w' :=
  ⟨But.keep hb h.box (by omega), But.keep hb h.res (by omega), h.itm.keepB (fun _ _ _ _ h => h) hb (fun q hq e => by have := (h.itm.low q hq).1; have := Option.some.inj e; omega)⟩
theorem AV.start {w : World} (W : World) (hW : W = (w.alloc (.cells zero5R 25)).alloc (.cells (kind5 5) 25)) : AV w.heap.size (.slice none 0 0) [] [] W := by
  subst hW
  refine ⟨?_, kept (heap_alloc_new w _) ((Below.refl _ _).alloc (Nat.le_refl _) _), OwnS.start _ _ _ (by simp)⟩
  have := heap_alloc_new (w.alloc (.cells zero5R 25)) (.cells (kind5 5) 25)
  simpa using this
theorem AV.push {B : Nat} {sl sl' : Value} {ls ls' : List (List Value)} {cs cs' : List Value} {w w' : World} (h : AV B sl ls cs w) (hg : Grew w w' sl sl') (ho : OwnS 5 Raw5 25 (B + 2) w' sl' ls'.length ls' cs') : AV B sl' ls' cs' (w'.setCell ⟨B + 1, 4, none⟩ sl') := by
  have hset := But.set (b := B + 1) w' 4 sl'
  have hs1 : ∀ q, sl.ownBlock = some q → B + 2 ≤ q := fun q hq => (h.itm.low q hq).1
  refine ⟨?_, ?_, ?_⟩
  · rw [set_at (hg.kept h.box (fun g hq e => by have := hs1 g hq; omega))]; rfl
  · exact But.keep hset (hg.kept h.res (fun g hq e => by have := hs1 g hq; omega)) (by omega)
  · exact ho.keepB (fun _ _ _ _ h => h) hset (fun q hq e => by have := (ho.low q hq).1; have := Option.some.inj e; omega)
/-- the values stand, when the row has grown and the box holds it -/
theorem AV.vals {B : Nat} {sl sl' : Value} {w w' : World} (hg : Grew w w' sl sl') : CLe (cfX (B + 2) sl.ownBlock none w) (cfX (B + 2) sl'.ownBlock none (w'.setCell ⟨B + 1, 4, none⟩ sl')) := by
  have h1 : CLe (cfX (B + 2) sl.ownBlock none w) (cfX (B + 2) sl'.ownBlock none w') := cfX_grown hg.by_ (.inl rfl) hg.own (fun _ h => by cases h)
  exact h1.trans (cfX_grown (But.set (b := B + 1) w' 4 sl') (.inr (.inr fun q e => by have := Option.some.inj e; omega)) (fun _ h => .inl h) (fun _ h => by cases h))
theorem AV.valsBut {B : Nat} {sl : Value} {w w' : World} {b : Nat} (hb : But b w w') (hbB : b < B) : CLe (cfX (B + 2) sl.ownBlock none w) (cfX (B + 2) sl.ownBlock none w') :=
  cfX_grown hb (.inr (.inr fun q e => by have := Option.some.inj e; omega)) (fun _ h => .inl h) (fun _ h => by cases h)
theorem AV.valsNew {B : Nat} {sl : Value} {ls : List (List Value)} {cs : List Value} {w w' : World} (h : AV B sl ls cs w) : CLe (cfF w.heap.size w') (cfX (B + 2) sl.ownBlock none w') :=
  cfX_new h.itm.le (fun q hq => (h.itm.low q hq).2) (fun q h => by cases h)
theorem AV.done {B : Nat} {sl : Value} {ls : List (List Value)} {cs : List Value} {xs : List JV} {w : World} (h : AV B sl ls cs w) (hv : Vals (cfX (B + 2) sl.ownBlock none w) xs ls) : JAt (cfF (B + 2) w) (.mk 5 0 ⟨#[]⟩ [] xs) (.agg #[.int .i64 5, .int .i64 0, .string ⟨#[]⟩, .slice none 0 0, sl]) := by
  have hs := h.itm.atA (B := B + 2) (grow_raw (c' := cfA (B + 2) w) h.itm.row)
  exact JAt.shut (by kernel_rfl) (by kernel_rfl) (by decide) ⟨none, 0, rfl, by simp, fun i s h => by simp at h⟩ (items_raw hs (hv.mono (cfX_cf w (Nat.le_refl _))) (CLe.refl _))

/-- the loop: what is still to be read tells the whole -/
def AInv (b : Nat) (s : ByteArray) (n : Nat) (R : Option (JV × List UInt8)) (w : World) (g : Nat) (wr : World) : Prop :=
  But b w wr ∧ ∃ (bd : Bool) (j : Nat) (sl : Value) (xs : List JV) (ls : List (List Value)) (cs : List Value), RC b s j bd wr ∧ AV w.heap.size sl ls cs wr ∧ ls.length ≤ s.size + 1 ∧
    (bd = false → s.size - j + 1 ≤ g ∧ ls.length ≤ j ∧ ls.length ≤ s.size ∧ Vals (cfX (w.heap.size + 2) sl.ownBlock none wr) xs ls ∧ ∃ m, m ≤ n ∧ 2 * (s.size - j) + 2 ≤ m ∧ arrL m (dl s j) xs = R) ∧ (bd = true → R = none)
/-- a value was read, and the row grew by one -/
def ANxt (b : Nat) (s : ByteArray) (R : Option (JV × List UInt8)) (w : World) (m j : Nat) (wx : World) : Prop :=
  But b w wx ∧ ∃ (bd : Bool) (j3 : Nat) (sl : Value) (xs : List JV) (ls : List (List Value)) (cs : List Value), RC b s j3 bd wx ∧ AV w.heap.size sl ls cs wx ∧ ls.length ≤ s.size + 1 ∧
    (bd = false → j < j3 ∧ ls.length ≤ j3 ∧ ls.length ≤ s.size ∧ Vals (cfX (w.heap.size + 2) sl.ownBlock none wx) xs ls ∧ ∃ r, dl s j3 = skipL r ∧ tailL m 5 r [] xs = R) ∧ (bd = true → R = none)
theorem arr_skip (m : Nat) (l l' : List UInt8) (xs : List JV) (h : skipL l = skipL l') : arrL (m + 1) l xs = arrL (m + 1) l' xs := by rw [arrL, arrL, ← val_skip m l, h, val_skip]
theorem dl_lt {s : ByteArray} {j k : Nat} (h : (dl s k).length < (dl s j).length) : j < k ∧ j < s.size := by
  rw [dl_len, dl_len] at h; omega
/-- the end of an array -/
theorem arr_fin {b : Nat} {s : ByteArray} {R : Option (JV × List UInt8)} {w w1 w2 : World} {sl : Value} {xs : List JV} {ls : List (List Value)} {cs : List Value} {bd no' : Bool} {j k : Nat} (h : AV w.heap.size sl ls cs w1) (hb : But b w w1) (hbw : b < w.heap.size) (hb2 : But b w1 w2) (hr : RC b s k no' w2)
    (h1 : bd = false → Vals (cfX (w.heap.size + 2) sl.ownBlock none w1) xs ls ∧ ∃ r, dl s j = skipL r ∧ endL 5 r [] xs = R) (h2 : bd = true → R = none)
    (hf : no' = false → bd = false ∧ wordL (⟨#[93]⟩ : ByteArray).data.toList (dl s j) = some (dl s k)) (ht : no' = true → bd = true ∨ wordL (⟨#[93]⟩ : ByteArray).data.toList (dl s j) = none) :
    ∃ W2, W2 = set5R w2 w.heap.size (.int .i64 5) (.int .i64 0) (.string ⟨#[]⟩) (.slice none 0 0) sl ∧ W2.heap[w.heap.size]? = some (.cells #[.int .i64 5, .int .i64 0, .string ⟨#[]⟩, .slice none 0 0, sl] 25 (0, 0)) ∧ RResPost b s R w (.returned (.agg #[.int .i64 5, .int .i64 0, .string ⟨#[]⟩, .slice none 0 0, sl])) W2 := by
  have h' := h.but hb2 hbw
  refine ⟨_, rfl, set5R_self h'.res, But.own (hb.trans hb2) (Nat.le_refl _) (set5R_but _ _ _ _ _ _ _), no', _, k, rfl, ?_, ⟨?_, hr.le⟩, fun e => ?_, fun e => ?_⟩
  · obtain ⟨a, cap, e⟩ := h.itm.shape
    exact ⟨_, _, _, _, _, _, _, _, _, by rw [e]⟩
  · exact But.keep (set5R_but _ _ _ _ _ _ _) hr.box (by omega)
  · obtain ⟨e1, e2⟩ := hf e
    obtain ⟨hv, r, hr1, hr2⟩ := h1 e1
    have e3 := wordL_some e2
    refine ⟨.mk 5 0 ⟨#[]⟩ [] xs, by rw [← hr2, end_some (r := dl s k) (by rw [← hr1, e3]; rfl)], ?_⟩
    have hj := h'.done (hv.mono (AV.valsBut hb2 hbw))
    exact (hj.mono (cfF_but (set5R_but _ _ _ _ _ _ _) (by omega))).mono (cfF_le _ (by omega))
  · cases hbd : bd with
    | true => exact h2 hbd
    | false =>
      obtain ⟨_, r, hr1, hr2⟩ := h1 hbd
      have e2 := (ht e).elim (fun h => by rw [hbd] at h; cases h) id
      rw [← hr2]
      refine end_none (fun r' hq => ?_)
      rw [hr1, hq] at e2
      have e3 : wordL (⟨#[93]⟩ : ByteArray).data.toList (endK 5 :: r') = some r' := rfl
      rw [e3] at e2; cases e2

theorem anxt {b : Nat} {s : ByteArray} {R : Option (JV × List UInt8)} {w wd w3 w4 : World} {sl sl' : Value} {xs : List JV} {ls : List (List Value)} {cs cs' : List Value} {m j j3 : Nat} {bd : Bool} {l : List Value}
    (hA : AV w.heap.size sl ls cs w3) (hR : RC b s j3 bd w3) (hB : But b w w3) (hbw : b < w.heap.size) (hj : ls.length ≤ j) (hj2 : ls.length ≤ s.size)
    (hf : bd = false → ∃ v, (valL m (dl s j)).map skp = some (v, dl s j3) ∧ JAt (cfF wd.heap.size w3) v (.agg l.toArray)) (ht : bd = true → (valL m (dl s j)).map skp = none)
    (hv : Vals (cfX (w.heap.size + 2) sl.ownBlock none wd) xs ls) (hc1 : CLe (cfX (w.heap.size + 2) sl.ownBlock none wd) (cfX (w.heap.size + 2) sl.ownBlock none w3)) (hc2 : CLe (cfF wd.heap.size w3) (cfX (w.heap.size + 2) sl.ownBlock none w3))
    (hq : arrL (m + 1) (dl s j) xs = R) (hg : Grew w3 w4 sl sl') (ho0 : OwnS 5 Raw5 25 (w.heap.size + 2) w4 sl' (ls.length + 1) (ls ++ [l]) cs') :
    ANxt b s R w m j (w4.setCell ⟨w.heap.size + 1, 4, none⟩ sl') := by
  have hs1 : ∀ q, sl.ownBlock = some q → w.heap.size + 2 ≤ q := fun q hq => (hA.itm.low q hq).1
  have hset := But.set (b := w.heap.size + 1) w4 4 sl'
  have ho : OwnS 5 Raw5 25 (w.heap.size + 2) w4 sl' (ls ++ [l]).length (ls ++ [l]) cs' := by rw [List.length_append]; exact ho0
  have hrc : RC b s j3 bd (w4.setCell ⟨w.heap.size + 1, 4, none⟩ sl') := ⟨But.keep hset (hg.kept hR.box (fun g hq e => by have := hs1 g hq; omega)) (by omega), hR.le⟩
  refine ⟨But.own (hB.row hg.by_ (fun q hq => by have := hs1 q hq; omega)) (Nat.le_succ _) hset, bd, j3, sl', ?_⟩
  cases bd with
  | true => exact ⟨[], ls ++ [l], cs', hrc, hA.push hg ho, by simp; omega, (fun e => by cases e), fun _ => by rw [← hq, arr_none (skp_none (ht rfl))]⟩
  | false =>
    obtain ⟨v, h1, h2⟩ := hf rfl
    obtain ⟨r, h3, h4⟩ := skp_some h1
    have h5 := valL_len _ _ _ _ h3
    have h6 := skipL_len r
    obtain ⟨h7, h8⟩ := dl_lt (s := s) (j := j) (k := j3) (by rw [h4]; omega)
    exact ⟨xs ++ [v], ls ++ [l], cs', hrc, hA.push hg ho, by simp; omega, fun _ => ⟨h7, by simp; omega, by simp; omega, ((hv.mono hc1).add (h2.mono hc2)).mono (AV.vals hg), r, h4, by rw [← hq, arr_some h3]⟩, (fun e => by cases e)⟩

set_option maxHeartbeats 16000000 in
set_option maxRecDepth 100000 in
theorem rArray_step (b : Nat) (s : ByteArray) (n : Nat) (hs : s.size ≤ 1000000)
    (hval : ∀ (m i : Nat) (w : World), m < n → 2 * (s.size - i) + 1 ≤ m → RC b s i false w → Calls Tryz.prog 87 #[.pointer (some ⟨b, 0, none⟩)] w (RResPost b s ((valL m (dl s i)).map skp) w))
    (i : Nat) (w : World) (hn : 2 * (s.size - i) ≤ n) (h : RC b s i false w) (hr : ∃ r, dl s i = 91 :: r) :
    Calls Tryz.prog 133 #[.pointer (some ⟨b, 0, none⟩)] w (RResPost b s (listL n 5 (dl s (i + 1))) w) := by
  obtain ⟨r, hr⟩ := hr
  obtain ⟨hi, hi2, hi3⟩ := dl_split hr
  obtain ⟨W, hW⟩ : ∃ W, W = (w.alloc (.cells zero5R 25)).alloc (.cells (kind5 5) 25) := ⟨_, rfl⟩
  have HAV := Hold.mk (AV.start W hW)
  have hbel : Below w.heap.size w W := by rw [hW]; exact ((Below.refl _ w).alloc (Nat.le_refl _) _).alloc (by simp) _
  have HBW := Hold.mk hbel
  have HR := Hold.mk (h.below hbel)
  have hbw := h.lt
  have HVAL := Hold.mk hval
  obtain ⟨R, hR⟩ : ∃ R, R = listL n 5 (dl s (i + 1)) := ⟨_, rfl⟩
  rw [← hR]
  have HRD := Hold.mk hR
  clear h hval hbel hR hi2 hi3 hr
  go_enter Tryz.func133, Tryz.ntmps133
  go_upto_region 2 with (fail)
  rw [← hW]
  clear hW
  have x1 := HR.out.c1
  have f1 := HR.out.fz 1
  go_upto_region 3 with (fail)
  clear x1 f1
  obtain ⟨W2, hW2⟩ : ∃ W2, W2 = W.setCell ⟨b, 1, none⟩ (.int .i64 ((i : Int) + 1)) := ⟨_, rfl⟩
  have HR2 : Hold (RC b s (i + 1) false W2) := ⟨by rw [hW2]; exact HR.out.to1 hi⟩
  have HB2 : Hold (But b w W2) := ⟨by rw [hW2]; exact (But.of_below HBW.out).trans (But.set _ _ _)⟩
  have HA2 : Hold (AV w.heap.size (.slice none 0 0) [] [] W2) := ⟨by rw [hW2]; exact HAV.out.but (But.set _ _ _) hbw⟩
  rw [← hW2]
  clear hW2 HR HAV HBW
  go_wp2_with fail
  refine (rBlanks_any b s (i + 1) false W2 HR2.out hs).mono ?_
  rintro e w3 ⟨rfl, j, hj, hij, hr3, hb3⟩
  have HJ := Hold.mk hj
  have HR3 := Hold.mk hr3
  have HB3 := Hold.mk (HB2.out.trans hb3)
  have HA3 := Hold.mk (HA2.out.but hb3 hbw)
  clear hj hr3 hb3 HR2 HB2 HA2
  go_wp2_with fail
  refine (rHere_any b s j false w3 HR3.out).mono ?_
  rintro e w4 ⟨rfl, hb4⟩
  have HR4 := Hold.mk (HR3.out.below hb4)
  have HB4 := Hold.mk (HB3.out.trans (But.of_below hb4))
  have HA4 := Hold.mk (HA3.out.but (But.of_below (b := b) hb4) hbw)
  clear hb4 HR3 HB3 HA3
  by_cases h93 : hereB (dl s j) = 93
  · obtain ⟨hjl, hdj⟩ := esc_char h93 (by decide)
    rw [h93]
    have x1 := HR4.out.c1
    have f1 := HR4.out.fz 1
    go_upto_region 6 with (fail)
    clear x1 f1
    obtain ⟨W5, hW5⟩ : ∃ W5, W5 = w4.setCell ⟨b, 1, none⟩ (.int .i64 ((j : Int) + 1)) := ⟨_, rfl⟩
    have HR5 : Hold (RC b s (j + 1) false W5) := ⟨by rw [hW5]; exact HR4.out.to1 hjl⟩
    have HB5 : Hold (But b w W5) := ⟨by rw [hW5]; exact HB4.out.trans (But.set _ _ _)⟩
    have HA5 : Hold (AV w.heap.size (.slice none 0 0) [] [] W5) := ⟨by rw [hW5]; exact HA4.out.but (But.set _ _ _) hbw⟩
    have HP : Hold (∃ W2, W2 = set5R W5 w.heap.size (.int .i64 5) (.int .i64 0) (.string ⟨#[]⟩) (.slice none 0 0) (.slice none 0 0) ∧ W2.heap[w.heap.size]? = some (.cells (kind5 5) 25 (0, 0)) ∧ RResPost b s R w (.returned (.agg (kind5 5))) W2) := ⟨
      ⟨_, rfl, set5R_self HA5.out.res, But.own HB5.out (Nat.le_refl _) (set5R_but _ _ _ _ _ _ _), false, _, j + 1, rfl, ⟨_, _, _, _, _, _, _, _, _, rfl⟩, ⟨But.keep (set5R_but _ _ _ _ _ _ _) HR5.out.box (by omega), HR5.out.le⟩, fun _ => ⟨.mk 5 0 ⟨#[]⟩ [] [], by
        rw [HRD.out]; unfold listL
        rw [← HJ.out, hdj]; rfl, jat_leaf _ 5 0 ⟨#[]⟩ (by kernel_rfl) (by kernel_rfl) (by decide)⟩, fun e => by cases e⟩⟩
    have hv8 := HA5.out.box
    have hv9 := HA5.out.res
    rw [← hW5]
    clear hW5 h93 hdj
    obtain ⟨y0, y1, y2, y3, y4⟩ := cells5R hv8
    obtain ⟨v0, v1, v2, v3, v4⟩ := cells5R hv9
    have g0 := freeR hv9 0
    have g1 := freeR hv9 1
    have g2 := freeR hv9 2
    have g3 := freeR hv9 3
    have g4 := freeR hv9 4
    clear hv8 hv9
    go_wp2_with fail
    clear y0 y1 y2 y3 y4 v0 v1 v2 v3 v4 g0 g1 g2 g3 g4
    obtain ⟨W2, hW2, hv3, hp⟩ := HP.out
    unfold set5R at hW2
    rw [← hW2]
    clear hW2
    obtain ⟨v0, v1, v2, v3, v4⟩ := cells5R hv3
    exact bodyPost_ret (v := .agg (kind5 5)) (by simp [results, Tryz.results133, go_sem, v0, v1, v2, v3, v4]) rfl hp
  · have b93 : (((hereB (dl s j)).toNat : Int) == 93) = false := byte_ne (k := 93) h93
    have HI : Hold (AInv b s n R w (s.size + 1) w4) := ⟨HB4.out, false, j, _, [], [], [], HR4.out, HA4.out, by simp, fun _ => ⟨by omega, by simp, by simp, Vals.nil _, n, Nat.le_refl _, by omega, ?_⟩, fun e => by cases e⟩
    rotate_left
    · obtain ⟨n', rfl⟩ : ∃ n', n = n' + 1 := ⟨n - 1, by omega⟩
      rw [HRD.out]; unfold listL
      have hne : ¬ (dl s j).head? = some (endK 5) := fun e => h93 ((here_head (by decide)).2 e)
      rw [← HJ.out, if_neg hne, if_pos rfl]
      exact arr_skip _ _ _ _ (by rw [HJ.out, skipL_skip])
    clear HRD HJ HR4 HB4 HA4 h93
    go_wp2_with fail
    clear b93
    go_loopg [] (s.size + 1) (fun g wr => AInv b s n R w g wr)
    case atStart => exact HI.out
    case round =>
      obtain ⟨hbt, bd, j, sl, xs, ls, cs, hr, ha, hls, hf, ht⟩ := hrel
      clear HI
      have HRX := Hold.mk hr
      have HBX := Hold.mk hbt
      have HAX := Hold.mk ha
      have x2 := hr.c2
      cases bd with
      | true =>
        have HXN : Hold (R = none) := ⟨ht rfl⟩
        clear hf ht hr ha hbt
        go_wp2_with fail
        clear x2
        refine (rWant_any b s ⟨#[93]⟩ j true wr HRX.out hs (by decide)).mono ?_
        rintro e w9 ⟨rfl, hb9, k9, no9, hr9, hf9, ht9⟩
        have HP := Hold.mk (arr_fin (R := R) (xs := xs) HAX.out HBX.out hbw hb9 hr9 (fun e => by cases e) (fun _ => HXN.out) hf9 ht9)
        have hv8 := But.keep hb9 HAX.out.box (by omega)
        have hv9 := But.keep hb9 HAX.out.res (by omega)
        obtain ⟨ra, rcap, hra⟩ := HAX.out.itm.shape
        clear hb9 hr9 hf9 ht9
        subst hra
        obtain ⟨y0, y1, y2, y3, y4⟩ := cells5R hv8
        obtain ⟨v0, v1, v2, v3, v4⟩ := cells5R hv9
        have g0 := freeR hv9 0
        have g1 := freeR hv9 1
        have g2 := freeR hv9 2
        have g3 := freeR hv9 3
        have g4 := freeR hv9 4
        clear hv8 hv9
        go_wp2_with fail
        clear y0 y1 y2 y3 y4 v0 v1 v2 v3 v4 g0 g1 g2 g3 g4
        obtain ⟨W2, hW2, hv3, hp⟩ := HP.out
        unfold set5R at hW2
        rw [← hW2]
        clear hW2
        obtain ⟨v0, v1, v2, v3, v4⟩ := cells5R hv3
        exact bodyPost_ret (v := .agg #[.int .i64 5, .int .i64 0, .string ⟨#[]⟩, .slice none 0 0, .slice ra ls.length rcap]) (by simp [results, Tryz.results133, go_sem, v0, v1, v2, v3, v4]) rfl hp
      | false =>
        obtain ⟨hg, hlj, hjs2, hvs, m, hmn, hm, hq⟩ := hf rfl
        obtain ⟨m, rfl⟩ : ∃ m', m = m' + 1 := ⟨m - 1, by omega⟩
        have hjs : ls.length ≤ j := hlj
        have HVS0 := Hold.mk hvs
        have HQ := Hold.mk hq
        obtain ⟨sa, scap, rfl⟩ := ha.itm.shape
        clear hf ht hr ha hbt hvs hq
        go_upto_region 8 with (fail)
        clear x2
        go_cut [] (fun wx => ANxt b s R w m j wx)
        case first =>
          obtain ⟨wd, hwd⟩ : ∃ wd, wd = wr.drew := ⟨_, rfl⟩
          refine wp_region_mixC AnyC 8 rfl (by kernel_rfl) ?_
          rw [← hwd]
          have hbd : But b wr wd := by rw [hwd]; exact (But.refl b wr).drew
          have HRD : Hold (RC b s j false wd) := ⟨by rw [hwd]; exact HRX.out.below (Below.refl _ _).drew⟩
          have HBD := Hold.mk (HBX.out.trans hbd)
          have HAVD := Hold.mk (HAX.out.but hbd hbw)
          have HVS : Hold (Vals (cfX (w.heap.size + 2) (Value.slice sa ls.length scap).ownBlock none wd) xs ls) := ⟨HVS0.out.mono (AV.valsBut hbd hbw)⟩
          clear hwd hbd
          have HVC := Hold.mk (HVAL.out m j wd (by omega) (by omega) HRD.out)
          refine mixl_seg (by kernel_rfl) (fun _ _ d _ _ h => by cases d <;> exact h) [0, 2] [_, _] 6 8 rfl _ _ _ rfl (by kernel_rfl) (anyC _) ?_
          repeat (go_big_quiet_step (fail))
          refine wpQuiet_nil ?_
          refine mixl_two (i := 1) (j := 3) rfl rfl (by kernel_rfl) (anyC _) rfl rfl (fun K hK => ?_) (fun K hK => ?_)
          · obtain ⟨y0, y1, y2, y3, y4⟩ := cells5R HAVD.out.box
            go_wp2_with fail
            clear y0 y1 y2 y3 y4
            refine mixl_act (i := 3) rfl (by kernel_rfl) (anyC _) rfl (fun K hK => ?_)
            go_wp2_with fail
            refine HVC.out.mono ?_
            rintro e w3 ⟨hb3, bd, x, j3, rfl, ⟨xk, xn, xt, xna, xnl, xnc, xia, xil, xic, rfl⟩, hr3, hf3, ht3⟩
            have HAV3 := Hold.mk (HAVD.out.but hb3 hbw)
            have HB3 := Hold.mk (HBD.out.trans hb3)
            have HR3 := Hold.mk hr3
            have HX3 := Hold.mk (And.intro hf3 ht3)
            have HCL := Hold.mk (And.intro (AV.valsBut (sl := .slice sa ls.length scap) hb3 hbw) (AV.valsNew (w' := w3) HAVD.out))
            clear hb3 hf3 hr3 ht3
            go_wp2_with fail
            refine mixl_act (i := 4) rfl (by kernel_rfl) (anyC _) rfl (fun K hK => ?_)
            go_wp2_with fail
            refine mixl_act (i := 5) rfl (by kernel_rfl) (anyC _) rfl (fun K hK => ?_)
            refine wp_push Raw5_mono _ _ rfl infoVal Tryz.underlying23 rfl (by decide) _ w3 _ ls.length _ _ HAV3.out.itm rfl #[.int .i64 xk, .int .i64 xn, .string xt, .slice xna xnl xnc, .slice xia xil xic] [.int .i64 xk, .int .i64 xn, .string xt, .slice xna xnl xnc, .slice xia xil xic] rfl rfl (by simp [Value.oneCell']) [.int .i64 xk, .int .i64 xn, .string xt, .slice xna xnl xnc, .slice xia xil xic] ⟨rfl, rfl, by simp [Value.oneCell']⟩ _ rfl rfl (by omega) (by decide) ?_
            intro sv2 w4 ho4 hg4
            refine hK _ _ ?_
            clear hK K
            obtain ⟨ra, rcap, rfl⟩ := ho4.shape
            have hbx := hg4.kept HAV3.out.box (fun g hg e => by have := (HAV3.out.itm.low g hg).1; omega)
            have HNX := Hold.mk (anxt (m := m) (j := j) (ls := ls) (xs := xs) HAV3.out HR3.out HB3.out hbw hjs hjs2 HX3.out.1 HX3.out.2 HVS.out HCL.out.1 HCL.out.2 HQ.out hg4 ho4)
            clear ho4 hg4
            refine mixl_act (i := 6) rfl (by kernel_rfl) (anyC _) rfl (fun K hK => ?_)
            go_wp2_with fail
            refine mixl_act (i := 7) rfl (by kernel_rfl) (anyC _) rfl (fun K hK => ?_)
            obtain ⟨y0, y1, y2, y3, y4⟩ := cells5R hbx
            have f4 := freeR hbx 4
            clear hbx
            go_wp2_with fail
            clear y0 y1 y2 y3 y4 f4
            refine mix_done (by kernel_rfl) (anyC _) ?_
            go_wp2_with fail
            go_meet
            case rel => exact HNX.out
          · go_wp2_with fail
            refine HVC.out.mono ?_
            rintro e w3 ⟨hb3, bd, x, j3, rfl, ⟨xk, xn, xt, xna, xnl, xnc, xia, xil, xic, rfl⟩, hr3, hf3, ht3⟩
            have HAV3 := Hold.mk (HAVD.out.but hb3 hbw)
            have HB3 := Hold.mk (HBD.out.trans hb3)
            have HR3 := Hold.mk hr3
            have HX3 := Hold.mk (And.intro hf3 ht3)
            have HCL := Hold.mk (And.intro (AV.valsBut (sl := .slice sa ls.length scap) hb3 hbw) (AV.valsNew (w' := w3) HAVD.out))
            clear hb3 hf3 hr3 ht3
            go_wp2_with fail
            refine mixl_two (i := 1) (j := 4) rfl rfl (by kernel_rfl) (anyC _) rfl rfl (fun K hK => ?_) (fun K hK => ?_)
            · obtain ⟨y0, y1, y2, y3, y4⟩ := cells5R HAV3.out.box
              go_wp2_with fail
              clear y0 y1 y2 y3 y4
              refine mixl_act (i := 4) rfl (by kernel_rfl) (anyC _) rfl (fun K hK => ?_)
              go_wp2_with fail
              refine mixl_act (i := 5) rfl (by kernel_rfl) (anyC _) rfl (fun K hK => ?_)
              refine wp_push Raw5_mono _ _ rfl infoVal Tryz.underlying23 rfl (by decide) _ w3 _ ls.length _ _ HAV3.out.itm rfl #[.int .i64 xk, .int .i64 xn, .string xt, .slice xna xnl xnc, .slice xia xil xic] [.int .i64 xk, .int .i64 xn, .string xt, .slice xna xnl xnc, .slice xia xil xic] rfl rfl (by simp [Value.oneCell']) [.int .i64 xk, .int .i64 xn, .string xt, .slice xna xnl xnc, .slice xia xil xic] ⟨rfl, rfl, by simp [Value.oneCell']⟩ _ rfl rfl (by omega) (by decide) ?_
              intro sv2 w4 ho4 hg4
              refine hK _ _ ?_
              clear hK K
              obtain ⟨ra, rcap, rfl⟩ := ho4.shape
              have hbx := hg4.kept HAV3.out.box (fun g hg e => by have := (HAV3.out.itm.low g hg).1; omega)
              have HNX := Hold.mk (anxt (m := m) (j := j) (ls := ls) (xs := xs) HAV3.out HR3.out HB3.out hbw hjs hjs2 HX3.out.1 HX3.out.2 HVS.out HCL.out.1 HCL.out.2 HQ.out hg4 ho4)
              clear ho4 hg4
              refine mixl_act (i := 6) rfl (by kernel_rfl) (anyC _) rfl (fun K hK => ?_)
              go_wp2_with fail
              refine mixl_act (i := 7) rfl (by kernel_rfl) (anyC _) rfl (fun K hK => ?_)
              obtain ⟨y0, y1, y2, y3, y4⟩ := cells5R hbx
              have f4 := freeR hbx 4
              clear hbx
              go_wp2_with fail
              clear y0 y1 y2 y3 y4 f4
              refine mix_done (by kernel_rfl) (anyC _) ?_
              go_wp2_with fail
              go_meet
              case rel => exact HNX.out
            · go_wp2_with fail
              refine mixl_act (i := 1) rfl (by kernel_rfl) (anyC _) rfl (fun K hK => ?_)
              have hlt := ltR HAV3.out.box
              obtain ⟨y0, y1, y2, y3, y4⟩ := cells5R HAV3.out.box
              go_wp2_with fail
              clear y0 y1 y2 y3 y4
              refine mixl_act (i := 5) rfl (by kernel_rfl) (anyC _) rfl (fun K hK => ?_)
              refine wp_push Raw5_mono _ _ rfl infoVal Tryz.underlying23 rfl (by decide) _ w3 _ ls.length _ _ HAV3.out.itm rfl #[.int .i64 xk, .int .i64 xn, .string xt, .slice xna xnl xnc, .slice xia xil xic] [.int .i64 xk, .int .i64 xn, .string xt, .slice xna xnl xnc, .slice xia xil xic] rfl rfl (by simp [Value.oneCell']) [.int .i64 xk, .int .i64 xn, .string xt, .slice xna xnl xnc, .slice xia xil xic] ⟨rfl, rfl, by simp [Value.oneCell']⟩ _ rfl rfl (by omega) (by decide) ?_
              intro sv2 w4 ho4 hg4
              refine hK _ _ ?_
              clear hK K
              obtain ⟨ra, rcap, rfl⟩ := ho4.shape
              have hbx := hg4.kept HAV3.out.box (fun g hg e => by have := (HAV3.out.itm.low g hg).1; omega)
              have HNX := Hold.mk (anxt (m := m) (j := j) (ls := ls) (xs := xs) HAV3.out HR3.out HB3.out hbw hjs hjs2 HX3.out.1 HX3.out.2 HVS.out HCL.out.1 HCL.out.2 HQ.out hg4 ho4)
              clear ho4 hg4
              refine mixl_act (i := 6) rfl (by kernel_rfl) (anyC _) rfl (fun K hK => ?_)
              go_wp2_with fail
              refine mixl_act (i := 7) rfl (by kernel_rfl) (anyC _) rfl (fun K hK => ?_)
              obtain ⟨y0, y1, y2, y3, y4⟩ := cells5R hbx
              have f4 := freeR hbx 4
              clear hbx
              go_wp2_with fail
              clear y0 y1 y2 y3 y4 f4
              refine mix_done (by kernel_rfl) (anyC _) ?_
              go_wp2_with fail
              go_meet
              case rel => exact HNX.out
        case rest =>
          obtain ⟨hb4, bd, j3, sl, xs, ls, cs, hr4, ha4, hls4, hf4, ht4⟩ := hcut
          generalize wc = wb at *
          clear HRX HBX HAX HVS0 HQ
          have HB4 := Hold.mk hb4
          have HR4 := Hold.mk hr4
          have HA4 := Hold.mk ha4
          have HF4 := Hold.mk (And.intro hf4 ht4)
          clear hb4 hr4 ha4 hf4 ht4
          go_wp2_with fail
          refine (rHere_any b s j3 bd wb HR4.out).mono ?_
          rintro e w5 ⟨rfl, hb5⟩
          have HRX := Hold.mk (HR4.out.below hb5)
          have HBX := Hold.mk (HB4.out.trans (But.of_below hb5))
          have HAX := Hold.mk (HA4.out.but (But.of_below (b := b) hb5) hbw)
          have HFX : Hold (bd = false → j < j3 ∧ ls.length ≤ j3 ∧ ls.length ≤ s.size ∧ Vals (cfX (w.heap.size + 2) sl.ownBlock none w5) xs ls ∧ ∃ r, dl s j3 = skipL r ∧ tailL m 5 r [] xs = R) := ⟨fun e => by
            obtain ⟨q1, q2, q0, q3, q4⟩ := HF4.out.1 e
            exact ⟨q1, q2, q0, q3.mono (AV.valsBut (But.of_below (b := b) hb5) hbw), q4⟩⟩
          have HX2 : Hold (bd = true → R = none) := ⟨HF4.out.2⟩
          clear hb5 HR4 HB4 HA4 HF4
          by_cases h44 : hereB (dl s j3) = 44
          · obtain ⟨hjl, hdj⟩ := esc_char h44 (by decide)
            rw [h44]
            have x1 := HRX.out.c1
            have f1 := HRX.out.fz 1
            have HN : Hold (AInv b s n R w (gk - 1) (w5.setCell ⟨b, 1, none⟩ (.int .i64 ((j3 : Int) + 1)))) := ⟨HBX.out.trans (But.set _ _ _), bd, j3 + 1, sl, xs, ls, cs, HRX.out.to1 hjl, HAX.out.but (But.set _ _ _) hbw, hls4, fun e => by
              obtain ⟨q1, q2, q0, q3, r, q4, q5⟩ := HFX.out e
              refine ⟨by omega, by omega, q0, q3.mono (AV.valsBut (But.set _ _ _) hbw), m, by omega, by omega, ?_⟩
              rw [← q5, tail_on (r := dl s (j3 + 1)) (by rw [← q4, hdj]), more_next, if_pos rfl], HX2.out⟩
            have hgk1 : gk - 1 < gk := by omega
            clear h44 hdj
            go_wp2_with fail
            clear x1 f1
            go_roundg (gk - 1)
            case measure => exact hgk1
            case rel => exact HN.out
          · have b44 : (((hereB (dl s j3)).toNat : Int) != 44) = true := by rw [bne_iff_ne]; exact fun e => h44 (UInt8.toNat_inj.1 (show (hereB (dl s j3)).toNat = 44 by omega))
            have HX1 : Hold (bd = false → Vals (cfX (w.heap.size + 2) sl.ownBlock none w5) xs ls ∧ ∃ r, dl s j3 = skipL r ∧ endL 5 r [] xs = R) := ⟨fun e => by
              obtain ⟨q1, q2, q0, q3, r, q4, q5⟩ := HFX.out e
              refine ⟨q3, r, q4, ?_⟩
              rw [← q5, tail_end (fun r' e2 => ?_)]
              apply h44
              rw [q4, e2]; rfl⟩
            clear h44 HFX
            go_wp2_with fail
            clear b44
            refine (rWant_any b s ⟨#[93]⟩ j3 bd w5 HRX.out hs (by decide)).mono ?_
            rintro e w9 ⟨rfl, hb9, k9, no9, hr9, hf9, ht9⟩
            have HP := Hold.mk (arr_fin (R := R) (xs := xs) HAX.out HBX.out hbw hb9 hr9 HX1.out HX2.out hf9 ht9)
            have hv8 := But.keep hb9 HAX.out.box (by omega)
            have hv9 := But.keep hb9 HAX.out.res (by omega)
            obtain ⟨ra, rcap, hra⟩ := HAX.out.itm.shape
            clear hb9 hr9 hf9 ht9
            subst hra
            obtain ⟨y0, y1, y2, y3, y4⟩ := cells5R hv8
            obtain ⟨v0, v1, v2, v3, v4⟩ := cells5R hv9
            have g0 := freeR hv9 0
            have g1 := freeR hv9 1
            have g2 := freeR hv9 2
            have g3 := freeR hv9 3
            have g4 := freeR hv9 4
            clear hv8 hv9
            go_wp2_with fail
            clear y0 y1 y2 y3 y4 v0 v1 v2 v3 v4 g0 g1 g2 g3 g4
            obtain ⟨W2, hW2, hv3, hp⟩ := HP.out
            unfold set5R at hW2
            rw [← hW2]
            clear hW2
            obtain ⟨v0, v1, v2, v3, v4⟩ := cells5R hv3
            exact bodyPost_ret (v := .agg #[.int .i64 5, .int .i64 0, .string ⟨#[]⟩, .slice none 0 0, .slice ra ls.length rcap]) (by simp [results, Tryz.results133, go_sem, v0, v1, v2, v3, v4]) rfl hp

end Go.Proofs.YtkhhbckpddkhlaaGreatDoor

namespace Go.Proofs.YtkhhbckpddkhlaaGreatDoor
open Go.Shelf Go.RowKit

theorem strs_raw {c : CF} {v : Value} {nm : List ByteArray} (h : SAt 1 RS c v nm) : StrsAt c v nm := by
  obtain ⟨a, cap, rfl, hle, hcap, hel⟩ := h
  refine ⟨a, cap, rfl, by omega, fun i s hi => ?_⟩
  obtain ⟨b, off, d, rfl, _, hc, rfl, hs⟩ := hel i s hi
  exact ⟨hs, b, off, rfl, by simpa using hc 0 _ rfl⟩
/-- the object under way -/
structure OV (B : Nat) (nv iv : Value) (nm : List ByteArray) (ls : List (List Value)) (w : World) : Prop where
  box : w.heap[B + 1]? = some (.cells #[.int .i64 6, .int .i64 0, .string ⟨#[]⟩, nv, iv] 25 (0, 0))
  res : w.heap[B]? = some (.cells zero5R 25 (0, 0))
  nam : SAt 1 RS (cfF (B + 2) w) nv nm
  itm : SAt 5 Raw5 (cfF (B + 2) w) iv ls
  len : ls.length = nm.length
theorem OV.but {B : Nat} {nv iv : Value} {nm : List ByteArray} {ls : List (List Value)} {w w' : World} (h : OV B nv iv nm ls w) {b : Nat} (hb : But b w w') (hbB : b < B) : OV B nv iv nm ls w' :=
  ⟨But.keep hb h.box (by omega), But.keep hb h.res (by omega), h.nam.mono RS_mono (cfF_but hb (by omega)), h.itm.mono Raw5_mono (cfF_but hb (by omega)), h.len⟩
theorem OV.start {w : World} (W : World) (hW : W = (w.alloc (.cells zero5R 25)).alloc (.cells (kind5 6) 25)) : OV w.heap.size (.slice none 0 0) (.slice none 0 0) [] [] W := by
  subst hW
  refine ⟨?_, kept (heap_alloc_new w _) ((Below.refl _ _).alloc (Nat.le_refl _) _), SAt.none _ _ _, SAt.none _ _ _, rfl⟩
  have := heap_alloc_new (w.alloc (.cells zero5R 25)) (.cells (kind5 6) 25)
  simpa using this
theorem OV.set {B : Nat} {nv iv nv' iv' : Value} {nm nm' : List ByteArray} {ls ls' : List (List Value)} {w w' : World} {b : Nat} (h : OV B nv iv nm ls w) (hb : But b w w') (hbB : b < B) (hn : SAt 1 RS (cfF (B + 2) w') nv' nm') (hi : SAt 5 Raw5 (cfF (B + 2) w') iv' ls') (hl : ls'.length = nm'.length) :
    OV B nv' iv' nm' ls' (set5R w' (B + 1) (.int .i64 6) (.int .i64 0) (.string ⟨#[]⟩) nv' iv') :=
  ⟨set5R_self (h.but hb hbB).box, But.keep (set5R_but _ _ _ _ _ _ _) (h.but hb hbB).res (by omega), hn.mono RS_mono (cfF_but (set5R_but _ _ _ _ _ _ _) (by omega)), hi.mono Raw5_mono (cfF_but (set5R_but _ _ _ _ _ _ _) (by omega)), hl⟩
theorem OV.done {B : Nat} {nv iv : Value} {nm : List ByteArray} {ls : List (List Value)} {xs : List JV} {w : World} (h : OV B nv iv nm ls w) (hv : Vals (cfF (B + 2) w) xs ls) : JAt (cfF (B + 2) w) (.mk 6 0 ⟨#[]⟩ nm xs) (.agg #[.int .i64 6, .int .i64 0, .string ⟨#[]⟩, nv, iv]) :=
  JAt.shut (by kernel_rfl) (by kernel_rfl) (by decide) (strs_raw h.nam) (items_raw h.itm hv (CLe.refl _))
theorem OV.shape {B : Nat} {nv iv : Value} {nm : List ByteArray} {ls : List (List Value)} {w : World} (h : OV B nv iv nm ls w) : ∃ na nc ia ic, nv = .slice na nm.length nc ∧ iv = .slice ia ls.length ic := by
  obtain ⟨na, nc, e, _⟩ := h.nam
  obtain ⟨ia, ic, e2, _⟩ := h.itm
  exact ⟨na, nc, ia, ic, e, e2⟩
theorem Vals.ins {c : CF} {xs : List JV} {ls : List (List Value)} {x : JV} {l : List Value} (h : Vals c xs ls) (hx : JAt c x (.agg l.toArray)) (k : Nat) (hk : k ≤ xs.length) : Vals c (insA k x xs) (insA k l ls) := by
  have hl := h.1
  refine ⟨by rw [insA_len _ _ _ hk, insA_len _ _ _ (by omega), hl], fun i y m hy hm => ?_⟩
  unfold insA at hy hm
  have hk1 : (xs.take k).length = k := by rw [List.length_take]; omega
  have hk2 : (ls.take k).length = k := by rw [List.length_take]; omega
  by_cases hi : i < k
  · rw [List.getElem?_append_left (by omega), List.getElem?_take_of_lt hi] at hy hm
    exact h.2 i y m hy hm
  · rw [List.getElem?_append_right (by omega), hk1] at hy
    rw [List.getElem?_append_right (by omega), hk2] at hm
    cases he : i - k with
    | zero =>
      rw [he] at hy hm
      obtain rfl : x = y := by simpa using hy
      obtain rfl : l = m := by simpa using hm
      exact hx
    | succ q =>
      rw [he, List.getElem?_cons_succ, List.getElem?_drop] at hy hm
      exact h.2 (k + q) y m hy hm

/-- the loop: what is still to be read tells the whole -/
def OInv (b : Nat) (s : ByteArray) (n : Nat) (R : Option (JV × List UInt8)) (w : World) (g : Nat) (wr : World) : Prop :=
  But b w wr ∧ ∃ (bd : Bool) (j : Nat) (nv iv : Value) (nm : List ByteArray) (xs : List JV) (ls : List (List Value)), RC b s j bd wr ∧ OV w.heap.size nv iv nm ls wr ∧ nm.length ≤ s.size + 1 ∧
    (bd = false → s.size - j + 1 ≤ g ∧ nm.length ≤ j ∧ nm.length ≤ s.size ∧ upN nm ∧ Vals (cfF (w.heap.size + 2) wr) xs ls ∧ ∃ m, m ≤ n ∧ 2 * (s.size - j) + 2 ≤ m ∧ objL m (dl s j) nm xs = R) ∧ (bd = true → R = none)
/-- a member was read, and laid -/
def ONxt (b : Nat) (s : ByteArray) (R : Option (JV × List UInt8)) (w : World) (m j : Nat) (wx : World) : Prop :=
  But b w wx ∧ ∃ (bd : Bool) (j3 : Nat) (nv iv : Value) (nm : List ByteArray) (xs : List JV) (ls : List (List Value)), RC b s j3 bd wx ∧ OV w.heap.size nv iv nm ls wx ∧ nm.length ≤ s.size + 1 ∧
    (bd = false → j < j3 ∧ nm.length ≤ j3 ∧ nm.length ≤ s.size ∧ upN nm ∧ Vals (cfF (w.heap.size + 2) wx) xs ls ∧ ∃ r, dl s j3 = skipL r ∧ tailL m 6 r nm xs = R) ∧ (bd = true → R = none)
theorem obj_skip (m : Nat) (l l' : List UInt8) (nm : List ByteArray) (xs : List JV) (h : skipL l = skipL l') : objL (m + 1) l nm xs = objL (m + 1) l' nm xs := by rw [objL, objL, h]
/-- the end of an object -/
theorem obj_fin {b : Nat} {s : ByteArray} {R : Option (JV × List UInt8)} {w w1 w2 : World} {nv iv : Value} {nm : List ByteArray} {xs : List JV} {ls : List (List Value)} {bd no' : Bool} {j k : Nat} (h : OV w.heap.size nv iv nm ls w1) (hb : But b w w1) (hbw : b < w.heap.size) (hb2 : But b w1 w2) (hr : RC b s k no' w2)
    (h1 : bd = false → Vals (cfF (w.heap.size + 2) w1) xs ls ∧ ∃ r, dl s j = skipL r ∧ endL 6 r nm xs = R) (h2 : bd = true → R = none)
    (hf : no' = false → bd = false ∧ wordL (⟨#[125]⟩ : ByteArray).data.toList (dl s j) = some (dl s k)) (ht : no' = true → bd = true ∨ wordL (⟨#[125]⟩ : ByteArray).data.toList (dl s j) = none) :
    ∃ W2, W2 = set5R w2 w.heap.size (.int .i64 6) (.int .i64 0) (.string ⟨#[]⟩) nv iv ∧ W2.heap[w.heap.size]? = some (.cells #[.int .i64 6, .int .i64 0, .string ⟨#[]⟩, nv, iv] 25 (0, 0)) ∧ RResPost b s R w (.returned (.agg #[.int .i64 6, .int .i64 0, .string ⟨#[]⟩, nv, iv])) W2 := by
  have h' := h.but hb2 hbw
  refine ⟨_, rfl, set5R_self h'.res, But.own (hb.trans hb2) (Nat.le_refl _) (set5R_but _ _ _ _ _ _ _), no', _, k, rfl, ?_, ⟨?_, hr.le⟩, fun e => ?_, fun e => ?_⟩
  · obtain ⟨_, _, _, _, e1, e2⟩ := h.shape
    exact ⟨_, _, _, _, _, _, _, _, _, by rw [e1, e2]⟩
  · exact But.keep (set5R_but _ _ _ _ _ _ _) hr.box (by omega)
  · obtain ⟨e1, e2⟩ := hf e
    obtain ⟨hv, r, hr1, hr2⟩ := h1 e1
    have e3 := wordL_some e2
    refine ⟨.mk 6 0 ⟨#[]⟩ nm xs, by rw [← hr2, end_some (r := dl s k) (by rw [← hr1, e3]; rfl)], ?_⟩
    have hj := h'.done (hv.mono (cfF_but hb2 (by omega)))
    exact (hj.mono (cfF_but (set5R_but _ _ _ _ _ _ _) (by omega))).mono (cfF_le _ (by omega))
  · cases hbd : bd with
    | true => exact h2 hbd
    | false =>
      obtain ⟨_, r, hr1, hr2⟩ := h1 hbd
      have e2 := (ht e).elim (fun h => by rw [hbd] at h; cases h) id
      rw [← hr2]
      refine end_none (fun r' hq => ?_)
      rw [hr1, hq] at e2
      have e3 : wordL (⟨#[125]⟩ : ByteArray).data.toList (endK 6 :: r') = some r' := rfl
      rw [e3] at e2; cases e2
/-- an object that is none -/
theorem obj_bad {b : Nat} {s : ByteArray} {R : Option (JV × List UInt8)} {w w1 : World} {nv iv : Value} {nm : List ByteArray} {ls : List (List Value)} {k : Nat} (h : OV w.heap.size nv iv nm ls w1) (hb : But b w w1) (hbw : b < w.heap.size) (hr : RC b s k true w1) (h2 : R = none) :
    ∃ W2, W2 = set5R w1 w.heap.size (.int .i64 6) (.int .i64 0) (.string ⟨#[]⟩) nv iv ∧ W2.heap[w.heap.size]? = some (.cells #[.int .i64 6, .int .i64 0, .string ⟨#[]⟩, nv, iv] 25 (0, 0)) ∧ RResPost b s R w (.returned (.agg #[.int .i64 6, .int .i64 0, .string ⟨#[]⟩, nv, iv])) W2 := by
  refine ⟨_, rfl, set5R_self h.res, But.own hb (Nat.le_refl _) (set5R_but _ _ _ _ _ _ _), true, _, k, rfl, ?_, ⟨But.keep (set5R_but _ _ _ _ _ _ _) hr.box (by omega), hr.le⟩, (fun e => by cases e), fun _ => h2⟩
  obtain ⟨_, _, _, _, e1, e2⟩ := h.shape
  exact ⟨_, _, _, _, _, _, _, _, _, by rw [e1, e2]⟩
theorem hasN_place {nm : List ByteArray} (hu : upN nm) (t : ByteArray) : hasN nm t = decide (nm[placeN nm t]? = some t) := by
  cases h : hasN nm t with
  | true => exact (decide_eq_true ((placeN_mem hu t).1 ((hasN_iff nm t).1 h))).symm
  | false => exact (decide_eq_false (fun e => by rw [(hasN_iff nm t).2 ((placeN_mem hu t).2 e)] at h; cases h)).symm
/-- behind the name and the colon -/
def Colon (s : ByteArray) (j : Nat) (t : ByteArray) (j4 : Nat) : Prop := ∃ r, strL (skipL (dl s j)) = some (t, r) ∧ skipL r = 58 :: dl s j4
theorem Colon.lt {s : ByteArray} {j j4 : Nat} {t : ByteArray} (h : Colon s j t j4) : 2 * (s.size - j4) + 2 ≤ 2 * (s.size - j) ∧ j < j4 := by
  obtain ⟨r, h1, h2⟩ := h
  have a := strL_len h1
  have b1 := skipL_len (dl s j)
  have c := skipL_len r
  rw [h2, List.length_cons, dl_len] at c
  rw [dl_len] at b1
  omega
theorem onxt {b : Nat} {s : ByteArray} {R : Option (JV × List UInt8)} {w wd w3 w4 : World} {nv iv nv' iv' : Value} {nm : List ByteArray} {xs : List JV} {ls : List (List Value)} {m j j4 j5 : Nat} {bd : Bool} {l : List Value} {t : ByteArray}
    (hO : OV w.heap.size nv iv nm ls w3) (hB : But b w w3) (hbw : b < w.heap.size) (hj : nm.length ≤ j) (hj2 : nm.length ≤ s.size) (hu : upN nm) (hcol : Colon s j t j4) (hwd : w.heap.size + 2 ≤ wd.heap.size)
    (hf : bd = false → ∃ v, (valL m (dl s j4)).map skp = some (v, dl s j5) ∧ JAt (cfF wd.heap.size w3) v (.agg l.toArray)) (ht : bd = true → (valL m (dl s j4)).map skp = none)
    (hv : Vals (cfF (w.heap.size + 2) w3) xs ls)
    (hq : objL (m + 1) (dl s j) nm xs = R) (hb4 : But b w3 w4) (hr : RC b s j5 (bd || decide (nm[placeN nm t]? = some t)) w4) (hn : SAt 1 RS (cfF (w.heap.size + 2) w4) nv' (insA (placeN nm t) t nm)) (hi : SAt 5 Raw5 (cfF (w.heap.size + 2) w4) iv' (insA (placeN nm t) l ls)) :
    ONxt b s R w m j (set5R w4 (w.heap.size + 1) (.int .i64 6) (.int .i64 0) (.string ⟨#[]⟩) nv' iv') := by
  have hkp := placeN_le nm t
  have hll : ls.length = nm.length := hO.len
  have hxl : xs.length = nm.length := by rw [← hv.1]; exact hll
  have hlen : (insA (placeN nm t) l ls).length = (insA (placeN nm t) t nm).length := by rw [insA_len _ _ _ hkp, insA_len _ _ _ (by omega), hll]
  have hO4 := hO.set hb4 hbw hn hi hlen
  have hrc : RC b s j5 (bd || decide (nm[placeN nm t]? = some t)) (set5R w4 (w.heap.size + 1) (.int .i64 6) (.int .i64 0) (.string ⟨#[]⟩) nv' iv') := ⟨But.keep (set5R_but _ _ _ _ _ _ _) hr.box (by omega), hr.le⟩
  obtain ⟨r, hc1, hc2⟩ := id hcol
  have hcl := hcol.lt
  rw [← hasN_place hu] at hrc
  refine ⟨But.own (hB.trans hb4) (Nat.le_succ _) (set5R_but _ _ _ _ _ _ _), bd || hasN nm t, j5, nv', iv', insA (placeN nm t) t nm, ?_⟩
  cases hh : hasN nm t with
  | true =>
    rw [hh, Bool.or_true] at hrc
    rw [Bool.or_true]
    exact ⟨[], _, hrc, hO4, by rw [insA_len _ _ _ hkp]; omega, (fun e => by cases e), fun _ => by rw [← hq]; exact obj_no hc1 (.inr hh)⟩
  | false =>
    rw [hh, Bool.or_false] at hrc
    rw [Bool.or_false]
    cases bd with
    | true => exact ⟨[], _, hrc, hO4, by rw [insA_len _ _ _ hkp]; omega, (fun e => by cases e), fun _ => by rw [← hq]; exact obj_val hc1 hc2 hh (skp_none (ht rfl))⟩
    | false =>
      obtain ⟨v, h1, h2⟩ := hf rfl
      obtain ⟨r3, h3, h4⟩ := skp_some h1
      have h5 := valL_len _ _ _ _ h3
      have h6 := skipL_len r3
      obtain ⟨h7, h8⟩ := dl_lt (s := s) (j := j4) (k := j5) (by rw [h4]; omega)
      refine ⟨insA (placeN nm t) v xs, _, hrc, hO4, by rw [insA_len _ _ _ hkp]; omega, fun _ => ⟨by omega, by rw [insA_len _ _ _ hkp]; omega, by rw [insA_len _ _ _ hkp]; omega, upN_ins hu (fun hm => ?_), ?_, r3, h4, ?_⟩, (fun e => by cases e)⟩
      · rw [(hasN_iff nm t).2 hm] at hh; cases hh
      · have h9 := (hv.ins (h2.mono (cfF_le _ (by omega))) (placeN nm t) (by omega)).mono (cfF_but hb4 (by omega))
        exact h9.mono (cfF_but (set5R_but _ _ _ _ _ _ _) (by omega))
      · rw [← hq, obj_some hc1 hc2 hh h3]


set_option maxHeartbeats 16000000 in
set_option maxRecDepth 100000 in
theorem rObject_step (b : Nat) (s : ByteArray) (n : Nat) (hs : s.size ≤ 1000000)
    (hval : ∀ (m i : Nat) (w : World), m < n → 2 * (s.size - i) + 1 ≤ m → RC b s i false w → Calls Tryz.prog 87 #[.pointer (some ⟨b, 0, none⟩)] w (RResPost b s ((valL m (dl s i)).map skp) w))
    (i : Nat) (w : World) (hn : 2 * (s.size - i) ≤ n) (h : RC b s i false w) (hr : ∃ r, dl s i = 123 :: r) :
    Calls Tryz.prog 134 #[.pointer (some ⟨b, 0, none⟩)] w (RResPost b s (listL n 6 (dl s (i + 1))) w) := by
  obtain ⟨r, hr⟩ := hr
  obtain ⟨hi, hi2, hi3⟩ := dl_split hr
  obtain ⟨W, hW⟩ : ∃ W, W = (w.alloc (.cells zero5R 25)).alloc (.cells (kind5 6) 25) := ⟨_, rfl⟩
  have HOV := Hold.mk (OV.start W hW)
  have hbel : Below w.heap.size w W := by rw [hW]; exact ((Below.refl _ w).alloc (Nat.le_refl _) _).alloc (by simp) _
  have HBW := Hold.mk hbel
  have HR := Hold.mk (h.below hbel)
  have hbw := h.lt
  have HVAL := Hold.mk hval
  obtain ⟨R, hR⟩ : ∃ R, R = listL n 6 (dl s (i + 1)) := ⟨_, rfl⟩
  rw [← hR]
  have HRD := Hold.mk hR
  clear h hval hbel hR hi2 hi3 hr
  go_enter Tryz.func134, Tryz.ntmps134
  go_upto_region 2 with (fail)
  rw [← hW]
  clear hW
  have x1 := HR.out.c1
  have f1 := HR.out.fz 1
  go_upto_region 3 with (fail)
  clear x1 f1
  obtain ⟨W2, hW2⟩ : ∃ W2, W2 = W.setCell ⟨b, 1, none⟩ (.int .i64 ((i : Int) + 1)) := ⟨_, rfl⟩
  have HR2 : Hold (RC b s (i + 1) false W2) := ⟨by rw [hW2]; exact HR.out.to1 hi⟩
  have HB2 : Hold (But b w W2) := ⟨by rw [hW2]; exact (But.of_below HBW.out).trans (But.set _ _ _)⟩
  have HA2 : Hold (OV w.heap.size (.slice none 0 0) (.slice none 0 0) [] [] W2) := ⟨by rw [hW2]; exact HOV.out.but (But.set _ _ _) hbw⟩
  rw [← hW2]
  clear hW2 HR HOV HBW
  go_wp2_with fail
  refine (rBlanks_any b s (i + 1) false W2 HR2.out hs).mono ?_
  rintro e w3 ⟨rfl, j, hj, hij, hr3, hb3⟩
  have HJ := Hold.mk hj
  have HR3 := Hold.mk hr3
  have HB3 := Hold.mk (HB2.out.trans hb3)
  have HA3 := Hold.mk (HA2.out.but hb3 hbw)
  clear hj hr3 hb3 HR2 HB2 HA2
  go_wp2_with fail
  refine (rHere_any b s j false w3 HR3.out).mono ?_
  rintro e w4 ⟨rfl, hb4⟩
  have HR4 := Hold.mk (HR3.out.below hb4)
  have HB4 := Hold.mk (HB3.out.trans (But.of_below hb4))
  have HA4 := Hold.mk (HA3.out.but (But.of_below (b := b) hb4) hbw)
  clear hb4 HR3 HB3 HA3
  by_cases h125 : hereB (dl s j) = 125
  · obtain ⟨hjl, hdj⟩ := esc_char h125 (by decide)
    rw [h125]
    have x1 := HR4.out.c1
    have f1 := HR4.out.fz 1
    go_upto_region 6 with (fail)
    clear x1 f1
    obtain ⟨W5, hW5⟩ : ∃ W5, W5 = w4.setCell ⟨b, 1, none⟩ (.int .i64 ((j : Int) + 1)) := ⟨_, rfl⟩
    have HR5 : Hold (RC b s (j + 1) false W5) := ⟨by rw [hW5]; exact HR4.out.to1 hjl⟩
    have HB5 : Hold (But b w W5) := ⟨by rw [hW5]; exact HB4.out.trans (But.set _ _ _)⟩
    have HA5 : Hold (OV w.heap.size (.slice none 0 0) (.slice none 0 0) [] [] W5) := ⟨by rw [hW5]; exact HA4.out.but (But.set _ _ _) hbw⟩
    have HP : Hold (∃ W2, W2 = set5R W5 w.heap.size (.int .i64 6) (.int .i64 0) (.string ⟨#[]⟩) (.slice none 0 0) (.slice none 0 0) ∧ W2.heap[w.heap.size]? = some (.cells (kind5 6) 25 (0, 0)) ∧ RResPost b s R w (.returned (.agg (kind5 6))) W2) := ⟨
      ⟨_, rfl, set5R_self HA5.out.res, But.own HB5.out (Nat.le_refl _) (set5R_but _ _ _ _ _ _ _), false, _, j + 1, rfl, ⟨_, _, _, _, _, _, _, _, _, rfl⟩, ⟨But.keep (set5R_but _ _ _ _ _ _ _) HR5.out.box (by omega), HR5.out.le⟩, fun _ => ⟨.mk 6 0 ⟨#[]⟩ [] [], by
        rw [HRD.out]; unfold listL
        rw [← HJ.out, hdj]; rfl, jat_leaf _ 6 0 ⟨#[]⟩ (by kernel_rfl) (by kernel_rfl) (by decide)⟩, fun e => by cases e⟩⟩
    have hv8 := HA5.out.box
    have hv9 := HA5.out.res
    rw [← hW5]
    clear hW5 h125 hdj
    obtain ⟨y0, y1, y2, y3, y4⟩ := cells5R hv8
    obtain ⟨v0, v1, v2, v3, v4⟩ := cells5R hv9
    have g0 := freeR hv9 0
    have g1 := freeR hv9 1
    have g2 := freeR hv9 2
    have g3 := freeR hv9 3
    have g4 := freeR hv9 4
    clear hv8 hv9
    go_wp2_with fail
    clear y0 y1 y2 y3 y4 v0 v1 v2 v3 v4 g0 g1 g2 g3 g4
    obtain ⟨W2, hW2, hv3, hp⟩ := HP.out
    unfold set5R at hW2
    rw [← hW2]
    clear hW2
    obtain ⟨v0, v1, v2, v3, v4⟩ := cells5R hv3
    exact bodyPost_ret (v := .agg (kind5 6)) (by simp [results, Tryz.results134, go_sem, v0, v1, v2, v3, v4]) rfl hp
  · have b125 : (((hereB (dl s j)).toNat : Int) == 125) = false := byte_ne (k := 125) h125
    have HI : Hold (OInv b s n R w (s.size + 1) w4) := ⟨HB4.out, false, j, _, _, [], [], [], HR4.out, HA4.out, by simp, fun _ => ⟨by omega, by simp, by simp, List.Pairwise.nil, Vals.nil _, n, Nat.le_refl _, by omega, ?_⟩, fun e => by cases e⟩
    rotate_left
    · obtain ⟨n', rfl⟩ : ∃ n', n = n' + 1 := ⟨n - 1, by omega⟩
      rw [HRD.out]; unfold listL
      have hne : ¬ (dl s j).head? = some (endK 6) := fun e => h125 ((here_head (by decide)).2 e)
      rw [← HJ.out, if_neg hne, if_neg (by decide)]
      exact obj_skip _ _ _ _ _ (by rw [HJ.out, skipL_skip])
    clear HRD HJ HR4 HB4 HA4 h125
    go_wp2_with fail
    clear b125
    go_loopg [4] (s.size + 1) (fun g _s4 wr => OInv b s n R w g wr)
    case atStart => exact HI.out
    case round =>
      obtain ⟨hbt, bd, j, nv, iv, nm, xs, ls, hr, ho, hls1, hf, ht⟩ := hrel
      clear HI
      have HRX := Hold.mk hr
      have HBX := Hold.mk hbt
      have HOX := Hold.mk ho
      have x2 := hr.c2
      cases bd with
      | true =>
        have HXN : Hold (R = none) := ⟨ht rfl⟩
        clear hf ht hr ho hbt
        go_wp2_with fail
        clear x2
        refine (rWant_any b s ⟨#[125]⟩ j true wr HRX.out hs (by decide)).mono ?_
        rintro e w9 ⟨rfl, hb9, k9, no9, hr9, hf9, ht9⟩
        have HP := Hold.mk (obj_fin (R := R) (xs := xs) HOX.out HBX.out hbw hb9 hr9 (fun e => by cases e) (fun _ => HXN.out) hf9 ht9)
        have ho90 := HOX.out.but hb9 hbw
        clear hb9 hr9 hf9 ht9
        have hv8 := ho90.box
        have hv9 := ho90.res
        obtain ⟨na9, nc9, ia9, ic9, hra, hrb⟩ := ho90.shape
        subst hra hrb
        obtain ⟨y0, y1, y2, y3, y4⟩ := cells5R hv8
        obtain ⟨v0, v1, v2, v3, v4⟩ := cells5R hv9
        have g0 := freeR hv9 0
        have g1 := freeR hv9 1
        have g2 := freeR hv9 2
        have g3 := freeR hv9 3
        have g4 := freeR hv9 4
        clear hv8 hv9 ho90
        go_wp2_with fail
        clear y0 y1 y2 y3 y4 v0 v1 v2 v3 v4 g0 g1 g2 g3 g4
        obtain ⟨W2, hW2, hv3, hp⟩ := HP.out
        unfold set5R at hW2
        rw [← hW2]
        clear hW2
        obtain ⟨v0, v1, v2, v3, v4⟩ := cells5R hv3
        exact bodyPost_ret (v := .agg #[.int .i64 6, .int .i64 0, .string ⟨#[]⟩, .slice na9 nm.length nc9, .slice ia9 ls.length ic9]) (by simp [results, Tryz.results134, go_sem, v0, v1, v2, v3, v4]) rfl hp
      | false =>
        obtain ⟨hg, hlj, hls, hup0, hvs, m, hmn, hm, hq⟩ := hf rfl
        obtain ⟨m, rfl⟩ : ∃ m', m = m' + 1 := ⟨m - 1, by omega⟩
        have hup := Hold.mk hup0
        have HVS0 := Hold.mk hvs
        have HQ := Hold.mk hq
        clear hf ht hr ho hbt hvs hq hup0
        go_wp2_with fail
        clear x2
        refine (rBlanks_any b s j false wr HRX.out hs).mono ?_
        rintro e w1 ⟨rfl, j1, hj1, hij1, hr1, hb1⟩
        have HJ1 := Hold.mk hj1
        have HR1 := Hold.mk hr1
        have HB1 := Hold.mk hb1
        clear hj1 hr1 hb1
        go_wp2_with fail
        refine (rReadQuoted_any b s j1 w1 HR1.out hs).mono ?_
        rintro e w2 ⟨hb2, t, j2, no2, rfl, hts, hr2, hf2, ht2⟩
        have HR2 := Hold.mk hr2
        have HB2 := Hold.mk (HB1.out.trans hb2)
        have HF2 := Hold.mk (And.intro hf2 ht2)
        clear hr2 hb2 hf2 ht2 HR1 HB1
        go_wp2_with fail
        refine (rBlanks_any b s j2 no2 w2 HR2.out hs).mono ?_
        rintro e w3 ⟨rfl, j3, hj3, hij3, hr3, hb3⟩
        have HJ3 := Hold.mk hj3
        have HR3 := Hold.mk hr3
        have HB3 := Hold.mk (HB2.out.trans hb3)
        clear hj3 hr3 hb3 HR2 HB2
        go_wp2_with fail
        refine (rWant_any b s ⟨#[58]⟩ j3 no2 w3 HR3.out hs (by decide)).mono ?_
        rintro e w4 ⟨rfl, hb4, j4, no4, hr4, hf4, ht4⟩
        have HR4 := Hold.mk hr4
        have HB4 := Hold.mk (HB3.out.trans hb4)
        have HBY := Hold.mk (HBX.out.trans HB4.out)
        have HOY := Hold.mk (HOX.out.but HB4.out hbw)
        have HVS4 := Hold.mk (HVS0.out.mono (cfF_but HB4.out (by omega : b < w.heap.size + 2)))
        have HCO0 : Hold ((no4 = false → Colon s j t j4) ∧ (no4 = true → R = none)) := ⟨by
          constructor
          · intro e
            obtain ⟨e1, e2⟩ := hf4 e
            have e3 := HF2.out.1 e1
            rw [HJ1.out] at e3
            have e4 := wordL_some e2
            rw [HJ3.out] at e4
            exact ⟨_, e3, e4⟩
          · intro e
            rw [← HQ.out]
            cases hno : no2 with
            | true =>
              have e3 := HF2.out.2 hno
              rw [HJ1.out] at e3
              exact obj_str e3
            | false =>
              have e3 := HF2.out.1 hno
              rw [HJ1.out] at e3
              refine obj_no e3 (.inl (fun r2 e5 => ?_))
              have e2 := (ht4 e).elim (fun h => by rw [hno] at h; cases h) id
              rw [HJ3.out, e5] at e2
              have e6 : wordL (⟨#[58]⟩ : ByteArray).data.toList (58 :: r2) = some r2 := rfl
              rw [e6] at e2; cases e2⟩
        clear hr4 hb4 hf4 ht4 HR3 HB3 HB4 HRX HBX HOX HVS0 HF2 HJ1 HJ3
        have x2 := HR4.out.c2
        cases no4 with
        | true =>
          have HP := Hold.mk (obj_bad HOY.out HBY.out hbw HR4.out (HCO0.out.2 rfl))
          have ho90 := HOY.out
          clear HCO0
          have hv8 := ho90.box
          have hv9 := ho90.res
          obtain ⟨na9, nc9, ia9, ic9, hra, hrb⟩ := ho90.shape
          subst hra hrb
          obtain ⟨y0, y1, y2, y3, y4⟩ := cells5R hv8
          obtain ⟨v0, v1, v2, v3, v4⟩ := cells5R hv9
          have g0 := freeR hv9 0
          have g1 := freeR hv9 1
          have g2 := freeR hv9 2
          have g3 := freeR hv9 3
          have g4 := freeR hv9 4
          clear hv8 hv9 ho90
          go_wp2_with fail
          clear y0 y1 y2 y3 y4 v0 v1 v2 v3 v4 g0 g1 g2 g3 g4
          obtain ⟨W2, hW2, hv3, hp⟩ := HP.out
          unfold set5R at hW2
          rw [← hW2]
          clear hW2
          obtain ⟨v0, v1, v2, v3, v4⟩ := cells5R hv3
          exact bodyPost_ret (v := .agg #[.int .i64 6, .int .i64 0, .string ⟨#[]⟩, .slice na9 nm.length nc9, .slice ia9 ls.length ic9]) (by simp [results, Tryz.results134, go_sem, v0, v1, v2, v3, v4]) rfl hp
        | false =>
          have HCO := Hold.mk (HCO0.out.1 rfl)
          have hcl := HCO.out.lt
          clear HCO0
          obtain ⟨na0, nc0, ia0, ic0, hra, hrb⟩ := HOY.out.shape
          subst hra hrb
          go_upto_region 14 with (fail)
          clear x2
          go_cut [] (fun wx => ONxt b s R w m j wx)
          case first =>
            obtain ⟨wd, hwd⟩ : ∃ wd, wd = w4.drew := ⟨_, rfl⟩
            refine wp_region_mixC AnyC 7 rfl (by kernel_rfl) ?_
            rw [← hwd]
            have hbd : But b w4 wd := by rw [hwd]; exact (But.refl b w4).drew
            have HRD : Hold (RC b s j4 false wd) := ⟨by rw [hwd]; exact HR4.out.below (Below.refl _ _).drew⟩
            have HBD := Hold.mk (HBY.out.trans hbd)
            have HOD := Hold.mk (HOY.out.but hbd hbw)
            have HVSD := Hold.mk (HVS4.out.mono (cfF_but hbd (by omega : b < w.heap.size + 2)))
            have hwds : w.heap.size + 2 ≤ wd.heap.size := by have := ltR HOD.out.box; omega
            clear hwd hbd
            have HVC := Hold.mk (HVAL.out m j4 wd (by omega) (by omega) HRD.out)
            refine mixl_seg (by kernel_rfl) (fun _ _ d _ _ h => by cases d <;> exact h) [0, 2, 3] [_, _, _] 4 7 rfl _ _ _ rfl (by kernel_rfl) (anyC _) ?_
            repeat (go_big_quiet_step (fail))
            refine wpQuiet_nil ?_
            refine mixl_two (i := 1) (j := 4) rfl rfl (by kernel_rfl) (anyC _) rfl rfl (fun K hK => ?_) (fun K hK => ?_)
            · obtain ⟨y0, y1, y2, y3, y4⟩ := cells5R HOD.out.box
              go_wp2_with fail
              clear y0 y1 y2 y3 y4
              refine mixl_act (i := 4) rfl (by kernel_rfl) (anyC _) rfl (fun K hK => ?_)
              go_wp2_with fail
              refine HVC.out.mono ?_
              rintro e w3 ⟨hb3, bd, x, j5, rfl, ⟨xk, xn, xt, xna, xnl, xnc, xia, xil, xic, rfl⟩, hr3, hf3, ht3⟩
              have HO3 := Hold.mk (HOD.out.but hb3 hbw)
              have HB3 := Hold.mk (HBD.out.trans hb3)
              have HR3 := Hold.mk hr3
              have HX3 := Hold.mk (And.intro hf3 ht3)
              have HV3 := Hold.mk (HVSD.out.mono (cfF_but hb3 (by omega : b < w.heap.size + 2)))
              have hs3 := hb3.size
              clear hb3 hf3 hr3 ht3
              go_wp2_with fail
              refine mixl_act (i := 5) rfl (by kernel_rfl) (anyC _) rfl (fun K hK => ?_)
              go_wp2_with fail
              refine (rWith_any b s j5 bd (w.heap.size + 2) _ _ nm ls t xk xn xt xna xia xnl xnc xil xic w3 HR3.out (by omega) (by omega) HO3.out.nam HO3.out.itm HO3.out.len (by omega) (by omega)).mono ?_
              rintro e w4 ⟨hb4, nv', iv', rfl, hr4, hn4, hi4⟩
              have HNX := Hold.mk (onxt (m := m) (j := j) (nm := nm) (xs := xs) (ls := ls) (wd := wd) HO3.out HB3.out hbw hlj hls hup.out HCO.out hwds HX3.out.1 HX3.out.2 HV3.out HQ.out hb4 hr4 hn4 hi4)
              have hbx := (HO3.out.but hb4 hbw).box
              obtain ⟨na4, nc4, hn5, _⟩ := hn4
              obtain ⟨ia4, ic4, hi5, _⟩ := hi4
              clear hb4 hr4
              subst hn5 hi5
              go_wp2_with fail
              refine mixl_act (i := 6) rfl (by kernel_rfl) (anyC _) rfl (fun K hK => ?_)
              obtain ⟨y0, y1, y2, y3, y4⟩ := cells5R hbx
              have g0 := freeR hbx 0
              have g1 := freeR hbx 1
              have g2 := freeR hbx 2
              have g3 := freeR hbx 3
              have g4 := freeR hbx 4
              clear hbx
              go_wp2_with fail
              clear y0 y1 y2 y3 y4 g0 g1 g2 g3 g4
              refine mix_done (by kernel_rfl) (anyC _) ?_
              go_wp2_with fail
              go_meet
              case rel => exact HNX.out
            · go_wp2_with fail
              refine HVC.out.mono ?_
              rintro e w3 ⟨hb3, bd, x, j5, rfl, ⟨xk, xn, xt, xna, xnl, xnc, xia, xil, xic, rfl⟩, hr3, hf3, ht3⟩
              have HO3 := Hold.mk (HOD.out.but hb3 hbw)
              have HB3 := Hold.mk (HBD.out.trans hb3)
              have HR3 := Hold.mk hr3
              have HX3 := Hold.mk (And.intro hf3 ht3)
              have HV3 := Hold.mk (HVSD.out.mono (cfF_but hb3 (by omega : b < w.heap.size + 2)))
              have hs3 := hb3.size
              clear hb3 hf3 hr3 ht3
              go_wp2_with fail
              refine mixl_act (i := 1) rfl (by kernel_rfl) (anyC _) rfl (fun K hK => ?_)
              obtain ⟨y0, y1, y2, y3, y4⟩ := cells5R HO3.out.box
              go_wp2_with fail
              clear y0 y1 y2 y3 y4
              refine mixl_act (i := 5) rfl (by kernel_rfl) (anyC _) rfl (fun K hK => ?_)
              go_wp2_with fail
              refine (rWith_any b s j5 bd (w.heap.size + 2) _ _ nm ls t xk xn xt xna xia xnl xnc xil xic w3 HR3.out (by omega) (by omega) HO3.out.nam HO3.out.itm HO3.out.len (by omega) (by omega)).mono ?_
              rintro e w4 ⟨hb4, nv', iv', rfl, hr4, hn4, hi4⟩
              have HNX := Hold.mk (onxt (m := m) (j := j) (nm := nm) (xs := xs) (ls := ls) (wd := wd) HO3.out HB3.out hbw hlj hls hup.out HCO.out hwds HX3.out.1 HX3.out.2 HV3.out HQ.out hb4 hr4 hn4 hi4)
              have hbx := (HO3.out.but hb4 hbw).box
              obtain ⟨na4, nc4, hn5, _⟩ := hn4
              obtain ⟨ia4, ic4, hi5, _⟩ := hi4
              clear hb4 hr4
              subst hn5 hi5
              go_wp2_with fail
              refine mixl_act (i := 6) rfl (by kernel_rfl) (anyC _) rfl (fun K hK => ?_)
              obtain ⟨y0, y1, y2, y3, y4⟩ := cells5R hbx
              have g0 := freeR hbx 0
              have g1 := freeR hbx 1
              have g2 := freeR hbx 2
              have g3 := freeR hbx 3
              have g4 := freeR hbx 4
              clear hbx
              go_wp2_with fail
              clear y0 y1 y2 y3 y4 g0 g1 g2 g3 g4
              refine mix_done (by kernel_rfl) (anyC _) ?_
              go_wp2_with fail
              go_meet
              case rel => exact HNX.out
          case rest =>
            obtain ⟨hb4, bd, j3, nv, iv, nm, xs, ls, hr4, ha4, hls4, hf4, ht4⟩ := hcut
            generalize wc = wb at *
            clear HR4 HBY HOY HVS4 HQ HCO
            have HB4 := Hold.mk hb4
            have HR4 := Hold.mk hr4
            have HA4 := Hold.mk ha4
            have HF4 := Hold.mk (And.intro hf4 ht4)
            clear hb4 hr4 ha4 hf4 ht4
            go_wp2_with fail
            refine (rHere_any b s j3 bd wb HR4.out).mono ?_
            rintro e w5 ⟨rfl, hb5⟩
            have HRX := Hold.mk (HR4.out.below hb5)
            have HBX := Hold.mk (HB4.out.trans (But.of_below hb5))
            have HOX := Hold.mk (HA4.out.but (But.of_below (b := b) hb5) hbw)
            have HFX : Hold (bd = false → j < j3 ∧ nm.length ≤ j3 ∧ nm.length ≤ s.size ∧ upN nm ∧ Vals (cfF (w.heap.size + 2) w5) xs ls ∧ ∃ r, dl s j3 = skipL r ∧ tailL m 6 r nm xs = R) := ⟨fun e => by
              obtain ⟨q1, q2, q0, qu, q3, q4⟩ := HF4.out.1 e
              exact ⟨q1, q2, q0, qu, q3.mono (cfF_but (But.of_below (b := b) hb5) (by omega)), q4⟩⟩
            have HX2 : Hold (bd = true → R = none) := ⟨HF4.out.2⟩
            clear hb5 HR4 HB4 HA4 HF4
            by_cases h44 : hereB (dl s j3) = 44
            · obtain ⟨hjl, hdj⟩ := esc_char h44 (by decide)
              rw [h44]
              have x1 := HRX.out.c1
              have f1 := HRX.out.fz 1
              have HN : Hold (OInv b s n R w (gk - 1) (w5.setCell ⟨b, 1, none⟩ (.int .i64 ((j3 : Int) + 1)))) := ⟨HBX.out.trans (But.set _ _ _), bd, j3 + 1, nv, iv, nm, xs, ls, HRX.out.to1 hjl, HOX.out.but (But.set _ _ _) hbw, hls4, fun e => by
                obtain ⟨q1, q2, q0, qu, q3, r, q4, q5⟩ := HFX.out e
                refine ⟨by omega, by omega, q0, qu, q3.mono (cfF_but (But.set _ _ _) (by omega)), m, by omega, by omega, ?_⟩
                rw [← q5, tail_on (r := dl s (j3 + 1)) (by rw [← q4, hdj]), more_next, if_neg (by decide)], HX2.out⟩
              have hgk1 : gk - 1 < gk := by omega
              clear h44 hdj
              go_wp2_with fail
              clear x1 f1
              go_roundg (gk - 1)
              case measure => exact hgk1
              case rel => exact HN.out
            · have b44 : (((hereB (dl s j3)).toNat : Int) != 44) = true := by rw [bne_iff_ne]; exact fun e => h44 (UInt8.toNat_inj.1 (show (hereB (dl s j3)).toNat = 44 by omega))
              have HX1 : Hold (bd = false → Vals (cfF (w.heap.size + 2) w5) xs ls ∧ ∃ r, dl s j3 = skipL r ∧ endL 6 r nm xs = R) := ⟨fun e => by
                obtain ⟨q1, q2, q0, qu, q3, r, q4, q5⟩ := HFX.out e
                refine ⟨q3, r, q4, ?_⟩
                rw [← q5, tail_end (fun r' e2 => ?_)]
                apply h44
                rw [q4, e2]; rfl⟩
              clear h44 HFX
              go_wp2_with fail
              clear b44
              refine (rWant_any b s ⟨#[125]⟩ j3 bd w5 HRX.out hs (by decide)).mono ?_
              rintro e w9 ⟨rfl, hb9, k9, no9, hr9, hf9, ht9⟩
              have HP := Hold.mk (obj_fin (R := R) (xs := xs) HOX.out HBX.out hbw hb9 hr9 HX1.out HX2.out hf9 ht9)
              have ho90 := HOX.out.but hb9 hbw
              clear hb9 hr9 hf9 ht9
              have hv8 := ho90.box
              have hv9 := ho90.res
              obtain ⟨na9, nc9, ia9, ic9, hra, hrb⟩ := ho90.shape
              subst hra hrb
              obtain ⟨y0, y1, y2, y3, y4⟩ := cells5R hv8
              obtain ⟨v0, v1, v2, v3, v4⟩ := cells5R hv9
              have g0 := freeR hv9 0
              have g1 := freeR hv9 1
              have g2 := freeR hv9 2
              have g3 := freeR hv9 3
              have g4 := freeR hv9 4
              clear hv8 hv9 ho90
              go_wp2_with fail
              clear y0 y1 y2 y3 y4 v0 v1 v2 v3 v4 g0 g1 g2 g3 g4
              obtain ⟨W2, hW2, hv3, hp⟩ := HP.out
              unfold set5R at hW2
              rw [← hW2]
              clear hW2
              obtain ⟨v0, v1, v2, v3, v4⟩ := cells5R hv3
              exact bodyPost_ret (v := .agg #[.int .i64 6, .int .i64 0, .string ⟨#[]⟩, .slice na9 nm.length nc9, .slice ia9 ls.length ic9]) (by simp [results, Tryz.results134, go_sem, v0, v1, v2, v3, v4]) rfl hp

end Go.Proofs.YtkhhbckpddkhlaaGreatDoor

namespace Go.Proofs.YtkhhbckpddkhlaaGreatDoor
open Go.Shelf Go.RowKit

/-- behind the switch -/
def VMid (b : Nat) (s : ByteArray) (R : Option (JV × List UInt8)) (w : World) (X : Nat) (wx : World) : Prop :=
  But b w wx ∧ wx.heap[w.heap.size]? = some (.cells zero5R 25 (0, 0)) ∧ ∃ (bd : Bool) (j : Nat) (k n : Int) (t : ByteArray) (na : Option Addr) (nl nc : Nat) (ia : Option Addr) (il ic : Nat), RC b s j bd wx ∧ wx.heap[X]? = some (.cells #[.int .i64 k, .int .i64 n, .string t, .slice na nl nc, .slice ia il ic] 25 (0, 0)) ∧
    (bd = false → ∃ v, R = some (v, dl s j) ∧ JAt (cfF (X + 1) wx) v (.agg #[.int .i64 k, .int .i64 n, .string t, .slice na nl nc, .slice ia il ic])) ∧ (bd = true → R = none)
/-- what array and object do -/
def RListAt (b : Nat) (s : ByteArray) (n : Nat) : Prop := ∀ (i : Nat) (w : World), 2 * (s.size - i) ≤ n → RC b s i false w →
  ((∃ r, dl s i = 91 :: r) → Calls Tryz.prog 133 #[.pointer (some ⟨b, 0, none⟩)] w (RResPost b s (listL n 5 (dl s (i + 1))) w)) ∧
  ((∃ r, dl s i = 123 :: r) → Calls Tryz.prog 134 #[.pointer (some ⟨b, 0, none⟩)] w (RResPost b s (listL n 6 (dl s (i + 1))) w))
theorem vmid {b : Nat} {s : ByteArray} {R : Option (JV × List UInt8)} {w wx : World} {X : Nat} (hb : But b w wx) (hres : wx.heap[w.heap.size]? = some (.cells zero5R 25 (0, 0))) (bd : Bool) (j : Nat) (k n : Int) (t : ByteArray) (hr : RC b s j bd wx) (hx : wx.heap[X]? = some (.cells #[.int .i64 k, .int .i64 n, .string t, .slice none 0 0, .slice none 0 0] 25 (0, 0)))
    (hk : (Lit.int .i64 k).wf = true) (hn : (Lit.int .i64 n).wf = true) (ht : t.size ≤ 9223372036854775807) (h1 : bd = false → R = some (.mk k n t [] [], dl s j)) (h2 : bd = true → R = none) : VMid b s R w X wx :=
  ⟨hb, hres, bd, j, k, n, t, _, _, _, _, _, _, hr, hx, fun e => ⟨_, h1 e, jat_leaf _ k n t hk hn ht⟩, h2⟩
theorem RC.keep {b k : Nat} {s : ByteArray} {i : Nat} {no : Bool} {w w' : World} (h : RC b s i no w) (g : But k w w') (hne : b ≠ k) : RC b s i no w' := ⟨But.keep g h.box hne, h.le⟩


set_option maxHeartbeats 16000000 in
set_option maxRecDepth 100000 in
theorem rValue_step (b : Nat) (s : ByteArray) (n : Nat) (hs : s.size ≤ 1000000) (i : Nat) (w : World) (h : RC b s i false w)
    (hL : (∃ k r, (k = 5 ∨ k = 6) ∧ skipL (dl s i) = openK k :: r) → 2 * (s.size - i) ≤ n ∧ RListAt b s n) :
    Calls Tryz.prog 87 #[.pointer (some ⟨b, 0, none⟩)] w (RResPost b s ((valL (n + 1) (dl s i)).map skp) w) := by
  obtain ⟨W, hW⟩ : ∃ W, W = w.alloc (.cells zero5R 25) := ⟨_, rfl⟩
  have HB0 : Hold (Below w.heap.size w W) := ⟨by rw [hW]; exact (Below.refl _ w).alloc (Nat.le_refl _) _⟩
  have HV : Hold (W.heap[w.heap.size]? = some (.cells zero5R 25 (0, 0))) := ⟨by rw [hW]; exact heap_alloc_new w _⟩
  have hWs : w.heap.size < W.heap.size := by rw [hW]; simp
  have HR := Hold.mk (h.below HB0.out)
  have hbw := h.lt
  have HL := Hold.mk hL
  clear h hL
  go_enter Tryz.func87, Tryz.ntmps87
  go_upto_region 1 with (fail)
  rw [← hW]
  clear hW
  go_wp2_with fail
  refine (rBlanks_any b s i false W HR.out hs).mono ?_
  rintro e w1 ⟨rfl, j1, hj1, hij, hr1, hb1⟩
  have HSK : Hold (skipL (dl s i) = dl s j1) := ⟨hj1.symm⟩
  have HB1 : Hold (But b w w1) := ⟨(But.of_below HB0.out).trans hb1⟩
  have HV1 := Hold.mk (But.keep hb1 HV.out (by omega))
  have hw1 : w.heap.size < w1.heap.size := Nat.lt_of_lt_of_le hWs hb1.size
  obtain ⟨X, hX⟩ : ∃ X, X = w1.heap.size := ⟨_, rfl⟩
  obtain ⟨w2, hw2⟩ : ∃ w2, w2 = w1.alloc (.cells zero5R 25) := ⟨_, rfl⟩
  have hbel : Below w1.heap.size w1 w2 := by rw [hw2]; exact (Below.refl _ w1).alloc (Nat.le_refl _) _
  have HR2 := Hold.mk (hr1.below hbel)
  have HB2 := Hold.mk (HB1.out.trans (But.of_below hbel))
  have HV2 := Hold.mk (kept HV1.out hbel)
  have HX2 : Hold (w2.heap[X]? = some (.cells zero5R 25 (0, 0))) := ⟨by rw [hw2, hX]; exact heap_alloc_new w1 _⟩
  clear hj1 hr1 hb1 HR HB0 HV HB1 HV1 hbel
  go_upto_region 3 with (fail)
  rw [← hw2, ← hX]
  have hbX : b < X := by omega
  have hwX : w.heap.size < X := by omega
  clear hw2 hX
  go_wp2_with fail
  refine (rHere_any b s j1 false w2 HR2.out).mono ?_
  rintro e w3 ⟨rfl, hb3⟩
  have HR3 := Hold.mk (HR2.out.below hb3)
  have HB3 := Hold.mk (HB2.out.trans (But.of_below hb3))
  have HV3 := Hold.mk (kept HV2.out hb3)
  have HX3 := Hold.mk (kept HX2.out hb3)
  clear hb3 HR2 HB2 HV2 HX2
  obtain ⟨c, hc⟩ : ∃ c, c = hereB (dl s j1) := ⟨_, rfl⟩
  have HH : Hold (hereB (dl s j1) = c) := ⟨hc.symm⟩
  rw [HH.out]
  clear hc
  go_upto_block 0 with (fail)
  go_cut [] (fun wx => VMid b s (valL (n + 1) (dl s i)) w X wx)
  case first =>
    by_cases h110 : c = 110
    · subst h110
      obtain ⟨hjl, hdj⟩ := esc_char HH.out (by decide)
      have HDL2 := Hold.mk hdj
      have HDL : Hold (dl s j1 = 110 :: dl s (j1 + 1)) := ⟨hdj⟩
      replace HSK : Hold (skipL (dl s i) = 110 :: dl s (j1 + 1)) := ⟨HSK.out.trans hdj⟩
      clear hdj
      have HVL : Hold (valL (n + 1) (dl s i) = (wordL (⟨#[110, 117, 108, 108]⟩ : ByteArray).data.toList (dl s j1)).map fun r => (.mk 0 0 ⟨#[]⟩ [] [], r)) := ⟨by rw [HDL.out]; exact val_word HSK.out (by simp)⟩
      go_wp2_with fail
      refine (rWant_any b s ⟨#[110, 117, 108, 108]⟩ j1 false w3 HR3.out hs (by decide)).mono ?_
      rintro e w5 ⟨rfl, hb5, j5, no5, hr5, hf5, ht5⟩
      have HM := Hold.mk (vmid (R := valL (n + 1) (dl s i)) (X := X) (HB3.out.trans hb5) (But.keep hb5 HV3.out (by omega)) no5 j5 0 0 ⟨#[]⟩ hr5 (But.keep hb5 HX3.out (by omega)) (by kernel_rfl) (by kernel_rfl) (by decide) (fun e => by rw [HVL.out, (hf5 e).2]; rfl) (fun e => by rw [HVL.out, (ht5 e).elim (fun h => by cases h) id]; rfl))
      clear hb5 hr5 hf5 ht5
      go_wp2_with fail
      go_meet
      case rel => exact HM.out
    have b110 : ((c.toNat : Int) == 110) = false := byte_ne (k := 110) h110
    by_cases h102 : c = 102
    · subst h102
      obtain ⟨hjl, hdj⟩ := esc_char HH.out (by decide)
      have HDL2 := Hold.mk hdj
      have HDL : Hold (dl s j1 = 102 :: dl s (j1 + 1)) := ⟨hdj⟩
      replace HSK : Hold (skipL (dl s i) = 102 :: dl s (j1 + 1)) := ⟨HSK.out.trans hdj⟩
      clear hdj
      have HVL : Hold (valL (n + 1) (dl s i) = (wordL (⟨#[102, 97, 108, 115, 101]⟩ : ByteArray).data.toList (dl s j1)).map fun r => (.mk 1 0 ⟨#[]⟩ [] [], r)) := ⟨by rw [HDL.out]; exact val_word HSK.out (by simp)⟩
      have hx3 := HX3.out
      obtain ⟨y0, y1, y2, y3, y4⟩ := cells5R hx3
      have g0 := freeR hx3 0
      go_upto_region 9 with (fail)
      clear y0 y1 y2 y3 y4 g0 hx3
      obtain ⟨w4, hw4⟩ : ∃ w4, w4 = w3.setCell ⟨X, 0, none⟩ (.int .i64 1) := ⟨_, rfl⟩
      rw [← hw4]
      have HR4 : Hold (RC b s j1 false w4) := ⟨by rw [hw4]; exact HR3.out.keep (But.set _ _ _) (by omega)⟩
      have HB4 : Hold (But b w w4) := ⟨by rw [hw4]; exact But.own HB3.out (by omega) (But.set (b := X) _ _ _)⟩
      have HV4 : Hold (w4.heap[w.heap.size]? = some (.cells zero5R 25 (0, 0))) := ⟨by rw [hw4]; exact But.keep (But.set (b := X) _ _ _) HV3.out (by omega)⟩
      have HX4 : Hold (w4.heap[X]? = some (.cells #[.int .i64 1, .int .i64 0, .string ⟨#[]⟩, .slice none 0 0, .slice none 0 0] 25 (0, 0))) := ⟨by rw [hw4, set_at HX3.out]; rfl⟩
      clear hw4 HR3 HB3 HV3 HX3
      go_wp2_with fail
      refine (rWant_any b s ⟨#[102, 97, 108, 115, 101]⟩ j1 false w4 HR4.out hs (by decide)).mono ?_
      rintro e w5 ⟨rfl, hb5, j5, no5, hr5, hf5, ht5⟩
      have HM := Hold.mk (vmid (R := valL (n + 1) (dl s i)) (X := X) (HB4.out.trans hb5) (But.keep hb5 HV4.out (by omega)) no5 j5 1 0 ⟨#[]⟩ hr5 (But.keep hb5 HX4.out (by omega)) (by kernel_rfl) (by kernel_rfl) (by decide) (fun e => by rw [HVL.out, (hf5 e).2]; rfl) (fun e => by rw [HVL.out, (ht5 e).elim (fun h => by cases h) id]; rfl))
      clear hb5 hr5 hf5 ht5
      go_wp2_with fail
      go_meet
      case rel => exact HM.out
    have b102 : ((c.toNat : Int) == 102) = false := byte_ne (k := 102) h102
    by_cases h116 : c = 116
    · subst h116
      obtain ⟨hjl, hdj⟩ := esc_char HH.out (by decide)
      have HDL2 := Hold.mk hdj
      have HDL : Hold (dl s j1 = 116 :: dl s (j1 + 1)) := ⟨hdj⟩
      replace HSK : Hold (skipL (dl s i) = 116 :: dl s (j1 + 1)) := ⟨HSK.out.trans hdj⟩
      clear hdj
      have HVL : Hold (valL (n + 1) (dl s i) = (wordL (⟨#[116, 114, 117, 101]⟩ : ByteArray).data.toList (dl s j1)).map fun r => (.mk 2 0 ⟨#[]⟩ [] [], r)) := ⟨by rw [HDL.out]; exact val_word HSK.out (by simp)⟩
      have hx3 := HX3.out
      obtain ⟨y0, y1, y2, y3, y4⟩ := cells5R hx3
      have g0 := freeR hx3 0
      go_upto_region 12 with (fail)
      clear y0 y1 y2 y3 y4 g0 hx3
      obtain ⟨w4, hw4⟩ : ∃ w4, w4 = w3.setCell ⟨X, 0, none⟩ (.int .i64 2) := ⟨_, rfl⟩
      rw [← hw4]
      have HR4 : Hold (RC b s j1 false w4) := ⟨by rw [hw4]; exact HR3.out.keep (But.set _ _ _) (by omega)⟩
      have HB4 : Hold (But b w w4) := ⟨by rw [hw4]; exact But.own HB3.out (by omega) (But.set (b := X) _ _ _)⟩
      have HV4 : Hold (w4.heap[w.heap.size]? = some (.cells zero5R 25 (0, 0))) := ⟨by rw [hw4]; exact But.keep (But.set (b := X) _ _ _) HV3.out (by omega)⟩
      have HX4 : Hold (w4.heap[X]? = some (.cells #[.int .i64 2, .int .i64 0, .string ⟨#[]⟩, .slice none 0 0, .slice none 0 0] 25 (0, 0))) := ⟨by rw [hw4, set_at HX3.out]; rfl⟩
      clear hw4 HR3 HB3 HV3 HX3
      go_wp2_with fail
      refine (rWant_any b s ⟨#[116, 114, 117, 101]⟩ j1 false w4 HR4.out hs (by decide)).mono ?_
      rintro e w5 ⟨rfl, hb5, j5, no5, hr5, hf5, ht5⟩
      have HM := Hold.mk (vmid (R := valL (n + 1) (dl s i)) (X := X) (HB4.out.trans hb5) (But.keep hb5 HV4.out (by omega)) no5 j5 2 0 ⟨#[]⟩ hr5 (But.keep hb5 HX4.out (by omega)) (by kernel_rfl) (by kernel_rfl) (by decide) (fun e => by rw [HVL.out, (hf5 e).2]; rfl) (fun e => by rw [HVL.out, (ht5 e).elim (fun h => by cases h) id]; rfl))
      clear hb5 hr5 hf5 ht5
      go_wp2_with fail
      go_meet
      case rel => exact HM.out
    have b116 : ((c.toNat : Int) == 116) = false := byte_ne (k := 116) h116
    by_cases h34 : c = 34
    · subst h34
      obtain ⟨hjl, hdj⟩ := esc_char HH.out (by decide)
      have HDL2 := Hold.mk hdj
      have HDL : Hold (dl s j1 = 34 :: dl s (j1 + 1)) := ⟨hdj⟩
      replace HSK : Hold (skipL (dl s i) = 34 :: dl s (j1 + 1)) := ⟨HSK.out.trans hdj⟩
      clear hdj
      have hx3 := HX3.out
      obtain ⟨y0, y1, y2, y3, y4⟩ := cells5R hx3
      have g0 := freeR hx3 0
      go_upto_region 15 with (fail)
      clear y0 y1 y2 y3 y4 g0 hx3
      obtain ⟨w4, hw4⟩ : ∃ w4, w4 = w3.setCell ⟨X, 0, none⟩ (.int .i64 4) := ⟨_, rfl⟩
      rw [← hw4]
      have HR4 : Hold (RC b s j1 false w4) := ⟨by rw [hw4]; exact HR3.out.keep (But.set _ _ _) (by omega)⟩
      have HB4 : Hold (But b w w4) := ⟨by rw [hw4]; exact But.own HB3.out (by omega) (But.set (b := X) _ _ _)⟩
      have HV4 : Hold (w4.heap[w.heap.size]? = some (.cells zero5R 25 (0, 0))) := ⟨by rw [hw4]; exact But.keep (But.set (b := X) _ _ _) HV3.out (by omega)⟩
      have HX4 : Hold (w4.heap[X]? = some (.cells #[.int .i64 4, .int .i64 0, .string ⟨#[]⟩, .slice none 0 0, .slice none 0 0] 25 (0, 0))) := ⟨by rw [hw4, set_at HX3.out]; rfl⟩
      clear hw4 HR3 HB3 HV3 HX3
      have HVL : Hold (valL (n + 1) (dl s i) = (strL (dl s j1)).map fun p => (.mk 4 0 p.1 [] [], p.2)) := ⟨by rw [HDL.out]; exact val_str HSK.out⟩
      go_wp2_with fail
      refine (rReadQuoted_any b s j1 w4 HR4.out hs).mono ?_
      rintro e w5 ⟨hb5, t, j5, no5, rfl, hts, hr5, hf5, ht5⟩
      have hx5 := But.keep hb5 HX4.out (by omega)
      have HM : Hold (VMid b s (valL (n + 1) (dl s i)) w X (w5.setCell ⟨X, 2, none⟩ (.string t))) := ⟨vmid (But.own (HB4.out.trans hb5) (by omega) (But.set (b := X) _ _ _)) (But.keep (But.set (b := X) _ _ _) (But.keep hb5 HV4.out (by omega)) (by omega)) no5 j5 4 0 t (hr5.keep (But.set (b := X) _ _ _) (by omega)) (by rw [set_at hx5]; rfl) (by kernel_rfl) (by kernel_rfl) (by omega) (fun e => by rw [HVL.out, hf5 e]; rfl) (fun e => by rw [HVL.out, ht5 e]; rfl)⟩
      clear hb5 hr5 hf5 ht5
      obtain ⟨y0, y1, y2, y3, y4⟩ := cells5R hx5
      have g2 := freeR hx5 2
      clear hx5
      go_wp2_with fail
      clear y0 y1 y2 y3 y4 g2
      go_meet
      case rel => exact HM.out
    have b34 : ((c.toNat : Int) == 34) = false := byte_ne (k := 34) h34
    by_cases hnum : c = 45 ∨ isD c = true
    · obtain ⟨hjl, hdj⟩ := esc_char HH.out (by rintro rfl; exact absurd hnum (by decide))
      have HDL := Hold.mk hdj
      replace HSK : Hold (skipL (dl s i) = c :: dl s (j1 + 1)) := ⟨HSK.out.trans hdj⟩
      clear hdj
      have hways : c = 45 ∨ (((c.toNat : Int) == 45) = false ∧ isD c = true) := by
        by_cases h45 : c = 45
        · exact .inl h45
        · exact .inr ⟨byte_ne (k := 45) h45, hnum.elim (fun h => absurd h h45) id⟩
      rcases hways with rfl | ⟨h45, hdd⟩
      · skip
        have HVL : Hold (valL (n + 1) (dl s i) = (numL (dl s j1)).map fun p => (.mk 3 p.1 ⟨#[]⟩ [] [], p.2)) := ⟨by rw [HDL.out]; exact val_num HSK.out hnum⟩
        have hx3 := HX3.out
        obtain ⟨y0, y1, y2, y3, y4⟩ := cells5R hx3
        have g0 := freeR hx3 0
        go_upto_region 18 with (fail)
        clear y0 y1 y2 y3 y4 g0 hx3
        obtain ⟨w4, hw4⟩ : ∃ w4, w4 = w3.setCell ⟨X, 0, none⟩ (.int .i64 3) := ⟨_, rfl⟩
        rw [← hw4]
        have HR4 : Hold (RC b s j1 false w4) := ⟨by rw [hw4]; exact HR3.out.keep (But.set _ _ _) (by omega)⟩
        have HB4 : Hold (But b w w4) := ⟨by rw [hw4]; exact But.own HB3.out (by omega) (But.set (b := X) _ _ _)⟩
        have HV4 : Hold (w4.heap[w.heap.size]? = some (.cells zero5R 25 (0, 0))) := ⟨by rw [hw4]; exact But.keep (But.set (b := X) _ _ _) HV3.out (by omega)⟩
        have HX4 : Hold (w4.heap[X]? = some (.cells #[.int .i64 3, .int .i64 0, .string ⟨#[]⟩, .slice none 0 0, .slice none 0 0] 25 (0, 0))) := ⟨by rw [hw4, set_at HX3.out]; rfl⟩
        clear hw4 HR3 HB3 HV3 HX3
        go_wp2_with fail
        refine (rNumber_any b s j1 false w4 HR4.out hs).mono ?_
        rintro e w5 ⟨hb5, z, j5, no5, rfl, hwf, hr5, hf5, ht5⟩
        have hx5 := But.keep hb5 HX4.out (by omega)
        have HM : Hold (VMid b s (valL (n + 1) (dl s i)) w X (w5.setCell ⟨X, 1, none⟩ (.int .i64 z))) := ⟨vmid (But.own (HB4.out.trans hb5) (by omega) (But.set (b := X) _ _ _)) (But.keep (But.set (b := X) _ _ _) (But.keep hb5 HV4.out (by omega)) (by omega)) no5 j5 3 z ⟨#[]⟩ (hr5.keep (But.set (b := X) _ _ _) (by omega)) (by rw [set_at hx5]; rfl) (by kernel_rfl) hwf (by decide) (fun e => by rw [HVL.out, (hf5 e).2]; rfl) (fun e => by rw [HVL.out, (ht5 e).elim (fun h => by cases h) id]; rfl)⟩
        clear hb5 hr5 hf5 ht5 hwf
        obtain ⟨y0, y1, y2, y3, y4⟩ := cells5R hx5
        have g1 := freeR hx5 1
        clear hx5
        go_wp2_with fail
        clear y0 y1 y2 y3 y4 g1
        go_meet
        case rel => exact HM.out
      · have HD := Hold.mk (fun W => by have := rDigit_any c W; rw [hdd] at this; exact this)
        have HVL : Hold (valL (n + 1) (dl s i) = (numL (dl s j1)).map fun p => (.mk 3 p.1 ⟨#[]⟩ [] [], p.2)) := ⟨by rw [HDL.out]; exact val_num HSK.out hnum⟩
        have hx3 := HX3.out
        obtain ⟨y0, y1, y2, y3, y4⟩ := cells5R hx3
        have g0 := freeR hx3 0
        go_wp2_with fail
        refine (HD.out _).mono ?_
        rintro e w' ⟨rfl, hwe⟩
        rw [hwe]
        clear hwe
        go_upto_region 18 with (fail)
        clear y0 y1 y2 y3 y4 g0 hx3
        obtain ⟨w4, hw4⟩ : ∃ w4, w4 = w3.setCell ⟨X, 0, none⟩ (.int .i64 3) := ⟨_, rfl⟩
        rw [← hw4]
        have HR4 : Hold (RC b s j1 false w4) := ⟨by rw [hw4]; exact HR3.out.keep (But.set _ _ _) (by omega)⟩
        have HB4 : Hold (But b w w4) := ⟨by rw [hw4]; exact But.own HB3.out (by omega) (But.set (b := X) _ _ _)⟩
        have HV4 : Hold (w4.heap[w.heap.size]? = some (.cells zero5R 25 (0, 0))) := ⟨by rw [hw4]; exact But.keep (But.set (b := X) _ _ _) HV3.out (by omega)⟩
        have HX4 : Hold (w4.heap[X]? = some (.cells #[.int .i64 3, .int .i64 0, .string ⟨#[]⟩, .slice none 0 0, .slice none 0 0] 25 (0, 0))) := ⟨by rw [hw4, set_at HX3.out]; rfl⟩
        clear hw4 HR3 HB3 HV3 HX3
        go_wp2_with fail
        refine (rNumber_any b s j1 false w4 HR4.out hs).mono ?_
        rintro e w5 ⟨hb5, z, j5, no5, rfl, hwf, hr5, hf5, ht5⟩
        have hx5 := But.keep hb5 HX4.out (by omega)
        have HM : Hold (VMid b s (valL (n + 1) (dl s i)) w X (w5.setCell ⟨X, 1, none⟩ (.int .i64 z))) := ⟨vmid (But.own (HB4.out.trans hb5) (by omega) (But.set (b := X) _ _ _)) (But.keep (But.set (b := X) _ _ _) (But.keep hb5 HV4.out (by omega)) (by omega)) no5 j5 3 z ⟨#[]⟩ (hr5.keep (But.set (b := X) _ _ _) (by omega)) (by rw [set_at hx5]; rfl) (by kernel_rfl) hwf (by decide) (fun e => by rw [HVL.out, (hf5 e).2]; rfl) (fun e => by rw [HVL.out, (ht5 e).elim (fun h => by cases h) id]; rfl)⟩
        clear hb5 hr5 hf5 ht5 hwf
        obtain ⟨y0, y1, y2, y3, y4⟩ := cells5R hx5
        have g1 := freeR hx5 1
        clear hx5
        go_wp2_with fail
        clear y0 y1 y2 y3 y4 g1
        go_meet
        case rel => exact HM.out
    have b45 : ((c.toNat : Int) == 45) = false := byte_ne (k := 45) (fun e => hnum (.inl e))
    have HD := Hold.mk (fun W => by have := rDigit_any c W; rw [show isD c = false by cases h : isD c with | true => exact absurd (.inr h) hnum | false => rfl] at this; exact this)
    by_cases h91 : c = 91
    · subst h91
      obtain ⟨hjl, hdj⟩ := esc_char HH.out (by decide)
      have HDL2 := Hold.mk hdj
      clear hdj
      go_wp2_with fail
      refine (HD.out _).mono ?_
      rintro e w' ⟨rfl, hwe⟩
      rw [hwe]
      clear hwe
      have HVL : Hold (valL (n + 1) (dl s i) = listL n 5 (dl s (j1 + 1))) := ⟨val_arr (by rw [HSK.out]; exact HDL2.out)⟩
      have HLI := Hold.mk (((HL.out ⟨5, _, by omega, HSK.out.trans HDL2.out⟩).2 j1 w3 (by have := (HL.out ⟨5, _, by omega, HSK.out.trans HDL2.out⟩).1; omega) HR3.out).1 ⟨_, HDL2.out⟩)
      go_wp2_with fail
      refine HLI.out.mono ?_
      rintro e w5 ⟨hb5, bd, x, j5, rfl, ⟨xk, xn, xt, xna, xnl, xnc, xia, xil, xic, rfl⟩, hr5, hf5, ht5⟩
      have hx5 := But.keep hb5 HX3.out (by omega)
      have hX3 := ltR HX3.out
      have HM : Hold (VMid b s (valL (n + 1) (dl s i)) w X (set5R w5 X (.int .i64 xk) (.int .i64 xn) (.string xt) (.slice xna xnl xnc) (.slice xia xil xic))) := ⟨
        But.own (HB3.out.trans hb5) (by omega) (set5R_but _ _ _ _ _ _ _), But.keep (set5R_but _ _ _ _ _ _ _) (But.keep hb5 HV3.out (by omega)) (by omega), bd, j5, xk, xn, xt, xna, xnl, xnc, xia, xil, xic, hr5.keep (set5R_but _ _ _ _ _ _ _) (by omega), set5R_self hx5, fun e => by
          obtain ⟨v, e1, e2⟩ := hf5 e
          exact ⟨v, by rw [HVL.out, e1], (e2.mono (cfF_le _ (by omega))).mono (cfF_but (set5R_but _ _ _ _ _ _ _) (by omega))⟩, fun e => by rw [HVL.out, ht5 e]⟩
      clear hb5 hr5 hf5 ht5
      obtain ⟨y0, y1, y2, y3, y4⟩ := cells5R hx5
      have g0 := freeR hx5 0
      have g1 := freeR hx5 1
      have g2 := freeR hx5 2
      have g3 := freeR hx5 3
      have g4 := freeR hx5 4
      clear hx5
      go_wp2_with fail
      clear y0 y1 y2 y3 y4 g0 g1 g2 g3 g4
      go_meet
      case rel => exact HM.out
    have b91 : ((c.toNat : Int) == 91) = false := byte_ne (k := 91) h91
    by_cases h123 : c = 123
    · subst h123
      obtain ⟨hjl, hdj⟩ := esc_char HH.out (by decide)
      have HDL2 := Hold.mk hdj
      clear hdj
      go_wp2_with fail
      refine (HD.out _).mono ?_
      rintro e w' ⟨rfl, hwe⟩
      rw [hwe]
      clear hwe
      have HVL : Hold (valL (n + 1) (dl s i) = listL n 6 (dl s (j1 + 1))) := ⟨val_obj (by rw [HSK.out]; exact HDL2.out)⟩
      have HLI := Hold.mk (((HL.out ⟨6, _, by omega, HSK.out.trans HDL2.out⟩).2 j1 w3 (by have := (HL.out ⟨6, _, by omega, HSK.out.trans HDL2.out⟩).1; omega) HR3.out).2 ⟨_, HDL2.out⟩)
      go_wp2_with fail
      refine HLI.out.mono ?_
      rintro e w5 ⟨hb5, bd, x, j5, rfl, ⟨xk, xn, xt, xna, xnl, xnc, xia, xil, xic, rfl⟩, hr5, hf5, ht5⟩
      have hx5 := But.keep hb5 HX3.out (by omega)
      have hX3 := ltR HX3.out
      have HM : Hold (VMid b s (valL (n + 1) (dl s i)) w X (set5R w5 X (.int .i64 xk) (.int .i64 xn) (.string xt) (.slice xna xnl xnc) (.slice xia xil xic))) := ⟨
        But.own (HB3.out.trans hb5) (by omega) (set5R_but _ _ _ _ _ _ _), But.keep (set5R_but _ _ _ _ _ _ _) (But.keep hb5 HV3.out (by omega)) (by omega), bd, j5, xk, xn, xt, xna, xnl, xnc, xia, xil, xic, hr5.keep (set5R_but _ _ _ _ _ _ _) (by omega), set5R_self hx5, fun e => by
          obtain ⟨v, e1, e2⟩ := hf5 e
          exact ⟨v, by rw [HVL.out, e1], (e2.mono (cfF_le _ (by omega))).mono (cfF_but (set5R_but _ _ _ _ _ _ _) (by omega))⟩, fun e => by rw [HVL.out, ht5 e]⟩
      clear hb5 hr5 hf5 ht5
      obtain ⟨y0, y1, y2, y3, y4⟩ := cells5R hx5
      have g0 := freeR hx5 0
      have g1 := freeR hx5 1
      have g2 := freeR hx5 2
      have g3 := freeR hx5 3
      have g4 := freeR hx5 4
      clear hx5
      go_wp2_with fail
      clear y0 y1 y2 y3 y4 g0 g1 g2 g3 g4
      go_meet
      case rel => exact HM.out
    have b123 : ((c.toNat : Int) == 123) = false := byte_ne (k := 123) h123
    have HVL : Hold (valL (n + 1) (dl s i) = none) := ⟨by
      rcases Nat.lt_or_ge j1 s.size with hj | hj
      · have e : c = s[j1] := by rw [← HH.out]; exact hereB_at hj
        exact val_else (HSK.out.trans ((dl_cons hj).trans (by rw [← e]))) h110 h102 h116 h34 hnum h91 h123
      · exact val_end (HSK.out.trans (List.length_eq_zero_iff.1 (by rw [dl_len]; omega)))⟩
    have HM : Hold (VMid b s (valL (n + 1) (dl s i)) w X (w3.setCell ⟨b, 2, none⟩ (.bool true))) := ⟨vmid (HB3.out.trans (But.set _ _ _)) (But.keep (But.set (b := b) _ _ _) HV3.out (by omega)) true j1 0 0 ⟨#[]⟩ HR3.out.not (But.keep (But.set (b := b) _ _ _) HX3.out (by omega)) (by kernel_rfl) (by kernel_rfl) (by decide) (fun e => by cases e) (fun _ => HVL.out)⟩
    have x2 := HR3.out.c2
    have f2 := HR3.out.fz 2
    go_wp2_with fail
    refine (HD.out _).mono ?_
    rintro e w' ⟨rfl, hwe⟩
    rw [hwe]
    clear hwe
    go_wp2_with fail
    go_meet
    case rel => exact HM.out
  case rest =>
    obtain ⟨hb, hres, bd, j, k, nn, t, na, nl, nc, ia, il, ic, hr, hx, hf, ht⟩ := hcut
    generalize wc = wb at *
    clear HR3 HB3 HV3 HX3
    have HR := Hold.mk hr
    have HB := Hold.mk hb
    have HV := Hold.mk hres
    have HX := Hold.mk hx
    have HF := Hold.mk (And.intro hf ht)
    clear hb hres hr hx hf ht
    go_wp2_with fail
    refine (rBlanks_any b s j bd wb HR.out hs).mono ?_
    rintro e w9 ⟨rfl, j9, hj9, _, hr9, hb9⟩
    have hv8 := But.keep hb9 HX.out (by omega)
    have hv9 := But.keep hb9 HV.out (by omega)
    have HP : Hold (∃ W2, W2 = set5R w9 w.heap.size (.int .i64 k) (.int .i64 nn) (.string t) (.slice na nl nc) (.slice ia il ic) ∧ W2.heap[w.heap.size]? = some (.cells #[.int .i64 k, .int .i64 nn, .string t, .slice na nl nc, .slice ia il ic] 25 (0, 0)) ∧ RResPost b s ((valL (n + 1) (dl s i)).map skp) w (.returned (.agg #[.int .i64 k, .int .i64 nn, .string t, .slice na nl nc, .slice ia il ic])) W2) := ⟨
      _, rfl, set5R_self hv9, But.own (HB.out.trans hb9) (Nat.le_refl _) (set5R_but _ _ _ _ _ _ _), bd, _, j9, rfl, ⟨_, _, _, _, _, _, _, _, _, rfl⟩, hr9.keep (set5R_but _ _ _ _ _ _ _) (by omega), fun e => by
        obtain ⟨v, e1, e2⟩ := HF.out.1 e
        exact ⟨v, by rw [e1, hj9]; rfl, ((e2.mono (cfF_but hb9 (by omega))).mono (cfF_but (set5R_but _ _ _ _ _ _ _) (by omega))).mono (cfF_le _ (by omega))⟩, fun e => by rw [HF.out.2 e]; rfl⟩
    clear hr9 hb9 hj9
    obtain ⟨y0, y1, y2, y3, y4⟩ := cells5R hv8
    obtain ⟨v0, v1, v2, v3, v4⟩ := cells5R hv9
    have g0 := freeR hv9 0
    have g1 := freeR hv9 1
    have g2 := freeR hv9 2
    have g3 := freeR hv9 3
    have g4 := freeR hv9 4
    clear hv8 hv9
    go_wp2_with fail
    clear y0 y1 y2 y3 y4 v0 v1 v2 v3 v4 g0 g1 g2 g3 g4
    obtain ⟨W2, hW2, hv3, hp⟩ := HP.out
    unfold set5R at hW2
    rw [← hW2]
    clear hW2
    obtain ⟨v0, v1, v2, v3, v4⟩ := cells5R hv3
    exact bodyPost_ret (v := .agg #[.int .i64 k, .int .i64 nn, .string t, .slice na nl nc, .slice ia il ic]) (by simp [results, Tryz.results87, go_sem, v0, v1, v2, v3, v4]) rfl hp

theorem rList_all (b : Nat) (s : ByteArray) (hs : s.size ≤ 1000000) (n : Nat) : RListAt b s n := by
  induction n using Nat.strongRecOn with
  | _ n ih =>
    have hval : ∀ (m i : Nat) (w : World), m < n → 2 * (s.size - i) + 1 ≤ m → RC b s i false w → Calls Tryz.prog 87 #[.pointer (some ⟨b, 0, none⟩)] w (RResPost b s ((valL m (dl s i)).map skp) w) := fun m i w hm h1 hr => by
      obtain ⟨m', rfl⟩ : ∃ m', m = m' + 1 := ⟨m - 1, by omega⟩
      exact rValue_step b s m' hs i w hr (fun _ => ⟨by omega, ih m' (by omega)⟩)
    exact fun i w hn hr => ⟨fun ho => rArray_step b s n hs hval i w hn hr ho, fun ho => rObject_step b s n hs hval i w hn hr ho⟩
theorem rValue_any (b : Nat) (s : ByteArray) (hs : s.size ≤ 1000000) (w : World) (h : RC b s 0 false w) : Calls Tryz.prog 87 #[.pointer (some ⟨b, 0, none⟩)] w (RResPost b s ((valL (2 * s.size + 1) (dl s 0)).map skp) w) :=
  rValue_step b s (2 * s.size) hs 0 w h (fun _ => ⟨by omega, rList_all b s hs _⟩)

end Go.Proofs.YtkhhbckpddkhlaaGreatDoor
