/- The reader of the reference: with. (printed by genXQL.py) -/
import Derived.Test.YtdhilnnohokoeaaDoorQK
import Derived.Test.YtdhilnnohokoeaaDoorRL
import Derived.Test.YtdhilnnohokoeaaDoorOW
namespace Go.Proofs.YtdhilnnohokoeaaDoor
open Go.Shelf Go.RowKit

/-- five cells, as they are -/
def Raw5 : Rep (List Value) := fun _ x d => d = x ∧ x.length = 5 ∧ ∀ u ∈ x, u.oneCell' = true
theorem Raw5_mono : Mono Raw5 := fun _ _ _ _ _ h => h
theorem Raw5_one : ∀ (c : CF) (x : List Value) (d : List Value), Raw5 c x d → ∀ u ∈ d, u.oneCell' = true := fun c x d ⟨e, _, h⟩ => by rw [e]; exact h
theorem grow_raw {c c' : CF} {xs : List (List Value)} {cs : List Value} (h : GRow 5 Raw5 c xs cs) : GRow 5 Raw5 c' xs cs := h
theorem OwnS.keepB {α : Type} {n : Nat} {R : Rep α} (hS : ∀ c c' x d, R c x d → R c' x d) {T : TypeId} {B : Nat} {w w' : World} {sl : Value} {p : Nat} {xs : List α} {cs : List Value} (h : OwnS n R T B w sl p xs cs) {g : Option Nat} (hg : w.grownBy w' g) (hne : ∀ q, sl.ownBlock = some q → g ≠ some q) : OwnS n R T B w' sl p xs cs :=
  ⟨own_keep h.own hg hne, h.len, ⟨h.row.1, fun i x hx => by
    obtain ⟨d, h1, h2, h3⟩ := h.row.2 i x hx
    exact ⟨d, h1, h2, hS _ _ _ _ h3⟩⟩, Nat.le_trans h.le hg.size⟩

/-- the object under way -/
structure WV (N : Nat) (W wr : World) (sv tv : Value) (p p2 : Nat) (a : List ByteArray) (l : List (List Value)) (cs ds : List Value) : Prop where
  bel : Below (N + 3) W wr
  box : wr.heap[N + 3]? = some (.cells #[.int .i64 6, .int .i64 0, .string ⟨#[]⟩, sv, tv] 26 (0, 0))
  nam : OwnS 1 RS 9 (N + 4) wr sv p a cs
  itm : OwnS 5 Raw5 26 (N + 4) wr tv p2 l ds
  apart : ∀ g, sv.ownBlock = some g → tv.ownBlock ≠ some g
theorem WV.alloc {N : Nat} {W wr : World} {sv tv : Value} {p p2 : Nat} {a : List ByteArray} {l : List (List Value)} {cs ds : List Value} (h : WV N W wr sv tv p p2 a l cs ds) (o : Obj) : WV N W (wr.alloc o) sv tv p p2 a l cs ds :=
  ⟨h.bel.alloc (by have := h.nam.le; omega) o, kept h.box ((Below.refl _ wr).alloc (Nat.le_refl _) o), h.nam.alloc RS_mono o, h.itm.alloc Raw5_mono o, h.apart⟩
theorem WV.drew {N : Nat} {W wr : World} {sv tv : Value} {p p2 : Nat} {a : List ByteArray} {l : List (List Value)} {cs ds : List Value} (h : WV N W wr sv tv p p2 a l cs ds) : WV N W wr.drew sv tv p p2 a l cs ds :=
  ⟨h.bel.drew, h.box, h.nam.drew, h.itm.drew, h.apart⟩
theorem WV.name {N : Nat} {W wr w' : World} {sv tv sv' : Value} {p p' p2 : Nat} {a a' : List ByteArray} {l : List (List Value)} {cs cs' ds : List Value} (h : WV N W wr sv tv p p2 a l cs ds) (hg : Grew wr w' sv sv') (ho : OwnS 1 RS 9 (N + 4) w' sv' p' a' cs') : WV N W (w'.setCell ⟨N + 3, 3, none⟩ sv') sv' tv p' p2 a' l cs' ds := by
  have hlt := ltR h.box
  have hle := h.nam.le
  have hset := But.set (b := N + 3) w' 3 sv'
  have hs1 : ∀ q, sv.ownBlock = some q → N + 4 ≤ q := fun q hq => (h.nam.low q hq).1
  have hs2 : ∀ q, sv'.ownBlock = some q → N + 4 ≤ q := fun q hq => (ho.low q hq).1
  have hs3 : ∀ q, tv.ownBlock = some q → N + 4 ≤ q ∧ q < wr.heap.size := fun q hq => h.itm.low q hq
  refine ⟨?_, ?_, ?_, ?_, ?_⟩
  · have h1 := h.bel.trans (hg.below (B := N + 3) (by omega) (fun g hq => by have := hs1 g hq; omega))
    exact h1.setCell (p := ⟨N + 3, 3, none⟩) (Nat.le_refl _) _
  · rw [set_at (hg.kept h.box (fun g hq e => by have := hs1 g hq; omega))]; rfl
  · exact ho.keepB (fun _ _ _ _ h => h) hset (fun q hq e => by have := hs2 q hq; have := Option.some.inj e; omega)
  · refine (h.itm.keepB (fun _ _ _ _ h => h) hg.by_ (fun q hq e => h.apart q e hq)).keepB (fun _ _ _ _ h => h) hset (fun q hq e => by have := (hs3 q hq).1; have := Option.some.inj e; omega)
  · intro g hgg ht
    rcases hg.own g hgg with e | e
    · exact h.apart g e ht
    · have := (hs3 g ht).2; omega
theorem WV.item {N : Nat} {W wr w' : World} {sv tv tv' : Value} {p p2 p2' : Nat} {a : List ByteArray} {l l' : List (List Value)} {cs ds ds' : List Value} (h : WV N W wr sv tv p p2 a l cs ds) (hg : Grew wr w' tv tv') (ho : OwnS 5 Raw5 26 (N + 4) w' tv' p2' l' ds') : WV N W (w'.setCell ⟨N + 3, 4, none⟩ tv') sv tv' p p2' a l' cs ds' := by
  have hlt := ltR h.box
  have hle := h.nam.le
  have hset := But.set (b := N + 3) w' 4 tv'
  have hs1 : ∀ q, tv.ownBlock = some q → N + 4 ≤ q := fun q hq => (h.itm.low q hq).1
  have hs2 : ∀ q, tv'.ownBlock = some q → N + 4 ≤ q := fun q hq => (ho.low q hq).1
  have hs3 : ∀ q, sv.ownBlock = some q → N + 4 ≤ q ∧ q < wr.heap.size := fun q hq => h.nam.low q hq
  refine ⟨?_, ?_, ?_, ?_, ?_⟩
  · have h1 := h.bel.trans (hg.below (B := N + 3) (by omega) (fun g hq => by have := hs1 g hq; omega))
    exact h1.setCell (p := ⟨N + 3, 4, none⟩) (Nat.le_refl _) _
  · rw [set_at (hg.kept h.box (fun g hq e => by have := hs1 g hq; omega))]; rfl
  · refine (h.nam.keepB (fun _ _ _ _ h => h) hg.by_ (fun q hq e => h.apart q hq e)).keepB (fun _ _ _ _ h => h) hset (fun q hq e => by have := (hs3 q hq).1; have := Option.some.inj e; omega)
  · exact ho.keepB (fun _ _ _ _ h => h) hset (fun q hq e => by have := hs2 q hq; have := Option.some.inj e; omega)
  · intro g hgs ht
    rcases hg.own g ht with e | e
    · exact h.apart g hgs e
    · have := (hs3 g hgs).2; omega
theorem WV.setb {N : Nat} {W wr : World} {sv tv : Value} {p p2 : Nat} {a : List ByteArray} {l : List (List Value)} {cs ds : List Value} {b : Nat} {s : ByteArray} {j : Nat} {no : Bool} (h : WV N W wr sv tv p p2 a l cs ds) (hb : b < N) (hr : RC b s j no W) (hr2 : RC b s j no wr) (v : Value) : WV N (W.setCell ⟨b, 2, none⟩ v) (wr.setCell ⟨b, 2, none⟩ v) sv tv p p2 a l cs ds := by
  have s1 := But.set (b := b) W 2 v
  have s2 := But.set (b := b) wr 2 v
  have hlt := hr.lt
  refine ⟨⟨s2.os.trans (h.bel.os.trans s1.os.symm), s2.tape.trans (h.bel.tape.trans s1.tape.symm), s2.output.trans (h.bel.output.trans s1.output.symm), ?_, fun q hq => ?_⟩, But.keep s2 h.box (by omega), h.nam.keepB (fun _ _ _ _ h => h) s2 (fun q hq e => by have := (h.nam.low q hq).1; have := Option.some.inj e; omega), h.itm.keepB (fun _ _ _ _ h => h) s2 (fun q hq e => by have := (h.itm.low q hq).1; have := Option.some.inj e; omega), h.apart⟩
  · have := h.bel.size; simpa using this
  · by_cases e : q = b
    · subst e
      rw [set_at hr.box, set_at hr2.box]
    · by_cases hl : q < W.heap.size
      · rw [s1.block q hl (fun e2 => e (Option.some.inj e2)), s2.block q (Nat.lt_of_lt_of_le hl h.bel.size) (fun e2 => e (Option.some.inj e2)), h.bel.block q hq]
      · have h1 : W.heap[q]? = wr.heap[q]? := (h.bel.block q hq).symm
        have h2 : W.heap[q]? = none := Array.getElem?_eq_none (by omega)
        have h3 : wr.heap.size ≤ q := by
          rw [h2] at h1
          exact Array.getElem?_eq_none_iff.1 h1.symm
        rw [Array.getElem?_eq_none (by simpa using h3), Array.getElem?_eq_none (by simp; omega)]
theorem WV.start {w : World} {o1 o2 o3 : Obj} {W : World} (hW : W = (((w.alloc o1).alloc o2).alloc o3).alloc (.cells #[.int .i64 6, .int .i64 0, .string ⟨#[]⟩, .slice none 0 0, .slice none 0 0] 26)) : WV w.heap.size W W (.slice none 0 0) (.slice none 0 0) 0 0 [] [] [] [] := by
  subst hW
  refine ⟨Below.refl _ _, ?_, OwnS.start _ _ _ (by simp), OwnS.start _ _ _ (by simp), fun g h => by simp [Value.ownBlock] at h⟩
  have := heap_alloc_new (((w.alloc o1).alloc o2).alloc o3) (.cells #[.int .i64 6, .int .i64 0, .string ⟨#[]⟩, .slice none 0 0, .slice none 0 0] 26)
  simpa using this
theorem four_new (w : World) (o1 o2 o3 o4 : Obj) : ∃ W, W = (((w.alloc o1).alloc o2).alloc o3).alloc o4 ∧ Below w.heap.size w W ∧ W.heap[w.heap.size]? = some o1 ∧ W.heap[w.heap.size + 1]? = some o2 ∧ W.heap[w.heap.size + 2]? = some o3 ∧ W.heap.size = w.heap.size + 4 := by
  refine ⟨_, rfl, ((((Below.refl _ w).alloc (Nat.le_refl _) o1).alloc (by simp) o2).alloc (by simp; omega) o3).alloc (by simp; omega) o4, ?_, ?_, ?_, by simp⟩
  · have h1 := kept (heap_alloc_new w o1) ((Below.refl _ (w.alloc o1)).alloc (Nat.le_refl _) o2)
    have h2 := kept h1 ((Below.refl _ _).alloc (Nat.le_refl _) o3)
    exact kept h2 ((Below.refl _ _).alloc (Nat.le_refl _) o4)
  · have h1 := heap_alloc_new (w.alloc o1) o2
    have h2 := kept h1 ((Below.refl _ _).alloc (Nat.le_refl _) o3)
    have h3 := kept h2 ((Below.refl _ _).alloc (Nat.le_refl _) o4)
    simpa using h3
  · have h1 := heap_alloc_new ((w.alloc o1).alloc o2) o3
    have h2 := kept h1 ((Below.refl _ _).alloc (Nat.le_refl _) o4)
    simpa using h2

/-- a member more, where its name stands -/
def RWithPost (b : Nat) (s : ByteArray) (j : Nat) (no : Bool) (C : Nat) (nm : List ByteArray) (ls : List (List Value)) (name : ByteArray) (xl : List Value) (w : World) (e : Ending) (w' : World) : Prop :=
  But b w w' ∧ ∃ nv' iv', e = .returned (.agg #[.int .i64 6, .int .i64 0, .string ⟨#[]⟩, nv', iv']) ∧ RC b s j (no || decide (nm[placeN nm name]? = some name)) w' ∧ SAt 1 RS (cfF C w') nv' (insA (placeN nm name) name nm) ∧ SAt 5 Raw5 (cfF C w') iv' (insA (placeN nm name) xl ls)
theorem place_at {nm : List ByteArray} {name : ByteArray} {m : Nat} (hall : ∀ (q : Nat) a, q < m → nm[q]? = some a → strLt a name = true) (hm : m ≤ nm.length) (hno : ∀ a, nm[m]? = some a → strLt a name = false) : placeN nm name = m := by
  unfold placeN
  induction nm generalizing m with
  | nil => simp at hm ⊢; omega
  | cons x nm ih =>
    cases m with
    | zero =>
      rw [List.takeWhile_cons, hno x rfl]; rfl
    | succ m =>
      rw [List.takeWhile_cons, hall 0 x (by omega) rfl, if_pos rfl, List.length_cons, ih (m := m) (fun q a hq ha => hall (q + 1) a (by omega) (by simpa using ha)) (by simpa using hm) (fun a ha => hno a (by simpa using ha))]
theorem with_post {b : Nat} {s : ByteArray} {j : Nat} {no no6 : Bool} {C m : Nat} {nm dn : List ByteArray} {ls dl : List (List Value)} {name : ByteArray} {xl : List Value} {w W6 w12 : World} {sv tv : Value} {p p2 : Nat} {cs ds : List Value}
    (h : WV w.heap.size W6 w12 sv tv p p2 ((nm.take m ++ [name]) ++ dn) ((ls.take m ++ [xl]) ++ dl) cs ds) (hW : But b w W6) (hbC : b < C) (hC : C ≤ w.heap.size) (hres : W6.heap[w.heap.size + 2]? = some (.cells zero5R 26 (0, 0))) (hr : RC b s j no6 W6) (hp : placeN nm name = m) (hno : no6 = (no || decide (nm[m]? = some name))) (hdn : dn = nm.drop m) (hdl : dl = ls.drop m) :
    ∃ W2, W2 = set5R w12 (w.heap.size + 2) (.int .i64 6) (.int .i64 0) (.string ⟨#[]⟩) sv tv ∧ W2.heap[w.heap.size + 2]? = some (.cells #[.int .i64 6, .int .i64 0, .string ⟨#[]⟩, sv, tv] 26 (0, 0)) ∧ RWithPost b s j no C nm ls name xl w (.returned (.agg #[.int .i64 6, .int .i64 0, .string ⟨#[]⟩, sv, tv])) W2 := by
  have hb12 : But b w w12 := ⟨h.bel.os.trans hW.os, h.bel.tape.trans hW.tape, h.bel.output.trans hW.output, Nat.le_trans hW.size h.bel.size, fun q hq hne => by rw [h.bel.block q (by omega)]; exact hW.block q hq hne⟩
  have hres12 : w12.heap[w.heap.size + 2]? = some (.cells zero5R 26 (0, 0)) := by rw [h.bel.block _ (by omega)]; exact hres
  have hr12 : RC b s j no6 w12 := ⟨by rw [h.bel.block b (by omega)]; exact hr.box, hr.le⟩
  have hcl : CLe (cfA (w.heap.size + 4) w12) (cfF C (set5R w12 (w.heap.size + 2) (.int .i64 6) (.int .i64 0) (.string ⟨#[]⟩) sv tv)) :=
    CLe.trans (b := cfF (w.heap.size + 4) (set5R w12 (w.heap.size + 2) (.int .i64 6) (.int .i64 0) (.string ⟨#[]⟩) sv tv)) (cfF_but (set5R_but _ _ _ _ _ _ _) (by omega)) (cfF_le _ (by omega))
  subst hp hno hdn hdl
  refine ⟨_, rfl, set5R_self hres12, But.own hb12 (by omega) (set5R_but _ _ _ _ _ _ _), sv, tv, rfl, ⟨But.keep (set5R_but _ _ _ _ _ _ _) hr12.box (by omega), hr12.le⟩, ?_, ?_⟩
  · have h9 := (h.nam.atA (grow_texts (c' := cfA (w.heap.size + 4) w12) h.nam.row)).mono RS_mono hcl
    rw [List.append_assoc] at h9
    exact h9
  · have h9 := (h.itm.atA (grow_raw (c' := cfA (w.heap.size + 4) w12) h.itm.row)).mono Raw5_mono hcl
    rw [List.append_assoc] at h9
    exact h9

theorem keptB3 {N : Nat} {W wr : World} {q : Nat} {o : Obj} (h : W.heap[q]? = some o) (hb : Below (N + 3) W wr) (hq : q < N + 3) : wr.heap[q]? = some o := by rw [hb.block q hq]; exact h
theorem cell_bel {b B off : Nat} {w W wr : World} {g : Nat} {u : Value} (hb : Below (w.heap.size + 3) W wr) (hW : But b w W) (hbB : b < B) (h : cfF B w g off = some u) : wr.cell? ⟨g, off, none⟩ = some u := by
  unfold cfF at h; split at h
  · have hlt := lt_of_cell h
    rw [hb.cell (p := ⟨g, off, none⟩) (by show g < w.heap.size + 3; omega)]
    exact hW.cell h (fun e => by have e2 : g = b := Option.some.inj e; omega)
  · cases h
theorem cle_belN {b B : Nat} {w W wr : World} {sl : Value} (hb : Below (w.heap.size + 3) W wr) (hW : But b w W) (hbB : b < B) (hs : ∀ g, sl.ownBlock = some g → w.heap.size + 4 ≤ g ∧ g < wr.heap.size) : CLe (cfF B w) (cfN sl wr) := fun g off u h => by
  have h1 := cell_bel hb hW hbB h
  unfold cfF at h; split at h
  · have hlt := lt_of_cell h
    unfold cfN; rw [if_neg (fun e => by have := (hs g e).1; omega)]; exact h1
  · cases h
/-- an element's five cells -/
theorem five_of {d : List Value} (h : d.length = 5) : ∃ c0 c1 c2 c3 c4, d = [c0, c1, c2, c3, c4] := by
  match d, h with
  | [c0, c1, c2, c3, c4], _ => exact ⟨c0, c1, c2, c3, c4, rfl⟩

set_option maxHeartbeats 16000000 in
set_option maxRecDepth 100000 in
theorem rWith_any (b : Nat) (s : ByteArray) (j : Nat) (no : Bool) (C : Nat) (nv iv : Value) (nm : List ByteArray) (ls : List (List Value)) (name : ByteArray) (xk xn : Int) (xt : ByteArray) (xna xia : Option Addr) (xnl xnc xil xic : Nat) (w : World)
    (h : RC b s j no w) (hbC : b < C) (hC : C ≤ w.heap.size) (hnv : SAt 1 RS (cfF C w) nv nm) (hiv : SAt 5 Raw5 (cfF C w) iv ls) (hl : ls.length = nm.length) (hlen : nm.length ≤ 1000000) (hname : name.size ≤ 9223372036854775807) :
    Calls Tryd.prog 56 #[.pointer (some ⟨b, 0, none⟩), .agg #[.int .i64 6, .int .i64 0, .string ⟨#[]⟩, nv, iv], .string name, .agg #[.int .i64 xk, .int .i64 xn, .string xt, .slice xna xnl xnc, .slice xia xil xic]] w
      (RWithPost b s j no C nm ls name [.int .i64 xk, .int .i64 xn, .string xt, .slice xna xnl xnc, .slice xia xil xic] w) := by
  obtain ⟨na, ncap, rfl, hncap, hncap2, hnel⟩ := id hnv
  obtain ⟨ia, icap, rfl, hicap, hicap2, hiel⟩ := id hiv
  obtain ⟨W, hW, hbW, hvb, hxb, hrb, hWs⟩ := four_new w (.cells #[.int .i64 6, .int .i64 0, .string ⟨#[]⟩, .slice na nm.length ncap, .slice ia ls.length icap] 26) (.cells #[.int .i64 xk, .int .i64 xn, .string xt, .slice xna xnl xnc, .slice xia xil xic] 26) (.cells zero5R 26) (.cells #[.int .i64 6, .int .i64 0, .string ⟨#[]⟩, .slice none 0 0, .slice none 0 0] 26)
  have HV0 := Hold.mk (WV.start hW)
  have HR := Hold.mk h
  have HRW := Hold.mk (h.below hbW)
  have HVB := Hold.mk hvb
  have HXB := Hold.mk hxb
  have HRB := Hold.mk hrb
  have HW3 : Hold (But b w W) := ⟨But.of_below hbW⟩
  have HNV := Hold.mk hnv
  have HIV := Hold.mk hiv
  have HNE := Hold.mk hnel
  have HIE := Hold.mk hiel
  have HL := Hold.mk hl
  have hbw := h.lt
  clear h hvb hxb hrb hbW hnv hiv hnel hiel hl
  go_enter Tryd.func56, Tryd.ntmps56
  go_upto_region 2 with (fail)
  rw [← hW, show w.heap.size + 1 + 1 = w.heap.size + 2 from rfl, show w.heap.size + 2 + 1 = w.heap.size + 3 from rfl]
  clear hW
  go_wp2_with fail
  go_loopw [10] (fun i wr => ∃ (m : Nat) (sv tv : Value) (cs ds : List Value), i = .int .i64 m ∧ m ≤ nm.length ∧ (∀ (q : Nat) a, q < m → nm[q]? = some a → strLt a name = true) ∧ WV w.heap.size W wr sv tv m m (nm.take m) (ls.take m) cs ds) (fun i _ => nm.length - (intOf i).toNat)
  case atStart => exact ⟨0, _, _, _, _, rfl, Nat.zero_le _, fun q a h => by omega, HV0.out⟩
  case round =>
    obtain ⟨m, sv, tv, cs, ds, rfl, hm, hall, hv⟩ := hrel
    clear HV0
    have HV := Hold.mk hv
    have HALL := Hold.mk hall
    obtain ⟨sa, scap, rfl⟩ := hv.nam.shape
    obtain ⟨ta, tcap, rfl⟩ := hv.itm.shape
    clear hv hall
    obtain ⟨u0, u1, u2, u3, u4⟩ := cells5R (keptB3 HVB.out HV.out.bel (by omega))
    have hgo : (∃ a, nm[m]? = some a ∧ strLt a name = true) ∨ (∀ a, nm[m]? = some a → strLt a name = false) := by
      cases e : nm[m]? with
      | none => exact .inr (fun a h => by cases h)
      | some a =>
        cases h : strLt a name with
        | true => exact .inl ⟨a, rfl, h⟩
        | false => exact .inr (fun b hb => by cases hb; exact h)
    rcases hgo with ⟨a, ha, hst⟩ | hno
    · obtain ⟨hm2, _⟩ := List.getElem?_eq_some_iff.1 ha
      obtain ⟨g, off, d, rfl, _, hc, rfl, hasz⟩ := HNE.out m a ha
      have hac := hc 0 _ rfl
      simp only [Nat.mul_one, Nat.add_zero] at hac
      obtain ⟨x, hx⟩ : ∃ x, ls[m]? = some x := ⟨ls[m]'(by have := HL.out; omega), List.getElem?_eq_getElem _⟩
      obtain ⟨g2, off2, d, rfl, hd5, hc2, rfl, _, hone⟩ := HIE.out m x hx
      obtain ⟨c0, c1, c2, c3, c4, rfl⟩ := five_of hd5
      have ha0 := hc2 0 _ rfl
      have ha1 := hc2 1 _ rfl
      have ha2 := hc2 2 _ rfl
      have ha3 := hc2 3 _ rfl
      have ha4 := hc2 4 _ rfl
      simp only [Nat.add_zero] at ha0
      have hm3 : m < ls.length := by have := HL.out; omega
      have HAC := Hold.mk hac
      have hgl : g < w.heap.size := lt_of_cell (cfF_cf _ _ _ _ _ hac)
      have hgl2 : g2 < w.heap.size := lt_of_cell (cfF_cf _ _ _ _ _ ha0)
      have HIC := Hold.mk (And.intro ha0 (And.intro ha1 (And.intro ha2 (And.intro ha3 ha4))))
      have hb1 : Op.bytesLess a.toList name.toList = true := hst
      have z0 := cell_bel HV.out.bel HW3.out hbC hac
      have HTK : Hold (nm.take (m + 1) = nm.take m ++ [a]) := ⟨take_succ ha⟩
      have HTL : Hold (ls.take (m + 1) = ls.take m ++ [[c0, c1, c2, c3, c4]]) := ⟨take_succ hx⟩
      have HA2 : Hold (∀ (q : Nat) b, q < m + 1 → nm[q]? = some b → strLt b name = true) := ⟨fun q b hq hb => by
        by_cases e : q = m
        · subst e; rw [ha] at hb; cases hb; exact hst
        · exact HALL.out q b (by omega) hb⟩
      have HSR : Hold (∀ c : CF, RS c a [.string a]) := ⟨fun _ => ⟨rfl, hasz⟩⟩
      have HON : Hold (∀ u ∈ [c0, c1, c2, c3, c4], u.oneCell' = true) := ⟨hone⟩
      have HSI : Hold (∀ c : CF, Raw5 c [c0, c1, c2, c3, c4] [c0, c1, c2, c3, c4]) := ⟨fun _ => ⟨rfl, rfl, hone⟩⟩
      clear hst ha hx hc hc2 hac ha0 ha1 ha2 ha3 ha4 hasz hd5
      go_upto_region 4 with (fail)
      clear u0 u1 u2 u3 u4 z0 hb1
      go_cut [] (fun wx => ∃ sv cs, WV w.heap.size W wx sv (.slice ta m tcap) (m + 1) m (nm.take (m + 1)) (ls.take m) cs ds)
      case first =>

        obtain ⟨wd, hwd⟩ : ∃ wd, wd = wr.drew := ⟨_, rfl⟩
        refine wp_region_mixC (GrowBC (w.heap.size + 3) wd) 11 rfl (by kernel_rfl) ?_
        rw [← hwd]
        replace HV : Hold (WV w.heap.size W wd (.slice sa m scap) (.slice ta m tcap) m m _ _ cs ds) := ⟨by rw [hwd]; exact HV.out.drew⟩
        clear hwd
        have hlt := ltR HV.out.box
        have HBA : Hold (Below (w.heap.size + 3) wd (wd.alloc (.cells #[.string a] 9))) := ⟨(Below.refl _ wd).alloc (by omega) _⟩
        obtain ⟨u0, u1, u2, u3, u4⟩ := cells5R (keptB3 HVB.out HV.out.bel (by omega))
        have z3 := GrowB.cell (B := w.heap.size + 3) u3 (by show w.heap.size < w.heap.size + 3; omega)
        clear u0 u1 u2 u3 u4
        have zc := GrowB.cell (B := w.heap.size + 3) (cell_bel HV.out.bel HW3.out hbC HAC.out) (by show g < w.heap.size + 3; omega)
        refine mixl_seg (by kernel_rfl) (fun _ _ d _ _ h => by cases d <;> exact h) [0, 2, 3, 4, 5, 6] [_, _, _, _, _, _] 5 11 rfl _ _ _ rfl (by kernel_rfl) (growBC (Below.refl _ _)) ?_
        repeat (go_big_quiet_step (fail))
        refine wpQuiet_nil ?_
        clear z3 zc
        refine mixl_two (i := 1) (j := 7) rfl rfl (by kernel_rfl) (growBC (Below.refl _ _)) rfl rfl (fun K hK => ?_) (fun K hK => ?_)
        · obtain ⟨y0, y1, y2, y3, y4⟩ := cells5R HV.out.box
          go_wp2_with fail
          clear y0 y1 y2 y3 y4
          refine mixl_act (i := 7) rfl (by kernel_rfl) (growBC (Below.refl _ _)) rfl (fun K hK => ?_)
          go_wp2_with fail
          refine mixl_act (i := 8) rfl (by kernel_rfl) (growBC HBA.out) rfl (fun K hK => ?_)
          refine wp_push RS_mono _ _ rfl infoStr Tryd.underlying23 rfl (by decide) _ wd _ m _ _ HV.out.nam rfl #[.string a] [.string a] rfl rfl (by simp [Value.oneCell']) a (HSR.out _) _ rfl rfl (by omega) (by decide) ?_
          intro sv2 w4 ho4 hg4
          refine hK _ _ ?_
          clear hK K
          obtain ⟨ra, rcap, rfl⟩ := ho4.shape
          have HB4 : Hold (Below (w.heap.size + 3) wd w4) := ⟨hg4.below (by have := HV.out.nam.le; omega) (fun g hg => by have := (HV.out.nam.low g hg).1; omega)⟩
          have hbx := hg4.kept HV.out.box (fun g hg e => by have := (HV.out.nam.low g hg).1; omega)
          have HVN := Hold.mk (HV.out.name hg4 ho4)
          have HB5 : Hold (Below (w.heap.size + 3) wd (w4.setCell ⟨w.heap.size + 3, 3, none⟩ (.slice ra (m + 1) rcap))) := ⟨HB4.out.setCell (p := ⟨w.heap.size + 3, 3, none⟩) (Nat.le_refl _) _⟩
          clear ho4 hg4
          refine mixl_act (i := 9) rfl (by kernel_rfl) (growBC HB4.out) rfl (fun K hK => ?_)
          go_wp2_with fail
          refine mixl_act (i := 10) rfl (by kernel_rfl) (growBC HB4.out) rfl (fun K hK => ?_)
          obtain ⟨y0, y1, y2, y3, y4⟩ := cells5R hbx
          have f4 := freeR hbx 3
          clear hbx
          go_wp2_with fail
          clear y0 y1 y2 y3 y4 f4
          refine mix_done (by kernel_rfl) (growBC HB5.out) ?_
          go_wp2_with fail
          go_meet
          case rel => exact ⟨_, _, by rw [HTK.out]; exact HVN.out⟩
        · go_wp2_with fail
          refine mixl_act (i := 1) rfl (by kernel_rfl) (growBC HBA.out) rfl (fun K hK => ?_)
          obtain ⟨y0, y1, y2, y3, y4⟩ := cells5R HV.out.box
          go_wp2_with fail
          clear y0 y1 y2 y3 y4
          refine mixl_act (i := 8) rfl (by kernel_rfl) (growBC HBA.out) rfl (fun K hK => ?_)
          refine wp_push RS_mono _ _ rfl infoStr Tryd.underlying23 rfl (by decide) _ wd _ m _ _ HV.out.nam rfl #[.string a] [.string a] rfl rfl (by simp [Value.oneCell']) a (HSR.out _) _ rfl rfl (by omega) (by decide) ?_
          intro sv2 w4 ho4 hg4
          refine hK _ _ ?_
          clear hK K
          obtain ⟨ra, rcap, rfl⟩ := ho4.shape
          have HB4 : Hold (Below (w.heap.size + 3) wd w4) := ⟨hg4.below (by have := HV.out.nam.le; omega) (fun g hg => by have := (HV.out.nam.low g hg).1; omega)⟩
          have hbx := hg4.kept HV.out.box (fun g hg e => by have := (HV.out.nam.low g hg).1; omega)
          have HVN := Hold.mk (HV.out.name hg4 ho4)
          have HB5 : Hold (Below (w.heap.size + 3) wd (w4.setCell ⟨w.heap.size + 3, 3, none⟩ (.slice ra (m + 1) rcap))) := ⟨HB4.out.setCell (p := ⟨w.heap.size + 3, 3, none⟩) (Nat.le_refl _) _⟩
          clear ho4 hg4
          refine mixl_act (i := 9) rfl (by kernel_rfl) (growBC HB4.out) rfl (fun K hK => ?_)
          go_wp2_with fail
          refine mixl_act (i := 10) rfl (by kernel_rfl) (growBC HB4.out) rfl (fun K hK => ?_)
          obtain ⟨y0, y1, y2, y3, y4⟩ := cells5R hbx
          have f4 := freeR hbx 3
          clear hbx
          go_wp2_with fail
          clear y0 y1 y2 y3 y4 f4
          refine mix_done (by kernel_rfl) (growBC HB5.out) ?_
          go_wp2_with fail
          go_meet
          case rel => exact ⟨_, _, by rw [HTK.out]; exact HVN.out⟩
      case rest =>
        obtain ⟨sv, cs, hv⟩ := hcut
        generalize wc = wr at *
        replace HV := Hold.mk hv
        obtain ⟨sa, scap, rfl⟩ := hv.nam.shape
        clear hv
        go_upto_region 5 with (fail)
        go_cut [] (fun wx => ∃ tv ds, WV w.heap.size W wx (.slice sa (m + 1) scap) tv (m + 1) (m + 1) (nm.take (m + 1)) (ls.take (m + 1)) cs ds)
        case first =>

          obtain ⟨wd, hwd⟩ : ∃ wd, wd = wr.drew := ⟨_, rfl⟩
          refine wp_region_mixC (GrowBC (w.heap.size + 3) wd) 11 rfl (by kernel_rfl) ?_
          rw [← hwd]
          replace HV : Hold (WV w.heap.size W wd (.slice sa (m + 1) scap) (.slice ta m tcap) (m + 1) m _ _ cs ds) := ⟨by rw [hwd]; exact HV.out.drew⟩
          clear hwd
          have hlt := ltR HV.out.box
          have HBA : Hold (Below (w.heap.size + 3) wd (wd.alloc (.cells #[c0, c1, c2, c3, c4] 26))) := ⟨(Below.refl _ wd).alloc (by omega) _⟩
          obtain ⟨u0, u1, u2, u3, u4⟩ := cells5R (keptB3 HVB.out HV.out.bel (by omega))
          have z3 := GrowB.cell (B := w.heap.size + 3) u4 (by show w.heap.size < w.heap.size + 3; omega)
          clear u0 u1 u2 u3 u4
          obtain ⟨ha0, ha1, ha2, ha3, ha4⟩ := HIC.out
          have zc0 := GrowB.cell (B := w.heap.size + 3) (cell_bel HV.out.bel HW3.out hbC ha0) (by show g2 < w.heap.size + 3; omega)
          have zc1 := GrowB.cell (B := w.heap.size + 3) (cell_bel HV.out.bel HW3.out hbC ha1) (by show g2 < w.heap.size + 3; omega)
          have zc2 := GrowB.cell (B := w.heap.size + 3) (cell_bel HV.out.bel HW3.out hbC ha2) (by show g2 < w.heap.size + 3; omega)
          have zc3 := GrowB.cell (B := w.heap.size + 3) (cell_bel HV.out.bel HW3.out hbC ha3) (by show g2 < w.heap.size + 3; omega)
          have zc4 := GrowB.cell (B := w.heap.size + 3) (cell_bel HV.out.bel HW3.out hbC ha4) (by show g2 < w.heap.size + 3; omega)
          clear ha0 ha1 ha2 ha3 ha4
          refine mixl_seg (by kernel_rfl) (fun _ _ d _ _ h => by cases d <;> exact h) [0, 2, 3, 4, 5, 6] [_, _, _, _, _, _] 5 11 rfl _ _ _ rfl (by kernel_rfl) (growBC (Below.refl _ _)) ?_
          repeat (go_big_quiet_step (fail))
          refine wpQuiet_nil ?_
          clear z3 zc0 zc1 zc2 zc3 zc4
          refine mixl_two (i := 1) (j := 7) rfl rfl (by kernel_rfl) (growBC (Below.refl _ _)) rfl rfl (fun K hK => ?_) (fun K hK => ?_)
          · obtain ⟨y0, y1, y2, y3, y4⟩ := cells5R HV.out.box
            go_wp2_with fail
            clear y0 y1 y2 y3 y4
            refine mixl_act (i := 7) rfl (by kernel_rfl) (growBC (Below.refl _ _)) rfl (fun K hK => ?_)
            go_wp2_with fail
            refine mixl_act (i := 8) rfl (by kernel_rfl) (growBC HBA.out) rfl (fun K hK => ?_)
            refine wp_push Raw5_mono _ _ rfl infoVal Tryd.underlying24 rfl (by decide) _ wd _ m _ _ HV.out.itm rfl #[c0, c1, c2, c3, c4] [c0, c1, c2, c3, c4] rfl rfl HON.out [c0, c1, c2, c3, c4] (HSI.out _) _ rfl rfl (by omega) (by decide) ?_
            intro sv2 w4 ho4 hg4
            refine hK _ _ ?_
            clear hK K
            obtain ⟨ra, rcap, rfl⟩ := ho4.shape
            have HB4 : Hold (Below (w.heap.size + 3) wd w4) := ⟨hg4.below (by have := HV.out.itm.le; omega) (fun g hg => by have := (HV.out.itm.low g hg).1; omega)⟩
            have hbx := hg4.kept HV.out.box (fun g hg e => by have := (HV.out.itm.low g hg).1; omega)
            have HVN := Hold.mk (HV.out.item hg4 ho4)
            have HB5 : Hold (Below (w.heap.size + 3) wd (w4.setCell ⟨w.heap.size + 3, 4, none⟩ (.slice ra (m + 1) rcap))) := ⟨HB4.out.setCell (p := ⟨w.heap.size + 3, 4, none⟩) (Nat.le_refl _) _⟩
            clear ho4 hg4
            refine mixl_act (i := 9) rfl (by kernel_rfl) (growBC HB4.out) rfl (fun K hK => ?_)
            go_wp2_with fail
            refine mixl_act (i := 10) rfl (by kernel_rfl) (growBC HB4.out) rfl (fun K hK => ?_)
            obtain ⟨y0, y1, y2, y3, y4⟩ := cells5R hbx
            have f4 := freeR hbx 4
            clear hbx
            go_wp2_with fail
            clear y0 y1 y2 y3 y4 f4
            refine mix_done (by kernel_rfl) (growBC HB5.out) ?_
            go_wp2_with fail
            go_meet
            case rel => exact ⟨_, _, by rw [HTL.out]; exact HVN.out⟩
          · go_wp2_with fail
            refine mixl_act (i := 1) rfl (by kernel_rfl) (growBC HBA.out) rfl (fun K hK => ?_)
            obtain ⟨y0, y1, y2, y3, y4⟩ := cells5R HV.out.box
            go_wp2_with fail
            clear y0 y1 y2 y3 y4
            refine mixl_act (i := 8) rfl (by kernel_rfl) (growBC HBA.out) rfl (fun K hK => ?_)
            refine wp_push Raw5_mono _ _ rfl infoVal Tryd.underlying24 rfl (by decide) _ wd _ m _ _ HV.out.itm rfl #[c0, c1, c2, c3, c4] [c0, c1, c2, c3, c4] rfl rfl HON.out [c0, c1, c2, c3, c4] (HSI.out _) _ rfl rfl (by omega) (by decide) ?_
            intro sv2 w4 ho4 hg4
            refine hK _ _ ?_
            clear hK K
            obtain ⟨ra, rcap, rfl⟩ := ho4.shape
            have HB4 : Hold (Below (w.heap.size + 3) wd w4) := ⟨hg4.below (by have := HV.out.itm.le; omega) (fun g hg => by have := (HV.out.itm.low g hg).1; omega)⟩
            have hbx := hg4.kept HV.out.box (fun g hg e => by have := (HV.out.itm.low g hg).1; omega)
            have HVN := Hold.mk (HV.out.item hg4 ho4)
            have HB5 : Hold (Below (w.heap.size + 3) wd (w4.setCell ⟨w.heap.size + 3, 4, none⟩ (.slice ra (m + 1) rcap))) := ⟨HB4.out.setCell (p := ⟨w.heap.size + 3, 4, none⟩) (Nat.le_refl _) _⟩
            clear ho4 hg4
            refine mixl_act (i := 9) rfl (by kernel_rfl) (growBC HB4.out) rfl (fun K hK => ?_)
            go_wp2_with fail
            refine mixl_act (i := 10) rfl (by kernel_rfl) (growBC HB4.out) rfl (fun K hK => ?_)
            obtain ⟨y0, y1, y2, y3, y4⟩ := cells5R hbx
            have f4 := freeR hbx 4
            clear hbx
            go_wp2_with fail
            clear y0 y1 y2 y3 y4 f4
            refine mix_done (by kernel_rfl) (growBC HB5.out) ?_
            go_wp2_with fail
            go_meet
            case rel => exact ⟨_, _, by rw [HTL.out]; exact HVN.out⟩
        case rest =>
          obtain ⟨tv, ds, hv⟩ := hcut
          generalize wc = wr at *
          have HVN := Hold.mk hv
          clear hv HV
          have hm1 : m + 1 ≤ nm.length := by omega
          go_wp2_with fail
          exact ⟨⟨m + 1, _, _, _, _, by go_num, hm1, HA2.out, HVN.out⟩, by simp [intOf]; omega⟩
    · have HPL : Hold (placeN nm name = m) := ⟨place_at HALL.out hm hno⟩
      obtain ⟨no6, hno6⟩ : ∃ no6, no6 = (no || decide (nm[m]? = some name)) := ⟨_, rfl⟩
      have HNO := Hold.mk hno6
      have HRR : Hold (RC b s j no wr) := ⟨by rw [HV.out.bel.block b (by omega)]; exact HRW.out.box, HRW.out.le⟩
      -- the three ways out
      have hways : (¬ (m : Int) < (nm.length : Int) ∧ ∃ W6 w6, W6 = W ∧ w6 = wr ∧ RC b s j no6 W6 ∧ WV w.heap.size W6 w6 (.slice sa m scap) (.slice ta m tcap) m m (nm.take m) (ls.take m) cs ds ∧ But b w W6) ∨
          (∃ a g off, na = some ⟨g, off, none⟩ ∧ m < nm.length ∧ Op.bytesLess a.toList name.toList = false ∧ wr.cell? ⟨g, off + m, none⟩ = some (.string a) ∧ (a.toList == name.toList) = false ∧ ∃ W6 w6, W6 = W ∧ w6 = wr ∧ RC b s j no6 W6 ∧ WV w.heap.size W6 w6 (.slice sa m scap) (.slice ta m tcap) m m (nm.take m) (ls.take m) cs ds ∧ But b w W6) ∨
          (∃ g off, na = some ⟨g, off, none⟩ ∧ m < nm.length ∧ Op.bytesLess name.toList name.toList = false ∧ wr.cell? ⟨g, off + m, none⟩ = some (.string name) ∧ ∃ W6 w6, W6 = W.setCell ⟨b, 2, none⟩ (.bool true) ∧ w6 = wr.setCell ⟨b, 2, none⟩ (.bool true) ∧ RC b s j no6 W6 ∧ WV w.heap.size W6 w6 (.slice sa m scap) (.slice ta m tcap) m m (nm.take m) (ls.take m) cs ds ∧ But b w W6) := by
        have hrw := HRR.out
        cases e : nm[m]? with
        | none =>
          rw [e] at hno6
          obtain rfl : no6 = no := by rw [hno6]; simp
          exact .inl ⟨by have := List.getElem?_eq_none_iff.1 e; omega, W, wr, rfl, rfl, HRW.out, HV.out, HW3.out⟩
        | some a =>
          have hlt := (List.getElem?_eq_some_iff.1 e).1
          obtain ⟨g, off, d, hna, _, hc, rfl, hasz⟩ := HNE.out m a e
          have hac := hc 0 _ rfl
          simp only [Nat.mul_one, Nat.add_zero] at hac
          have z0 := cell_bel HV.out.bel HW3.out hbC hac
          by_cases hes : a = name
          · subst hes
            rw [e] at hno6
            obtain rfl : no6 = true := by rw [hno6]; simp
            exact .inr (.inr ⟨g, off, hna, hlt, hno _ e, z0, _, _, rfl, rfl, HRW.out.not, HV.out.setb hbw HRW.out hrw _, HW3.out.trans (But.set _ _ _)⟩)
          · rw [e] at hno6
            obtain rfl : no6 = no := by rw [hno6]; simp [hes]
            exact .inr (.inl ⟨a, g, off, hna, hlt, hno _ e, z0, str_ne hes, W, wr, rfl, rfl, HRW.out, HV.out, HW3.out⟩)
      have HSN : Hold (∀ c : CF, RS c name [.string name]) := ⟨fun _ => ⟨rfl, hname⟩⟩
      have HSX : Hold (∀ c : CF, Raw5 c [.int .i64 xk, .int .i64 xn, .string xt, .slice xna xnl xnc, .slice xia xil xic] [.int .i64 xk, .int .i64 xn, .string xt, .slice xna xnl xnc, .slice xia xil xic]) := ⟨fun _ => ⟨rfl, rfl, by simp [Value.oneCell']⟩⟩
      obtain ⟨a', hsl, hslA⟩ := slice_tail (n := 1) Tryd.underlying23 (by kernel_rfl) infoStr na nm.length ncap m hm hncap hncap2
      obtain ⟨a'', htl, htlA⟩ := slice_tail (n := 5) Tryd.underlying24 (by kernel_rfl) infoVal ia ls.length icap m (by have := HL.out; omega) hicap hicap2
      obtain ⟨dn, hdn⟩ : ∃ dn, dn = nm.drop m := ⟨_, rfl⟩
      obtain ⟨dm, hdm⟩ : ∃ dm, dm = ls.drop m := ⟨_, rfl⟩
      have HDN := Hold.mk hdn
      have HDM := Hold.mk hdm
      have hdnl : dn.length ≤ 1000000 := by rw [hdn, List.length_drop]; omega
      have hdml : dm.length ≤ 1000000 := by have := HL.out; rw [hdm, List.length_drop]; omega
      have HYS : Hold (∀ (W6 wd : World) (sl : Value), But b w W6 → Below (w.heap.size + 3) W6 wd → (∀ g, sl.ownBlock = some g → w.heap.size + 4 ≤ g ∧ g < wd.heap.size) → SAt 1 RS (cfN sl wd) (.slice a' (nm.length - m) (ncap - m)) dn) := ⟨fun W6 wd sl h6 hb hs => by rw [HDN.out]; exact hslA rfl (HNV.out.mono RS_mono (cle_belN hb h6 hbC hs))⟩
      have HZS : Hold (∀ (W6 wd : World) (sl : Value), But b w W6 → Below (w.heap.size + 3) W6 wd → (∀ g, sl.ownBlock = some g → w.heap.size + 4 ≤ g ∧ g < wd.heap.size) → SAt 5 Raw5 (cfN sl wd) (.slice a'' (ls.length - m) (icap - m)) dm) := ⟨fun W6 wd sl h6 hb hs => by rw [HDM.out]; exact htlA rfl (HIV.out.mono Raw5_mono (cle_belN hb h6 hbC hs))⟩
      clear hslA htlA hno6 hno HV HRW hdn hdm
      rcases hways with ⟨hml, W6, w6, hW6, hw6, hr6, hv6, hb6⟩ | ⟨a, g, off, rfl, hml, hb1, z0, he, W6, w6, hW6, hw6, hr6, hv6, hb6⟩ | ⟨g, off, rfl, hml, hb1, z0, W6, w6, hW6, hw6, hr6, hv6, hb6⟩
      all_goals
        have HVB6 : Hold (W6.heap[w.heap.size]? = some (.cells #[.int .i64 6, .int .i64 0, .string ⟨#[]⟩, .slice _ nm.length ncap, .slice ia ls.length icap] 26 (0, 0))) := ⟨by
          rw [hW6]
          first
            | exact HVB.out
            | exact But.keep (But.set (b := b) _ _ _) HVB.out (by omega)⟩
        have HXB6 : Hold (W6.heap[w.heap.size + 1]? = some (.cells #[.int .i64 xk, .int .i64 xn, .string xt, .slice xna xnl xnc, .slice xia xil xic] 26 (0, 0))) := ⟨by
          rw [hW6]
          first
            | exact HXB.out
            | exact But.keep (But.set (b := b) _ _ _) HXB.out (by omega)⟩
        have HRB6 : Hold (W6.heap[w.heap.size + 2]? = some (.cells zero5R 26 (0, 0))) := ⟨by
          rw [hW6]
          first
            | exact HRB.out
            | exact But.keep (But.set (b := b) _ _ _) HRB.out (by omega)⟩
        have HR6 := Hold.mk hr6
        have HV6 := Hold.mk hv6
        have HB6 := Hold.mk hb6
        have HW6 := Hold.mk hw6
        have x2 := HRR.out.c2
        have f2 := HRR.out.fz 2
        clear hW6 hr6 hv6 hb6 hw6
        go_upto_region 9 with (fail)
        rw [← HW6.out]
        clear u0 u1 u2 u3 u4 x2 f2 HW6 HRR
        obtain ⟨y0, y1, y2, y3, y4⟩ := cells5R HV6.out.box
        have hlt := ltR HV6.out.box
        go_wp2_with (at_builtin; refine push_new RS_mono rfl _ _ rfl infoStr Tryd.underlying23 rfl (by decide) _ _ _ m _ _ HV6.out.nam rfl _ [_] rfl rfl (by simp [Value.oneCell']) name (HSN.out _) _ rfl rfl (by omega) (by decide) ?_)
        intro sv7 w7 ho7 hg7
        clear y0 y1 y2 y3 y4 hlt
        obtain ⟨qa, qcap, rfl⟩ := ho7.shape
        have hbx := hg7.kept HV6.out.box (fun g hg e => by have := (HV6.out.nam.low g hg).1; omega)
        have HV7 := Hold.mk (HV6.out.name hg7 ho7)
        obtain ⟨w8, hw8⟩ : ∃ w8, w8 = w7.setCell ⟨w.heap.size + 3, 3, none⟩ (.slice qa (m + 1) qcap) := ⟨_, rfl⟩
        rw [← hw8] at HV7
        obtain ⟨y0, y1, y2, y3, y4⟩ := cells5R hbx
        have f3 := freeR hbx 3
        clear ho7 hg7 hbx HV6
        go_upto_region 10 with (fail)
        rw [← hw8]
        clear y0 y1 y2 y3 y4 f3 hw8
        obtain ⟨y0, y1, y2, y3, y4⟩ := cells5R HV7.out.box
        obtain ⟨t0, t1, t2, t3, t4⟩ := cells5R (keptB3 HXB6.out HV7.out.bel (by omega))
        have hlt := ltR HV7.out.box
        go_wp2_with (at_builtin; refine push_new Raw5_mono rfl _ _ rfl infoVal Tryd.underlying24 rfl (by decide) _ _ _ m _ _ HV7.out.itm rfl _ [_, _, _, _, _] rfl rfl (by simp [Value.oneCell']) [.int .i64 xk, .int .i64 xn, .string xt, .slice xna xnl xnc, .slice xia xil xic] (HSX.out _) _ rfl rfl (by omega) (by decide) ?_)
        intro sv9 w9 ho9 hg9
        clear y0 y1 y2 y3 y4 t0 t1 t2 t3 t4 hlt
        obtain ⟨pa, pcap, rfl⟩ := ho9.shape
        have hbx := hg9.kept HV7.out.box (fun g hg e => by have := (HV7.out.itm.low g hg).1; omega)
        have HV := Hold.mk (HV7.out.item hg9 ho9)
        obtain ⟨w10, hw10⟩ : ∃ w10, w10 = w9.setCell ⟨w.heap.size + 3, 4, none⟩ (.slice pa (m + 1) pcap) := ⟨_, rfl⟩
        rw [← hw10] at HV
        obtain ⟨y0, y1, y2, y3, y4⟩ := cells5R hbx
        have f4 := freeR hbx 4
        clear ho9 hg9 hbx HV7
        go_upto_region 11 with (fail)
        rw [← hw10]
        clear y0 y1 y2 y3 y4 f4 hw10

        obtain ⟨wd, hwd⟩ : ∃ wd, wd = w10.drew := ⟨_, rfl⟩
        refine wp_region_mixC (GrowBC (w.heap.size + 3) wd) 9 rfl (by kernel_rfl) ?_
        rw [← hwd]
        replace HV := Hold.mk HV.out.drew
        rw [← hwd] at HV
        clear hwd
        have hlt := ltR HV.out.box
        obtain ⟨u0, u1, u2, u3, u4⟩ := cells5R (keptB3 HVB6.out HV.out.bel (by omega))
        have z3 := GrowB.cell (B := w.heap.size + 3) u3 (by show w.heap.size < w.heap.size + 3; omega)
        clear u0 u1 u2 u3 u4
        refine mixl_seg (by kernel_rfl) (fun _ _ d _ _ h => by cases d <;> exact h) [0, 2, 3, 4, 5] [_, _, _, _, _] 4 9 rfl _ _ _ rfl (by kernel_rfl) (growBC (Below.refl _ _)) ?_
        repeat (go_big_quiet_step (fail))
        refine wpQuiet_nil ?_
        clear z3
        refine mixl_act (i := 1) rfl (by kernel_rfl) (growBC (Below.refl _ _)) rfl (fun K hK => ?_)
        obtain ⟨y0, y1, y2, y3, y4⟩ := cells5R HV.out.box
        go_wp2_with fail
        clear y0 y1 y2 y3 y4
        refine mixl_act (i := 6) rfl (by kernel_rfl) (growBC (Below.refl _ _)) rfl (fun K hK => ?_)
        have hys := HYS.out W6 wd _ HB6.out HV.out.bel HV.out.nam.low
        refine wp_push_src RS_mono RS_one _ _ rfl infoStr Tryd.underlying23 rfl (by decide) _ wd _ _ _ _ HV.out.nam rfl _ _ hys rfl (by omega) (by decide) ?_
        intro sv2 w4 cs2 ho4 hg4
        refine hK _ _ ?_
        clear hK K hys
        have HB4 : Hold (Below (w.heap.size + 3) wd w4) := ⟨hg4.below (by have := HV.out.nam.le; omega) (fun g hg => by have := (HV.out.nam.low g hg).1; omega)⟩
        have hbx := hg4.kept HV.out.box (fun g hg e => by have := (HV.out.nam.low g hg).1; omega)
        have HVN := Hold.mk (HV.out.name hg4 ho4)
        obtain ⟨ra, rcap, hra⟩ := ho4.shape
        have HB5 : Hold (Below (w.heap.size + 3) wd (w4.setCell ⟨w.heap.size + 3, 3, none⟩ sv2)) := ⟨HB4.out.setCell (p := ⟨w.heap.size + 3, 3, none⟩) (Nat.le_refl _) _⟩
        clear ho4 hg4
        refine mixl_act (i := 7) rfl (by kernel_rfl) (growBC HB4.out) rfl (fun K hK => ?_)
        go_wp2_with fail
        refine mixl_act (i := 8) rfl (by kernel_rfl) (growBC HB4.out) rfl (fun K hK => ?_)
        subst hra
        obtain ⟨y0, y1, y2, y3, y4⟩ := cells5R hbx
        have f4 := freeR hbx 3
        clear hbx
        go_wp2_with fail
        clear y0 y1 y2 y3 y4 f4
        refine mix_done (by kernel_rfl) (growBC HB5.out) ?_
        clear HB4 HB5 hlt HV
        go_upto_region 12 with (fail)
        obtain ⟨w11, hw11⟩ : ∃ w11, w11 = w4.setCell ⟨w.heap.size + 3, 3, none⟩ (.slice ra (m + 1 + dn.length) rcap) := ⟨_, rfl⟩
        have HV := HVN
        rw [← hw11] at HV ⊢
        clear hw11 HVN
        obtain ⟨wd, hwd⟩ : ∃ wd, wd = w11.drew := ⟨_, rfl⟩
        refine wp_region_mixC (GrowBC (w.heap.size + 3) wd) 9 rfl (by kernel_rfl) ?_
        rw [← hwd]
        replace HV := Hold.mk HV.out.drew
        rw [← hwd] at HV
        clear hwd
        have hlt := ltR HV.out.box
        obtain ⟨u0, u1, u2, u3, u4⟩ := cells5R (keptB3 HVB6.out HV.out.bel (by omega))
        have z3 := GrowB.cell (B := w.heap.size + 3) u4 (by show w.heap.size < w.heap.size + 3; omega)
        clear u0 u1 u2 u3 u4
        refine mixl_seg (by kernel_rfl) (fun _ _ d _ _ h => by cases d <;> exact h) [0, 2, 3, 4, 5] [_, _, _, _, _] 4 9 rfl _ _ _ rfl (by kernel_rfl) (growBC (Below.refl _ _)) ?_
        repeat (go_big_quiet_step (fail))
        refine wpQuiet_nil ?_
        clear z3
        refine mixl_act (i := 1) rfl (by kernel_rfl) (growBC (Below.refl _ _)) rfl (fun K hK => ?_)
        obtain ⟨y0, y1, y2, y3, y4⟩ := cells5R HV.out.box
        go_wp2_with fail
        clear y0 y1 y2 y3 y4
        refine mixl_act (i := 6) rfl (by kernel_rfl) (growBC (Below.refl _ _)) rfl (fun K hK => ?_)
        have hys := HZS.out W6 wd _ HB6.out HV.out.bel HV.out.itm.low
        refine wp_push_src Raw5_mono Raw5_one _ _ rfl infoVal Tryd.underlying24 rfl (by decide) _ wd _ _ _ _ HV.out.itm rfl _ _ hys rfl (by omega) (by decide) ?_
        intro sv2 w4 cs2 ho4 hg4
        refine hK _ _ ?_
        clear hK K hys
        have HB4 : Hold (Below (w.heap.size + 3) wd w4) := ⟨hg4.below (by have := HV.out.itm.le; omega) (fun g hg => by have := (HV.out.itm.low g hg).1; omega)⟩
        have hbx := hg4.kept HV.out.box (fun g hg e => by have := (HV.out.itm.low g hg).1; omega)
        have HVN := Hold.mk (HV.out.item hg4 ho4)
        obtain ⟨ra, rcap, hra⟩ := ho4.shape
        have HB5 : Hold (Below (w.heap.size + 3) wd (w4.setCell ⟨w.heap.size + 3, 4, none⟩ sv2)) := ⟨HB4.out.setCell (p := ⟨w.heap.size + 3, 4, none⟩) (Nat.le_refl _) _⟩
        clear ho4 hg4
        refine mixl_act (i := 7) rfl (by kernel_rfl) (growBC HB4.out) rfl (fun K hK => ?_)
        go_wp2_with fail
        refine mixl_act (i := 8) rfl (by kernel_rfl) (growBC HB4.out) rfl (fun K hK => ?_)
        subst hra
        obtain ⟨y0, y1, y2, y3, y4⟩ := cells5R hbx
        have f4 := freeR hbx 4
        clear hbx
        go_wp2_with fail
        clear y0 y1 y2 y3 y4 f4
        refine mix_done (by kernel_rfl) (growBC HB5.out) ?_
        clear HB4 HB5 hlt HV
        go_upto_region 13 with (fail)
        obtain ⟨w12, hw12⟩ : ∃ w12, w12 = w4.setCell ⟨w.heap.size + 3, 4, none⟩ (.slice ra (m + 1 + dm.length) rcap) := ⟨_, rfl⟩
        rw [← hw12] at HVN ⊢
        clear hw12
        have HP := Hold.mk (with_post HVN.out HB6.out hbC hC HRB6.out HR6.out HPL.out HNO.out HDN.out HDM.out)
        have hv8 := HVN.out.box
        have hv9 := keptB3 HRB6.out HVN.out.bel (by omega)
        clear HVN HYS HZS
        obtain ⟨y0, y1, y2, y3, y4⟩ := cells5R hv8
        obtain ⟨v0, v1, v2, v3, v4⟩ := cells5R hv9
        have g0 := freeR hv9 0
        have g1 := freeR hv9 1
        have g2 := freeR hv9 2
        have g3 := freeR hv9 3
        have g4 := freeR hv9 4
        clear hv8 hv9
        go_wp2_with fail
        clear y0 y1 y2 y3 y4 v0 v1 v2 v3 v4 g0 g1 g2 g3 g4
        obtain ⟨W2, hW2, hv3, hp⟩ := HP.out
        unfold set5R at hW2
        rw [← hW2]
        clear hW2
        obtain ⟨v0, v1, v2, v3, v4⟩ := cells5R hv3
        exact bodyPost_ret (v := .agg #[.int .i64 6, .int .i64 0, .string ⟨#[]⟩, _, _]) (by simp [results, Tryd.results56, go_sem, v0, v1, v2, v3, v4]) rfl hp


end Go.Proofs.YtdhilnnohokoeaaDoor
