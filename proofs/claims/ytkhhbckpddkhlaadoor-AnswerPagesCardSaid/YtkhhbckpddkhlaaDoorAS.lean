/- Answers: put of the reference: its loop, plainly; the object under way, with two rows of the call's own. -/
import Derived.Test.YtkhhbckpddkhlaaDoorAE
import Derived.Test.YtkhhbckpddkhlaaDoorAJ
namespace Go.Proofs.YtkhhbckpddkhlaaDoor
open Go.Shelf Go.RowKit

/-- one place further, where the name is new -/
def eS (nm : List ByteArray) (s : ByteArray) : Nat := if hasN nm s = true then 0 else 1
/-- what is laid when j names are looked at -/
def PInv (nm : List ByteArray) (it : List JV) (s : ByteArray) (r : Option JV) (j : Nat) : Bool → List ByteArray → List JV → Prop
  | false, oN, oI => j ≤ placeN nm s ∧ oN = nm.take j ∧ oI = it.take j
  | true, oN, oI => ∃ y, r = some y ∧ placeN nm s < j ∧ oN = (setN nm s).take (j + eS nm s) ∧ oI = (setI nm it s y).take (j + eS nm s)
/-- and what is still to be laid of the next -/
def PMid (nm : List ByteArray) (it : List JV) (s : ByteArray) (r : Option JV) (j : Nat) (n : ByteArray) (x : JV) (b : Bool) (oN : List ByteArray) (oI : List JV) : Prop :=
  (n = s → PInv nm it s r (j + 1) b oN oI) ∧ (n ≠ s → PInv nm it s r (j + 1) b (oN ++ [n]) (oI ++ [x]))
theorem setN_length (nm : List ByteArray) (s : ByteArray) : (setN nm s).length = nm.length + eS nm s := by
  unfold setN eS
  cases hasN nm s with
  | true => rfl
  | false => simp only; rw [insA_len _ _ _ (placeN_le nm s)]; rfl
theorem setI_length {nm : List ByteArray} {it : List JV} (hl : nm.length = it.length) (s : ByteArray) (y : JV) : (setI nm it s y).length = it.length + eS nm s := by
  unfold setI eS
  cases hasN nm s with
  | true => simp
  | false => simp only; rw [insA_len _ _ _ (by rw [← hl]; exact placeN_le nm s)]; rfl
theorem pinv_len {nm : List ByteArray} {it : List JV} {s : ByteArray} {r : Option JV} {j : Nat} {b : Bool} {oN : List ByteArray} {oI : List JV} (hl : nm.length = it.length) (h : PInv nm it s r j b oN oI) : oN.length ≤ j + 1 ∧ oI.length ≤ j + 1 := by
  cases b with
  | false =>
    obtain ⟨_, rfl, rfl⟩ := h
    rw [List.length_take, List.length_take]; omega
  | true =>
    obtain ⟨y, _, _, rfl, rfl⟩ := h
    have : eS nm s ≤ 1 := by unfold eS; split <;> omega
    rw [List.length_take, List.length_take]; omega
theorem take_twoS {α : Type} {p q : List α} {a b : α} {j : Nat} (h : p.length = j) : (p ++ a :: b :: q).take (j + 1 + 1) = p ++ [a] ++ [b] := by
  subst h
  rw [List.take_append, List.take_of_length_le (by omega), show p.length + 1 + 1 - p.length = 2 by omega]
  simp
theorem pmid_low {nm : List ByteArray} {it : List JV} {s n : ByteArray} {x : JV} {r : Option JV} {j : Nat} {oN : List ByteArray} {oI : List JV} (hu : upN nm) (h : PInv nm it s r j false oN oI) (hn : nm[j]? = some n) (hx : it[j]? = some x) (hlt : strLt n s = true) : PMid nm it s r j n x false oN oI := by
  obtain ⟨h1, rfl, rfl⟩ := h
  refine ⟨fun e => ?_, fun _ => ⟨?_, (take_nextW hn).symm, (take_nextW hx).symm⟩⟩
  · rw [e, strLt_irrefl] at hlt; cases hlt
  · rcases Nat.lt_or_ge j (placeN nm s) with h2 | h2
    · exact h2
    · rw [placeN_ge hu h2 hn] at hlt; cases hlt
theorem pmid_at {nm : List ByteArray} {it : List JV} {s n : ByteArray} {x y : JV} {r : Option JV} {j : Nat} {oN : List ByteArray} {oI : List JV} (hu : upN nm) (hl : nm.length = it.length) (h : PInv nm it s r j false oN oI) (hn : nm[j]? = some n) (hx : it[j]? = some x) (hlt : strLt n s = false) (hr : r = some y) : PMid nm it s r j n x true (oN ++ [s]) (oI ++ [y]) := by
  obtain ⟨h1, rfl, rfl⟩ := h
  have hj : placeN nm s = j := by
    rcases Nat.lt_or_ge j (placeN nm s) with h2 | h2
    · rw [placeN_lt h2 hn] at hlt; cases hlt
    · omega
  have hjn := (List.getElem?_eq_some_iff.1 hn).1
  have hmem : n = s ↔ hasN nm s = true := by
    rw [hasN_iff, placeN_mem hu, hj, hn]; simp
  refine ⟨fun e => ?_, fun e => ?_⟩
  · have hh := hmem.1 e
    refine ⟨y, hr, by omega, ?_, ?_⟩
    · unfold setN eS; rw [hh]; simp only [if_true]; rw [Nat.add_zero, take_nextW hn, e]
    · unfold setI eS; rw [hh, hj]; simp only [if_true]; rw [Nat.add_zero, take_nextW (List.getElem?_set_self (by omega)), List.take_set_of_le (Nat.le_refl _)]
  · have hh : hasN nm s = false := by
      cases hh : hasN nm s with
      | true => exact absurd (hmem.2 hh) e
      | false => rfl
    refine ⟨y, hr, by omega, ?_, ?_⟩
    · unfold setN eS insA; rw [hh, hj]; simp only [Bool.false_eq_true, if_false]
      have hd := List.drop_eq_getElem_cons hjn
      have hg : nm[j] = n := by have := (List.getElem?_eq_some_iff.1 hn).2; exact this
      rw [hd, hg, take_twoS (by rw [List.length_take]; omega)]
    · unfold setI eS insA; rw [hh, hj]; simp only [Bool.false_eq_true, if_false]
      have hd := List.drop_eq_getElem_cons (show j < it.length by omega)
      have hg : it[j] = x := by have := (List.getElem?_eq_some_iff.1 hx).2; exact this
      rw [hd, hg, take_twoS (by rw [List.length_take]; omega)]
theorem pmid_high {nm : List ByteArray} {it : List JV} {s n : ByteArray} {x : JV} {r : Option JV} {j : Nat} {oN : List ByteArray} {oI : List JV} (hu : upN nm) (hl : nm.length = it.length) (h : PInv nm it s r j true oN oI) (hn : nm[j]? = some n) (hx : it[j]? = some x) : PMid nm it s r j n x true oN oI ∧ strLt n s = false := by
  obtain ⟨y, hr, h1, rfl, rfl⟩ := h
  have hge := placeN_ge hu (Nat.le_of_lt h1) hn
  refine ⟨⟨fun e => ?_, fun _ => ⟨y, hr, by omega, ?_, ?_⟩⟩, hge⟩
  · exfalso
    have hp := placeN_mem hu s |>.1 (e ▸ List.mem_of_getElem? hn)
    obtain ⟨p1, p2⟩ := List.getElem?_eq_some_iff.1 hp
    obtain ⟨q1, q2⟩ := List.getElem?_eq_some_iff.1 hn
    have h3 := (List.pairwise_iff_getElem.1 hu) (placeN nm s) j p1 q1 h1
    rw [p2, q2, e, strLt_irrefl] at h3; cases h3
  · have hs := (set_gt (y := y) (s := s) hl (Nat.le_of_lt h1)).1
    rw [hn] at hs
    have he : (if hasN nm s = true then j else j + 1) = j + eS nm s := by unfold eS; split <;> rfl
    rw [he] at hs
    rw [show j + 1 + eS nm s = j + eS nm s + 1 by omega, take_nextW hs]
  · have hs := (set_gt (y := y) (s := s) hl (Nat.le_of_lt h1)).2
    have he : (setI nm it s y)[j + eS nm s]? = some x := by
      unfold eS
      cases hh : hasN nm s with
      | true => simp only [if_true]; rw [Nat.add_zero, hs.1 hh (by omega)]; exact hx
      | false => simp only [Bool.false_eq_true, if_false]; rw [hs.2 hh]; exact hx
    rw [show j + 1 + eS nm s = j + eS nm s + 1 by omega, take_nextW he]
theorem pmid_len {nm : List ByteArray} {it : List JV} {s n : ByteArray} {x : JV} {r : Option JV} {j : Nat} {b : Bool} {oN : List ByteArray} {oI : List JV} (hl : nm.length = it.length) (h : PMid nm it s r j n x b oN oI) (hj : j < 24) : oN.length ≤ 1000 ∧ oI.length ≤ 1000 := by
  by_cases e : n = s
  · have := pinv_len hl (h.1 e); omega
  · have := pinv_len hl (h.2 e)
    rw [List.length_append, List.length_append] at this
    omega
theorem pend_false {nm : List ByteArray} {it : List JV} {s : ByteArray} {r : Option JV} {oN : List ByteArray} {oI : List JV} (hu : upN nm) (hl : nm.length = it.length) (h : PInv nm it s r nm.length false oN oI) (y : JV) : setN nm s = oN ++ [s] ∧ setI nm it s y = oI ++ [y] ∧ hasN nm s = false := by
  obtain ⟨h1, rfl, rfl⟩ := h
  have hp : placeN nm s = nm.length := by have := placeN_le nm s; omega
  have hh : hasN nm s = false := by
    cases hh : hasN nm s with
    | false => rfl
    | true =>
      have := (placeN_mem hu s).1 ((hasN_iff nm s).1 hh)
      rw [hp] at this
      simp at this
  refine ⟨?_, ?_, hh⟩
  · unfold setN insA; rw [hh, hp]; simp
  · unfold setI insA; rw [hh, hp, hl]; simp
theorem pend_true {nm : List ByteArray} {it : List JV} {s : ByteArray} {r : Option JV} {oN : List ByteArray} {oI : List JV} (hl : nm.length = it.length) (h : PInv nm it s r nm.length true oN oI) : ∃ y, r = some y ∧ oN = setN nm s ∧ oI = setI nm it s y := by
  obtain ⟨y, hr, _, h2, h3⟩ := h
  refine ⟨y, hr, ?_, ?_⟩
  · rw [h2, List.take_of_length_le (by rw [setN_length]; omega)]
  · rw [h3, List.take_of_length_le (by rw [setI_length hl]; omega)]

/-- fixed memory: the old one, and what lies outside of two rows -/
def cfP (c : CF) (B : Nat) (nv iv : Value) (w : World) : CF := fun b o => if b < B then c b o else if nv.ownBlock = some b ∨ iv.ownBlock = some b then none else w.cell? ⟨b, o, none⟩
/-- a value in a fixed memory -/
def RVc (d : CF) : Rep JV := fun _ x v => RV d x v
theorem RVc_mono (d : CF) : Mono (RVc d) := fun _ _ _ _ _ h => h
theorem cfP_next {c : CF} {B : Nat} {nv iv nv' iv' : Value} {w w' : World} (hk : ∀ b o v, B ≤ b → nv.ownBlock ≠ some b → iv.ownBlock ≠ some b → w.cell? ⟨b, o, none⟩ = some v → w'.cell? ⟨b, o, none⟩ = some v)
    (hn : ∀ g, nv'.ownBlock = some g → nv.ownBlock = some g ∨ w.heap.size ≤ g) (hi : ∀ g, iv'.ownBlock = some g → iv.ownBlock = some g ∨ w.heap.size ≤ g) : CLe (cfP c B nv iv w) (cfP c B nv' iv' w') := fun b o v h => by
  unfold cfP at h ⊢
  by_cases hb : b < B
  · rw [if_pos hb] at h ⊢; exact h
  · rw [if_neg hb] at h ⊢
    split at h
    · cases h
    · rename_i hne
      have hlt := lt_of_cell h
      rw [if_neg (fun e => ?_)]
      · exact hk b o v (by omega) (fun e => hne (.inl e)) (fun e => hne (.inr e)) h
      · rcases e with e | e
        · rcases hn b e with h1 | h1
          · exact hne (.inl h1)
          · omega
        · rcases hi b e with h1 | h1
          · exact hne (.inr h1)
          · omega
theorem cfP_old {c : CF} {B B0 : Nat} {nv iv : Value} {w w0 : World} (hc : CLe c (cfU B0 w0)) (hB : B0 ≤ B) : CLe c (cfP c B nv iv w) := fun b o v h => by
  have := (cfU_lt (hc _ _ _ h)).1
  unfold cfP
  rw [if_pos (by omega)]; exact h
/-- the object that the reference lays -/
structure RP (c : CF) (wr : World) (zb : Nat) (nv iv : Value) (oN : List ByteArray) (oI : List JV) (csn csi : List Value) : Prop where
  box : wr.heap[zb]? = some (.cells #[.int .i64 6, .int .i64 0, .string ⟨#[]⟩, nv, iv] 25 (0, 0))
  n : OwnS 1 RS 9 (zb + 1) wr nv oN.length oN csn
  i : OwnS 5 (RVc (cfP c (zb + 1) nv iv wr)) 25 (zb + 1) wr iv oI.length oI csi
  ap : ∀ g, nv.ownBlock = some g → iv.ownBlock ≠ some g
theorem RP.start {c : CF} {w : World} {zb : Nat} (h : w.heap[zb]? = some (.cells #[.int .i64 6, .int .i64 0, .string ⟨#[]⟩, .slice none 0 0, .slice none 0 0] 25 (0, 0))) : RP c w zb (.slice none 0 0) (.slice none 0 0) [] [] [] [] :=
  ⟨h, OwnS.start _ _ _ (heap_lt h), OwnS.start _ _ _ (heap_lt h), fun g hg => by cases hg⟩
theorem OwnS.rv {d d' : CF} {T : TypeId} {B : Nat} {w : World} {sl : Value} {p : Nat} {xs : List JV} {cs : List Value} (h : OwnS 5 (RVc d) T B w sl p xs cs) (hd : CLe d d') : OwnS 5 (RVc d') T B w sl p xs cs :=
  ⟨h.own, h.len, ⟨h.row.1, fun i x hx => by
    obtain ⟨e, h1, h2, h3⟩ := h.row.2 i x hx
    exact ⟨e, h1, h2, RV_mono _ _ _ _ hd h3⟩⟩, h.le⟩
/-- another world, in which the row stands -/
theorem OwnS.other {α : Type} {n : Nat} {R : Rep α} (hS : ∀ c c' x d, R c x d → R c' x d) {T : TypeId} {B : Nat} {w w' : World} {sl : Value} {p : Nat} {xs : List α} {cs : List Value} (h : OwnS n R T B w sl p xs cs) {g : Option Nat} (hg : w.grownBy w' g) (hne : ∀ q, sl.ownBlock = some q → g ≠ some q) : OwnS n R T B w' sl p xs cs :=
  ⟨own_grownA h.own hg hne, h.len, ⟨h.row.1, fun i x hx => by
    obtain ⟨e, h1, h2, h3⟩ := h.row.2 i x hx
    exact ⟨e, h1, h2, hS _ _ _ _ h3⟩⟩, Nat.le_trans h.le hg.size⟩
theorem RS_any : ∀ c c' x d, RS c x d → RS c' x d := fun _ _ _ _ h => h
theorem RVc_any (d : CF) : ∀ c c' x e, RVc d c x e → RVc d c' x e := fun _ _ _ _ h => h
theorem grown_quiet {w w' : World} (h : Below w.heap.size w w') : w.grownBy w' none := ⟨h.os, h.tape, h.output, h.size, fun q hq _ => h.block q hq⟩
theorem RP.quiet {c : CF} {wr w' : World} {zb : Nat} {nv iv : Value} {oN : List ByteArray} {oI : List JV} {csn csi : List Value} (h : RP c wr zb nv iv oN oI csn csi) (hb : Below wr.heap.size wr w') : RP c w' zb nv iv oN oI csn csi :=
  ⟨kept h.box hb, h.n.other RS_any (grown_quiet hb) (fun q _ e => by cases e), (h.i.rv (cfP_next (fun b o v _ _ _ hv => cle_below hb _ _ _ hv) (fun g hg => .inl hg) (fun g hg => .inl hg))).other (RVc_any _) (grown_quiet hb) (fun q _ e => by cases e), h.ap⟩
theorem setBox_grown (w : World) (zb o : Nat) (v : Value) : w.grownBy (w.setCell ⟨zb, o, none⟩ v) (some zb) := ⟨rfl, rfl, rfl, by simp, fun q _ hq => Below.heap_setCell _ _ _ _ (fun e => hq (by rw [e]))⟩
theorem setBox_cell {w : World} {zb o : Nat} {v : Value} {b p : Nat} {u : Value} (hne : b ≠ zb) (h : w.cell? ⟨b, p, none⟩ = some u) : (w.setCell ⟨zb, o, none⟩ v).cell? ⟨b, p, none⟩ = some u := by
  rw [World.cell?_of_block (w := w) (Below.heap_setCell _ _ _ _ hne)]; exact h
theorem RP.pushN {c : CF} {wr w3 w9 : World} {zb : Nat} {nv iv nv2 : Value} {oN oN' : List ByteArray} {oI : List JV} {csn csn' csi : List Value} (h : RP c wr zb nv iv oN oI csn csi) (hq : Below wr.heap.size wr w3) (hl : oN'.length = oN.length + 1) (ho : OwnS 1 RS 9 (zb + 1) w9 nv2 (oN.length + 1) oN' csn') (hg : Grew w3 w9 nv nv2) :
    RP c (w9.setCell ⟨zb, 3, none⟩ nv2) zb nv2 iv oN' oI csn' csi ∧ Below zb wr (w9.setCell ⟨zb, 3, none⟩ nv2) ∧ CLe (cfP c (zb + 1) nv iv w3) (cfP c (zb + 1) nv2 iv (w9.setCell ⟨zb, 3, none⟩ nv2)) := by
  have h3 := h.quiet hq
  have hn3 := h3.n.low
  have hi3 := h3.i.low
  have hz3 := heap_lt h3.box
  have hs9 := hg.by_.size
  have hzn : nv.ownBlock ≠ some zb := fun e => by have := (hn3 zb e).1; omega
  have hb9 : w9.heap[zb]? = some (.cells #[.int .i64 6, .int .i64 0, .string ⟨#[]⟩, nv, iv] 25 (0, 0)) := by rw [hg.by_.block zb hz3 (fun e => hzn e.symm)]; exact h3.box
  have hgs := setBox_grown w9 zb 3 nv2
  have ho2 := ho.low
  have hcl : CLe (cfP c (zb + 1) nv iv w3) (cfP c (zb + 1) nv2 iv (w9.setCell ⟨zb, 3, none⟩ nv2)) := cfP_next (fun b o v hb hb1 _ hv => setBox_cell (by omega) (hg.by_.cell hv (fun e => hb1 e.symm))) (fun g hg2 => hg.own g hg2) (fun g hg2 => .inl hg2)
  refine ⟨⟨?_, ?_, ?_, fun g hg2 e => ?_⟩, ?_, hcl⟩
  · have := set_self (o := 3) (c := nv2) hb9
    simpa using this
  · rw [hl]; exact ho.other RS_any hgs (fun q hq2 e => by have := (ho2 q hq2).1; have := Option.some.inj e; omega)
  · refine ((h3.i.rv hcl).other (RVc_any _) hg.by_ (fun q hq2 e => h3.ap q e hq2)).other (RVc_any _) hgs (fun q hq2 e => ?_)
    have := (hi3 q hq2).1
    have := Option.some.inj e
    omega
  · rcases hg.own g hg2 with h1 | h1
    · exact h3.ap g h1 e
    · have := (hi3 g e).2; omega
  · have hz := heap_lt h.box
    have h1 : Below zb wr w3 := hq.mono (Nat.le_of_lt hz)
    have h2 : Below zb wr w9 := h1.grown hg.by_ (Nat.le_of_lt hz3) (fun q hq2 => by have := (hn3 q hq2).1; omega)
    exact h2.setCell (p := ⟨zb, 3, none⟩) (Nat.le_refl _) _
theorem RP.pushI {c : CF} {wr w3 w9 : World} {zb : Nat} {nv iv iv2 : Value} {oN : List ByteArray} {oI oI' : List JV} {csn csi csi' : List Value} (h : RP c wr zb nv iv oN oI csn csi) (hq : Below wr.heap.size wr w3) (hl : oI'.length = oI.length + 1) (ho : OwnS 5 (RVc (cfP c (zb + 1) nv iv w3)) 25 (zb + 1) w9 iv2 (oI.length + 1) oI' csi') (hg : Grew w3 w9 iv iv2) :
    RP c (w9.setCell ⟨zb, 4, none⟩ iv2) zb nv iv2 oN oI' csn csi' ∧ Below zb wr (w9.setCell ⟨zb, 4, none⟩ iv2) := by
  have h3 := h.quiet hq
  have hn3 := h3.n.low
  have hi3 := h3.i.low
  have hz3 := heap_lt h3.box
  have hs9 := hg.by_.size
  have hzn : iv.ownBlock ≠ some zb := fun e => by have := (hi3 zb e).1; omega
  have hb9 : w9.heap[zb]? = some (.cells #[.int .i64 6, .int .i64 0, .string ⟨#[]⟩, nv, iv] 25 (0, 0)) := by rw [hg.by_.block zb hz3 (fun e => hzn e.symm)]; exact h3.box
  have hgs := setBox_grown w9 zb 4 iv2
  have ho2 := ho.low
  refine ⟨⟨?_, ?_, ?_, fun g hg2 e => ?_⟩, ?_⟩
  · have := set_self (o := 4) (c := iv2) hb9
    simpa using this
  · exact (h3.n.other RS_any hg.by_ (fun q hq2 e => h3.ap q hq2 e)).other RS_any hgs (fun q hq2 e => by have := (hn3 q hq2).1; have := Option.some.inj e; omega)
  · rw [hl]
    refine (ho.rv (cfP_next (fun b o v hb _ hb1 hv => setBox_cell (by omega) (hg.by_.cell hv (fun e => hb1 e.symm))) (fun g hg2 => .inl hg2) (fun g hg2 => hg.own g hg2))).other (RVc_any _) hgs (fun q hq2 e => ?_)
    have := (ho2 q hq2).1
    have := Option.some.inj e
    omega
  · rcases hg.own g e with h1 | h1
    · exact h3.ap g hg2 h1
    · have := (hn3 g hg2).2; omega
  · have hz := heap_lt h.box
    have h1 : Below zb wr w3 := hq.mono (Nat.le_of_lt hz)
    have h2 : Below zb wr w9 := h1.grown hg.by_ (Nat.le_of_lt hz3) (fun q hq2 => by have := (hi3 q hq2).1; omega)
    exact h2.setCell (p := ⟨zb, 4, none⟩) (Nat.le_refl _) _
/-- what a call has laid since the rows stood so is fixed -/
theorem RP.new {c : CF} {wr w1 w3 : World} {zb B0 B1 : Nat} {nv iv : Value} {oN : List ByteArray} {oI : List JV} {csn csi : List Value} (h : RP c wr zb nv iv oN oI csn csi) {w0 : World} (hc : CLe c (cfU B0 w0)) (hB : B0 ≤ zb + 1) (hB1 : wr.heap.size ≤ B1) (h13 : Below w1.heap.size w1 w3) : CLe (cfV c B1 w1) (cfP c (zb + 1) nv iv w3) := fun b o v hv => by
  unfold cfV at hv
  unfold cfP
  have hz := heap_lt h.box
  split at hv
  · have := (cfU_lt (hc _ _ _ hv)).1
    rw [if_pos (by omega)]; exact hv
  · rw [if_neg (by omega), if_neg (fun e => ?_)]
    · exact cle_below h13 _ _ _ hv
    · rcases e with e | e
      · have := (h.n.low b e).2; omega
      · have := (h.i.low b e).2; omega
theorem grow_strsS {c : CF} : ∀ {nm : List ByteArray} {cs : List Value}, GRow 1 RS c nm cs → ∀ (i : Nat) s, nm[i]? = some s → cs[i]? = some (.string s) := fun h i s hi => by
  obtain ⟨d, h1, h2, rfl, _⟩ := h.2 i s hi
  simpa using h2 0 (.string s) rfl
theorem RP.done {c : CF} {wr : World} {zb : Nat} {nv iv : Value} {oN : List ByteArray} {oI : List JV} {csn csi : List Value} (h : RP c wr zb nv iv oN oI csn csi) (hi : oI.length ≤ 1000000) : JAt (cfV c (zb + 1) wr) (.mk 6 0 ⟨#[]⟩ oN oI) (.agg #[.int .i64 6, .int .i64 0, .string ⟨#[]⟩, nv, iv]) := by
  have hcd : CLe (cfP c (zb + 1) nv iv wr) (cfV c (zb + 1) wr) := fun b o v hv => by
    unfold cfP at hv; unfold cfV
    split at hv
    · rename_i hb; rw [if_pos hb]; exact hv
    · rename_i hb
      rw [if_neg hb]
      split at hv
      · cases hv
      · exact hv
  have hw : CLe (cfA (zb + 1) wr) (cfV c (zb + 1) wr) := cfA_cfV (Nat.le_refl _)
  have hrow : GRow 5 RV (cfP c (zb + 1) nv iv wr) oI csi := h.i.row
  have hI := items_row h.i.own rfl hrow hcd hw hi
  have hN : StrsAt (cfV c (zb + 1) wr) nv oN := by
    rcases id h.n.own.2 with ⟨hv, hn⟩ | ⟨g, cap, cur, hv, hb, hg, hle, hcap, hs2, ht⟩
    · obtain rfl : oN = [] := List.length_eq_zero_iff.1 hn
      subst hv
      exact ⟨none, 0, rfl, by decide, fun i x h => by simp at h⟩
    · refine ⟨some ⟨g, 0, none⟩, cap, hv, by unfold maxLen at hcap; omega, fun i s hx => ?_⟩
      obtain ⟨d, h1, h2, h3, h4⟩ := h.n.row.2 i s hx
      refine ⟨h4, g, 0, rfl, ?_⟩
      have := h.n.own.cells (g := g) (by rw [hv]; rfl) i (.string s) (grow_strsS h.n.row i s hx)
      rw [addr_at] at this
      refine hw _ _ _ ?_
      unfold cfA
      rw [if_pos hb, Nat.zero_add]; exact this
  exact JAt.shut (by kernel_rfl) (by kernel_rfl) (by decide) hN hI

end Go.Proofs.YtkhhbckpddkhlaaDoor
