/- Catalogs: a catalog of one's own whose last collection's indexes grow. -/
import Derived.Test.YticlnijkfclgcaaGreatDoorZ32
import Derived.Test.YticlnijkfclgcaaGreatDoorZ38
import Derived.Test.YticlnijkfclgcaaGreatDoorZ39
namespace Go.Proofs.YticlnijkfclgcaaGreatDoor
open Go.Shelf Go.RowKit

/-- a further collection without indexes: it is the last one now -/
theorem owncat_newLast {B N k : Nat} {w w2 : World} {sl sl2 : Value} {l : List CX} {cs : List Value} {ik : Value} {ics : List Value} (h : OwnCat B N k w sl l cs ik ics) (hg : w.grownBy w2 sl.ownBlock) {nm : ByteArray} {sp : Int} (hn : nm.size ≤ 9223372036854775807) (hs : (Lit.int .i64 sp).wf = true)
    (ho : w2.ownsRow N 78 3 sl2 (l.length + 1) (cs ++ [.string nm, .int .i64 sp, nilS])) : OwnCat B N l.length w2 sl2 (l ++ [⟨nm, sp, []⟩]) (cs ++ [.string nm, .int .i64 sp, nilS]) nilS [] := by
  have hr := h.rows
  have hbn := h.bn
  have hcl := h.own.1
  have hk : CLe (cfS B okFP nilS w) (cfS B okFP nilS w2) := cfS_keep (fun b hb _ hc => by
    refine hg.block b hb fun e => ?_
    obtain ⟨h1, h2⟩ := own_isT h.own okFP b e.symm
    rcases hc with h3 | h3
    · omega
    · rw [h2] at h3; cases h3) (fun b _ e => e)
  refine ⟨by rw [List.length_append]; exact ho, fun i y hi hy => ?_, fun y hy => ?_, fun e => rfl, hbn, Nat.le_trans h.le hg.size⟩
  · have hlt : i < l.length := by have := (List.getElem?_eq_some_iff.1 hy).1; rw [List.length_append, List.length_singleton] at this; omega
    rw [List.getElem?_append_left hlt] at hy
    obtain ⟨d, h1, h2, h3⟩ := hr.2 i y hy
    refine ⟨d, h1, fun q u hu => ?_, RCX_mono _ _ _ _ hk h3⟩
    have := h2 q u hu
    rw [List.getElem?_append_left (List.getElem?_eq_some_iff.1 this).1]; exact this
  · rw [List.getElem?_append_right (Nat.le_refl _), Nat.sub_self] at hy
    obtain rfl := Option.some.inj hy
    refine ⟨fun q u hu => ?_, hn, hs, World.ownsRow_nil _ _ _ _, GRow.nil _ _ _⟩
    rw [List.getElem?_append_right (by omega), hcl, Nat.add_sub_cancel_left]; exact hu
/-- the row of its indexes was handed on, and put into the row of collections -/
theorem owncat_addIx {B N k g cap : Nat} {w w2 : World} {l : List CX} {cs : List Value} {ik : Value} {ics : List Value} {y : CX} {ik2 : Value} {ics2 : List Value} {xs2 : List PX} (h : OwnCat B N k w (.slice (some ⟨g, 0, none⟩) l.length cap) l cs ik ics) (hy : l[k]? = some y)
    (hg : w.grownBy w2 ik.ownBlock) (hn : ∀ b, ik2.ownBlock = some b → ik.ownBlock = some b ∨ w.heap.size ≤ b) (ho : w2.ownsRow N 85 4 ik2 xs2.length ics2) (hr : GRow 4 RPX (cfS B okF nilS w2) xs2 ics2) :
    OwnCat B N k (w2.setCell ⟨g, k * 3 + 2, none⟩ ik2) (.slice (some ⟨g, 0, none⟩) l.length cap) (l.set k ⟨y.name, y.sp, xs2⟩) (cs.set (k * 3 + 2) ik2) ik2 ics2 ∧ w2.grownBy (w2.setCell ⟨g, k * 3 + 2, none⟩ ik2) (some g) := by
  have hbn := h.bn
  obtain ⟨m1, m2, m3, m4, m5⟩ := h.mine y hy
  have o2 := h.own.kept hg (own_blocks m4 h.own (by decide))
  obtain ⟨o3, g3⟩ := o2.stored (k * 3 + 2) ik2
  have hcl := h.own.1
  have hkl := (List.getElem?_eq_some_iff.1 hy).1
  generalize hw3 : w2.setCell ⟨g, k * 3 + 2, none⟩ ik2 = w3 at o3 g3 ⊢
  have hgb : ∀ b, some b = some g → B ≤ b ∧ isT okFP w2 b = false ∧ isT okF w2 b = false := fun b e => by
    have h1 := own_isT o2 okFP b e.symm
    have h2 := own_isT o2 okF b e.symm
    exact ⟨Nat.le_trans hbn h1.1, h1.2, h2.2⟩
  have k3 : ∀ ex : Value, CLe (cfS B okFP ex w2) (cfS B okFP ex w3) := fun ex => cfS_keep (fun b hb _ hc => g3.block b hb fun e => by
    obtain ⟨h1, h2, h3⟩ := hgb b e
    rcases hc with h4 | h4
    · omega
    · rw [h2] at h4; cases h4) (fun _ _ e => e)
  have k3F : CLe (cfS B okF nilS w2) (cfS B okF nilS w3) := cfS_keep (fun b hb _ hc => g3.block b hb fun e => by
    obtain ⟨h1, h2, h3⟩ := hgb b e
    rcases hc with h4 | h4
    · omega
    · rw [h3] at h4; cases h4) (fun _ _ e => e)
  have o4 : w3.ownsRow N 85 4 ik2 xs2.length ics2 := ho.kept g3 (by
    have := own_blocks o2 ho (by decide)
    simpa [Value.ownBlock] using this)
  refine ⟨⟨by rw [List.length_set]; exact o3, fun i z e hz => ?_, fun z hz => ?_, fun e => ?_, hbn, Nat.le_trans h.le (Nat.le_trans hg.size g3.size)⟩, g3⟩
  · rw [List.getElem?_set_ne (fun e2 => e e2.symm)] at hz
    obtain ⟨d, h1, h2, h3⟩ := h.other i z e hz
    refine ⟨d, h1, fun q u hu => ?_, RCX_mono _ _ _ _ (k3 ik2) (RCX_mono _ _ _ _ (cfS_keep (fun b hb hne _ => hg.block b hb fun e => hne e.symm) (fun b hb e => (hn b e).resolve_right (by omega))) h3)⟩
    have hq : q < 3 := by rw [← h1]; exact (List.getElem?_eq_some_iff.1 hu).1
    rw [List.getElem?_set_ne (by omega)]; exact h2 q u hu
  · rw [List.getElem?_set_self hkl] at hz
    obtain rfl := Option.some.inj hz
    refine ⟨fun q u hu => ?_, m2, m3, o4, hr.mono RPX_mono k3F⟩
    match q, hu with
    | 0, hu => rw [List.getElem?_set_ne (by omega)]; exact m1 0 u hu
    | 1, hu => rw [List.getElem?_set_ne (by omega)]; exact m1 1 u hu
    | 2, hu => rw [List.getElem?_set_self (by omega)]; exact hu
    | q + 3, hu => simp at hu
  · rw [List.getElem?_set_self hkl] at e; cases e
theorem addLast_set (p : PX) : ∀ (acc : List CX) (m : Nat) (y : CX), acc.length = m + 1 → acc[m]? = some y → addLast p acc = acc.set m ⟨y.name, y.sp, y.ixs ++ [p]⟩
  | [], m, y, h, _ => by simp at h
  | [x], m, y, h, hy => by
    obtain rfl : m = 0 := by simpa using h
    obtain rfl : x = y := by simpa using hy
    rfl
  | x :: z :: l, m, y, h, hy => by
    obtain ⟨k, rfl⟩ : ∃ k, m = k + 1 := ⟨l.length, by simp at h; omega⟩
    show x :: addLast p (z :: l) = _
    rw [addLast_set p (z :: l) k y (by simpa using h) (by simpa using hy)]
    rfl
theorem parse_step {l : List JV} {j : Nat} {acc : List CX} {r : JV} (h : parseL [] (l.take j) = some acc) (hr : l[j]? = some r) : parseL [] (l.take (j + 1)) = parseR acc r := by
  rw [take_succ hr, parseL_app, h]
  show (match parseR acc r with | some acc2 => parseL acc2 [] | none => none) = _
  cases parseR acc r <;> rfl
theorem parse_stop {v : JV} {l : List JV} {j : Nat} (hv : v.items = l) (h : parseL [] (l.take j) = none) : parseC v = ([], 2) := by
  have : parseL [] l = none := by rw [← List.take_append_drop j l, parseL_app, h]; rfl
  unfold parseC
  rw [hv, this]
theorem row_bad {acc : List CX} {r : JV} (h2 : r.items.length ≠ 2) (h3 : r.items.length ≠ 3) : parseR acc r = none := by
  unfold parseR
  split
  · rename_i e; rw [e] at h2; exact absurd rfl h2
  · rename_i e; rw [e] at h3; exact absurd rfl h3
  · rfl
theorem row_nil {r a b c : JV} (h : r.items = [a, b, c]) : parseR [] r = none := by
  unfold parseR; rw [h]; simp
theorem row_is2 {acc : List CX} {r a b : JV} (h : r.items = [a, b]) : parseR acc r = some (acc ++ [⟨a.text, b.n, []⟩]) := by
  unfold parseR; rw [h]
theorem row_is3 {acc : List CX} {r a b c : JV} {m : Nat} {y : CX} (h : r.items = [a, b, c]) (hl : acc.length = m + 1) (hy : acc[m]? = some y) : parseR acc r = some (acc.set m ⟨y.name, y.sp, y.ixs ++ [⟨parseX c, b.n⟩]⟩) := by
  unfold parseR; rw [h]
  simp only
  rw [if_neg (by intro e; rw [e] at hl; simp at hl), addLast_set _ _ _ _ hl hy]
open Classical in
theorem parse_end {v : JV} {acc : List CX} (h : parseL [] v.items = some acc) : parseC v = if formC acc = true ∧ v = showC acc then (acc, 0) else ([], 2) := by
  unfold parseC; rw [h]
/-- the index that is read, or the zero one: its fields are a row of the call's own -/
theorem parseX_post {TF : TypeId} {v : JV} {w w' : World} {e : Ending} (h : ParsePostO TF v w e w') : ∃ sa cap n, e = .returned (.tuple #[.agg #[.string (parseX v).name, .slice sa (parseX v).fields.length cap, .bool (parseX v).uniq], .int .i64 n]) ∧ (parseX v).name.size ≤ 9223372036854775807 ∧ (∀ p ∈ (parseX v).fields, p.1.size ≤ 1000000) ∧ w'.ownsRow w.heap.size TF 2 (.slice sa (parseX v).fields.length cap) (parseX v).fields.length (fcells (parseX v).fields) ∧ Below w.heap.size w w' := by
  obtain ⟨h1, h2⟩ := h
  unfold parseX
  cases hf : parseF v with
  | some x =>
    rw [hf] at h1
    obtain ⟨sa, cap, e1, h3, h4, h5⟩ := h1
    exact ⟨sa, cap, 0, e1, h3, h4, h5, h2⟩
  | none =>
    rw [hf] at h1
    exact ⟨none, 0, 2, h1, by decide, by simp [zeroX], World.ownsRow_nil _ _ _ _, h2⟩
/-- a row's element, opened -/
theorem items_open {c : CF} {ia : Option Addr} {icap : Nat} {it : List JV} {j : Nat} {r : JV} (h : ItemsAt c (.slice ia it.length icap) it) (hr : it[j]? = some r) : ∃ b off k n t nm rit na ncap ra rcap, ia = some ⟨b, off, none⟩ ∧ r = .mk k n t nm rit ∧
    c b (off + j * 5) = some (.int .i64 k) ∧ c b (off + j * 5 + 1) = some (.int .i64 n) ∧ c b (off + j * 5 + 2) = some (.string t) ∧ c b (off + j * 5 + 3) = some (.slice na nm.length ncap) ∧ c b (off + j * 5 + 4) = some (.slice ra rit.length rcap) ∧
    JAt c r (.agg #[.int .i64 k, .int .i64 n, .string t, .slice na nm.length ncap, .slice ra rit.length rcap]) ∧ ItemsAt c (.slice ra rit.length rcap) rit ∧ t.size ≤ 9223372036854775807 ∧ (Lit.int .i64 n).wf = true := by
  obtain ⟨_, _, e, _, hel⟩ := h
  cases e
  obtain ⟨b, off, k, n, t, nm, rit, na, ncap, ra, rcap, h1, h2, h3, h4, h5, h6, h7, h8⟩ := hel j r hr
  obtain ⟨k', n', t', nm', it', na', ncap', ia', icap', e1, e2, _, g1, g2, _, g3⟩ := h8.open
  rw [h2] at e1
  cases e1
  simp only [Value.agg.injEq, Array.mk.injEq, List.cons.injEq, and_true, Value.slice.injEq, true_and] at e2
  obtain ⟨_, ⟨rfl, rfl⟩⟩ := e2
  exact ⟨b, off, k, n, t, nm, rit, na, ncap, ra, rcap, h1, h2, h3, h4, h5, h6, h7, h8, g3, g2, g1⟩
/-- where Parse stands -/
structure PS (w W0 wr : World) (sl : Value) (acc : List CX) (cs : List Value) (ik : Value) (ics : List Value) (j : Nat) : Prop where
  bel : Below (w.heap.size + 1 + 1) W0 wr
  box : wr.heap[w.heap.size + 1 + 1]? = some (.cells #[sl] 63 (0, 0))
  oc : OwnCat w.heap.size (w.heap.size + 3) (acc.length - 1) wr sl acc cs ik ics
  len : acc.length ≤ j
  ixl : ∀ x ∈ acc, x.ixs.length ≤ j
  sml : SmallC acc
theorem PS.quiet {w W0 wr wn : World} {sl : Value} {acc : List CX} {cs : List Value} {ik : Value} {ics : List Value} {j : Nat} (h : PS w W0 wr sl acc cs ik ics j) (hb : Below wr.heap.size wr wn) : PS w W0 wn sl acc cs ik ics j :=
  ⟨h.bel.trans (hb.mono (Nat.le_of_lt (heap_lt h.box))), kept h.box hb, h.oc.quiet hb, h.len, h.ixl, h.sml⟩
theorem PS.low {w W0 wr : World} {sl : Value} {acc : List CX} {cs : List Value} {ik : Value} {ics : List Value} {j : Nat} (h : PS w W0 wr sl acc cs ik ics j) : (∀ g, sl.ownBlock = some g → w.heap.size + 3 ≤ g ∧ g < wr.heap.size) ∧ (∀ g, ik.ownBlock = some g → w.heap.size + 3 ≤ g ∧ g < wr.heap.size) := by
  refine ⟨fun g hg => h.oc.own.lt g hg, fun g hg => ?_⟩
  cases e : acc[acc.length - 1]? with
  | none => rw [h.oc.none e] at hg; cases hg
  | some y => exact (h.oc.mine y e).2.2.2.1.lt g hg
theorem PS.two {w W0 wr w9 wA : World} {sl sl2 : Value} {acc : List CX} {cs : List Value} {ik : Value} {ics : List Value} {j : Nat} (h : PS w W0 wr sl acc cs ik ics j) (hb : Below wr.heap.size wr w9) (hg : w9.grownBy wA sl.ownBlock) {nm : ByteArray} {sp : Int} (hn : nm.size ≤ 9223372036854775807) (hs : (Lit.int .i64 sp).wf = true)
    (ho : wA.ownsRow (w.heap.size + 3) 78 3 sl2 (acc.length + 1) (cs ++ [.string nm, .int .i64 sp, nilS])) :
    PS w W0 (wA.setCell ⟨w.heap.size + 1 + 1, 0, none⟩ sl2) sl2 (acc ++ [⟨nm, sp, []⟩]) (cs ++ [.string nm, .int .i64 sp, nilS]) nilS [] (j + 1) := by
  have h9 := h.quiet hb
  have hlow := h9.oc.own.lt
  have hk : wA.heap[w.heap.size + 1 + 1]? = some (.cells #[sl] 63 (0, 0)) := by
    rw [hg.block _ (heap_lt h9.box) (fun e => by have := (hlow _ e.symm).1; omega)]; exact h9.box
  have hl : (acc ++ [CX.mk nm sp []]).length - 1 = acc.length := by simp
  refine ⟨(h9.bel.grown hg (Nat.le_of_lt (heap_lt h9.box)) (fun g e => by have := (hlow g e).1; omega)).setCell (p := ⟨w.heap.size + 1 + 1, 0, none⟩) (Nat.le_refl _) _, ?_, ?_, by rw [List.length_append]; exact Nat.succ_le_succ h.len, fun x hx => ?_, fun x hx => ?_⟩
  · have := set_self (o := 0) (c := sl2) hk
    simpa using this
  · rw [hl]
    exact (owncat_newLast h9.oc hg hn hs ho).but hk (by omega) (grownZ_set _ _ _ _)
  · rcases List.mem_append.1 hx with hx | hx
    · exact Nat.le_succ_of_le (h.ixl x hx)
    · rw [List.mem_singleton.1 hx]; exact Nat.zero_le _
  · rcases List.mem_append.1 hx with hx | hx
    · exact h.sml x hx
    · rw [List.mem_singleton.1 hx]; intro p hp; simp at hp
theorem PS.three {w W0 wr w9 wA : World} {g cap m : Nat} {acc : List CX} {cs : List Value} {ik ik2 : Value} {ics : List Value} {j : Nat} {y : CX} (h : PS w W0 wr (.slice (some ⟨g, 0, Option.none⟩) acc.length cap) acc cs ik ics j) (hb : Below wr.heap.size wr w9) (hm : acc.length = m + 1) (hy : acc[m]? = some y) (hg : w9.grownBy wA ik.ownBlock) (hn : ∀ b, ik2.ownBlock = some b → ik.ownBlock = some b ∨ w9.heap.size ≤ b)
    {p : PX} {fa : Option Addr} {fcap N : Nat} (hpn : p.ix.name.size ≤ 9223372036854775807) (hps : (Lit.int .i64 p.sp).wf = true) (hpf : ∀ f ∈ p.ix.fields, f.1.size ≤ 1000000) (hfo : w9.ownsRow N 112 2 (.slice fa p.ix.fields.length fcap) p.ix.fields.length (fcells p.ix.fields))
    (ho : wA.ownsRow (w.heap.size + 3) 85 4 ik2 (y.ixs.length + 1) (ics ++ [.string p.ix.name, .slice fa p.ix.fields.length fcap, .bool p.ix.uniq, .int .i64 p.sp])) :
    PS w W0 (wA.setCell ⟨g, m * 3 + 2, Option.none⟩ ik2) (.slice (some ⟨g, 0, Option.none⟩) (acc.set m ⟨y.name, y.sp, y.ixs ++ [p]⟩).length cap) (acc.set m ⟨y.name, y.sp, y.ixs ++ [p]⟩) (cs.set (m * 3 + 2) ik2) ik2 (ics ++ [.string p.ix.name, .slice fa p.ix.fields.length fcap, .bool p.ix.uniq, .int .i64 p.sp]) (j + 1) := by
  have h9 := h.quiet hb
  have hm1 : acc.length - 1 = m := by omega
  have hoc := h9.oc
  rw [hm1] at hoc
  obtain ⟨_, _, _, m4, m5⟩ := hoc.mine y hy
  have hfA : wA.ownsRow N 112 2 (.slice fa p.ix.fields.length fcap) p.ix.fields.length (fcells p.ix.fields) := hfo.kept hg (own_blocks m4 hfo (by decide))
  have hkF : CLe (cfS w.heap.size okF nilS w9) (cfS w.heap.size okF nilS wA) := cfS_keep (fun b hb _ hc => hg.block b hb fun e => by
    obtain ⟨h1, h2⟩ := own_isT m4 okF b e.symm
    rcases hc with h3 | h3
    · omega
    · rw [h2] at h3; cases h3) (fun b _ e => e)
  have hrow : GRow 4 RPX (cfS w.heap.size okF nilS wA) (y.ixs ++ [p]) (ics ++ [.string p.ix.name, .slice fa p.ix.fields.length fcap, .bool p.ix.uniq, .int .i64 p.sp]) :=
    (m5.mono RPX_mono hkF).snoc rfl ⟨fa, fcap, rfl, hpn, sat_fieldsAt (sat_of_own hfA (grow_fcells _ (fun f hf => by have := hpf f hf; omega)) (fun q j u hq hu => by
      unfold cfS
      rw [if_pos ⟨by simp [Value.ownBlock], .inr (by rw [(own_isT hfA okF q hq).2]; rfl)⟩]; exact hu)), hps⟩
  obtain ⟨hA, gA⟩ := owncat_addIx hoc hy hg hn (xs2 := y.ixs ++ [p]) (by rw [List.length_append]; exact ho) hrow
  have hgl := h9.low
  have hgg := (hgl.1 g rfl).1
  have hk : wA.heap[w.heap.size + 1 + 1]? = some (.cells #[.slice (some ⟨g, 0, Option.none⟩) acc.length cap] 63 (0, 0)) := by
    rw [hg.block _ (heap_lt h9.box) (fun e => by have := (hgl.2 _ e.symm).1; omega)]; exact h9.box
  have hl : (acc.set m (CX.mk y.name y.sp (y.ixs ++ [p]))).length = acc.length := by simp
  have hset : ∀ x ∈ acc.set m (CX.mk y.name y.sp (y.ixs ++ [p])), x ∈ acc ∨ x = CX.mk y.name y.sp (y.ixs ++ [p]) := fun x hx => List.mem_or_eq_of_mem_set hx
  have hym := List.mem_of_getElem? hy
  refine ⟨(h9.bel.grown hg (Nat.le_of_lt (heap_lt h9.box)) (fun g e => by have := (hgl.2 g e).1; omega)).setCell (p := ⟨g, m * 3 + 2, Option.none⟩) (by show w.heap.size + 1 + 1 ≤ g; omega) _, ?_, ?_, ?_, fun x hx => ?_, fun x hx => ?_⟩
  · rw [hl, Below.heap_setCell _ _ _ _ (show w.heap.size + 1 + 1 ≠ g by omega)]; exact hk
  · rw [hl, hm1]; exact hA
  · rw [hl]; exact Nat.le_succ_of_le h.len
  · rcases hset x hx with hx | rfl
    · exact Nat.le_succ_of_le (h.ixl x hx)
    · rw [List.length_append]; exact Nat.succ_le_succ (h.ixl y hym)
  · rcases hset x hx with hx | rfl
    · exact h.sml x hx
    · intro q hq
      rcases List.mem_append.1 hq with hq | hq
      · exact h.sml y hym q hq
      · rw [List.mem_singleton.1 hq]; exact hpf
end Go.Proofs.YticlnijkfclgcaaGreatDoor
