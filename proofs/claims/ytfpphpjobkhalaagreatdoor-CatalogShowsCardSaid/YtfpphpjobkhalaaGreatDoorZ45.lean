/- Catalogs: a catalog of one's own, as the reference has it (printed by genXCBI.py). -/
import Derived.Test.YtfpphpjobkhalaaGreatDoorZ42
namespace Go.Proofs.YtfpphpjobkhalaaGreatDoor
open Go.Shelf Go.RowKit

theorem rcfS_sub {B : Nat} {ik : Value} {w : World} (hik : ∀ g, ik.ownBlock = some g → B ≤ g ∧ isT okRF w g = false) : CLe (cfS B okRF nilS w) (cfS B okR ik w) := fun b o u h => by
  unfold cfS at h ⊢
  split at h
  · rename_i hc
    have hA : ik.ownBlock ≠ some b := fun e => by
      obtain ⟨h1, h2⟩ := hik b e
      rcases hc.2 with h3 | h3
      · omega
      · rw [h2] at h3; cases h3
    have hB : isT okRF w b = true → isT okR w b = true := fun h2 => by
      unfold isT at h2 ⊢
      revert h2
      cases w.heap[b]? with
      | none => exact id
      | some o => cases o <;> first | exact id | (intro h2; simp only at h2 ⊢; unfold okRF at h2; unfold okR; rw [h2]; rfl)
    rw [if_pos ⟨hA, hc.2.imp id hB⟩]; exact h
  · cases h
structure ROwnCat (B N k : Nat) (w : World) (sl : Value) (l : List CX) (cs : List Value) (ik : Value) (ics : List Value) : Prop where
  own : w.ownsRow N 77 3 sl l.length cs
  other : ∀ (i : Nat) y, i ≠ k → l[i]? = some y → ∃ d, d.length = 3 ∧ (∀ (q : Nat) u, d[q]? = some u → cs[i * 3 + q]? = some u) ∧ RCX (cfS B okR ik w) y d
  mine : ∀ y, l[k]? = some y → (∀ (q : Nat) u, [Value.string y.name, .int .i64 y.sp, ik][q]? = some u → cs[k * 3 + q]? = some u) ∧ y.name.size ≤ 9223372036854775807 ∧ (Lit.int .i64 y.sp).wf = true ∧ w.ownsRow N 79 4 ik y.ixs.length ics ∧ GRow 4 RPX (cfS B okRF nilS w) y.ixs ics
  none : l[k]? = Option.none → ik = nilS
  bn : B ≤ N
  le : N ≤ w.heap.size
theorem ROwnCat.start {B N k : Nat} {w : World} (hb : B ≤ N) (h : N ≤ w.heap.size) : ROwnCat B N k w nilS [] [] nilS [] := ⟨World.ownsRow_nil _ _ _ _, fun i y _ h => by simp at h, fun y h => by simp at h, fun _ => rfl, hb, h⟩
theorem ROwnCat.turn {B N k : Nat} {w w' : World} {sl : Value} {l : List CX} {cs : List Value} {ik : Value} {ics : List Value} (h : ROwnCat B N k w sl l cs ik ics) (hg : w.grownBy w' sl.ownBlock) :
    (∀ (i : Nat) y, i ≠ k → l[i]? = some y → ∃ d, d.length = 3 ∧ (∀ (q : Nat) u, d[q]? = some u → cs[i * 3 + q]? = some u) ∧ RCX (cfS B okR ik w') y d) ∧
    (∀ y, l[k]? = some y → w'.ownsRow N 79 4 ik y.ixs.length ics ∧ GRow 4 RPX (cfS B okRF nilS w') y.ixs ics) ∧ N ≤ w'.heap.size := by
  have hbn := h.bn
  have hk : ∀ ok : TypeId → Bool, ok 77 = false → ∀ b, b < w.heap.size → (b < B ∨ isT ok w b = true) → w'.heap[b]? = w.heap[b]? := fun ok hok b hb hc => by
    refine hg.block b hb fun e => ?_
    obtain ⟨h1, h2⟩ := own_isT h.own ok b e.symm
    rcases hc with h3 | h3
    · omega
    · rw [h2, hok] at h3; cases h3
  refine ⟨fun i y hi hy => ?_, fun y hy => ?_, Nat.le_trans h.le hg.size⟩
  · obtain ⟨d, h1, h2, h3⟩ := h.other i y hi hy
    exact ⟨d, h1, h2, RCX_mono _ _ _ _ (cfS_keep (fun b hb _ hc => hk okR (by decide) b hb hc) (fun b _ e => e)) h3⟩
  · obtain ⟨_, _, _, h1, h2⟩ := h.mine y hy
    exact ⟨h1.kept hg (own_blocks h.own h1 (by decide)), h2.mono RPX_mono (cfS_keep (fun b hb _ hc => hk okRF (by decide) b hb hc) (fun b _ e => e))⟩
theorem ROwnCat.quiet {B N k : Nat} {w w' : World} {sl : Value} {l : List CX} {cs : List Value} {ik : Value} {ics : List Value} (h : ROwnCat B N k w sl l cs ik ics) (hb : Below w.heap.size w w') : ROwnCat B N k w' sl l cs ik ics := by
  have hg : ∀ b, w.grownBy w' b := fun b => ⟨hb.os, hb.tape, hb.output, hb.size, fun q hq _ => hb.block q hq⟩
  obtain ⟨t1, t2, t3⟩ := h.turn (hg _)
  refine ⟨h.own.kept (row := Option.none) (hg _) (by cases sl.ownBlock <;> simp), t1, fun y hy => ?_, h.none, h.bn, t3⟩
  obtain ⟨h1, h2, h3, _⟩ := h.mine y hy
  exact ⟨h1, h2, h3, t2 y hy⟩
theorem ROwnCat.rows {B N k : Nat} {w : World} {sl : Value} {l : List CX} {cs : List Value} {ik : Value} {ics : List Value} (h : ROwnCat B N k w sl l cs ik ics) : GRow 3 RCX (cfS B okR nilS w) l cs := by
  refine ⟨h.own.1, fun i y hy => ?_⟩
  by_cases hi : i = k
  · subst hi
    obtain ⟨h1, h2, h3, h4, h5⟩ := h.mine y hy
    have hsat : SAt 4 RPX (cfS B okR nilS w) ik y.ixs := sat_of_own h4 (h5.mono RPX_mono (rcfS_sub fun g hg => by cases hg)) (fun g j u hg2 hu => by
      unfold cfS
      rw [if_pos ⟨by simp [Value.ownBlock], .inr (by rw [(own_isT h4 okR g hg2).2]; rfl)⟩]; exact hu)
    obtain ⟨a, cap, e, _⟩ := id hsat
    exact ⟨_, rfl, h1, a, cap, by rw [e], h2, h3, by rw [← e]; exact hsat⟩
  · obtain ⟨d, h1, h2, h3⟩ := h.other i y hi hy
    exact ⟨d, h1, h2, RCX_mono _ _ _ _ cfS_nil h3⟩
theorem ROwnCat.but {B N k c : Nat} {w w' : World} {sl : Value} {l : List CX} {cs : List Value} {ik : Value} {ics : List Value} {vs : Array Value} {s : Nat × Nat} (h : ROwnCat B N k w sl l cs ik ics) (hc : w.heap[c]? = some (.cells vs 31 s)) (hB : B ≤ c) (hg : w.grownBy w' (some c)) : ROwnCat B N k w' sl l cs ik ics := by
  have hk : ∀ ok : TypeId → Bool, ok 31 = false → ∀ b, b < w.heap.size → (b < B ∨ isT ok w b = true) → w'.heap[b]? = w.heap[b]? := fun ok hok b hb h2 => by
    refine hg.block b hb fun e => ?_
    obtain rfl := Option.some.inj e
    rcases h2 with h3 | h3
    · omega
    · unfold isT at h3; rw [hc] at h3; simp only at h3; rw [hok] at h3; cases h3
  have hrow : ∀ {n p : Nat} {T : TypeId} {sv : Value} {ds : List Value}, w.ownsRow N T n sv p ds → 31 ≠ T → w'.ownsRow N T n sv p ds := fun {n p T sv ds} h1 hne => h1.kept hg (by
    cases e : sv.ownBlock with
    | none => exact .inl rfl
    | some g => exact .inr (fun e2 => own_ne h1 hc hne g e (Option.some.inj e2).symm))
  refine ⟨hrow h.own (by decide), fun i y hi hy => ?_, fun y hy => ?_, h.none, h.bn, Nat.le_trans h.le hg.size⟩
  · obtain ⟨d, h1, h2, h3⟩ := h.other i y hi hy
    exact ⟨d, h1, h2, RCX_mono _ _ _ _ (cfS_keep (fun b hb _ hc => hk okR (by decide) b hb hc) (fun b _ e => e)) h3⟩
  · obtain ⟨h1, h2, h3, h4, h5⟩ := h.mine y hy
    exact ⟨h1, h2, h3, hrow h4 (by decide), h5.mono RPX_mono (cfS_keep (fun b hb _ hc => hk okRF (by decide) b hb hc) (fun b _ e => e))⟩
theorem rsat_cat {B N : Nat} {w : World} {sl : Value} {l : List CX} {cs : List Value} (h : w.ownsRow N 77 3 sl l.length cs) (hr : GRow 3 RCX (cfS B okR nilS w) l cs) : SAt 3 RCX (cf w) sl l :=
  sat_of_own h (hr.mono RCX_mono (cfS_cf _ _ _ _)) (fun _ _ _ _ h => h)
theorem rbox_keepS {B c : Nat} {w w' : World} {vs : Array Value} {s : Nat × Nat} (hc : w.heap[c]? = some (.cells vs 31 s)) (hB : B ≤ c) (hg : w.grownBy w' (some c)) : CLe (cfS B okR nilS w) (cfS B okR nilS w') :=
  cfS_keep (fun b hb _ h2 => hg.block b hb fun e => by
    obtain rfl := Option.some.inj e
    rcases h2 with h3 | h3
    · omega
    · unfold isT at h3; rw [hc] at h3; have h4 : okR 31 = true := h3; exact absurd h4 (by decide)) (fun _ _ e => e)
theorem rbox_keepO {N n p c : Nat} {T : TypeId} {w w' : World} {sv : Value} {ds : List Value} {vs : Array Value} {s : Nat × Nat} (h1 : w.ownsRow N T n sv p ds) (hc : w.heap[c]? = some (.cells vs 31 s)) (hne : 31 ≠ T) (hg : w.grownBy w' (some c)) : w'.ownsRow N T n sv p ds := h1.kept hg (by
  cases e : sv.ownBlock with
  | none => exact .inl rfl
  | some g => exact .inr (fun e2 => own_ne h1 hc hne g e (Option.some.inj e2).symm))
theorem rsat_end {B N c : Nat} {w w' : World} {sl : Value} {l : List CX} {cs : List Value} {vs : Array Value} (h : w.ownsRow N 77 3 sl l.length cs) (hr : GRow 3 RCX (cfS B okR nilS w) l cs) (hc : w.heap[c]? = some (.cells vs 31 (0, 0))) (hB : B ≤ c) (hg : w.grownBy w' (some c)) : SAt 3 RCX (cf w') sl l :=
  rsat_cat (rbox_keepO h hc (by decide) hg) (hr.mono RCX_mono (rbox_keepS hc hB hg))
theorem rowncat_newLast {B N k : Nat} {w w2 : World} {sl sl2 : Value} {l : List CX} {cs : List Value} {ik : Value} {ics : List Value} (h : ROwnCat B N k w sl l cs ik ics) (hg : w.grownBy w2 sl.ownBlock) {nm : ByteArray} {sp : Int} (hn : nm.size ≤ 9223372036854775807) (hs : (Lit.int .i64 sp).wf = true)
    (ho : w2.ownsRow N 77 3 sl2 (l.length + 1) (cs ++ [.string nm, .int .i64 sp, nilS])) : ROwnCat B N l.length w2 sl2 (l ++ [⟨nm, sp, []⟩]) (cs ++ [.string nm, .int .i64 sp, nilS]) nilS [] := by
  have hr := h.rows
  have hbn := h.bn
  have hcl := h.own.1
  have hk : CLe (cfS B okR nilS w) (cfS B okR nilS w2) := cfS_keep (fun b hb _ hc => by
    refine hg.block b hb fun e => ?_
    obtain ⟨h1, h2⟩ := own_isT h.own okR b e.symm
    rcases hc with h3 | h3
    · omega
    · rw [h2] at h3; cases h3) (fun b _ e => e)
  refine ⟨by rw [List.length_append]; exact ho, fun i y hi hy => ?_, fun y hy => ?_, fun e => rfl, hbn, Nat.le_trans h.le hg.size⟩
  · have hlt : i < l.length := by have := (List.getElem?_eq_some_iff.1 hy).1; rw [List.length_append, List.length_singleton] at this; omega
    rw [List.getElem?_append_left hlt] at hy
    obtain ⟨d, h1, h2, h3⟩ := hr.2 i y hy
    refine ⟨d, h1, fun q u hu => ?_, RCX_mono _ _ _ _ hk h3⟩
    have := h2 q u hu
    rw [List.getElem?_append_left (List.getElem?_eq_some_iff.1 this).1]; exact this
  · rw [List.getElem?_append_right (Nat.le_refl _), Nat.sub_self] at hy
    obtain rfl := Option.some.inj hy
    refine ⟨fun q u hu => ?_, hn, hs, World.ownsRow_nil _ _ _ _, GRow.nil _ _ _⟩
    rw [List.getElem?_append_right (by omega), hcl, Nat.add_sub_cancel_left]; exact hu
theorem rowncat_addIx {B N k g cap : Nat} {w w2 : World} {l : List CX} {cs : List Value} {ik : Value} {ics : List Value} {y : CX} {ik2 : Value} {ics2 : List Value} {xs2 : List PX} (h : ROwnCat B N k w (.slice (some ⟨g, 0, none⟩) l.length cap) l cs ik ics) (hy : l[k]? = some y)
    (hg : w.grownBy w2 ik.ownBlock) (hn : ∀ b, ik2.ownBlock = some b → ik.ownBlock = some b ∨ w.heap.size ≤ b) (ho : w2.ownsRow N 79 4 ik2 xs2.length ics2) (hr : GRow 4 RPX (cfS B okRF nilS w2) xs2 ics2) :
    ROwnCat B N k (w2.setCell ⟨g, k * 3 + 2, none⟩ ik2) (.slice (some ⟨g, 0, none⟩) l.length cap) (l.set k ⟨y.name, y.sp, xs2⟩) (cs.set (k * 3 + 2) ik2) ik2 ics2 ∧ w2.grownBy (w2.setCell ⟨g, k * 3 + 2, none⟩ ik2) (some g) := by
  have hbn := h.bn
  obtain ⟨m1, m2, m3, m4, m5⟩ := h.mine y hy
  have o2 := h.own.kept hg (own_blocks m4 h.own (by decide))
  obtain ⟨o3, g3⟩ := o2.stored (k * 3 + 2) ik2
  have hcl := h.own.1
  have hkl := (List.getElem?_eq_some_iff.1 hy).1
  generalize hw3 : w2.setCell ⟨g, k * 3 + 2, none⟩ ik2 = w3 at o3 g3 ⊢
  have hgb : ∀ b, some b = some g → B ≤ b ∧ isT okR w2 b = false ∧ isT okRF w2 b = false := fun b e => by
    have h1 := own_isT o2 okR b e.symm
    have h2 := own_isT o2 okRF b e.symm
    exact ⟨Nat.le_trans hbn h1.1, h1.2, h2.2⟩
  have k3 : ∀ ex : Value, CLe (cfS B okR ex w2) (cfS B okR ex w3) := fun ex => cfS_keep (fun b hb _ hc => g3.block b hb fun e => by
    obtain ⟨h1, h2, h3⟩ := hgb b e
    rcases hc with h4 | h4
    · omega
    · rw [h2] at h4; cases h4) (fun _ _ e => e)
  have k3F : CLe (cfS B okRF nilS w2) (cfS B okRF nilS w3) := cfS_keep (fun b hb _ hc => g3.block b hb fun e => by
    obtain ⟨h1, h2, h3⟩ := hgb b e
    rcases hc with h4 | h4
    · omega
    · rw [h3] at h4; cases h4) (fun _ _ e => e)
  have o4 : w3.ownsRow N 79 4 ik2 xs2.length ics2 := ho.kept g3 (by
    have := own_blocks o2 ho (by decide)
    simpa [Value.ownBlock] using this)
  refine ⟨⟨by rw [List.length_set]; exact o3, fun i z e hz => ?_, fun z hz => ?_, fun e => ?_, hbn, Nat.le_trans h.le (Nat.le_trans hg.size g3.size)⟩, g3⟩
  · rw [List.getElem?_set_ne (fun e2 => e e2.symm)] at hz
    obtain ⟨d, h1, h2, h3⟩ := h.other i z e hz
    refine ⟨d, h1, fun q u hu => ?_, RCX_mono _ _ _ _ (k3 ik2) (RCX_mono _ _ _ _ (cfS_keep (fun b hb hne _ => hg.block b hb fun e => hne e.symm) (fun b hb e => (hn b e).resolve_right (by omega))) h3)⟩
    have hq : q < 3 := by rw [← h1]; exact (List.getElem?_eq_some_iff.1 hu).1
    rw [List.getElem?_set_ne (by omega)]; exact h2 q u hu
  · rw [List.getElem?_set_self hkl] at hz
    obtain rfl := Option.some.inj hz
    refine ⟨fun q u hu => ?_, m2, m3, o4, hr.mono RPX_mono k3F⟩
    match q, hu with
    | 0, hu => rw [List.getElem?_set_ne (by omega)]; exact m1 0 u hu
    | 1, hu => rw [List.getElem?_set_ne (by omega)]; exact m1 1 u hu
    | 2, hu => rw [List.getElem?_set_self (by omega)]; exact hu
    | q + 3, hu => simp at hu
  · rw [List.getElem?_set_self hkl] at e; cases e
structure PR (w W0 wr : World) (sl : Value) (acc : List CX) (cs : List Value) (ik : Value) (ics : List Value) (j : Nat) : Prop where
  bel : Below (w.heap.size + 1 + 1) W0 wr
  box : wr.heap[w.heap.size + 1 + 1]? = some (.cells #[sl] 31 (0, 0))
  oc : ROwnCat w.heap.size (w.heap.size + 3) (acc.length - 1) wr sl acc cs ik ics
  len : acc.length ≤ j
  ixl : ∀ x ∈ acc, x.ixs.length ≤ j
  sml : SmallC acc
theorem PR.quiet {w W0 wr wn : World} {sl : Value} {acc : List CX} {cs : List Value} {ik : Value} {ics : List Value} {j : Nat} (h : PR w W0 wr sl acc cs ik ics j) (hb : Below wr.heap.size wr wn) : PR w W0 wn sl acc cs ik ics j :=
  ⟨h.bel.trans (hb.mono (Nat.le_of_lt (heap_lt h.box))), kept h.box hb, h.oc.quiet hb, h.len, h.ixl, h.sml⟩
theorem PR.low {w W0 wr : World} {sl : Value} {acc : List CX} {cs : List Value} {ik : Value} {ics : List Value} {j : Nat} (h : PR w W0 wr sl acc cs ik ics j) : (∀ g, sl.ownBlock = some g → w.heap.size + 3 ≤ g ∧ g < wr.heap.size) ∧ (∀ g, ik.ownBlock = some g → w.heap.size + 3 ≤ g ∧ g < wr.heap.size) := by
  refine ⟨fun g hg => h.oc.own.lt g hg, fun g hg => ?_⟩
  cases e : acc[acc.length - 1]? with
  | none => rw [h.oc.none e] at hg; cases hg
  | some y => exact (h.oc.mine y e).2.2.2.1.lt g hg
theorem PR.two {w W0 wr w9 wA : World} {sl sl2 : Value} {acc : List CX} {cs : List Value} {ik : Value} {ics : List Value} {j : Nat} (h : PR w W0 wr sl acc cs ik ics j) (hb : Below wr.heap.size wr w9) (hg : w9.grownBy wA sl.ownBlock) {nm : ByteArray} {sp : Int} (hn : nm.size ≤ 9223372036854775807) (hs : (Lit.int .i64 sp).wf = true)
    (ho : wA.ownsRow (w.heap.size + 3) 77 3 sl2 (acc.length + 1) (cs ++ [.string nm, .int .i64 sp, nilS])) :
    PR w W0 (wA.setCell ⟨w.heap.size + 1 + 1, 0, none⟩ sl2) sl2 (acc ++ [⟨nm, sp, []⟩]) (cs ++ [.string nm, .int .i64 sp, nilS]) nilS [] (j + 1) := by
  have h9 := h.quiet hb
  have hlow := h9.oc.own.lt
  have hk : wA.heap[w.heap.size + 1 + 1]? = some (.cells #[sl] 31 (0, 0)) := by
    rw [hg.block _ (heap_lt h9.box) (fun e => by have := (hlow _ e.symm).1; omega)]; exact h9.box
  have hl : (acc ++ [CX.mk nm sp []]).length - 1 = acc.length := by simp
  refine ⟨(h9.bel.grown hg (Nat.le_of_lt (heap_lt h9.box)) (fun g e => by have := (hlow g e).1; omega)).setCell (p := ⟨w.heap.size + 1 + 1, 0, none⟩) (Nat.le_refl _) _, ?_, ?_, by rw [List.length_append]; exact Nat.succ_le_succ h.len, fun x hx => ?_, fun x hx => ?_⟩
  · have := set_self (o := 0) (c := sl2) hk
    simpa using this
  · rw [hl]
    exact (rowncat_newLast h9.oc hg hn hs ho).but hk (by omega) (grownZ_set _ _ _ _)
  · rcases List.mem_append.1 hx with hx | hx
    · exact Nat.le_succ_of_le (h.ixl x hx)
    · rw [List.mem_singleton.1 hx]; exact Nat.zero_le _
  · rcases List.mem_append.1 hx with hx | hx
    · exact h.sml x hx
    · rw [List.mem_singleton.1 hx]; intro p hp; simp at hp
theorem PR.three {w W0 wr w9 wA : World} {g cap m : Nat} {acc : List CX} {cs : List Value} {ik ik2 : Value} {ics : List Value} {j : Nat} {y : CX} (h : PR w W0 wr (.slice (some ⟨g, 0, Option.none⟩) acc.length cap) acc cs ik ics j) (hb : Below wr.heap.size wr w9) (hm : acc.length = m + 1) (hy : acc[m]? = some y) (hg : w9.grownBy wA ik.ownBlock) (hn : ∀ b, ik2.ownBlock = some b → ik.ownBlock = some b ∨ w9.heap.size ≤ b)
    {p : PX} {fa : Option Addr} {fcap N : Nat} (hpn : p.ix.name.size ≤ 9223372036854775807) (hps : (Lit.int .i64 p.sp).wf = true) (hpf : ∀ f ∈ p.ix.fields, f.1.size ≤ 1000000) (hfo : w9.ownsRow N 116 2 (.slice fa p.ix.fields.length fcap) p.ix.fields.length (fcells p.ix.fields))
    (ho : wA.ownsRow (w.heap.size + 3) 79 4 ik2 (y.ixs.length + 1) (ics ++ [.string p.ix.name, .slice fa p.ix.fields.length fcap, .bool p.ix.uniq, .int .i64 p.sp])) :
    PR w W0 (wA.setCell ⟨g, m * 3 + 2, Option.none⟩ ik2) (.slice (some ⟨g, 0, Option.none⟩) (acc.set m ⟨y.name, y.sp, y.ixs ++ [p]⟩).length cap) (acc.set m ⟨y.name, y.sp, y.ixs ++ [p]⟩) (cs.set (m * 3 + 2) ik2) ik2 (ics ++ [.string p.ix.name, .slice fa p.ix.fields.length fcap, .bool p.ix.uniq, .int .i64 p.sp]) (j + 1) := by
  have h9 := h.quiet hb
  have hm1 : acc.length - 1 = m := by omega
  have hoc := h9.oc
  rw [hm1] at hoc
  obtain ⟨_, _, _, m4, m5⟩ := hoc.mine y hy
  have hfA : wA.ownsRow N 116 2 (.slice fa p.ix.fields.length fcap) p.ix.fields.length (fcells p.ix.fields) := hfo.kept hg (own_blocks m4 hfo (by decide))
  have hkF : CLe (cfS w.heap.size okRF nilS w9) (cfS w.heap.size okRF nilS wA) := cfS_keep (fun b hb _ hc => hg.block b hb fun e => by
    obtain ⟨h1, h2⟩ := own_isT m4 okRF b e.symm
    rcases hc with h3 | h3
    · omega
    · rw [h2] at h3; cases h3) (fun b _ e => e)
  have hrow : GRow 4 RPX (cfS w.heap.size okRF nilS wA) (y.ixs ++ [p]) (ics ++ [.string p.ix.name, .slice fa p.ix.fields.length fcap, .bool p.ix.uniq, .int .i64 p.sp]) :=
    (m5.mono RPX_mono hkF).snoc rfl ⟨fa, fcap, rfl, hpn, sat_fieldsAt (sat_of_own hfA (grow_fcells _ (fun f hf => by have := hpf f hf; omega)) (fun q j u hq hu => by
      unfold cfS
      rw [if_pos ⟨by simp [Value.ownBlock], .inr (by rw [(own_isT hfA okRF q hq).2]; rfl)⟩]; exact hu)), hps⟩
  obtain ⟨hA, gA⟩ := rowncat_addIx hoc hy hg hn (xs2 := y.ixs ++ [p]) (by rw [List.length_append]; exact ho) hrow
  have hgl := h9.low
  have hgg := (hgl.1 g rfl).1
  have hk : wA.heap[w.heap.size + 1 + 1]? = some (.cells #[.slice (some ⟨g, 0, Option.none⟩) acc.length cap] 31 (0, 0)) := by
    rw [hg.block _ (heap_lt h9.box) (fun e => by have := (hgl.2 _ e.symm).1; omega)]; exact h9.box
  have hl : (acc.set m (CX.mk y.name y.sp (y.ixs ++ [p]))).length = acc.length := by simp
  have hset : ∀ x ∈ acc.set m (CX.mk y.name y.sp (y.ixs ++ [p])), x ∈ acc ∨ x = CX.mk y.name y.sp (y.ixs ++ [p]) := fun x hx => List.mem_or_eq_of_mem_set hx
  have hym := List.mem_of_getElem? hy
  refine ⟨(h9.bel.grown hg (Nat.le_of_lt (heap_lt h9.box)) (fun g e => by have := (hgl.2 g e).1; omega)).setCell (p := ⟨g, m * 3 + 2, Option.none⟩) (by show w.heap.size + 1 + 1 ≤ g; omega) _, ?_, ?_, ?_, fun x hx => ?_, fun x hx => ?_⟩
  · rw [hl, Below.heap_setCell _ _ _ _ (show w.heap.size + 1 + 1 ≠ g by omega)]; exact hk
  · rw [hl, hm1]; exact hA
  · rw [hl]; exact Nat.le_succ_of_le h.len
  · rcases hset x hx with hx | rfl
    · exact Nat.le_succ_of_le (h.ixl x hx)
    · rw [List.length_append]; exact Nat.succ_le_succ (h.ixl y hym)
  · rcases hset x hx with hx | rfl
    · exact h.sml x hx
    · intro q hq
      rcases List.mem_append.1 hq with hq | hq
      · exact h.sml y hym q hq
      · rw [List.mem_singleton.1 hq]; exact hpf
end Go.Proofs.YtfpphpjobkhalaaGreatDoor
