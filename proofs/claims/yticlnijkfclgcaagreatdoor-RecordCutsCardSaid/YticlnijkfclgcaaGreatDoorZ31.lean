/- Catalogs: memory by the kinds of its blocks; a catalog of one's own, of whose indexes one row is one's own too. -/
import Derived.Test.YticlnijkfclgcaaGreatDoorZ30
namespace Go.Proofs.YticlnijkfclgcaaGreatDoor
open Go.Shelf Go.RowKit

/-- is a block one of cells of these types? -/
def isT (ok : TypeId → Bool) (w : World) (b : Nat) : Bool := match w.heap[b]? with
  | some (.cells _ T _) => ok T
  | _ => false
/-- the blocks below B and those of these types, but for a row's own -/
def cfS (B : Nat) (ok : TypeId → Bool) (ex : Value) (w : World) : CF := fun b o => if ex.ownBlock ≠ some b ∧ (b < B ∨ isT ok w b = true) then w.cell? ⟨b, o, none⟩ else none
def okF (t : TypeId) : Bool := t == 112
def okFP (t : TypeId) : Bool := t == 112 || t == 85
abbrev nilS : Value := .slice none 0 0
theorem cfS_keep {B : Nat} {ok : TypeId → Bool} {ex ex' : Value} {w w' : World} (hk : ∀ b, b < w.heap.size → ex.ownBlock ≠ some b → (b < B ∨ isT ok w b = true) → w'.heap[b]? = w.heap[b]?) (hex : ∀ b, b < w.heap.size → ex'.ownBlock = some b → ex.ownBlock = some b) : CLe (cfS B ok ex w) (cfS B ok ex' w') := fun b o u h => by
  unfold cfS at h ⊢
  split at h
  · rename_i hc
    have hlt := lt_of_cell h
    have hb := hk b hlt hc.1 hc.2
    rw [if_pos ⟨fun e => hc.1 (hex b hlt e), hc.2.imp id (fun h2 => by unfold isT at h2 ⊢; rw [hb]; exact h2)⟩, World.cell?_of_block hb]; exact h
  · cases h
theorem cfS_cf (B : Nat) (ok : TypeId → Bool) (ex : Value) (w : World) : CLe (cfS B ok ex w) (cf w) := fun b o u h => by
  unfold cfS at h
  split at h
  · exact h
  · cases h
theorem cfS_nil {B : Nat} {ok : TypeId → Bool} {ex : Value} {w : World} : CLe (cfS B ok ex w) (cfS B ok nilS w) := fun b o u h => by
  unfold cfS at h ⊢
  split at h
  · rename_i hc; rw [if_pos ⟨by simp [Value.ownBlock], hc.2⟩]; exact h
  · cases h
theorem cfS_sub {B : Nat} {ik : Value} {w : World} (hik : ∀ g, ik.ownBlock = some g → B ≤ g ∧ isT okF w g = false) : CLe (cfS B okF nilS w) (cfS B okFP ik w) := fun b o u h => by
  unfold cfS at h ⊢
  split at h
  · rename_i hc
    have hA : ik.ownBlock ≠ some b := fun e => by
      obtain ⟨h1, h2⟩ := hik b e
      rcases hc.2 with h3 | h3
      · omega
      · rw [h2] at h3; cases h3
    have hB : isT okF w b = true → isT okFP w b = true := fun h2 => by
      unfold isT at h2 ⊢
      revert h2
      cases w.heap[b]? with
      | none => exact id
      | some o => cases o <;> first | exact id | (intro h2; simp only at h2 ⊢; unfold okF at h2; unfold okFP; rw [h2]; rfl)
    rw [if_pos ⟨hA, hc.2.imp id hB⟩]; exact h
  · cases h
theorem own_isT {B n p : Nat} {T : TypeId} {w : World} {sl : Value} {cs : List Value} (h : w.ownsRow B T n sl p cs) (ok : TypeId → Bool) : ∀ g, sl.ownBlock = some g → B ≤ g ∧ isT ok w g = ok T := fun g hg => by
  rcases h.2 with ⟨hv, _⟩ | ⟨g2, cap, cur, hv, hb, hgg, _⟩
  · rw [hv] at hg; cases hg
  · rw [hv] at hg
    have e := Option.some.inj hg
    simp only at e
    subst e
    exact ⟨hb, by unfold isT; rw [hgg]⟩
theorem own_ne {B n p k : Nat} {T T' : TypeId} {w : World} {sl : Value} {cs : List Value} {vs : Array Value} {s : Nat × Nat} (h : w.ownsRow B T n sl p cs) (hk : w.heap[k]? = some (.cells vs T' s)) (hne : T' ≠ T) : ∀ g, sl.ownBlock = some g → k ≠ g := fun g hg e => by
  subst e
  rcases h.2 with ⟨hv, _⟩ | ⟨g2, cap, cur, hv, hb, hgg, _⟩
  · rw [hv] at hg; cases hg
  · rw [hv] at hg
    have e := Option.some.inj hg
    simp only at e
    rw [← e, hgg] at hk
    injection hk with hk
    injection hk with _ h2
    exact hne h2.symm
theorem own_blocks {B n p B' n' p' : Nat} {T T' : TypeId} {w : World} {sl sv : Value} {cs cs' : List Value} (h : w.ownsRow B T n sl p cs) (h' : w.ownsRow B' T' n' sv p' cs') (hne : T' ≠ T) : sv.ownBlock = none ∨ sv.ownBlock ≠ sl.ownBlock := by
  rcases h'.2 with ⟨hv, _⟩ | ⟨g2, cap, cur, hv, hb, hgg, _⟩
  · exact .inl (by rw [hv]; rfl)
  · refine .inr fun e => ?_
    exact own_ne h hgg hne g2 (by rw [← e, hv]; rfl) rfl
/-- a row that is owned, read in a memory that has its block -/
theorem sat_of_own {α : Type} {n B : Nat} {R : Rep α} {T : TypeId} {w : World} {c : CF} {sl : Value} {xs : List α} {cs : List Value} (h : w.ownsRow B T n sl xs.length cs) (hr : GRow n R c xs cs) (hc : ∀ g j u, sl.ownBlock = some g → w.cell? ⟨g, j, none⟩ = some u → c g j = some u) : SAt n R c sl xs := by
  rcases id h.2 with ⟨hv, hn⟩ | ⟨g, cap, cur, hv, hb, _, hle, hcap, _⟩
  · obtain rfl : xs = [] := List.length_eq_zero_iff.1 hn
    exact ⟨none, 0, hv, Nat.le_refl _, by decide, fun i s h => by simp at h⟩
  · refine ⟨some ⟨g, 0, none⟩, cap, hv, hle, by unfold maxLen at hcap; omega, fun i x hi => ?_⟩
    obtain ⟨d, h1, h2, h3⟩ := hr.2 i x hi
    refine ⟨g, 0, d, rfl, h1, fun j u hu => ?_, h3⟩
    have := h.cells (g := g) (by rw [hv]; rfl) (i * n + j) u (h2 j u hu)
    rw [addr_at] at this
    rw [Nat.zero_add]
    exact hc g _ u (by rw [hv]; rfl) this
/-- a catalog of one's own: a row of collections, and the row of indexes of the k-th; the others read neither -/
structure OwnCat (B N k : Nat) (w : World) (sl : Value) (l : List CX) (cs : List Value) (ik : Value) (ics : List Value) : Prop where
  own : w.ownsRow N 78 3 sl l.length cs
  other : ∀ (i : Nat) y, i ≠ k → l[i]? = some y → ∃ d, d.length = 3 ∧ (∀ (q : Nat) u, d[q]? = some u → cs[i * 3 + q]? = some u) ∧ RCX (cfS B okFP ik w) y d
  mine : ∀ y, l[k]? = some y → (∀ (q : Nat) u, [Value.string y.name, .int .i64 y.sp, ik][q]? = some u → cs[k * 3 + q]? = some u) ∧ y.name.size ≤ 9223372036854775807 ∧ (Lit.int .i64 y.sp).wf = true ∧ w.ownsRow N 85 4 ik y.ixs.length ics ∧ GRow 4 RPX (cfS B okF nilS w) y.ixs ics
  none : l[k]? = Option.none → ik = nilS
  bn : B ≤ N
  le : N ≤ w.heap.size
theorem OwnCat.start {B N k : Nat} {w : World} (hb : B ≤ N) (h : N ≤ w.heap.size) : OwnCat B N k w nilS [] [] nilS [] := ⟨World.ownsRow_nil _ _ _ _, fun i y _ h => by simp at h, fun y h => by simp at h, fun _ => rfl, hb, h⟩
theorem OwnCat.ikb {B N k : Nat} {w : World} {sl : Value} {l : List CX} {cs : List Value} {ik : Value} {ics : List Value} (h : OwnCat B N k w sl l cs ik ics) : ∀ g, ik.ownBlock = some g → B ≤ g ∧ g < w.heap.size ∧ isT okF w g = false := fun g hg => by
  cases e : l[k]? with
  | none => rw [h.none e] at hg; cases hg
  | some y =>
    have h1 := (h.mine y e).2.2.2.1
    have := own_isT h1 okF g hg
    exact ⟨Nat.le_trans h.bn this.1, (h1.lt g hg).2, by rw [this.2]; rfl⟩
/-- the row was handed on, perhaps into a new block, or all stands -/
theorem OwnCat.turn {B N k : Nat} {w w' : World} {sl : Value} {l : List CX} {cs : List Value} {ik : Value} {ics : List Value} (h : OwnCat B N k w sl l cs ik ics) (hg : w.grownBy w' sl.ownBlock) :
    (∀ (i : Nat) y, i ≠ k → l[i]? = some y → ∃ d, d.length = 3 ∧ (∀ (q : Nat) u, d[q]? = some u → cs[i * 3 + q]? = some u) ∧ RCX (cfS B okFP ik w') y d) ∧
    (∀ y, l[k]? = some y → w'.ownsRow N 85 4 ik y.ixs.length ics ∧ GRow 4 RPX (cfS B okF nilS w') y.ixs ics) ∧ N ≤ w'.heap.size := by
  have hbn := h.bn
  have hk : ∀ ok : TypeId → Bool, ok 78 = false → ∀ b, b < w.heap.size → (b < B ∨ isT ok w b = true) → w'.heap[b]? = w.heap[b]? := fun ok hok b hb hc => by
    refine hg.block b hb fun e => ?_
    obtain ⟨h1, h2⟩ := own_isT h.own ok b e.symm
    rcases hc with h3 | h3
    · omega
    · rw [h2, hok] at h3; cases h3
  refine ⟨fun i y hi hy => ?_, fun y hy => ?_, Nat.le_trans h.le hg.size⟩
  · obtain ⟨d, h1, h2, h3⟩ := h.other i y hi hy
    exact ⟨d, h1, h2, RCX_mono _ _ _ _ (cfS_keep (fun b hb _ hc => hk okFP (by decide) b hb hc) (fun b _ e => e)) h3⟩
  · obtain ⟨_, _, _, h1, h2⟩ := h.mine y hy
    exact ⟨h1.kept hg (own_blocks h.own h1 (by decide)), h2.mono RPX_mono (cfS_keep (fun b hb _ hc => hk okF (by decide) b hb hc) (fun b _ e => e))⟩
theorem OwnCat.quiet {B N k : Nat} {w w' : World} {sl : Value} {l : List CX} {cs : List Value} {ik : Value} {ics : List Value} (h : OwnCat B N k w sl l cs ik ics) (hb : Below w.heap.size w w') : OwnCat B N k w' sl l cs ik ics := by
  have hg : ∀ b, w.grownBy w' b := fun b => ⟨hb.os, hb.tape, hb.output, hb.size, fun q hq _ => hb.block q hq⟩
  obtain ⟨t1, t2, t3⟩ := h.turn (hg _)
  refine ⟨h.own.kept (row := Option.none) (hg _) (by cases sl.ownBlock <;> simp), t1, fun y hy => ?_, h.none, h.bn, t3⟩
  obtain ⟨h1, h2, h3, _⟩ := h.mine y hy
  exact ⟨h1, h2, h3, t2 y hy⟩
/-- a further collection, whose row of indexes is one's own and lies behind all -/
theorem OwnCat.snoc {B N k : Nat} {w w1 w2 : World} {sl sl2 : Value} {l : List CX} {cs : List Value} {ik : Value} {ics : List Value} (h : OwnCat B N k w sl l cs ik ics) (hb : Below w.heap.size w w1) (hg : w1.grownBy w2 sl.ownBlock) {x : CX} {sv : Value} {jcs : List Value}
    (hn : x.name.size ≤ 9223372036854775807) (hs : (Lit.int .i64 x.sp).wf = true) (hsv : w1.ownsRow w.heap.size 85 4 sv x.ixs.length jcs) (hr : GRow 4 RPX (cfS B okF nilS w1) x.ixs jcs) (ho : w2.ownsRow N 78 3 sl2 (l.length + 1) (cs ++ [.string x.name, .int .i64 x.sp, sv])) :
    ∃ ik2 ics2, OwnCat B N k w2 sl2 (l ++ [x]) (cs ++ [.string x.name, .int .i64 x.sp, sv]) ik2 ics2 := by
  have hq := h.quiet hb
  obtain ⟨t1, t2, t3⟩ := hq.turn hg
  have hbn := h.bn
  have hcl := h.own.1
  have hle1 := hb.size
  have hown : w2.ownsRow N 78 3 sl2 (l ++ [x]).length (cs ++ [.string x.name, .int .i64 x.sp, sv]) := by rw [List.length_append]; exact ho
  have hsvB := hsv.lt
  have hB := h.le
  have hsv2 : w2.ownsRow N 85 4 sv x.ixs.length jcs := by
    have := hsv.kept hg (own_blocks hq.own hsv (by decide))
    rcases this with ⟨h1, h2 | ⟨g, cap, cur, h3, h4, h5⟩⟩
    · exact ⟨h1, .inl h2⟩
    · exact ⟨h1, .inr ⟨g, cap, cur, h3, by omega, h5⟩⟩
  have hr2 : GRow 4 RPX (cfS B okF nilS w2) x.ixs jcs := hr.mono RPX_mono (cfS_keep (fun b hb _ hc => hg.block b hb fun e => by
    obtain ⟨h1, h2⟩ := own_isT hq.own okF b e.symm
    rcases hc with h3 | h3
    · omega
    · rw [h2] at h3; cases h3) (fun b _ e => e))
  have hold : ∀ (ik' : Value), CLe (cfS B okFP ik w2) (cfS B okFP ik' w2) → ∀ (i : Nat) y, i ≠ k → l[i]? = some y → ∃ d, d.length = 3 ∧ (∀ (q : Nat) u, d[q]? = some u → (cs ++ [.string x.name, .int .i64 x.sp, sv])[i * 3 + q]? = some u) ∧ RCX (cfS B okFP ik' w2) y d := fun ik' hc i y hi hy => by
    obtain ⟨d, h1, h2, h3⟩ := t1 i y hi hy
    refine ⟨d, h1, fun q u hu => ?_, RCX_mono _ _ _ _ hc h3⟩
    have := h2 q u hu
    rw [List.getElem?_append_left (List.getElem?_eq_some_iff.1 this).1]; exact this
  have hnew : ∀ (q : Nat) u, [Value.string x.name, .int .i64 x.sp, sv][q]? = some u → (cs ++ [.string x.name, .int .i64 x.sp, sv])[l.length * 3 + q]? = some u := fun q u hu => by
    rw [List.getElem?_append_right (by omega), hcl, Nat.add_sub_cancel_left]; exact hu
  by_cases hk : k = l.length
  · subst hk
    refine ⟨sv, jcs, hown, fun i y hi hy => ?_, fun y hy => ?_, fun e => ?_, h.bn, t3⟩
    · have hlt : i < l.length := by have := (List.getElem?_eq_some_iff.1 hy).1; rw [List.length_append, List.length_singleton] at this; omega
      rw [List.getElem?_append_left hlt] at hy
      have e0 : ik = nilS := h.none (List.getElem?_eq_none (Nat.le_refl _))
      obtain ⟨d, h1, h2, h3⟩ := h.other i y hi hy
      refine ⟨d, h1, fun q u hu => ?_, RCX_mono _ _ _ _ (cfS_keep (ex' := sv) (fun b hb2 _ hc => ?_) (fun b hb e => by have := (hsvB b e).1; omega)) h3⟩
      · have := h2 q u hu
        rw [List.getElem?_append_left (List.getElem?_eq_some_iff.1 this).1]; exact this
      · rw [hg.block b (by omega) fun e => ?_, hb.block b hb2]
        obtain ⟨h1, h2⟩ := own_isT h.own okFP b e.symm
        rcases hc with h3 | h3
        · omega
        · rw [h2] at h3; cases h3
    · rw [List.getElem?_append_right (Nat.le_refl _), Nat.sub_self] at hy
      obtain rfl := Option.some.inj hy
      exact ⟨hnew, hn, hs, hsv2, hr2⟩
    · rw [List.getElem?_append_right (Nat.le_refl _), Nat.sub_self] at e; cases e
  · have hne : ∀ g, sv.ownBlock = some g → ik.ownBlock ≠ some g := fun g hg e => by
      have h1 := (hsvB g hg).1
      have h2 := (h.ikb g e).2.1
      omega
    refine ⟨ik, ics, hown, fun i y hi hy => ?_, fun y hy => ?_, fun e => ?_, h.bn, t3⟩
    · by_cases hlt : i < l.length
      · rw [List.getElem?_append_left hlt] at hy
        exact hold ik (fun _ _ _ h => h) i y hi hy
      · have hi2 : i = l.length := by have := (List.getElem?_eq_some_iff.1 hy).1; rw [List.length_append, List.length_singleton] at this; omega
        subst hi2
        rw [List.getElem?_append_right (Nat.le_refl _), Nat.sub_self] at hy
        obtain rfl := Option.some.inj hy
        have hsat : SAt 4 RPX (cfS B okFP ik w2) sv x.ixs := sat_of_own hsv2 (hr2.mono RPX_mono (cfS_sub fun g hg => by
          have h1 := h.ikb g hg
          refine ⟨h1.1, ?_⟩
          have h2 := own_isT (hq.own) okF
          cases e : l[k]? with
          | none => rw [h.none e] at hg; cases hg
          | some y => rw [(own_isT (t2 y e).1 okF g hg).2]; rfl)) (fun g j u hg2 hu => by
            unfold cfS
            rw [if_pos ⟨hne g hg2, .inr (by rw [(own_isT hsv2 okFP g hg2).2]; rfl)⟩]; exact hu)
        obtain ⟨a, cap, e, h1⟩ := id hsat
        exact ⟨_, rfl, hnew, a, cap, by rw [e], hn, hs, by rw [← e]; exact hsat⟩
    · have hlt : k < l.length := by have := (List.getElem?_eq_some_iff.1 hy).1; rw [List.length_append, List.length_singleton] at this; omega
      rw [List.getElem?_append_left hlt] at hy
      obtain ⟨h1, h2, h3, _⟩ := h.mine y hy
      refine ⟨fun q u hu => ?_, h2, h3, t2 y hy⟩
      have := h1 q u hu
      rw [List.getElem?_append_left (List.getElem?_eq_some_iff.1 this).1]; exact this
    · exact h.none (List.getElem?_eq_none (by
        have := List.getElem?_eq_none_iff.1 e
        rw [List.length_append, List.length_singleton] at this; omega))
/-- all collections of it -/
theorem OwnCat.rows {B N k : Nat} {w : World} {sl : Value} {l : List CX} {cs : List Value} {ik : Value} {ics : List Value} (h : OwnCat B N k w sl l cs ik ics) : GRow 3 RCX (cfS B okFP nilS w) l cs := by
  refine ⟨h.own.1, fun i y hy => ?_⟩
  by_cases hi : i = k
  · subst hi
    obtain ⟨h1, h2, h3, h4, h5⟩ := h.mine y hy
    have hsat : SAt 4 RPX (cfS B okFP nilS w) ik y.ixs := sat_of_own h4 (h5.mono RPX_mono (cfS_sub fun g hg => by cases hg)) (fun g j u hg2 hu => by
      unfold cfS
      rw [if_pos ⟨by simp [Value.ownBlock], .inr (by rw [(own_isT h4 okFP g hg2).2]; rfl)⟩]; exact hu)
    obtain ⟨a, cap, e, _⟩ := id hsat
    exact ⟨_, rfl, h1, a, cap, by rw [e], h2, h3, by rw [← e]; exact hsat⟩
  · obtain ⟨d, h1, h2, h3⟩ := h.other i y hi hy
    exact ⟨d, h1, h2, RCX_mono _ _ _ _ cfS_nil h3⟩
/-- a box was written -/
theorem OwnCat.but {B N k c : Nat} {w w' : World} {sl : Value} {l : List CX} {cs : List Value} {ik : Value} {ics : List Value} {vs : Array Value} {s : Nat × Nat} (h : OwnCat B N k w sl l cs ik ics) (hc : w.heap[c]? = some (.cells vs 63 s)) (hB : B ≤ c) (hg : w.grownBy w' (some c)) : OwnCat B N k w' sl l cs ik ics := by
  have hk : ∀ ok : TypeId → Bool, ok 63 = false → ∀ b, b < w.heap.size → (b < B ∨ isT ok w b = true) → w'.heap[b]? = w.heap[b]? := fun ok hok b hb h2 => by
    refine hg.block b hb fun e => ?_
    obtain rfl := Option.some.inj e
    rcases h2 with h3 | h3
    · omega
    · unfold isT at h3; rw [hc] at h3; simp only at h3; rw [hok] at h3; cases h3
  have hrow : ∀ {n p : Nat} {T : TypeId} {sv : Value} {ds : List Value}, w.ownsRow N T n sv p ds → 63 ≠ T → w'.ownsRow N T n sv p ds := fun {n p T sv ds} h1 hne => h1.kept hg (by
    cases e : sv.ownBlock with
    | none => exact .inl rfl
    | some g => exact .inr (fun e2 => own_ne h1 hc hne g e (Option.some.inj e2).symm))
  refine ⟨hrow h.own (by decide), fun i y hi hy => ?_, fun y hy => ?_, h.none, h.bn, Nat.le_trans h.le hg.size⟩
  · obtain ⟨d, h1, h2, h3⟩ := h.other i y hi hy
    exact ⟨d, h1, h2, RCX_mono _ _ _ _ (cfS_keep (fun b hb _ hc => hk okFP (by decide) b hb hc) (fun b _ e => e)) h3⟩
  · obtain ⟨h1, h2, h3, h4, h5⟩ := h.mine y hy
    exact ⟨h1, h2, h3, hrow h4 (by decide), h5.mono RPX_mono (cfS_keep (fun b hb _ hc => hk okF (by decide) b hb hc) (fun b _ e => e))⟩
end Go.Proofs.YticlnijkfclgcaaGreatDoor
