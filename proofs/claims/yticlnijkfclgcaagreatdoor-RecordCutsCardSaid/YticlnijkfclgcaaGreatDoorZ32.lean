/- Indexes: an index as the reference has it (plain of the law). -/
import Derived.Test.YticlnijkfclgcaaGreatDoorZ03
import Derived.Test.YticlnijkfclgcaaGreatDoorZ04
import Derived.Test.YticlnijkfclgcaaGreatDoorZ26
import Derived.Test.YticlnijkfclgcaaGreatDoorZ27
import Derived.Test.YticlnijkfclgcaaGreatDoorZ30
import Derived.Test.YticlnijkfclgcaaGreatDoorZ31
import Derived.Deep.AppendLies
import Derived.Deep.RegionLaw
import Derived.Lib.SliceRun
namespace Go.Proofs.YticlnijkfclgcaaGreatDoor
open Go.RowKit

/-- fields as cells -/
def fcells : List Fd → List Value
  | [] => []
  | p :: l => .string p.1 :: .bool p.2 :: fcells l
theorem fcells_snoc (p : Fd) : ∀ l, fcells (l ++ [p]) = fcells l ++ [.string p.1, .bool p.2]
  | [] => rfl
  | q :: l => by simp [fcells, fcells_snoc p l]
theorem fcells_len : ∀ l, (fcells l).length = l.length * 2
  | [] => rfl
  | q :: l => by simp [fcells, fcells_len l]; omega
theorem fcells_at : ∀ (l : List Fd) (i : Nat) (p : Fd), l[i]? = some p → (fcells l)[i * 2]? = some (.string p.1) ∧ (fcells l)[i * 2 + 1]? = some (.bool p.2)
  | [], i, p, h => by simp at h
  | q :: l, 0, p, h => by simp at h; subst h; simp [fcells]
  | q :: l, i + 1, p, h => by
    have := fcells_at l i p (by simpa using h)
    rw [show (i + 1) * 2 = i * 2 + 1 + 1 by omega]
    simpa [fcells] using this
theorem fields_own_A {w : World} {B : Nat} {e : TypeId} {v : Value} {l : List Fd} (h : w.ownsRow B e 2 v l.length (fcells l)) (hs : ∀ p ∈ l, p.1.size ≤ 9223372036854775807) : FieldsAt (cfA B w) v l := by
  have h2 := h.2
  rcases h2 with ⟨hv, hn⟩ | ⟨g, cap, cur, hv, hb, _, hle, hcap, _⟩
  · obtain rfl : l = [] := List.length_eq_zero_iff.1 hn
    exact ⟨none, 0, hv, by simp, by simp, fun i s h => by simp at h⟩
  · refine ⟨some ⟨g, 0, none⟩, cap, hv, hle, by unfold maxLen at hcap; omega, fun i p hi => ⟨hs p (List.mem_of_getElem? hi), g, 0, rfl, ?_, ?_⟩⟩
    · have := h.cells (g := g) (by rw [hv]; rfl) (i * 2) (.string p.1) (fcells_at l i p hi).1
      rw [addr_at] at this
      unfold cfA; rw [Nat.zero_add, if_pos hb]; exact this
    · have := h.cells (g := g) (by rw [hv]; rfl) (i * 2 + 1) (.bool p.2) (fcells_at l i p hi).2
      rw [addr_at] at this
      unfold cfA; rw [Nat.zero_add, if_pos hb]; exact this
theorem fields_of_own {w : World} {B : Nat} {e : TypeId} {v : Value} {l : List Fd} (h : w.ownsRow B e 2 v l.length (fcells l)) (hs : ∀ p ∈ l, p.1.size ≤ 9223372036854775807) : FieldsAt (cf w) v l := (fields_own_A h hs).mono (cfA_le _ _)
theorem own_form2 {w : World} {B : Nat} {e : TypeId} {s : Nat} {v : Value} {n : Nat} {xs : List Value} (h : w.ownsRow B e s v n xs) : ∃ a cap, v = .slice a n cap := by
  rcases h.2 with ⟨hv, hn⟩ | ⟨g, cap, cur, hv, _⟩
  · exact ⟨none, 0, by rw [hv, hn]⟩
  · exact ⟨_, cap, hv⟩
theorem own_set {w : World} {B k o : Nat} {e : TypeId} {n sz : Nat} {v c : Value} {xs : List Value} (h : w.ownsRow B e sz v n xs) (hk : k < B) : (w.setCell ⟨k, o, none⟩ c).ownsRow B e sz v n xs := by
  obtain ⟨h1, h2⟩ := h
  refine ⟨h1, ?_⟩
  rcases h2 with h2 | ⟨g, cap, cur, hv, hb, hc, hrest⟩
  · exact .inl h2
  · exact .inr ⟨g, cap, cur, hv, hb, by rw [Below.heap_setCell _ _ _ _ (show g ≠ k by omega)]; exact hc, hrest⟩
abbrev zeroI : Array Value := #[.string ⟨#[]⟩, .slice none 0 0, .bool false]
end Go.Proofs.YticlnijkfclgcaaGreatDoor

/- Catalogs: own of the program. -/
namespace Go.Proofs.YticlnijkfclgcaaGreatDoor
open Go.Shelf Go.RowKit

theorem infoCX : (Tryz.prog.info? 78).map (fun i => (i.zero, i.size, i.bytes)) = some (some (.agg #[.string ⟨#[]⟩, .int .i64 0, .slice none 0 0]), 3, 48) := by kernel_rfl
theorem grownZ_below {w w' : World} {b : Option Nat} (k : Below w.heap.size w w') : w.grownBy w' b := ⟨k.os, k.tape, k.output, k.size, fun q hq _ => k.block q hq⟩
theorem grownZ_set (w : World) (g o : Nat) (v : Value) : w.grownBy (w.setCell ⟨g, o, none⟩ v) (some g) :=
  ⟨rfl, rfl, rfl, by simp, fun k _ hk => heap_setCell_other w ⟨g, o, none⟩ k v (fun e => hk (by simp [e]))⟩
theorem below_grownZ {B g : Nat} {w w' : World} (h : w.grownBy w' (some g)) (hg : B ≤ g) (hB : B ≤ w.heap.size) : Below B w w' :=
  ⟨h.os, h.tape, h.output, h.size, fun k hk => h.block k (by omega) (fun e => by injection e with e; omega)⟩
theorem own_shapeZ {B n p : Nat} {T : TypeId} {w : World} {sl : Value} {cs : List Value} (h : w.ownsRow B T n sl p cs) : ∃ a cap, sl = .slice a p cap := by
  rcases h.2 with ⟨hv, hn⟩ | ⟨g, cap, cur, hv, _⟩
  · exact ⟨none, 0, by rw [hv, hn]⟩
  · exact ⟨_, cap, hv⟩
theorem own_placeZ {B n p : Nat} {T : TypeId} {w : World} {a : Option Addr} {cap : Nat} {cs : List Value} (h : w.ownsRow B T n (.slice a p cap) p cs) (hp : 0 < p) : ∃ g, a = some ⟨g, 0, none⟩ := by
  rcases h.2 with ⟨hv, hn⟩ | ⟨g, cap, cur, hv, _⟩
  · omega
  · injection hv with h1; exact ⟨g, h1⟩
end Go.Proofs.YticlnijkfclgcaaGreatDoor

/- Catalogs: Create and Drop of the program (printed by genXCK.py). -/
namespace Go.Proofs.YticlnijkfclgcaaGreatDoor
open Go.Shelf Go.RowKit

abbrev namesC (l : List CX) : List ByteArray := l.map fun x => x.name
abbrev namesP (l : List PX) : List ByteArray := l.map fun x => x.ix.name
/-- what each of the four acts hands back -/
def CatPost (w : World) (r : List CX × Int) (e : Ending) (w' : World) : Prop := ∃ v', e = .returned (.tuple #[v', .int .i64 r.2]) ∧ CatAt (cf w') r.1 v' ∧ Below w.heap.size w w'
theorem cat_err {w w' : World} {r : List CX × Int} {n : Int} (h : r = ([], n)) (hb : Below w.heap.size w w') : CatPost w r (.returned (.tuple #[.agg #[.slice none 0 0], .int .i64 n])) w' := by
  subst h
  exact ⟨_, rfl, ⟨none, 0, rfl, SAt.none _ _ _⟩, hb⟩
theorem cat_ok {w w' : World} {r : List CX × Int} {l : List CX} {sl : Value} (h : r = (l, 0)) (hs : SAt 3 RCX (cf w') sl l) (hb : Below w.heap.size w w') : CatPost w r (.returned (.tuple #[.agg #[sl], .int .i64 0])) w' := by
  subst h
  obtain ⟨a, cap, e, _⟩ := id hs
  subst e
  exact ⟨_, rfl, ⟨a, cap, rfl, hs⟩, hb⟩
theorem sat_cat {B N : Nat} {w : World} {sl : Value} {l : List CX} {cs : List Value} (h : w.ownsRow N 78 3 sl l.length cs) (hr : GRow 3 RCX (cfS B okFP nilS w) l cs) : SAt 3 RCX (cf w) sl l :=
  sat_of_own h (hr.mono RCX_mono (cfS_cf _ _ _ _)) (fun _ _ _ _ h => h)
theorem box_keepS {B c : Nat} {w w' : World} {vs : Array Value} {s : Nat × Nat} (hc : w.heap[c]? = some (.cells vs 63 s)) (hB : B ≤ c) (hg : w.grownBy w' (some c)) : CLe (cfS B okFP nilS w) (cfS B okFP nilS w') :=
  cfS_keep (fun b hb _ h2 => hg.block b hb fun e => by
    obtain rfl := Option.some.inj e
    rcases h2 with h3 | h3
    · omega
    · unfold isT at h3; rw [hc] at h3; have h4 : okFP 63 = true := h3; exact absurd h4 (by decide)) (fun _ _ e => e)
theorem box_keepO {N n p c : Nat} {T : TypeId} {w w' : World} {sv : Value} {ds : List Value} {vs : Array Value} {s : Nat × Nat} (h1 : w.ownsRow N T n sv p ds) (hc : w.heap[c]? = some (.cells vs 63 s)) (hne : 63 ≠ T) (hg : w.grownBy w' (some c)) : w'.ownsRow N T n sv p ds := h1.kept hg (by
  cases e : sv.ownBlock with
  | none => exact .inl rfl
  | some g => exact .inr (fun e2 => own_ne h1 hc hne g e (Option.some.inj e2).symm))
theorem bsetZ {c o : Nat} {w w' : World} {v : Value} (h : Below w.heap.size w w') (hB : w.heap.size ≤ c) : Below w.heap.size w (w'.setCell ⟨c, o, none⟩ v) := h.trans (below_grownZ (grownZ_set _ _ _ _) hB h.size)
end Go.Proofs.YticlnijkfclgcaaGreatDoor

/- Catalogs: AddIndex of the program (printed by genXCL.py). -/
namespace Go.Proofs.YticlnijkfclgcaaGreatDoor
open Go.Shelf Go.RowKit

/-- at the end: the catalog is handed back -/
theorem sat_end {B N c : Nat} {w w' : World} {sl : Value} {l : List CX} {cs : List Value} {vs : Array Value} (h : w.ownsRow N 78 3 sl l.length cs) (hr : GRow 3 RCX (cfS B okFP nilS w) l cs) (hc : w.heap[c]? = some (.cells vs 63 (0, 0))) (hB : B ≤ c) (hg : w.grownBy w' (some c)) : SAt 3 RCX (cf w') sl l :=
  sat_cat (box_keepO h hc (by decide) hg) (hr.mono RCX_mono (box_keepS hc hB hg))
end Go.Proofs.YticlnijkfclgcaaGreatDoor

/- Catalogs: what comes of a formed catalog is formed (plain). -/
namespace Go.Proofs.YticlnijkfclgcaaGreatDoor
open Go.RowKit

theorem formX_iff {x : CX} : formX x = true ↔ nameF x.name = true ∧ x.ixs.length ≤ 4 ∧ upZ (namesP x.ixs) ∧ ∀ p ∈ x.ixs, formI p.ix = true := by
  unfold formX
  simp only [Bool.and_eq_true, decide_eq_true_eq, Bool.not_eq_true', List.any_eq_false, Bool.not_eq_false]
  constructor
  · rintro ⟨⟨⟨h1, h2⟩, h3⟩, h4⟩; exact ⟨h1, h2, rises_upZ h3, h4⟩
  · rintro ⟨h1, h2, h3, h4⟩; exact ⟨⟨⟨h1, h2⟩, up_risesZ h3⟩, h4⟩
theorem formC_iff {l : List CX} : formC l = true ↔ l.length ≤ 4 ∧ upZ (namesC l) ∧ (∀ x ∈ l, formX x = true) ∧ spacesOk (spacesC l) = true := by
  unfold formC
  simp only [Bool.and_eq_true, decide_eq_true_eq, List.all_eq_true]
  constructor
  · rintro ⟨⟨⟨h1, h2⟩, h3⟩, h4⟩; exact ⟨h1, rises_upZ h2, h3, h4⟩
  · rintro ⟨h1, h2, h3, h4⟩; exact ⟨⟨⟨h1, up_risesZ h2⟩, h3⟩, h4⟩
end Go.Proofs.YticlnijkfclgcaaGreatDoor

/- Catalogs: act and awake of the laws (printed by genXCQ.py). -/
namespace Go.Proofs.YticlnijkfclgcaaGreatDoor
open Go.Shelf Go.RowKit

/-- memory but for a block -/
def cfBQ (k : Nat) (w : World) : CF := fun b o => if b = k then none else cf w b o
theorem cfB_set {k o : Nat} {w : World} {v : Value} : CLe (cfBQ k w) (cf (w.setCell ⟨k, o, none⟩ v)) := fun b q u h => by
  unfold cfBQ at h
  split at h
  · cases h
  · rename_i hne
    unfold cf World.cell? at h ⊢
    rw [Below.heap_setCell _ _ _ _ hne]; exact h
/-- a box of one cell holds no row of greater elements -/
theorem sat_one {α : Type} {n k : Nat} {R : Rep α} {w : World} {T : TypeId} {s : Nat × Nat} {c sv : Value} {xs : List α} (hn : 2 ≤ n) (hk : w.heap[k]? = some (.cells #[c] T s)) (hR : ∀ x d, R (cf w) x d → R (cfBQ k w) x d) (h : SAt n R (cf w) sv xs) : SAt n R (cfBQ k w) sv xs := by
  obtain ⟨a, cap, e, h1, h2, h3⟩ := h
  refine ⟨a, cap, e, h1, h2, fun i x hx => ?_⟩
  obtain ⟨b, off, d, e2, h4, h5, h6⟩ := h3 i x hx
  have hb : b ≠ k := fun e => by
    subst e
    have := h5 1 _ (List.getElem?_eq_getElem (by omega))
    unfold cf World.cell? at this
    rw [hk] at this
    simp at this
  exact ⟨b, off, d, e2, h4, fun j u hu => by unfold cfBQ; rw [if_neg hb]; exact h5 j u hu, hR _ _ h6⟩
theorem fields_one {k : Nat} {w : World} {T : TypeId} {s : Nat × Nat} {c v : Value} {l : List Fd} (hk : w.heap[k]? = some (.cells #[c] T s)) (h : FieldsAt (cf w) v l) : FieldsAt (cfBQ k w) v l :=
  sat_fieldsAt (sat_one (by decide) hk (fun _ _ h => h) (fieldsAt_sat h))
theorem cat_one {k : Nat} {w : World} {T : TypeId} {s : Nat × Nat} {c v : Value} {l : List CX} (hk : w.heap[k]? = some (.cells #[c] T s)) (h : CatAt (cf w) l v) : CatAt (cfBQ k w) l v := by
  obtain ⟨a, cap, e, h1⟩ := h
  refine ⟨a, cap, e, sat_one (by decide) hk (fun x d h2 => ?_) h1⟩
  obtain ⟨xa, xcap, e1, e2, e3, h3⟩ := h2
  refine ⟨xa, xcap, e1, e2, e3, sat_one (by decide) hk (fun p d h4 => ?_) h3⟩
  obtain ⟨pa, pcap, g1, g2, g3, g4⟩ := h4
  exact ⟨pa, pcap, g1, g2, fields_one hk g3, g4⟩
theorem CatAt.set {k o : Nat} {w : World} {T : TypeId} {s : Nat × Nat} {c v u : Value} {l : List CX} (h : CatAt (cf w) l v) (hk : w.heap[k]? = some (.cells #[c] T s)) : CatAt (cf (w.setCell ⟨k, o, none⟩ u)) l v := (cat_one hk h).mono cfB_set
end Go.Proofs.YticlnijkfclgcaaGreatDoor

/- Catalogs: plain of the laws: a catalog as the reference has it (printed by genXCT.py). -/
namespace Go.Proofs.YticlnijkfclgcaaGreatDoor
open Go.Shelf Go.RowKit

theorem grow_fcells (c : CF) {l : List Fd} (hs : ∀ p ∈ l, p.1.size ≤ 9223372036854775807) : GRow 2 RFd c l (fcells l) :=
  ⟨fcells_len l, fun i p hi => ⟨[.string p.1, .bool p.2], rfl, fun j u hu => by
    obtain ⟨h0, h1⟩ := fcells_at l i p hi
    match j, hu with
    | 0, hu => rw [Nat.add_zero, h0]; exact hu
    | 1, hu => rw [h1]; exact hu
    | j + 2, hu => simp at hu, rfl, hs p (List.mem_of_getElem? hi)⟩⟩
theorem cells_fourZ {w : World} {k : Nat} {a b c d : Value} {T : TypeId} {s : Nat × Nat} (h : w.heap[k]? = some (.cells #[a, b, c, d] T s)) : w.cell? ⟨k, 0, none⟩ = some a ∧ w.cell? ⟨k, 1, none⟩ = some b ∧ w.cell? ⟨k, 2, none⟩ = some c ∧ w.cell? ⟨k, 3, none⟩ = some d := by
  simp [World.cell?, h]
/-- the worlds in which all below B stands, and a box -/
def BoxTZ (B zb : Nat) (w : World) : Type := { w' : World // Below B w w' ∧ w'.heap[zb]? = w.heap[zb]? }
instance (B zb : Nat) (w : World) : Nonempty (BoxTZ B zb w) := ⟨⟨w, Below.refl _ w, rfl⟩⟩
theorem BoxTZ.cell {B zb : Nat} {w : World} {o : Nat} {v : Value} (h : w.cell? ⟨zb, o, none⟩ = some v) (e : BoxTZ B zb w) : e.val.cell? ⟨zb, o, none⟩ = some v := by
  rw [World.cell?_of_block (w := w) e.property.2]; exact h
def RTriv : Rep Unit := fun _ _ _ => True
theorem own_triv {B n p : Nat} {T : TypeId} {w : World} {sv : Value} {cs : List Value} (h : w.ownsRow B T n sv p cs) (hl : cs.length = p * n) (_hn : 0 < n) (hle : B ≤ w.heap.size) : OwnS n RTriv T B w sv p (List.replicate p ()) cs :=
  ⟨h, by simp, ⟨by simpa using hl, fun i _ hi => by
    have hij : i < p := by have := (List.getElem?_eq_some_iff.1 hi).1; simpa using this
    have hm : (i + 1) * n ≤ p * n := Nat.mul_le_mul_right _ hij
    rw [Nat.add_mul, Nat.one_mul] at hm
    refine ⟨(cs.drop (i * n)).take n, by rw [List.length_take, List.length_drop]; omega, fun q u hu => ?_, trivial⟩
    rw [List.getElem?_take] at hu
    split at hu
    · rw [List.getElem?_drop] at hu; exact hu
    · cases hu⟩, hle⟩
end Go.Proofs.YticlnijkfclgcaaGreatDoor
