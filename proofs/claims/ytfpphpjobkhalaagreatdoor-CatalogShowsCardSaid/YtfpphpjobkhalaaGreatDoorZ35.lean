/- Catalogs: AddIndex of the program (printed by genXCL.py). -/
import Derived.Test.YtfpphpjobkhalaaGreatDoorZ15
import Derived.Test.YtfpphpjobkhalaaGreatDoorZ17
import Derived.Test.YtfpphpjobkhalaaGreatDoorZ19
import Derived.Test.YtfpphpjobkhalaaGreatDoorZ34
namespace Go.Proofs.YtfpphpjobkhalaaGreatDoor
open Go.Shelf Go.RowKit

/-- at the end: the catalog is handed back -/
theorem sat_end {B N c : Nat} {w w' : World} {sl : Value} {l : List CX} {cs : List Value} {vs : Array Value} (h : w.ownsRow N 67 3 sl l.length cs) (hr : GRow 3 RCX (cfS B okFP nilS w) l cs) (hc : w.heap[c]? = some (.cells vs 24 (0, 0))) (hB : B ≤ c) (hg : w.grownBy w' (some c)) : SAt 3 RCX (cf w') sl l :=
  sat_cat (box_keepO h hc (by decide) hg) (hr.mono RCX_mono (box_keepS hc hB hg))
end Go.Proofs.YtfpphpjobkhalaaGreatDoor

/- Catalogs: what comes of a formed catalog is formed (plain). -/
namespace Go.Proofs.YtfpphpjobkhalaaGreatDoor
open Go.RowKit

theorem bytes_eq {a b : ByteArray} : (a.toList == b.toList) = true ↔ a = b := by
  rw [beq_iff_eq, ByteArray.toList_eq, ByteArray.toList_eq]
  exact ⟨fun h => tbZ_inj h, fun h => by rw [h]⟩
theorem nameIs_iff {s : ByteArray} {x : CX} : nameIs s x = true ↔ x.name = s := by unfold nameIs; exact bytes_eq
theorem spacesOk_iff {zs : List Int} : spacesOk zs = true ↔ zs.Nodup ∧ ∀ z ∈ zs, 1 ≤ z ∧ z ≤ 200 := by
  unfold spacesOk
  simp only [Bool.and_eq_true, decide_eq_true_eq, List.all_eq_true]
theorem formX_iff {x : CX} : formX x = true ↔ nameF x.name = true ∧ x.ixs.length ≤ 4 ∧ upZ (namesP x.ixs) ∧ ∀ p ∈ x.ixs, formI p.ix = true := by
  unfold formX
  simp only [Bool.and_eq_true, decide_eq_true_eq, Bool.not_eq_true', List.any_eq_false, Bool.not_eq_false]
  constructor
  · rintro ⟨⟨⟨h1, h2⟩, h3⟩, h4⟩; exact ⟨h1, h2, rises_upZ h3, h4⟩
  · rintro ⟨h1, h2, h3, h4⟩; exact ⟨⟨⟨h1, h2⟩, up_risesZ h3⟩, h4⟩
theorem formC_iff {l : List CX} : formC l = true ↔ l.length ≤ 4 ∧ upZ (namesC l) ∧ (∀ x ∈ l, formX x = true) ∧ spacesOk (spacesC l) = true := by
  unfold formC
  simp only [Bool.and_eq_true, decide_eq_true_eq, List.all_eq_true]
  constructor
  · rintro ⟨⟨⟨h1, h2⟩, h3⟩, h4⟩; exact ⟨h1, rises_upZ h2, h3, h4⟩
  · rintro ⟨h1, h2, h3, h4⟩; exact ⟨⟨⟨h1, up_risesZ h2⟩, h3⟩, h4⟩
theorem good_paths {all : List Fd} : ∀ {l : List Fd} {j : Nat}, goodF all j l = true → ∀ f ∈ l, pathOk f.1 = true
  | [], _, _, f, hf => by cases hf
  | g :: l, j, h, f, hf => by
    rw [goodF] at h
    simp only [Bool.and_eq_true] at h
    rcases List.mem_cons.1 hf with rfl | hf
    · exact h.1.1
    · exact good_paths h.2 f hf
theorem form_fields {x : IX} (h : formI x = true) : x.fields.length ≤ 3 ∧ ∀ f ∈ x.fields, f.1.size ≤ 24 := by
  unfold formI at h
  simp only [Bool.and_eq_true, decide_eq_true_eq] at h
  refine ⟨h.1.2.2, fun f hf => ?_⟩
  have h1 := good_paths h.2 f hf
  unfold pathOk simpleF at h1
  simp only [Bool.and_eq_true, decide_eq_true_eq] at h1
  exact h1.2.2
theorem small_form {l : List CX} (h : formC l = true) : SmallC l ∧ Sized l := by
  rw [formC_iff] at h
  refine ⟨fun x hx p hp f hf => ?_, by omega, fun x hx => ⟨?_, fun p hp => ?_⟩⟩
  · have := (form_fields ((formX_iff.1 (h.2.2.1 x hx)).2.2.2 p hp)).2 f hf; omega
  · have := (formX_iff.1 (h.2.2.1 x hx)).2.1; omega
  · have := (form_fields ((formX_iff.1 (h.2.2.1 x hx)).2.2.2 p hp)).1; omega
theorem form_nil : formC [] = true := by
  rw [formC_iff]
  exact ⟨by simp, List.Pairwise.nil, fun x hx => by (cases hx), by decide⟩
end Go.Proofs.YtfpphpjobkhalaaGreatDoor

/- Catalogs: act and awake of the laws (printed by genXCQ.py). -/
namespace Go.Proofs.YtfpphpjobkhalaaGreatDoor
open Go.Shelf Go.RowKit

/-- memory but for a block -/
def cfB (k : Nat) (w : World) : CF := fun b o => if b = k then none else cf w b o
theorem cfB_set {k o : Nat} {w : World} {v : Value} : CLe (cfB k w) (cf (w.setCell ⟨k, o, none⟩ v)) := fun b q u h => by
  unfold cfB at h
  split at h
  · cases h
  · rename_i hne
    unfold cf World.cell? at h ⊢
    rw [Below.heap_setCell _ _ _ _ hne]; exact h
/-- a box of one cell holds no row of greater elements -/
theorem sat_one {α : Type} {n k : Nat} {R : Rep α} {w : World} {T : TypeId} {s : Nat × Nat} {c sv : Value} {xs : List α} (hn : 2 ≤ n) (hk : w.heap[k]? = some (.cells #[c] T s)) (hR : ∀ x d, R (cf w) x d → R (cfB k w) x d) (h : SAt n R (cf w) sv xs) : SAt n R (cfB k w) sv xs := by
  obtain ⟨a, cap, e, h1, h2, h3⟩ := h
  refine ⟨a, cap, e, h1, h2, fun i x hx => ?_⟩
  obtain ⟨b, off, d, e2, h4, h5, h6⟩ := h3 i x hx
  have hb : b ≠ k := fun e => by
    subst e
    have := h5 1 _ (List.getElem?_eq_getElem (by omega))
    unfold cf World.cell? at this
    rw [hk] at this
    simp at this
  exact ⟨b, off, d, e2, h4, fun j u hu => by unfold cfB; rw [if_neg hb]; exact h5 j u hu, hR _ _ h6⟩
theorem fields_one {k : Nat} {w : World} {T : TypeId} {s : Nat × Nat} {c v : Value} {l : List Fd} (hk : w.heap[k]? = some (.cells #[c] T s)) (h : FieldsAt (cf w) v l) : FieldsAt (cfB k w) v l :=
  sat_fieldsAt (sat_one (by decide) hk (fun _ _ h => h) (fieldsAt_sat h))
theorem cat_one {k : Nat} {w : World} {T : TypeId} {s : Nat × Nat} {c v : Value} {l : List CX} (hk : w.heap[k]? = some (.cells #[c] T s)) (h : CatAt (cf w) l v) : CatAt (cfB k w) l v := by
  obtain ⟨a, cap, e, h1⟩ := h
  refine ⟨a, cap, e, sat_one (by decide) hk (fun x d h2 => ?_) h1⟩
  obtain ⟨xa, xcap, e1, e2, e3, h3⟩ := h2
  refine ⟨xa, xcap, e1, e2, e3, sat_one (by decide) hk (fun p d h4 => ?_) h3⟩
  obtain ⟨pa, pcap, g1, g2, g3, g4⟩ := h4
  exact ⟨pa, pcap, g1, g2, fields_one hk g3, g4⟩
theorem CatAt.set {k o : Nat} {w : World} {T : TypeId} {s : Nat × Nat} {c v u : Value} {l : List CX} (h : CatAt (cf w) l v) (hk : w.heap[k]? = some (.cells #[c] T s)) : CatAt (cf (w.setCell ⟨k, o, none⟩ u)) l v := (cat_one hk h).mono cfB_set
theorem wake_create : ∃ n : Int, createF [] ⟨#[97]⟩ = ([⟨⟨#[97]⟩, n, []⟩], 0) := by
  have h1 : nameF ⟨#[97]⟩ = true := by decide +kernel
  have h2 : findI (nameIs ⟨#[97]⟩) [] = -1 := rfl
  refine ⟨freshZ (spacesC []), ?_⟩
  unfold createF
  rw [form_nil, h1, h2, if_neg (by decide), if_neg (by decide), if_neg (by decide)]
  simp [insZ, placeZ]
set_option maxRecDepth 100000 in
set_option maxHeartbeats 4000000 in
theorem awake19_any (w : World) (hT : Tabs w) : Calls Tryz.prog 5 #[] w fun e w' => e = .returned (.bool true) ∧ Below w.heap.size w w' := by
  obtain ⟨n, hn⟩ := wake_create
  obtain ⟨hsm, hsz⟩ := small_form form_nil
  have HK := Hold.mk (Create_any [] (.agg #[.slice none 0 0]) ⟨#[97]⟩ w ⟨none, 0, rfl, SAt.none _ _ _⟩ hsm hsz (by decide) hT)
  rw [hn] at HK
  have HF : Hold (findI (nameIs ⟨#[97]⟩) [⟨⟨#[97]⟩, n, []⟩] = 0) := ⟨by
    have : nameIs ⟨#[97]⟩ ⟨⟨#[97]⟩, n, []⟩ = true := nameIs_iff.2 rfl
    unfold findI; simp [List.findIdx?_cons, this]⟩
  have HG : Hold (findI (nameIs ⟨#[98]⟩) [⟨⟨#[97]⟩, n, []⟩] = -1) := ⟨by
    have : nameIs ⟨#[98]⟩ ⟨⟨#[97]⟩, n, []⟩ = false := by
      cases h : nameIs ⟨#[98]⟩ ⟨⟨#[97]⟩, n, []⟩ with
      | false => rfl
      | true => exact absurd (show (⟨#[97]⟩ : ByteArray) = ⟨#[98]⟩ from nameIs_iff.1 h) (by decide)
    unfold findI; simp [List.findIdx?_cons, this]⟩
  clear hT hn hsm hsz
  go_enter Tryz.func5, Tryz.ntmps5
  go_wp2_with fail
  refine HK.out.mono ?_
  rintro e w1 ⟨v1, rfl, hcat, hb1⟩
  obtain ⟨a1, cap1, rfl, hs1⟩ := hcat
  simp only at *
  obtain ⟨W1, hW1⟩ : ∃ W1, W1 = w1.alloc (.cells #[.slice a1 1 cap1] 24) := ⟨_, rfl⟩
  have hb2 : Below w1.heap.size w1 W1 := by rw [hW1]; exact (Below.refl _ w1).alloc (Nat.le_refl _) _
  have hk2 : W1.heap[w1.heap.size]? = some (.cells #[.slice a1 1 cap1] 24 (0, 0)) := by rw [hW1]; exact heap_alloc_new w1 _
  have HCT : Hold (∀ wn, Below W1.heap.size W1 wn → CatAt (cf wn) [⟨⟨#[97]⟩, n, []⟩] (.agg #[.slice a1 1 cap1]) ∧ wn.cell? ⟨w1.heap.size, 0, none⟩ = some (.slice a1 1 cap1) ∧ Below w.heap.size w wn) := ⟨fun wn hb => by
    have h1 := hb1.trans ((hb2.trans (hb.mono hb2.size)).mono hb1.size)
    have h2 := kept hk2 hb
    exact ⟨⟨a1, cap1, rfl, hs1.mono RCX_mono (cle_below (hb2.trans (hb.mono hb2.size)))⟩, by simp [World.cell?, h2], h1⟩⟩
  clear hs1 hb1 hb2 hk2 HK
  go_upto_region 2 with (fail)
  rw [← hW1]
  clear hW1
  obtain ⟨hc, y0, _⟩ := HCT.out W1 (Below.refl _ _)
  have H1 := Hold.mk (Find_any _ _ ⟨#[97]⟩ W1 hc)
  rw [HF.out] at H1
  clear hc
  go_wp2_with fail
  refine H1.out.mono ?_
  rintro e w2 ⟨rfl, hb2⟩
  have HB2 := Hold.mk hb2
  clear hb2 y0 H1
  obtain ⟨hc, y0, _⟩ := HCT.out w2 HB2.out
  have H1 := Hold.mk (Find_any _ _ ⟨#[98]⟩ w2 hc)
  rw [HG.out] at H1
  clear hc
  go_wp2_with fail
  refine H1.out.mono ?_
  rintro e w3 ⟨rfl, hb3⟩
  obtain ⟨_, _, hbw⟩ := HCT.out w3 (HB2.out.trans (hb3.mono HB2.out.size))
  have HBW := Hold.mk hbw
  clear hb3 y0 H1 hbw
  go_wp2_with fail
  go_ret
  exact ⟨rfl, HBW.out⟩
end Go.Proofs.YtfpphpjobkhalaaGreatDoor
