/- Catalogs: AddIndex of the program (printed by genXCL.py). -/
import Derived.Test.YtcmfanfkcbjeoaaGreatDoorCK
namespace Go.Proofs.YtcmfanfkcbjeoaaGreatDoor
open Go.Shelf Go.RowKit

/-- AddIndex and DropIndex: the catalog and the error's number -/
noncomputable def addF (l : List CX) (s : ByteArray) (x : IX) : List CX × Int :=
  if (formC l && formI x) = false then ([], 2) else match l[(findI (nameIs s) l).toNat]? with
    | none => ([], 4)
    | some y => if findI (nameIs s) l < 0 then ([], 4) else if foundZ (namesP y.ixs) x.name = true then ([], 5) else if y.ixs.length = 4 then ([], 3) else
      (l.set (findI (nameIs s) l).toNat ⟨y.name, y.sp, insZ (placeZ (namesP y.ixs) x.name) ⟨x, freshZ (spacesC l)⟩ y.ixs⟩, 0)
def nameIsP (s : ByteArray) (p : PX) : Bool := p.ix.name.toList == s.toList
def dropIF (l : List CX) (s t : ByteArray) : List CX × Int :=
  if formC l = false then ([], 2) else match l[(findI (nameIs s) l).toNat]? with
    | none => ([], 4)
    | some y => if findI (nameIs s) l < 0 then ([], 4) else if findI (nameIsP t) y.ixs < 0 then ([], 4) else
      (l.set (findI (nameIs s) l).toNat ⟨y.name, y.sp, delZ (findI (nameIsP t) y.ixs).toNat y.ixs⟩, 0)
theorem form_upP {l : List CX} (h : formC l = true) {k : Nat} {y : CX} (hy : l[k]? = some y) : upZ (namesP y.ixs) ∧ y.ixs.length ≤ 4 := by
  unfold formC at h
  simp only [Bool.and_eq_true, decide_eq_true_eq, List.all_eq_true] at h
  have h5 := h.1.2 y (List.mem_of_getElem? hy)
  unfold formX at h5
  simp only [Bool.and_eq_true, decide_eq_true_eq] at h5
  exact ⟨rises_upZ h5.1.2, h5.1.1.2⟩
/-- the row of indexes was handed on, and put into the row of collections -/
theorem owncat_done {B N k g cap : Nat} {w w2 : World} {l : List CX} {cs : List Value} {ik : Value} {ics : List Value} {y : CX} {ik2 : Value} {ics2 : List Value} {xs2 : List PX} (h : OwnCat B N k w (.slice (some ⟨g, 0, none⟩) l.length cap) l cs ik ics) (hy : l[k]? = some y)
    (hg : w.grownBy w2 ik.ownBlock) (hn : ∀ b, ik2.ownBlock = some b → ik.ownBlock = some b ∨ w.heap.size ≤ b) (ho : w2.ownsRow N 102 4 ik2 xs2.length ics2) (hr : GRow 4 RPX (cfS B okF nilS w2) xs2 ics2) :
    (w2.setCell ⟨g, k * 3 + 2, none⟩ ik2).ownsRow N 80 3 (.slice (some ⟨g, 0, none⟩) l.length cap) l.length (cs.set (k * 3 + 2) ik2) ∧ w2.grownBy (w2.setCell ⟨g, k * 3 + 2, none⟩ ik2) (some g) ∧
    GRow 3 RCX (cfS B okFP nilS (w2.setCell ⟨g, k * 3 + 2, none⟩ ik2)) (l.set k ⟨y.name, y.sp, xs2⟩) (cs.set (k * 3 + 2) ik2) := by
  have hbn := h.bn
  obtain ⟨m1, m2, m3, m4, m5⟩ := h.mine y hy
  have o2 := h.own.kept hg (own_blocks m4 h.own (by decide))
  obtain ⟨o3, g3⟩ := o2.stored (k * 3 + 2) ik2
  have hcl := h.own.1
  have hkl := (List.getElem?_eq_some_iff.1 hy).1
  generalize hw3 : w2.setCell ⟨g, k * 3 + 2, none⟩ ik2 = w3 at o3 g3 ⊢
  have hgb : ∀ b, some b = some g → B ≤ b ∧ isT okFP w2 b = false ∧ isT okF w2 b = false := fun b e => by
    have h1 := own_isT o2 okFP b e.symm
    have h2 := own_isT o2 okF b e.symm
    exact ⟨Nat.le_trans hbn h1.1, h1.2, h2.2⟩
  have k3 : ∀ ex : Value, CLe (cfS B okFP ex w2) (cfS B okFP ex w3) := fun ex => cfS_keep (fun b hb _ hc => g3.block b hb fun e => by
    obtain ⟨h1, h2, h3⟩ := hgb b e
    rcases hc with h4 | h4
    · omega
    · rw [h2] at h4; cases h4) (fun _ _ e => e)
  have k3F : CLe (cfS B okF nilS w2) (cfS B okF nilS w3) := cfS_keep (fun b hb _ hc => g3.block b hb fun e => by
    obtain ⟨h1, h2, h3⟩ := hgb b e
    rcases hc with h4 | h4
    · omega
    · rw [h3] at h4; cases h4) (fun _ _ e => e)
  have o4 : w3.ownsRow N 102 4 ik2 xs2.length ics2 := ho.kept g3 (by
    have := own_blocks o2 ho (by decide)
    simpa [Value.ownBlock] using this)
  refine ⟨o3, g3, by rw [List.length_set, List.length_set]; exact hcl, fun i z hz => ?_⟩
  by_cases e : i = k
  · subst e
    rw [List.getElem?_set_self hkl] at hz
    obtain rfl := Option.some.inj hz
    have hsat : SAt 4 RPX (cfS B okFP nilS w3) ik2 xs2 := sat_of_own o4 ((hr.mono RPX_mono k3F).mono RPX_mono (cfS_sub fun g hg => by cases hg)) (fun g j u hg2 hu => by
      unfold cfS
      rw [if_pos ⟨by simp [Value.ownBlock], .inr (by rw [(own_isT o4 okFP g hg2).2]; rfl)⟩]; exact hu)
    obtain ⟨a, cap, e, _⟩ := id hsat
    refine ⟨[.string y.name, .int .i64 y.sp, ik2], rfl, fun q u hu => ?_, a, cap, by rw [e], m2, m3, by rw [← e]; exact hsat⟩
    match q, hu with
    | 0, hu => rw [List.getElem?_set_ne (by omega)]; exact m1 0 u hu
    | 1, hu => rw [List.getElem?_set_ne (by omega)]; exact m1 1 u hu
    | 2, hu => rw [List.getElem?_set_self (by omega)]; exact hu
    | q + 3, hu => simp at hu
  · rw [List.getElem?_set_ne (fun e2 => e e2.symm)] at hz
    obtain ⟨d, h1, h2, h3⟩ := h.other i z e hz
    refine ⟨d, h1, fun q u hu => ?_, RCX_mono _ _ _ _ cfS_nil (RCX_mono _ _ _ _ (k3 ik2) (RCX_mono _ _ _ _ (cfS_keep (fun b hb hne _ => hg.block b hb fun e => hne e.symm) (fun b hb e => (hn b e).resolve_right (by omega))) h3))⟩
    have hq : q < 3 := by rw [← h1]; exact (List.getElem?_eq_some_iff.1 hu).1
    rw [List.getElem?_set_ne (by omega)]; exact h2 q u hu
/-- another box was written -/
theorem owncat_butT {B N k c : Nat} {TB : TypeId} {w w' : World} {sl : Value} {l : List CX} {cs : List Value} {ik : Value} {ics : List Value} {vs : Array Value} {s : Nat × Nat} (h : OwnCat B N k w sl l cs ik ics) (hc : w.heap[c]? = some (.cells vs TB s)) (t1 : okFP TB = false) (t2 : okF TB = false) (t3 : TB ≠ 80) (t4 : TB ≠ 102) (hB : B ≤ c) (hg : w.grownBy w' (some c)) : OwnCat B N k w' sl l cs ik ics := by
  have hk : ∀ ok : TypeId → Bool, ok TB = false → ∀ b, b < w.heap.size → (b < B ∨ isT ok w b = true) → w'.heap[b]? = w.heap[b]? := fun ok hok b hb h2 => by
    refine hg.block b hb fun e => ?_
    obtain rfl := Option.some.inj e
    rcases h2 with h3 | h3
    · omega
    · unfold isT at h3; rw [hc] at h3; simp only at h3; rw [hok] at h3; cases h3
  have hrow : ∀ {n p : Nat} {T : TypeId} {sv : Value} {ds : List Value}, w.ownsRow N T n sv p ds → TB ≠ T → w'.ownsRow N T n sv p ds := fun {n p T sv ds} h1 hne => h1.kept hg (by
    cases e : sv.ownBlock with
    | none => exact .inl rfl
    | some g => exact .inr (fun e2 => own_ne h1 hc hne g e (Option.some.inj e2).symm))
  refine ⟨hrow h.own t3, fun i y hi hy => ?_, fun y hy => ?_, h.none, h.bn, Nat.le_trans h.le hg.size⟩
  · obtain ⟨d, h1, h2, h3⟩ := h.other i y hi hy
    exact ⟨d, h1, h2, RCX_mono _ _ _ _ (cfS_keep (fun b hb _ hc => hk okFP t1 b hb hc) (fun b _ e => e)) h3⟩
  · obtain ⟨h1, h2, h3, h4, h5⟩ := h.mine y hy
    exact ⟨h1, h2, h3, hrow h4 t4, h5.mono RPX_mono (cfS_keep (fun b hb _ hc => hk okF t2 b hb hc) (fun b _ e => e))⟩
/-- at the end: the catalog is handed back -/
theorem sat_end {B N c : Nat} {w w' : World} {sl : Value} {l : List CX} {cs : List Value} {vs : Array Value} (h : w.ownsRow N 80 3 sl l.length cs) (hr : GRow 3 RCX (cfS B okFP nilS w) l cs) (hc : w.heap[c]? = some (.cells vs 51 (0, 0))) (hB : B ≤ c) (hg : w.grownBy w' (some c)) : SAt 3 RCX (cf w') sl l :=
  sat_cat (box_keepO h hc (by decide) hg) (hr.mono RCX_mono (box_keepS hc hB hg))

set_option maxRecDepth 100000 in
set_option maxHeartbeats 16000000 in
theorem AddIndex_any (l : List CX) (v : Value) (s : ByteArray) (x : IX) (xv : Value) (w : World) (h : CatAt (cf w) l v) (hsm : SmallC l) (hsz : Sized l) (hx : IAt (cf w) x xv) (hxs : ∀ f ∈ x.fields, f.1.size ≤ 1000000) (hxl : x.fields.length ≤ 1000000) (hT : Tabs w) :
    Calls Tryz.prog 33 #[v, .string s, xv] w (CatPost w (addF l s x)) := by
  obtain ⟨a, cap, rfl, hsat⟩ := h
  obtain ⟨hxn, fv, rfl, hfa⟩ := hx
  obtain ⟨fa, fcap, rfl⟩ : ∃ fa fcap, fv = .slice fa x.fields.length fcap := by obtain ⟨fa, fcap, e, _⟩ := id hfa; exact ⟨fa, fcap, e⟩
  have HFA := Hold.mk hfa
  have HXS := Hold.mk hxs
  have HXL := Hold.mk hxl
  have HXN := Hold.mk hxn
  obtain ⟨nm, fl, u⟩ := x
  simp only at *
  obtain ⟨r, hr⟩ : ∃ r, r = addF l s ⟨nm, fl, u⟩ := ⟨_, rfl⟩
  rw [← hr]
  have HR := Hold.mk hr
  have HS := Hold.mk hsat
  have HSZ := Hold.mk hsz
  have HSM := Hold.mk hsm
  obtain ⟨W0, hW0⟩ : ∃ W0, W0 = ((w.alloc (.cells #[.slice a l.length cap] 51)).alloc (.cells #[.string nm, .slice fa fl.length fcap, .bool u] 44)).alloc (.cells #[.slice none 0 0] 51) := ⟨_, rfl⟩
  have hb0 : Below w.heap.size w W0 := by rw [hW0]; exact (((Below.refl _ w).alloc (Nat.le_refl _) _).alloc (by simp <;> omega) _).alloc (by simp <;> omega) _
  have HZ0 : Hold (W0.heap.size = w.heap.size + 3) := ⟨by rw [hW0]; simp⟩
  have HC0 : Hold (W0.heap[w.heap.size]? = some (.cells #[.slice a l.length cap] 51 (0, 0))) := ⟨by
    rw [hW0, Below.heap_alloc _ _ _ (by simp <;> omega), Below.heap_alloc _ _ _ (by simp <;> omega)]; exact heap_alloc_new w _⟩
  have HX0 : Hold (W0.heap[w.heap.size + 1]? = some (.cells #[.string nm, .slice fa fl.length fcap, .bool u] 44 (0, 0))) := ⟨by
    rw [hW0, Below.heap_alloc _ _ _ (by simp <;> omega)]
    have := heap_alloc_new (w.alloc (.cells #[.slice a l.length cap] 51)) (.cells #[.string nm, .slice fa fl.length fcap, .bool u] 44)
    simpa using this⟩
  have HR0 : Hold (W0.heap[w.heap.size + 1 + 1]? = some (.cells #[.slice none 0 0] 51 (0, 0))) := ⟨by
    rw [hW0]
    have := heap_alloc_new ((w.alloc (.cells #[.slice a l.length cap] 51)).alloc (.cells #[.string nm, .slice fa fl.length fcap, .bool u] 44)) (.cells #[.slice none 0 0] 51)
    simpa using this⟩
  have HB0 := Hold.mk hb0
  have HCA : Hold (∀ wn, Below W0.heap.size W0 wn → CatAt (cf wn) l (.agg #[.slice a l.length cap]) ∧ Tabs wn ∧ wn.cell? ⟨w.heap.size, 0, none⟩ = some (.slice a l.length cap) ∧ wn.heap[w.heap.size + 1 + 1]? = some (.cells #[.slice none 0 0] 51 (0, 0)) ∧ Below w.heap.size w wn) := ⟨fun wn hb => by
    have h1 := HB0.out.trans (hb.mono HB0.out.size)
    have h2 := kept HC0.out hb
    exact ⟨⟨a, cap, rfl, HS.out.mono RCX_mono (cle_below h1)⟩, hT.below h1, by simp [World.cell?, h2], kept HR0.out hb, h1⟩⟩
  obtain ⟨hca, ht, y0, _, _⟩ := HCA.out W0 (Below.refl _ _)
  have HFO := Hold.mk (FormedC_any l _ W0 hca hsm ht)
  clear hsat hsz hsm hb0 hT hca ht hr hfa hxs hxl hxn
  go_enter Tryz.func33, Tryz.ntmps33
  go_upto_region 1 with (fail)
  rw [← hW0]
  clear hW0
  go_wp2_with fail
  refine HFO.out.mono ?_
  rintro e w1 ⟨rfl, hb1⟩
  have HB1 := Hold.mk hb1
  clear hb1 HFO y0
  obtain ⟨hca, ht, y0, hr1, hbw⟩ := HCA.out w1 HB1.out

  cases hfo : formC l with
  | false =>
    have HE : Hold (r = ([], 2)) := ⟨by rw [HR.out]; unfold addF; rw [hfo]; rfl⟩
    clear hfo hca ht
    have hf1 : w1.frozen? ⟨w.heap.size + 1 + 1, 0, none⟩ = false := free_box hr1 0
    have hx1 : w1.cell? ⟨w.heap.size + 1 + 1, 0, none⟩ = some (.slice none 0 0) := by
      have := hr1
      simp [World.cell?, this]
    go_wp2_with fail
    clear hf1 hx1
    obtain ⟨W, hW⟩ : ∃ W, W = w1.setCell ⟨w.heap.size + 1 + 1, 0, none⟩ (.slice none 0 0) := ⟨_, rfl⟩
    rw [← hW]
    have hk : W.heap[w.heap.size + 1 + 1]? = some (.cells #[.slice none 0 0] 51 (0, 0)) := by
      rw [hW]
      have := set_self (o := 0) (c := .slice none 0 0) hr1
      simpa using this
    have hx : W.cell? ⟨w.heap.size + 1 + 1, 0, none⟩ = some (.slice none 0 0) := by simp [World.cell?, hk]
    have hb : Below w.heap.size w W := by rw [hW]; exact bsetZ hbw (by omega)
    refine bodyPost_ret (v := .tuple #[.agg #[.slice none 0 0], .int .i64 2]) (by simp [results, Tryz.results33, go_sem, hx]) rfl ?_
    exact cat_err HE.out hb
  | true =>
  have HFO := Hold.mk hfo
  have hx1 := kept HX0.out HB1.out
  obtain ⟨x0, x1, x2⟩ := cells_three hx1
  have HFX := Hold.mk (FormedI_any ⟨nm, fl, u⟩ _ w1 ⟨HXN.out, _, rfl, HFA.out.mono (cle_below hbw)⟩ HXS.out ht)
  clear hfo hr1 hbw hca ht hx1
  go_wp2_with fail
  refine HFX.out.mono ?_
  rintro e w2 ⟨rfl, hb2⟩
  have HB2 := Hold.mk (HB1.out.trans (hb2.mono HB1.out.size))
  clear hb2 HFX y0 x0 x1 x2
  obtain ⟨hca, _, y0, hr1, hbw⟩ := HCA.out w2 HB2.out
  cases hfx : formI ⟨nm, fl, u⟩ with
  | false =>
    have HE : Hold (r = ([], 2)) := ⟨by rw [HR.out]; unfold addF; rw [HFO.out, hfx]; rfl⟩
    clear hfx hca
    have hf1 : w2.frozen? ⟨w.heap.size + 1 + 1, 0, none⟩ = false := free_box hr1 0
    have hx1 : w2.cell? ⟨w.heap.size + 1 + 1, 0, none⟩ = some (.slice none 0 0) := by
      have := hr1
      simp [World.cell?, this]
    go_wp2_with fail
    clear hf1 hx1
    obtain ⟨W, hW⟩ : ∃ W, W = w2.setCell ⟨w.heap.size + 1 + 1, 0, none⟩ (.slice none 0 0) := ⟨_, rfl⟩
    rw [← hW]
    have hk : W.heap[w.heap.size + 1 + 1]? = some (.cells #[.slice none 0 0] 51 (0, 0)) := by
      rw [hW]
      have := set_self (o := 0) (c := .slice none 0 0) hr1
      simpa using this
    have hx : W.cell? ⟨w.heap.size + 1 + 1, 0, none⟩ = some (.slice none 0 0) := by simp [World.cell?, hk]
    have hb : Below w.heap.size w W := by rw [hW]; exact bsetZ hbw (by omega)
    refine bodyPost_ret (v := .tuple #[.agg #[.slice none 0 0], .int .i64 2]) (by simp [results, Tryz.results33, go_sem, hx]) rfl ?_
    exact cat_err HE.out hb
  | true =>
  have HRN : Hold (r = match l[(findI (nameIs s) l).toNat]? with
    | none => ([], 4)
    | some y => if findI (nameIs s) l < 0 then ([], 4) else if foundZ (namesP y.ixs) nm = true then ([], 5) else if y.ixs.length = 4 then ([], 3) else
      (l.set (findI (nameIs s) l).toNat ⟨y.name, y.sp, insZ (placeZ (namesP y.ixs) nm) ⟨⟨nm, fl, u⟩, freshZ (spacesC l)⟩ y.ixs⟩, 0)) := ⟨by rw [HR.out]; unfold addF; rw [HFO.out, hfx, if_neg (by decide)]⟩
  have HFI := Hold.mk (Find_any l _ s w2 hca)
  clear hfx hr1 hbw hca
  go_wp2_with fail
  refine HFI.out.mono ?_
  rintro e w3 ⟨rfl, hb3⟩
  have HB3 := Hold.mk (HB2.out.trans (hb3.mono HB2.out.size))
  clear hb3 HFI y0
  obtain ⟨hca, _, y0, hr1, hbw⟩ := HCA.out w3 HB3.out
  have hcs := findI_cases (nameIs s) l
  generalize findI (nameIs s) l = fi at *
  rcases hcs with rfl | ⟨k, y, rfl, hky, _⟩
  · have HE : Hold (r = ([], 4)) := ⟨by
      rw [HRN.out]
      cases l[(-1 : Int).toNat]? with
      | none => rfl
      | some y => simp only; rw [if_pos (by decide)]⟩
    clear hca
    have hf1 : w3.frozen? ⟨w.heap.size + 1 + 1, 0, none⟩ = false := free_box hr1 0
    have hx1 : w3.cell? ⟨w.heap.size + 1 + 1, 0, none⟩ = some (.slice none 0 0) := by
      have := hr1
      simp [World.cell?, this]
    go_wp2_with fail
    clear hf1 hx1
    obtain ⟨W, hW⟩ : ∃ W, W = w3.setCell ⟨w.heap.size + 1 + 1, 0, none⟩ (.slice none 0 0) := ⟨_, rfl⟩
    rw [← hW]
    have hk : W.heap[w.heap.size + 1 + 1]? = some (.cells #[.slice none 0 0] 51 (0, 0)) := by
      rw [hW]
      have := set_self (o := 0) (c := .slice none 0 0) hr1
      simpa using this
    have hx : W.cell? ⟨w.heap.size + 1 + 1, 0, none⟩ = some (.slice none 0 0) := by simp [World.cell?, hk]
    have hb : Below w.heap.size w W := by rw [hW]; exact bsetZ hbw (by omega)
    refine bodyPost_ret (v := .tuple #[.agg #[.slice none 0 0], .int .i64 4]) (by simp [results, Tryz.results33, go_sem, hx]) rfl ?_
    exact cat_err HE.out hb
  have hkl : k < l.length := (List.getElem?_eq_some_iff.1 hky).1
  replace HRN : Hold (r = if foundZ (namesP y.ixs) nm = true then ([], 5) else if y.ixs.length = 4 then ([], 3) else (l.set k ⟨y.name, y.sp, insZ (placeZ (namesP y.ixs) nm) ⟨⟨nm, fl, u⟩, freshZ (spacesC l)⟩ y.ixs⟩, 0)) := ⟨by
    rw [HRN.out]
    simp only [Int.toNat_natCast, hky]
    rw [if_neg (by omega)]⟩
  have HKY := Hold.mk hky
  have HKL := Hold.mk hkl
  obtain ⟨_, _, e, hle, hcap, hel⟩ := id HS.out
  cases e
  obtain ⟨b, off, d, rfl, hd, hcc, xa, xcap, rfl, hyn, hyw, hyi⟩ := hel k y hky
  have HYI := Hold.mk hyi
  obtain ⟨_, _, e, hxle, hxcap, _⟩ := hyi
  cases e
  have HZF : Hold (∀ wn, Below W0.heap.size W0 wn → wn.cell? ⟨b, off + k * 3 + 2, none⟩ = some (.slice xa y.ixs.length xcap)) := ⟨fun wn hb => cle_below (HB0.out.trans (hb.mono HB0.out.size)) _ _ _ (hcc 2 _ rfl)⟩
  have HXF : Hold (∀ wn, Below W0.heap.size W0 wn → wn.cell? ⟨w.heap.size + 1, 0, none⟩ = some (.string nm) ∧ wn.cell? ⟨w.heap.size + 1, 1, none⟩ = some (.slice fa fl.length fcap) ∧ wn.cell? ⟨w.heap.size + 1, 2, none⟩ = some (.bool u)) := ⟨fun wn hb => cells_three (kept HX0.out hb)⟩
  have hz := HZF.out w3 HB3.out
  obtain ⟨x0, _, _⟩ := HXF.out w3 HB3.out
  have HUP := Hold.mk (form_upP HFO.out hky)
  have HSE : Hold (∀ e : Grow w3, Calls Tryz.prog 75 #[.slice xa y.ixs.length xcap, .string nm, .func (.func 76) #[] #[]] e.val fun r w' => r = .returned (.tuple #[.int .i64 (placeZ (namesP y.ixs) nm), .bool (foundZ (namesP y.ixs) nm)]) ∧ Below e.val.heap.size e.val w') := ⟨fun e =>
    searchP_any y.ixs nm _ e.val (HYI.out.mono RPX_mono (cle_below (hbw.trans (e.2.mono hbw.size)))) HUP.out.1 (by have := HUP.out.2; omega)⟩
  replace HSE := Hold.mk (Calls.grow HSE.out)
  obtain ⟨at_, hat⟩ : ∃ at_, at_ = placeZ (namesP y.ixs) nm := ⟨_, rfl⟩
  obtain ⟨fo, hfo⟩ : ∃ fo, fo = foundZ (namesP y.ixs) nm := ⟨_, rfl⟩
  have HAT : Hold (at_ ≤ y.ixs.length) := ⟨by rw [hat]; have := placeZ_le (namesP y.ixs) nm; simpa using this⟩
  rw [← hat, ← hfo] at HRN HSE
  have hkz : (k : Int) < (l.length : Int) := by omega
  have g0 := Grow.cell y0
  have g1 := Grow.cell hz
  have g2 := Grow.cell x0
  clear hky hd hcc hel hyn hyw hca hr1 hbw hat hfo y0 hz x0
  go_upto_region 6 with (fail)
  refine wp_region_grow (by kernel_rfl) (by kernel_rfl) ?_
  repeat (go_big_quiet_step (exact HSE.out _))
  refine wpQuiet_nil ?_
  rintro ⟨w4, hb4⟩
  have HB4 := Hold.mk (HB3.out.trans (hb4.mono HB3.out.size))
  simp only
  clear hb4 g0 g1 g2 HSE
  obtain ⟨hca, _, y0, hr1, hbw⟩ := HCA.out w4 HB4.out
  have hz := HZF.out w4 HB4.out
  cases fo with
  | true =>
    have HE : Hold (r = ([], 5)) := ⟨by rw [HRN.out, if_pos rfl]⟩
    clear hca
    have hf1 : w4.frozen? ⟨w.heap.size + 1 + 1, 0, none⟩ = false := free_box hr1 0
    have hx1 : w4.cell? ⟨w.heap.size + 1 + 1, 0, none⟩ = some (.slice none 0 0) := by
      have := hr1
      simp [World.cell?, this]
    go_wp2_with fail
    clear hf1 hx1
    obtain ⟨W, hW⟩ : ∃ W, W = w4.setCell ⟨w.heap.size + 1 + 1, 0, none⟩ (.slice none 0 0) := ⟨_, rfl⟩
    rw [← hW]
    have hk : W.heap[w.heap.size + 1 + 1]? = some (.cells #[.slice none 0 0] 51 (0, 0)) := by
      rw [hW]
      have := set_self (o := 0) (c := .slice none 0 0) hr1
      simpa using this
    have hx : W.cell? ⟨w.heap.size + 1 + 1, 0, none⟩ = some (.slice none 0 0) := by simp [World.cell?, hk]
    have hb : Below w.heap.size w W := by rw [hW]; exact bsetZ hbw (by omega)
    refine bodyPost_ret (v := .tuple #[.agg #[.slice none 0 0], .int .i64 5]) (by simp [results, Tryz.results33, go_sem, hx]) rfl ?_
    exact cat_err HE.out hb
  | false =>
  replace HRN : Hold (r = if y.ixs.length = 4 then ([], 3) else (l.set k ⟨y.name, y.sp, insZ at_ ⟨⟨nm, fl, u⟩, freshZ (spacesC l)⟩ y.ixs⟩, 0)) := ⟨by rw [HRN.out, if_neg (by decide)]⟩
  by_cases h4 : y.ixs.length = 4
  · have HE : Hold (r = ([], 3)) := ⟨by rw [HRN.out, if_pos h4]⟩
    have h4b : ((y.ixs.length : Int) == 4) = true := by rw [h4]; rfl
    clear h4 hca
    have hf1 : w4.frozen? ⟨w.heap.size + 1 + 1, 0, none⟩ = false := free_box hr1 0
    have hx1 : w4.cell? ⟨w.heap.size + 1 + 1, 0, none⟩ = some (.slice none 0 0) := by
      have := hr1
      simp [World.cell?, this]
    go_wp2_with fail
    clear hf1 hx1
    obtain ⟨W, hW⟩ : ∃ W, W = w4.setCell ⟨w.heap.size + 1 + 1, 0, none⟩ (.slice none 0 0) := ⟨_, rfl⟩
    rw [← hW]
    have hk : W.heap[w.heap.size + 1 + 1]? = some (.cells #[.slice none 0 0] 51 (0, 0)) := by
      rw [hW]
      have := set_self (o := 0) (c := .slice none 0 0) hr1
      simpa using this
    have hx : W.cell? ⟨w.heap.size + 1 + 1, 0, none⟩ = some (.slice none 0 0) := by simp [World.cell?, hk]
    have hb : Below w.heap.size w W := by rw [hW]; exact bsetZ hbw (by omega)
    refine bodyPost_ret (v := .tuple #[.agg #[.slice none 0 0], .int .i64 3]) (by simp [results, Tryz.results33, go_sem, hx]) rfl ?_
    exact cat_err HE.out hb
  replace HRN : Hold (r = (l.set k ⟨y.name, y.sp, insZ at_ ⟨⟨nm, fl, u⟩, freshZ (spacesC l)⟩ y.ixs⟩, 0)) := ⟨by rw [HRN.out, if_neg h4]⟩
  have h4b : ((y.ixs.length : Int) == 4) = false := by rw [beq_eq_false_iff_ne]; omega
  have HFR := Hold.mk (fresh_any l _ w4 hca (Nat.le_trans (spaces_four HFO.out) (by decide)))
  clear h4 hca hr1 hbw
  go_wp2_with fail
  refine HFR.out.mono ?_
  rintro e w5 ⟨n, rfl, hfr, hnl, hb5⟩
  have HFN := Hold.mk (freshZ_eq hfr)
  have HNL : Hold (n ≤ 21) := ⟨by have := spaces_four HFO.out; omega⟩
  have HB5 := Hold.mk (HB4.out.trans (hb5.mono HB4.out.size))
  clear hb5 HFR y0 hz hfr hnl h4b
  obtain ⟨_, _, y0, hr1, hbw⟩ := HCA.out w5 HB5.out
  have HOW := Hold.mk (own_any w.heap.size k l (.agg #[.slice (some ⟨b, off, none⟩) l.length cap]) w5 hbw.size ⟨_, _, rfl, HS.out.mono RCX_mono (cf_cfL rfl hbw)⟩ HSZ.out)
  have HBW5 := Hold.mk hbw
  have HC5 := Hold.mk (kept HC0.out HB5.out)
  have HX5 := Hold.mk (kept HX0.out HB5.out)
  have HR5 := Hold.mk hr1
  have HZ5 : Hold (w.heap.size + 3 ≤ w5.heap.size) := ⟨by have := HZ0.out; have := HB5.out.size; omega⟩
  clear hr1 hbw
  go_wp2_with fail
  refine HOW.out.mono ?_
  rintro e w6 ⟨sl, cs, ik, ics, rfl, hoc, hb6⟩
  obtain ⟨sa, scap, rfl⟩ := own_shapeZ hoc.own
  obtain ⟨g, rfl⟩ := own_placeZ hoc.own (by have := HKL.out; omega)
  have HOC := Hold.mk hoc
  have HC6 := Hold.mk (kept HC5.out hb6)
  have HX6 := Hold.mk (kept HX5.out hb6)
  have HR6 := Hold.mk (kept HR5.out hb6)
  have HBW6 := Hold.mk (HBW5.out.trans (hb6.mono HBW5.out.size))
  have HZ6 : Hold (w.heap.size + 3 ≤ w6.heap.size) := ⟨Nat.le_trans HZ5.out hb6.size⟩
  clear hoc hb6 HOW y0
  have hf : w6.frozen? ⟨w.heap.size, 0, none⟩ = false := free_box HC6.out 0
  have hx : w6.cell? ⟨w.heap.size, 0, none⟩ = some (.slice (some ⟨b, off, none⟩) l.length cap) := by
    have := HC6.out
    simp [World.cell?, this]
  go_upto_region 13 with (fail)
  clear hf hx
  obtain ⟨W7, hW7⟩ : ∃ W7, W7 = w6.setCell ⟨w.heap.size, 0, none⟩ (.slice (some ⟨g, 0, none⟩) l.length scap) := ⟨_, rfl⟩
  rw [← hW7]
  have hg7 : w6.grownBy W7 (some w.heap.size) := by rw [hW7]; exact grownZ_set _ _ _ _
  have HC7 : Hold (W7.heap[w.heap.size]? = some (.cells #[.slice (some ⟨g, 0, none⟩) l.length scap] 51 (0, 0))) := ⟨by
    rw [hW7]
    have := set_self (o := 0) (c := .slice (some ⟨g, 0, none⟩) l.length scap) HC6.out
    simpa using this⟩
  have HX7 : Hold (W7.heap[w.heap.size + 1]? = some (.cells #[.string nm, .slice fa fl.length fcap, .bool u] 44 (0, 0))) := ⟨by
    rw [hg7.block _ (heap_lt HX6.out) (fun e => by injection e with e; omega)]; exact HX6.out⟩
  have HR7 : Hold (W7.heap[w.heap.size + 1 + 1]? = some (.cells #[.slice none 0 0] 51 (0, 0))) := ⟨by
    rw [hg7.block _ (heap_lt HR6.out) (fun e => by injection e with e; omega)]; exact HR6.out⟩
  have HOC7 := Hold.mk (HOC.out.but HC6.out (Nat.le_refl _) hg7)
  have HBW7 : Hold (Below w.heap.size w W7) := ⟨HBW6.out.trans (below_grownZ hg7 (Nat.le_refl _) HBW6.out.size)⟩
  have HZ7 : Hold (w.heap.size + 3 ≤ W7.heap.size) := ⟨Nat.le_trans HZ6.out hg7.size⟩
  have HCL := Hold.mk (cloneFd_any fl (.slice fa fl.length fcap) (cf W7) W7 (fun _ _ _ h => h) (fieldsAt_sat (HFA.out.mono (cle_below HBW7.out))) HXL.out)
  clear hW7 hg7 HOC HC6 HR6 HX6 HBW6
  obtain ⟨x0, x1, x2⟩ := cells_three HX7.out
  go_wp2_with fail
  refine HCL.out.mono ?_
  rintro e w8 ⟨fv, fcs, rfl, hfv, hfr, hb8⟩
  obtain ⟨fva, fvcap, rfl⟩ := own_shapeZ hfv
  have HFV := Hold.mk hfv
  have HFR := Hold.mk hfr
  have HC8 := Hold.mk (kept HC7.out hb8)
  have HX8 := Hold.mk (kept HX7.out hb8)
  have HR8 := Hold.mk (kept HR7.out hb8)
  have HOC8 := Hold.mk (HOC7.out.quiet hb8)
  have HBW8 := Hold.mk (HBW7.out.trans (hb8.mono HBW7.out.size))
  have HZ8 : Hold (w.heap.size + 3 ≤ w8.heap.size) := ⟨Nat.le_trans HZ7.out hb8.size⟩
  clear hfv hfr hb8 HCL x0 x1 x2 HOC7 HC7 HR7 HX7 HBW7
  have hf : w8.frozen? ⟨w.heap.size + 1, 1, none⟩ = false := free_box HX8.out 1
  obtain ⟨x0, x1, x2⟩ := cells_three HX8.out
  go_upto_region 14 with (fail)
  clear hf x0 x1 x2
  obtain ⟨W9, hW9⟩ : ∃ W9, W9 = w8.setCell ⟨w.heap.size + 1, 1, none⟩ (.slice fva fl.length fvcap) := ⟨_, rfl⟩
  rw [← hW9]
  have hg9 : w8.grownBy W9 (some (w.heap.size + 1)) := by rw [hW9]; exact grownZ_set _ _ _ _
  have HX9 : Hold (W9.heap[w.heap.size + 1]? = some (.cells #[.string nm, .slice fva fl.length fvcap, .bool u] 44 (0, 0))) := ⟨by
    rw [hW9]
    have := set_self (o := 1) (c := .slice fva fl.length fvcap) HX8.out
    simpa using this⟩
  have HC9 : Hold (W9.heap[w.heap.size]? = some (.cells #[.slice (some ⟨g, 0, none⟩) l.length scap] 51 (0, 0))) := ⟨by
    rw [hg9.block _ (heap_lt HC8.out) (fun e => by injection e with e; omega)]; exact HC8.out⟩
  have HR9 : Hold (W9.heap[w.heap.size + 1 + 1]? = some (.cells #[.slice none 0 0] 51 (0, 0))) := ⟨by
    rw [hg9.block _ (heap_lt HR8.out) (fun e => by injection e with e; omega)]; exact HR8.out⟩
  have HOC9 := Hold.mk (owncat_butT HOC8.out HX8.out (by decide) (by decide) (by decide) (by decide) (by omega) hg9)
  have HBW9 : Hold (Below w.heap.size w W9) := ⟨HBW8.out.trans (below_grownZ hg9 (by omega) HBW8.out.size)⟩
  have HZ9 : Hold (w.heap.size + 3 ≤ W9.heap.size) := ⟨Nat.le_trans HZ8.out hg9.size⟩
  have hfo9 := HFV.out.kept hg9 (by
    cases e : (Value.slice fva fl.length fvcap).ownBlock with
    | none => exact .inl rfl
    | some q => exact .inr (fun e2 => own_ne HFV.out HX8.out (by decide) q e (Option.some.inj e2).symm))
  have HFA9 : Hold (FieldsAt (cfS w.heap.size okF nilS W9) (.slice fva fl.length fvcap) fl) := ⟨sat_fieldsAt (sat_of_own hfo9 (show GRow 2 RFd (cfS w.heap.size okF nilS W9) fl fcs from HFR.out) (fun q j u hq hu => by
    unfold cfS
    rw [if_pos ⟨by simp [Value.ownBlock], .inr (by rw [(own_isT hfo9 okF q hq).2]; rfl)⟩]; exact hu))⟩
  clear hW9 hg9 hfo9 HFV HFR HOC8 HX8 HC8 HR8 HBW8
  obtain ⟨m1, m2, m3, m4, m5⟩ := HOC9.out.mine y HKY.out
  obtain ⟨ia, icap, rfl⟩ := own_shapeZ m4
  have HM4 := Hold.mk m4
  have HM5 := Hold.mk m5
  have HIK : Hold (W9.cell? ⟨g, k * 3 + 2, none⟩ = some (.slice ia y.ixs.length icap)) := ⟨by
    have := HOC9.out.own.cells (g := g) rfl (k * 3 + 2) _ (m1 2 _ rfl)
    rw [addr_at] at this; exact this⟩
  clear m1 m2 m3 m4 m5
  have y0 : W9.cell? ⟨w.heap.size, 0, none⟩ = some (.slice (some ⟨g, 0, none⟩) l.length scap) := by
    have := HC9.out
    simp [World.cell?, this]
  obtain ⟨x0, x1, x2⟩ := cells_three HX9.out
  have g0 := GrowB.cell y0 (show w.heap.size < w.heap.size + 3 by omega)
  have g1 := GrowB.cell x0 (show w.heap.size + 1 < w.heap.size + 3 by omega)
  have g2 := GrowB.cell x1 (show w.heap.size + 1 < w.heap.size + 3 by omega)
  have g3 := GrowB.cell x2 (show w.heap.size + 1 < w.heap.size + 3 by omega)
  have HDW := Hold.mk ((Below.refl W9.heap.size W9).drew)
  have hkz : (k : Int) < (l.length : Int) := by have := HKL.out; omega
  have hkl := HKL.out
  clear y0 x0 x1 x2
  refine wp_region_mixC (GrowBC (w.heap.size + 3) W9) 18 rfl (by kernel_rfl) ?_
  generalize W9.drew = v9 at HDW ⊢
  have HZV : Hold (w.heap.size + 3 ≤ v9.heap.size) := ⟨Nat.le_trans HZ9.out HDW.out.size⟩
  have HDB : Hold (Below (w.heap.size + 3) W9 v9) := ⟨HDW.out.mono HZ9.out⟩
  refine mixl_seg (by kernel_rfl) (fun _ _ d _ _ h => by cases d <;> exact h) [0, 1, 2, 3, 4, 5, 6, 7, 9, 10, 11, 12] [_, _, _, _, _, _, _, _, _, _, _, _] 6 18 rfl _ _ _ rfl (by kernel_rfl) (growBC HDB.out) ?_
  repeat (go_big_quiet_step (fail))
  refine wpQuiet_nil ?_
  clear g0 g1 g2 g3
  have hik : v9.cell? ⟨g, k * 3 + 2, none⟩ = some (.slice ia y.ixs.length icap) := cle_below HDW.out _ _ _ HIK.out
  obtain ⟨W10, hW10⟩ : ∃ W10, W10 = v9.alloc (.cells #[.string nm, .slice fva fl.length fvcap, .bool u, .int .i64 (n : Int)] 102) := ⟨_, rfl⟩
  have hb10 : Below v9.heap.size v9 W10 := by rw [hW10]; exact (Below.refl _ v9).alloc (Nat.le_refl _) _
  have hk10 : W10.heap[v9.heap.size]? = some (.cells #[.string nm, .slice fva fl.length fvcap, .bool u, .int .i64 (n : Int)] 102 (0, 0)) := by rw [hW10]; exact heap_alloc_new v9 _
  have HD10 := Hold.mk (HDW.out.trans (hb10.mono HDW.out.size))
  have HOC10 := Hold.mk (HOC9.out.quiet HD10.out)
  have HDB10 : Hold (Below (w.heap.size + 3) W9 W10) := ⟨HD10.out.mono HZ9.out⟩
  obtain ⟨_, _, _, m4, m5⟩ := HOC10.out.mine y HKY.out
  have HM4' := Hold.mk m4
  have HM5' := Hold.mk m5
  have HIN := Hold.mk (insPx_any w5.heap.size W10 (.slice ia y.ixs.length icap) y.ixs.length ics m4 at_ HAT.out v9.heap.size [.string nm, .slice fva fl.length fvcap, .bool u, .int .i64 (n : Int)] hk10 rfl (by simp [Value.oneCell']) (grow_one RPX_one (by decide) m5) HOC10.out.le (by have := HUP.out.2; omega) (fun e => by have := (HM4.out.lt _ e).2; have := HDW.out.size; omega))
  have hik10 : W10.cell? ⟨g, k * 3 + 2, none⟩ = some (.slice ia y.ixs.length icap) := cle_below hb10 _ _ _ hik
  clear hb10 hk10 m4 m5
  refine mixl_two (i := 8) (j := 13) rfl rfl (by kernel_rfl) (growBC HDB.out) rfl rfl (fun K hK => ?_) (fun K hK => ?_)
  · go_wp2_with fail
    clear hik hik10
    refine mixl_act (i := 13) rfl (by kernel_rfl) (growBC HDB.out) rfl (fun K hK => ?_)
    go_wp2_with fail
    rw [← hW10]
    clear hW10
    refine mixl_act (i := 14) rfl (by kernel_rfl) (growBC HDB10.out) rfl (fun K hK => ?_)
    go_wp2_with fail
    refine HIN.out.mono ?_
    rintro e w11 ⟨ik2, rfl, ho11, hg11, hn11⟩
    obtain ⟨ja, jcap, rfl⟩ := own_shapeZ ho11
    have HKF : Hold (CLe (cfS w.heap.size okF nilS W10) (cfS w.heap.size okF nilS w11)) := ⟨cfS_keep (fun b hb _ hc => hg11.block b hb fun e => by
      obtain ⟨h1, h2⟩ := own_isT HM4'.out okF b e.symm
      rcases hc with h3 | h3
      · have := HZ5.out; omega
      · rw [h2] at h3; cases h3) (fun _ _ e => e)⟩
    have HGI : Hold (GRow 4 RPX (cfS w.heap.size okF nilS w11) (insZ at_ ⟨⟨nm, fl, u⟩, (n : Int)⟩ y.ixs) (ics.take (at_ * 4) ++ [.string nm, .slice fva fl.length fvcap, .bool u, .int .i64 (n : Int)] ++ ics.drop (at_ * 4))) := ⟨
      (grow_ins HM5'.out at_ rfl ⟨fva, fvcap, rfl, HXN.out, HFA9.out.mono (cfS_keep (fun b hb _ _ => HD10.out.block b hb) (fun _ _ e => e)), by have := HNL.out; simp [Lit.wf, IntKind.min, IntKind.max, IntKind.bits, IntKind.signed]; omega⟩).mono RPX_mono HKF.out⟩
    have hfin := owncat_done HOC10.out HKY.out hg11 hn11 (xs2 := insZ at_ ⟨⟨nm, fl, u⟩, (n : Int)⟩ y.ixs) (by rw [insZ_len HAT.out]; exact ho11) HGI.out
    have ho2 := HOC10.out.own.kept hg11 (own_blocks HM4'.out HOC10.out.own (by decide))
    have hik : w11.cell? ⟨g, k * 3 + 2, none⟩ = some (.slice ia y.ixs.length icap) := by
      have := ho2.cells (g := g) rfl (k * 3 + 2) _ ((HOC10.out.mine y HKY.out).1 2 _ rfl)
      rw [addr_at] at this; exact this
    have hff : w11.frozen? ⟨g, k * 3 + 2, none⟩ = false := by
      rcases ho2.2 with ⟨hv, _⟩ | ⟨q, cap, cur, hv, _, hgg, _⟩
      · cases hv
      · injection hv with e1
        injection e1 with e1
        injection e1 with e1
        subst e1
        exact free_box hgg _
    have HDB11 : Hold (Below (w.heap.size + 3) W9 w11) := ⟨HDB10.out.trans ((Below.refl _ W10).grown hg11 (Nat.le_trans HZ9.out HDB10.out.size) (fun q hq => by have := (HM4'.out.lt q hq).1; have := HZ5.out; omega))⟩
    obtain ⟨W12, hW12⟩ : ∃ W12, W12 = w11.setCell ⟨g, k * 3 + 2, none⟩ (.slice ja (y.ixs.length + 1) jcap) := ⟨_, rfl⟩
    rw [← hW12] at hfin
    obtain ⟨ho12, hg12, hr12⟩ := hfin
    have HO12 := Hold.mk ho12
    have HR12g := Hold.mk hr12
    have HDB12 : Hold (Below (w.heap.size + 3) W9 W12) := ⟨HDB11.out.trans (below_grownZ hg12 (by have := (HOC10.out.own.lt g rfl).1; have := HZ5.out; omega) (Nat.le_trans HZ9.out HDB11.out.size))⟩
    clear ho11 hg11 hn11 ho2 ho12 hg12 hr12 HIN HKF HGI HM4' HM5' HOC10 HD10
    go_wp2_with fail
    refine mixl_seg (by kernel_rfl) (fun _ _ d _ _ h => by cases d <;> exact h) [15, 16] [_, _] 1 3 rfl _ _ _ rfl (by kernel_rfl) (growBC HDB11.out) ?_
    repeat (go_big_quiet_step (fail))
    refine wpQuiet_nil ?_
    refine mixl_act (i := 17) rfl (by kernel_rfl) (growBC HDB11.out) rfl (fun K hK => ?_)
    go_wp2_with fail
    rw [← hW12]
    clear hW12 hik hff
    refine mix_done (by kernel_rfl) (growBC HDB12.out) ?_
    have HC12 : Hold (W12.heap[w.heap.size]? = some (.cells #[.slice (some ⟨g, 0, none⟩) l.length scap] 51 (0, 0))) := ⟨by rw [HDB12.out.block _ (by omega)]; exact HC9.out⟩
    have HR12 : Hold (W12.heap[w.heap.size + 1 + 1]? = some (.cells #[.slice none 0 0] 51 (0, 0))) := ⟨by rw [HDB12.out.block _ (by omega)]; exact HR9.out⟩
    have HBW12 : Hold (Below w.heap.size w W12) := ⟨HBW9.out.trans (HDB12.out.mono (by omega))⟩
    obtain ⟨y0, hxx⟩ : W12.cell? ⟨w.heap.size, 0, none⟩ = some (.slice (some ⟨g, 0, none⟩) l.length scap) ∧ True := ⟨by
      have := HC12.out
      simp [World.cell?, this], trivial⟩
    have hf1 : W12.frozen? ⟨w.heap.size + 1 + 1, 0, none⟩ = false := free_box HR12.out 0
    have hx1 : W12.cell? ⟨w.heap.size + 1 + 1, 0, none⟩ = some (.slice none 0 0) := by
      have := HR12.out
      simp [World.cell?, this]
    clear hxx
    go_wp2_with fail
    clear hf1 hx1 y0
    obtain ⟨W, hW⟩ : ∃ W, W = W12.setCell ⟨w.heap.size + 1 + 1, 0, none⟩ (.slice (some ⟨g, 0, none⟩) l.length scap) := ⟨_, rfl⟩
    rw [← hW]
    have hg : W12.grownBy W (some (w.heap.size + 1 + 1)) := by rw [hW]; exact grownZ_set _ _ _ _
    have hk : W.heap[w.heap.size + 1 + 1]? = some (.cells #[.slice (some ⟨g, 0, none⟩) l.length scap] 51 (0, 0)) := by
      rw [hW]
      have := set_self (o := 0) (c := .slice (some ⟨g, 0, none⟩) l.length scap) HR12.out
      simpa using this
    have hx : W.cell? ⟨w.heap.size + 1 + 1, 0, none⟩ = some (.slice (some ⟨g, 0, none⟩) l.length scap) := by simp [World.cell?, hk]
    refine bodyPost_ret (v := .tuple #[.agg #[.slice (some ⟨g, 0, none⟩) l.length scap], .int .i64 0]) (by simp [results, Tryz.results33, go_sem, hx]) rfl ?_
    refine cat_ok (l := l.set k ⟨y.name, y.sp, insZ at_ ⟨⟨nm, fl, u⟩, (n : Int)⟩ y.ixs⟩) (by rw [HRN.out, HFN.out]) ?_ (HBW12.out.trans (below_grownZ hg (by omega) HBW12.out.size))
    exact sat_end (B := w.heap.size) (by rw [List.length_set]; exact HO12.out) HR12g.out HR12.out (by omega) hg
  · go_wp2_with fail
    rw [← hW10]
    clear hW10 hik
    refine mixl_act (i := 8) rfl (by kernel_rfl) (growBC HDB10.out) rfl (fun K hK => ?_)
    go_wp2_with fail
    clear hik10
    refine mixl_act (i := 14) rfl (by kernel_rfl) (growBC HDB10.out) rfl (fun K hK => ?_)
    go_wp2_with fail
    refine HIN.out.mono ?_
    rintro e w11 ⟨ik2, rfl, ho11, hg11, hn11⟩
    obtain ⟨ja, jcap, rfl⟩ := own_shapeZ ho11
    have HKF : Hold (CLe (cfS w.heap.size okF nilS W10) (cfS w.heap.size okF nilS w11)) := ⟨cfS_keep (fun b hb _ hc => hg11.block b hb fun e => by
      obtain ⟨h1, h2⟩ := own_isT HM4'.out okF b e.symm
      rcases hc with h3 | h3
      · have := HZ5.out; omega
      · rw [h2] at h3; cases h3) (fun _ _ e => e)⟩
    have HGI : Hold (GRow 4 RPX (cfS w.heap.size okF nilS w11) (insZ at_ ⟨⟨nm, fl, u⟩, (n : Int)⟩ y.ixs) (ics.take (at_ * 4) ++ [.string nm, .slice fva fl.length fvcap, .bool u, .int .i64 (n : Int)] ++ ics.drop (at_ * 4))) := ⟨
      (grow_ins HM5'.out at_ rfl ⟨fva, fvcap, rfl, HXN.out, HFA9.out.mono (cfS_keep (fun b hb _ _ => HD10.out.block b hb) (fun _ _ e => e)), by have := HNL.out; simp [Lit.wf, IntKind.min, IntKind.max, IntKind.bits, IntKind.signed]; omega⟩).mono RPX_mono HKF.out⟩
    have hfin := owncat_done HOC10.out HKY.out hg11 hn11 (xs2 := insZ at_ ⟨⟨nm, fl, u⟩, (n : Int)⟩ y.ixs) (by rw [insZ_len HAT.out]; exact ho11) HGI.out
    have ho2 := HOC10.out.own.kept hg11 (own_blocks HM4'.out HOC10.out.own (by decide))
    have hik : w11.cell? ⟨g, k * 3 + 2, none⟩ = some (.slice ia y.ixs.length icap) := by
      have := ho2.cells (g := g) rfl (k * 3 + 2) _ ((HOC10.out.mine y HKY.out).1 2 _ rfl)
      rw [addr_at] at this; exact this
    have hff : w11.frozen? ⟨g, k * 3 + 2, none⟩ = false := by
      rcases ho2.2 with ⟨hv, _⟩ | ⟨q, cap, cur, hv, _, hgg, _⟩
      · cases hv
      · injection hv with e1
        injection e1 with e1
        injection e1 with e1
        subst e1
        exact free_box hgg _
    have HDB11 : Hold (Below (w.heap.size + 3) W9 w11) := ⟨HDB10.out.trans ((Below.refl _ W10).grown hg11 (Nat.le_trans HZ9.out HDB10.out.size) (fun q hq => by have := (HM4'.out.lt q hq).1; have := HZ5.out; omega))⟩
    obtain ⟨W12, hW12⟩ : ∃ W12, W12 = w11.setCell ⟨g, k * 3 + 2, none⟩ (.slice ja (y.ixs.length + 1) jcap) := ⟨_, rfl⟩
    rw [← hW12] at hfin
    obtain ⟨ho12, hg12, hr12⟩ := hfin
    have HO12 := Hold.mk ho12
    have HR12g := Hold.mk hr12
    have HDB12 : Hold (Below (w.heap.size + 3) W9 W12) := ⟨HDB11.out.trans (below_grownZ hg12 (by have := (HOC10.out.own.lt g rfl).1; have := HZ5.out; omega) (Nat.le_trans HZ9.out HDB11.out.size))⟩
    clear ho11 hg11 hn11 ho2 ho12 hg12 hr12 HIN HKF HGI HM4' HM5' HOC10 HD10
    go_wp2_with fail
    refine mixl_seg (by kernel_rfl) (fun _ _ d _ _ h => by cases d <;> exact h) [15, 16] [_, _] 1 3 rfl _ _ _ rfl (by kernel_rfl) (growBC HDB11.out) ?_
    repeat (go_big_quiet_step (fail))
    refine wpQuiet_nil ?_
    refine mixl_act (i := 17) rfl (by kernel_rfl) (growBC HDB11.out) rfl (fun K hK => ?_)
    go_wp2_with fail
    rw [← hW12]
    clear hW12 hik hff
    refine mix_done (by kernel_rfl) (growBC HDB12.out) ?_
    have HC12 : Hold (W12.heap[w.heap.size]? = some (.cells #[.slice (some ⟨g, 0, none⟩) l.length scap] 51 (0, 0))) := ⟨by rw [HDB12.out.block _ (by omega)]; exact HC9.out⟩
    have HR12 : Hold (W12.heap[w.heap.size + 1 + 1]? = some (.cells #[.slice none 0 0] 51 (0, 0))) := ⟨by rw [HDB12.out.block _ (by omega)]; exact HR9.out⟩
    have HBW12 : Hold (Below w.heap.size w W12) := ⟨HBW9.out.trans (HDB12.out.mono (by omega))⟩
    obtain ⟨y0, hxx⟩ : W12.cell? ⟨w.heap.size, 0, none⟩ = some (.slice (some ⟨g, 0, none⟩) l.length scap) ∧ True := ⟨by
      have := HC12.out
      simp [World.cell?, this], trivial⟩
    have hf1 : W12.frozen? ⟨w.heap.size + 1 + 1, 0, none⟩ = false := free_box HR12.out 0
    have hx1 : W12.cell? ⟨w.heap.size + 1 + 1, 0, none⟩ = some (.slice none 0 0) := by
      have := HR12.out
      simp [World.cell?, this]
    clear hxx
    go_wp2_with fail
    clear hf1 hx1 y0
    obtain ⟨W, hW⟩ : ∃ W, W = W12.setCell ⟨w.heap.size + 1 + 1, 0, none⟩ (.slice (some ⟨g, 0, none⟩) l.length scap) := ⟨_, rfl⟩
    rw [← hW]
    have hg : W12.grownBy W (some (w.heap.size + 1 + 1)) := by rw [hW]; exact grownZ_set _ _ _ _
    have hk : W.heap[w.heap.size + 1 + 1]? = some (.cells #[.slice (some ⟨g, 0, none⟩) l.length scap] 51 (0, 0)) := by
      rw [hW]
      have := set_self (o := 0) (c := .slice (some ⟨g, 0, none⟩) l.length scap) HR12.out
      simpa using this
    have hx : W.cell? ⟨w.heap.size + 1 + 1, 0, none⟩ = some (.slice (some ⟨g, 0, none⟩) l.length scap) := by simp [World.cell?, hk]
    refine bodyPost_ret (v := .tuple #[.agg #[.slice (some ⟨g, 0, none⟩) l.length scap], .int .i64 0]) (by simp [results, Tryz.results33, go_sem, hx]) rfl ?_
    refine cat_ok (l := l.set k ⟨y.name, y.sp, insZ at_ ⟨⟨nm, fl, u⟩, (n : Int)⟩ y.ixs⟩) (by rw [HRN.out, HFN.out]) ?_ (HBW12.out.trans (below_grownZ hg (by omega) HBW12.out.size))
    exact sat_end (B := w.heap.size) (by rw [List.length_set]; exact HO12.out) HR12g.out HR12.out (by omega) hg

end Go.Proofs.YtcmfanfkcbjeoaaGreatDoor
