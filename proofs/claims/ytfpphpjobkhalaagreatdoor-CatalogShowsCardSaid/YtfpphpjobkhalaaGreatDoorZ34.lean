/- Catalogs: Create and Drop of the program (printed by genXCK.py). -/
import Derived.Test.YtfpphpjobkhalaaGreatDoorZ04
import Derived.Test.YtfpphpjobkhalaaGreatDoorZ27
import Derived.Test.YtfpphpjobkhalaaGreatDoorZ29
import Derived.Test.YtfpphpjobkhalaaGreatDoorZ33
import Derived.Deep.RegionLaw
import Derived.Lib.SliceRun
namespace Go.Proofs.YtfpphpjobkhalaaGreatDoor
open Go.Shelf Go.RowKit

open Classical in
/-- the least space that none has -/
noncomputable def freshZ (zs : List Int) : Int := if h : ∃ n, IsFresh zs n then ((Classical.choose h : Nat) : Int) else 0
theorem freshZ_eq {zs : List Int} {n : Nat} (h : IsFresh zs n) : freshZ zs = (n : Int) := by
  unfold freshZ
  rw [dif_pos ⟨n, h⟩, (Classical.choose_spec (p := fun n => IsFresh zs n) ⟨n, h⟩).uniq h]
abbrev namesC (l : List CX) : List ByteArray := l.map fun x => x.name
abbrev namesP (l : List PX) : List ByteArray := l.map fun x => x.ix.name
def insZ {α : Type} (k : Nat) (x : α) (l : List α) : List α := l.take k ++ x :: l.drop k
/-- Create and Drop: the catalog and the error's number -/
noncomputable def createF (l : List CX) (s : ByteArray) : List CX × Int :=
  if (formC l && nameF s) = false then ([], 2) else if 0 ≤ findI (nameIs s) l then ([], 5) else if l.length = 4 then ([], 3) else
    (insZ (placeZ (namesC l) s) ⟨s, freshZ (spacesC l), []⟩ l, 0)
/-- what each of the four acts hands back -/
def CatPost (w : World) (r : List CX × Int) (e : Ending) (w' : World) : Prop := ∃ v', e = .returned (.tuple #[v', .int .i64 r.2]) ∧ CatAt (cf w') r.1 v' ∧ Below w.heap.size w w'
theorem cat_err {w w' : World} {r : List CX × Int} {n : Int} (h : r = ([], n)) (hb : Below w.heap.size w w') : CatPost w r (.returned (.tuple #[.agg #[.slice none 0 0], .int .i64 n])) w' := by
  subst h
  exact ⟨_, rfl, ⟨none, 0, rfl, SAt.none _ _ _⟩, hb⟩
theorem cat_ok {w w' : World} {r : List CX × Int} {l : List CX} {sl : Value} (h : r = (l, 0)) (hs : SAt 3 RCX (cf w') sl l) (hb : Below w.heap.size w w') : CatPost w r (.returned (.tuple #[.agg #[sl], .int .i64 0])) w' := by
  subst h
  obtain ⟨a, cap, e, _⟩ := id hs
  subst e
  exact ⟨_, rfl, ⟨a, cap, rfl, hs⟩, hb⟩
theorem spaces_four {l : List CX} (h : formC l = true) : (spacesC l).length ≤ 20 := by
  unfold formC at h
  simp only [Bool.and_eq_true, decide_eq_true_eq, List.all_eq_true] at h
  obtain ⟨⟨⟨h1, _⟩, h3⟩, _⟩ := h
  have : ∀ l : List CX, (∀ x ∈ l, formX x = true) → (spacesC l).length ≤ 5 * l.length := by
    intro l
    induction l with
    | nil => intro _; simp [spacesC]
    | cons x l ih =>
      intro h
      have h4 := ih fun y hy => h y (List.mem_cons_of_mem _ hy)
      have h5 := h x (List.mem_cons_self ..)
      unfold formX at h5
      simp only [Bool.and_eq_true, decide_eq_true_eq] at h5
      have h6 := h5.1.1.2
      unfold spacesC at h4 ⊢
      rw [List.flatMap_cons, List.length_append, List.length_cons]
      simp only [spacesX, List.length_cons, List.length_map]
      omega
  have := this l h3
  omega
theorem form_up {l : List CX} (h : formC l = true) : upZ (namesC l) ∧ l.length ≤ 4 := by
  unfold formC at h
  simp only [Bool.and_eq_true, decide_eq_true_eq] at h
  exact ⟨rises_upZ h.1.1.2, h.1.1.1⟩
theorem grow_take {α : Type} {n : Nat} {R : Rep α} {c : CF} {xs : List α} {cs : List Value} (h : GRow n R c xs cs) (k : Nat) : GRow n R c (xs.take k) (cs.take (k * n)) := by
  have hcl := h.1
  refine ⟨by rw [List.length_take, List.length_take, hcl, Nat.mul_min_mul_right], fun i y hy => ?_⟩
  rw [List.getElem?_take] at hy
  split at hy
  · rename_i hik
    obtain ⟨d, h1, h2, h3⟩ := h.2 i y hy
    refine ⟨d, h1, fun j u hu => ?_, h3⟩
    have hj : j < n := by rw [← h1]; exact (List.getElem?_eq_some_iff.1 hu).1
    have : (i + 1) * n ≤ k * n := Nat.mul_le_mul_right _ hik
    rw [Nat.add_mul] at this
    rw [List.getElem?_take, if_pos (by omega)]; exact h2 j u hu
  · cases hy
theorem grow_drop {α : Type} {n : Nat} {R : Rep α} {c : CF} {xs : List α} {cs : List Value} (h : GRow n R c xs cs) (k : Nat) : GRow n R c (xs.drop k) (cs.drop (k * n)) := by
  have hcl := h.1
  refine ⟨by rw [List.length_drop, List.length_drop, hcl, Nat.sub_mul], fun i y hy => ?_⟩
  rw [List.getElem?_drop] at hy
  obtain ⟨d, h1, h2, h3⟩ := h.2 (k + i) y hy
  refine ⟨d, h1, fun j u hu => ?_, h3⟩
  have := h2 j u hu
  rw [Nat.add_mul] at this
  rw [List.getElem?_drop, show k * n + (i * n + j) = k * n + i * n + j by omega]; exact this
theorem grow_ins {α : Type} {n : Nat} {R : Rep α} {c : CF} {xs : List α} {cs d : List Value} {x : α} (h : GRow n R c xs cs) (k : Nat) (hd : d.length = n) (hx : R c x d) : GRow n R c (insZ k x xs) (cs.take (k * n) ++ d ++ cs.drop (k * n)) := by
  have h1 := ((grow_take h k).snoc hd hx).app (grow_drop h k)
  simpa [insZ] using h1
theorem insZ_len {α : Type} {k : Nat} {x : α} {l : List α} (h : k ≤ l.length) : (insZ k x l).length = l.length + 1 := by unfold insZ; simp; omega
/-- what a change of the row of collections leaves -/
theorem own_keepS {B N p : Nat} {w w' : World} {sl : Value} {cs : List Value} (h : w.ownsRow N 67 3 sl p cs) (hB : B ≤ N) (hg : w.grownBy w' sl.ownBlock) : CLe (cfS B okFP nilS w) (cfS B okFP nilS w') :=
  cfS_keep (fun b hb _ hc => hg.block b hb fun e => by
    obtain ⟨h1, h2⟩ := own_isT h okFP b e.symm
    rcases hc with h3 | h3
    · omega
    · rw [h2] at h3; cases h3) (fun _ _ e => e)
theorem sat_cat {B N : Nat} {w : World} {sl : Value} {l : List CX} {cs : List Value} (h : w.ownsRow N 67 3 sl l.length cs) (hr : GRow 3 RCX (cfS B okFP nilS w) l cs) : SAt 3 RCX (cf w) sl l :=
  sat_of_own h (hr.mono RCX_mono (cfS_cf _ _ _ _)) (fun _ _ _ _ h => h)
theorem box_keepS {B c : Nat} {w w' : World} {vs : Array Value} {s : Nat × Nat} (hc : w.heap[c]? = some (.cells vs 24 s)) (hB : B ≤ c) (hg : w.grownBy w' (some c)) : CLe (cfS B okFP nilS w) (cfS B okFP nilS w') :=
  cfS_keep (fun b hb _ h2 => hg.block b hb fun e => by
    obtain rfl := Option.some.inj e
    rcases h2 with h3 | h3
    · omega
    · unfold isT at h3; rw [hc] at h3; have h4 : okFP 24 = true := h3; exact absurd h4 (by decide)) (fun _ _ e => e)
theorem box_keepO {N n p c : Nat} {T : TypeId} {w w' : World} {sv : Value} {ds : List Value} {vs : Array Value} {s : Nat × Nat} (h1 : w.ownsRow N T n sv p ds) (hc : w.heap[c]? = some (.cells vs 24 s)) (hne : 24 ≠ T) (hg : w.grownBy w' (some c)) : w'.ownsRow N T n sv p ds := h1.kept hg (by
  cases e : sv.ownBlock with
  | none => exact .inl rfl
  | some g => exact .inr (fun e2 => own_ne h1 hc hne g e (Option.some.inj e2).symm))
theorem bsetZ {c o : Nat} {w w' : World} {v : Value} (h : Below w.heap.size w w') (hB : w.heap.size ≤ c) : Below w.heap.size w (w'.setCell ⟨c, o, none⟩ v) := h.trans (below_grownZ (grownZ_set _ _ _ _) hB h.size)
set_option maxRecDepth 100000 in
set_option maxHeartbeats 16000000 in
theorem Create_any (l : List CX) (v : Value) (s : ByteArray) (w : World) (h : CatAt (cf w) l v) (hsm : SmallC l) (hsz : Sized l) (hs : s.size ≤ 9223372036854775807) (hT : Tabs w) :
    Calls Tryz.prog 26 #[v, .string s] w (CatPost w (createF l s)) := by
  obtain ⟨a, cap, rfl, hsat⟩ := h
  obtain ⟨r, hr⟩ : ∃ r, r = createF l s := ⟨_, rfl⟩
  rw [← hr]
  have HR := Hold.mk hr
  have HS := Hold.mk hsat
  have HSZ := Hold.mk hsz
  have HSM := Hold.mk hsm
  have HSS := Hold.mk hs
  obtain ⟨W0, hW0⟩ : ∃ W0, W0 = (w.alloc (.cells #[.slice a l.length cap] 24)).alloc (.cells #[.slice none 0 0] 24) := ⟨_, rfl⟩
  have hb0 : Below w.heap.size w W0 := by rw [hW0]; exact ((Below.refl _ w).alloc (Nat.le_refl _) _).alloc (by simp <;> omega) _
  have HZ0 : Hold (W0.heap.size = w.heap.size + 2) := ⟨by rw [hW0]; simp⟩
  have HC0 : Hold (W0.heap[w.heap.size]? = some (.cells #[.slice a l.length cap] 24 (0, 0))) := ⟨by
    rw [hW0, Below.heap_alloc _ _ _ (by simp <;> omega)]; exact heap_alloc_new w _⟩
  have HR0 : Hold (W0.heap[w.heap.size + 1]? = some (.cells #[.slice none 0 0] 24 (0, 0))) := ⟨by
    rw [hW0]
    have := heap_alloc_new (w.alloc (.cells #[.slice a l.length cap] 24)) (.cells #[.slice none 0 0] 24)
    simpa using this⟩
  have HB0 := Hold.mk hb0
  have HCA : Hold (∀ wn, Below W0.heap.size W0 wn → CatAt (cf wn) l (.agg #[.slice a l.length cap]) ∧ Tabs wn ∧ wn.cell? ⟨w.heap.size, 0, none⟩ = some (.slice a l.length cap) ∧ wn.heap[w.heap.size + 1]? = some (.cells #[.slice none 0 0] 24 (0, 0)) ∧ Below w.heap.size w wn) := ⟨fun wn hb => by
    have h1 := HB0.out.trans (hb.mono HB0.out.size)
    have h2 := kept HC0.out hb
    exact ⟨⟨a, cap, rfl, HS.out.mono RCX_mono (cle_below h1)⟩, hT.below h1, by simp [World.cell?, h2], kept HR0.out hb, h1⟩⟩
  obtain ⟨hca, ht, y0, _, _⟩ := HCA.out W0 (Below.refl _ _)
  have HFO := Hold.mk (FormedC_any l _ W0 hca hsm ht)
  clear hsat hsz hsm hs hb0 hT hca ht hr
  go_enter Tryz.func26, Tryz.ntmps26
  go_upto_region 1 with (fail)
  rw [← hW0]
  clear hW0
  go_wp2_with fail
  refine HFO.out.mono ?_
  rintro e w1 ⟨rfl, hb1⟩
  have HB1 := Hold.mk hb1
  clear hb1 HFO y0
  obtain ⟨_, _, y0, hr1, hbw⟩ := HCA.out w1 HB1.out
  cases hfo : formC l with
  | false =>
    have HE : Hold (r = ([], 2)) := ⟨by rw [HR.out]; unfold createF; rw [hfo]; rfl⟩
    clear hfo
    have hf1 : w1.frozen? ⟨w.heap.size + 1, 0, none⟩ = false := free_box hr1 0
    have hx1 : w1.cell? ⟨w.heap.size + 1, 0, none⟩ = some (.slice none 0 0) := by
      have := hr1
      simp [World.cell?, this]
    go_wp2_with fail
    clear hf1 hx1
    obtain ⟨W, hW⟩ : ∃ W, W = w1.setCell ⟨w.heap.size + 1, 0, none⟩ (.slice none 0 0) := ⟨_, rfl⟩
    rw [← hW]
    have hk : W.heap[w.heap.size + 1]? = some (.cells #[.slice none 0 0] 24 (0, 0)) := by
      rw [hW]
      have := set_self (o := 0) (c := .slice none 0 0) hr1
      simpa using this
    have hx : W.cell? ⟨w.heap.size + 1, 0, none⟩ = some (.slice none 0 0) := by simp [World.cell?, hk]
    have hb : Below w.heap.size w W := by rw [hW]; exact bsetZ hbw (by omega)
    refine bodyPost_ret (v := .tuple #[.agg #[.slice none 0 0], .int .i64 2]) (by simp [results, Tryz.results26, go_sem, hx]) rfl ?_
    exact cat_err HE.out hb
  | true =>
  have HFO := Hold.mk hfo
  have HNM := Hold.mk (Name_any s w1 HSS.out)
  clear hfo hr1 hbw
  go_wp2_with fail
  refine HNM.out.mono ?_
  rintro e w2 ⟨rfl, hb2⟩
  have HB2 := Hold.mk (HB1.out.trans (hb2.mono HB1.out.size))
  clear hb2 HNM y0
  obtain ⟨hca, _, y0, hr1, hbw⟩ := HCA.out w2 HB2.out
  cases hnm : nameF s with
  | false =>
    have HE : Hold (r = ([], 2)) := ⟨by rw [HR.out]; unfold createF; rw [HFO.out, hnm]; rfl⟩
    clear hnm
    have hf1 : w2.frozen? ⟨w.heap.size + 1, 0, none⟩ = false := free_box hr1 0
    have hx1 : w2.cell? ⟨w.heap.size + 1, 0, none⟩ = some (.slice none 0 0) := by
      have := hr1
      simp [World.cell?, this]
    go_wp2_with fail
    clear hf1 hx1
    obtain ⟨W, hW⟩ : ∃ W, W = w2.setCell ⟨w.heap.size + 1, 0, none⟩ (.slice none 0 0) := ⟨_, rfl⟩
    rw [← hW]
    have hk : W.heap[w.heap.size + 1]? = some (.cells #[.slice none 0 0] 24 (0, 0)) := by
      rw [hW]
      have := set_self (o := 0) (c := .slice none 0 0) hr1
      simpa using this
    have hx : W.cell? ⟨w.heap.size + 1, 0, none⟩ = some (.slice none 0 0) := by simp [World.cell?, hk]
    have hb : Below w.heap.size w W := by rw [hW]; exact bsetZ hbw (by omega)
    refine bodyPost_ret (v := .tuple #[.agg #[.slice none 0 0], .int .i64 2]) (by simp [results, Tryz.results26, go_sem, hx]) rfl ?_
    exact cat_err HE.out hb
  | true =>
  have HRN : Hold (r = if 0 ≤ findI (nameIs s) l then ([], 5) else if l.length = 4 then ([], 3) else (insZ (placeZ (namesC l) s) ⟨s, freshZ (spacesC l), []⟩ l, 0)) := ⟨by rw [HR.out]; unfold createF; rw [HFO.out, hnm, if_neg (by decide)]⟩
  have HFI := Hold.mk (Find_any l _ s w2 hca)
  clear hnm hr1 hbw hca
  go_wp2_with fail
  refine HFI.out.mono ?_
  rintro e w3 ⟨rfl, hb3⟩
  have HB3 := Hold.mk (HB2.out.trans (hb3.mono HB2.out.size))
  clear hb3 HFI y0
  obtain ⟨hca, _, y0, hr1, hbw⟩ := HCA.out w3 HB3.out
  generalize findI (nameIs s) l = fi at *
  by_cases hfi : 0 ≤ fi
  · have HE : Hold (r = ([], 5)) := ⟨by rw [HRN.out, if_pos hfi]⟩
    have hf1 : w3.frozen? ⟨w.heap.size + 1, 0, none⟩ = false := free_box hr1 0
    have hx1 : w3.cell? ⟨w.heap.size + 1, 0, none⟩ = some (.slice none 0 0) := by
      have := hr1
      simp [World.cell?, this]
    go_wp2_with fail
    clear hf1 hx1
    obtain ⟨W, hW⟩ : ∃ W, W = w3.setCell ⟨w.heap.size + 1, 0, none⟩ (.slice none 0 0) := ⟨_, rfl⟩
    rw [← hW]
    have hk : W.heap[w.heap.size + 1]? = some (.cells #[.slice none 0 0] 24 (0, 0)) := by
      rw [hW]
      have := set_self (o := 0) (c := .slice none 0 0) hr1
      simpa using this
    have hx : W.cell? ⟨w.heap.size + 1, 0, none⟩ = some (.slice none 0 0) := by simp [World.cell?, hk]
    have hb : Below w.heap.size w W := by rw [hW]; exact bsetZ hbw (by omega)
    refine bodyPost_ret (v := .tuple #[.agg #[.slice none 0 0], .int .i64 5]) (by simp [results, Tryz.results26, go_sem, hx]) rfl ?_
    exact cat_err HE.out hb
  replace HRN : Hold (r = if l.length = 4 then ([], 3) else (insZ (placeZ (namesC l) s) ⟨s, freshZ (spacesC l), []⟩ l, 0)) := ⟨by rw [HRN.out, if_neg hfi]⟩
  by_cases h4 : l.length = 4
  · have HE : Hold (r = ([], 3)) := ⟨by rw [HRN.out, if_pos h4]⟩
    have h4b : ((l.length : Int) == 4) = true := by rw [h4]; rfl
    clear h4
    have hf1 : w3.frozen? ⟨w.heap.size + 1, 0, none⟩ = false := free_box hr1 0
    have hx1 : w3.cell? ⟨w.heap.size + 1, 0, none⟩ = some (.slice none 0 0) := by
      have := hr1
      simp [World.cell?, this]
    go_wp2_with fail
    clear hf1 hx1
    obtain ⟨W, hW⟩ : ∃ W, W = w3.setCell ⟨w.heap.size + 1, 0, none⟩ (.slice none 0 0) := ⟨_, rfl⟩
    rw [← hW]
    have hk : W.heap[w.heap.size + 1]? = some (.cells #[.slice none 0 0] 24 (0, 0)) := by
      rw [hW]
      have := set_self (o := 0) (c := .slice none 0 0) hr1
      simpa using this
    have hx : W.cell? ⟨w.heap.size + 1, 0, none⟩ = some (.slice none 0 0) := by simp [World.cell?, hk]
    have hb : Below w.heap.size w W := by rw [hW]; exact bsetZ hbw (by omega)
    refine bodyPost_ret (v := .tuple #[.agg #[.slice none 0 0], .int .i64 3]) (by simp [results, Tryz.results26, go_sem, hx]) rfl ?_
    exact cat_err HE.out hb
  replace HRN : Hold (r = (insZ (placeZ (namesC l) s) ⟨s, freshZ (spacesC l), []⟩ l, 0)) := ⟨by rw [HRN.out, if_neg h4]⟩
  have h4b : ((l.length : Int) == 4) = false := by rw [beq_eq_false_iff_ne]; omega
  have HFR := Hold.mk (fresh_any l _ w3 hca (Nat.le_trans (spaces_four HFO.out) (by decide)))
  clear h4 hca hr1 hbw
  go_wp2_with fail
  refine HFR.out.mono ?_
  rintro e w4 ⟨n, rfl, hfr, hnl, hb4⟩
  have HFN := Hold.mk (freshZ_eq hfr)
  have HNL : Hold (n ≤ 21) := ⟨by have := spaces_four HFO.out; omega⟩
  have HB4 := Hold.mk (HB3.out.trans (hb4.mono HB3.out.size))
  clear hb4 HFR y0 hfr hnl h4b
  obtain ⟨_, _, y0, hr1, hbw⟩ := HCA.out w4 HB4.out
  have HOW := Hold.mk (own_any w.heap.size l.length l (.agg #[.slice a l.length cap]) w4 hbw.size ⟨a, cap, rfl, HS.out.mono RCX_mono (cf_cfL rfl hbw)⟩ HSZ.out)
  have HBW4 := Hold.mk hbw
  have HC4 := Hold.mk (kept HC0.out HB4.out)
  have HR4 := Hold.mk hr1
  have HZ4 : Hold (w.heap.size + 2 ≤ w4.heap.size) := ⟨by have := HZ0.out; have := HB4.out.size; omega⟩
  clear hr1 hbw
  go_wp2_with fail
  refine HOW.out.mono ?_
  rintro e w5 ⟨sl, cs, ik, ics, rfl, hoc, hb5⟩
  obtain ⟨sa, scap, rfl⟩ := own_shapeZ hoc.own
  have HOC := Hold.mk hoc
  have HC5 := Hold.mk (kept HC4.out hb5)
  have HR5 := Hold.mk (kept HR4.out hb5)
  have HBW5 := Hold.mk (HBW4.out.trans (hb5.mono HBW4.out.size))
  have HZ5 : Hold (w.heap.size + 2 ≤ w5.heap.size) := ⟨Nat.le_trans HZ4.out hb5.size⟩
  clear hoc hb5 HOW y0
  have hf : w5.frozen? ⟨w.heap.size, 0, none⟩ = false := free_box HC5.out 0
  have hx : w5.cell? ⟨w.heap.size, 0, none⟩ = some (.slice a l.length cap) := by
    have := HC5.out
    simp [World.cell?, this]
  go_upto_region 9 with (fail)
  clear hf hx
  obtain ⟨W6, hW6⟩ : ∃ W6, W6 = w5.setCell ⟨w.heap.size, 0, none⟩ (.slice sa l.length scap) := ⟨_, rfl⟩
  rw [← hW6]
  have hg6 : w5.grownBy W6 (some w.heap.size) := by rw [hW6]; exact grownZ_set _ _ _ _
  have HC6 : Hold (W6.heap[w.heap.size]? = some (.cells #[.slice sa l.length scap] 24 (0, 0))) := ⟨by
    rw [hW6]
    have := set_self (o := 0) (c := .slice sa l.length scap) HC5.out
    simpa using this⟩
  have HR6 : Hold (W6.heap[w.heap.size + 1]? = some (.cells #[.slice none 0 0] 24 (0, 0))) := ⟨by
    rw [hg6.block _ (heap_lt HR5.out) (fun e => by injection e with e; omega)]; exact HR5.out⟩
  have HOC6 := Hold.mk (HOC.out.but HC5.out (Nat.le_refl _) hg6)
  have HBW6 : Hold (Below w.heap.size w W6) := ⟨HBW5.out.trans (below_grownZ hg6 (Nat.le_refl _) HBW5.out.size)⟩
  have HZ6 : Hold (w.heap.size + 2 ≤ W6.heap.size) := ⟨Nat.le_trans HZ5.out hg6.size⟩
  clear hW6 hg6 HOC HC5 HR5 HBW5
  have hx : W6.cell? ⟨w.heap.size, 0, none⟩ = some (.slice sa l.length scap) := by
    have := HC6.out
    simp [World.cell?, this]
  have HSE := Hold.mk (searchC_any l s _ W6 (sat_cat HOC6.out.own HOC6.out.rows) (form_up HFO.out).1 HSZ.out.1)
  obtain ⟨k, hk⟩ : ∃ k, k = placeZ (namesC l) s := ⟨_, rfl⟩
  have HKL : Hold (k ≤ l.length) := ⟨by rw [hk]; have := placeZ_le (namesC l) s; simpa using this⟩
  rw [← hk] at HRN HSE
  generalize foundZ (namesC l) s = fo at HSE
  clear hk
  go_wp2_with fail
  refine HSE.out.mono ?_
  rintro e w7 ⟨rfl, hb7⟩
  have HC7 := Hold.mk (kept HC6.out hb7)
  have HR7 := Hold.mk (kept HR6.out hb7)
  have HOC7 := Hold.mk (HOC6.out.quiet hb7)
  have HBW7 := Hold.mk (HBW6.out.trans (hb7.mono HBW6.out.size))
  have HZ7 : Hold (w.heap.size + 2 ≤ w7.heap.size) := ⟨Nat.le_trans HZ6.out hb7.size⟩
  clear hb7 HSE hx HOC6 HC6 HR6 HBW6
  have hx : w7.cell? ⟨w.heap.size, 0, none⟩ = some (.slice sa l.length scap) := by
    have := HC7.out
    simp [World.cell?, this]
  obtain ⟨W8, hW8⟩ : ∃ W8, W8 = w7.alloc (.cells #[.string s, .int .i64 (n : Int), .slice none 0 0] 67) := ⟨_, rfl⟩
  have hb8 : Below w7.heap.size w7 W8 := by rw [hW8]; exact (Below.refl _ w7).alloc (Nat.le_refl _) _
  have hk8 : W8.heap[w7.heap.size]? = some (.cells #[.string s, .int .i64 (n : Int), .slice none 0 0] 67 (0, 0)) := by rw [hW8]; exact heap_alloc_new w7 _
  have HOC8 := Hold.mk (HOC7.out.quiet hb8)
  have HC8 := Hold.mk (kept HC7.out hb8)
  have HR8 := Hold.mk (kept HR7.out hb8)
  have HBW8 := Hold.mk (HBW7.out.trans (hb8.mono HBW7.out.size))
  have HIN := Hold.mk (insCx_any w4.heap.size W8 (.slice sa l.length scap) l.length cs HOC8.out.own k HKL.out w7.heap.size [.string s, .int .i64 (n : Int), .slice none 0 0] hk8 rfl (by simp [Value.oneCell']) (grow_one RCX_one (by decide) HOC8.out.rows) HOC8.out.le HSZ.out.1 (fun e => by have := (HOC7.out.own.lt _ e).2; omega))
  clear hb8 hk8 HOC7 HC7 HR7 HBW7
  go_wp2_with (rw [← hW8])
  clear hW8
  refine HIN.out.mono ?_
  rintro e w9 ⟨sl9, rfl, ho9, hg9, hn9⟩
  obtain ⟨s9, c9, rfl⟩ := own_shapeZ ho9
  have HO9 := Hold.mk ho9
  have HSA : Hold (GRow 3 RCX (cfS w.heap.size okFP nilS w9) (insZ k ⟨s, (n : Int), []⟩ l) (cs.take (k * 3) ++ [.string s, .int .i64 (n : Int), .slice none 0 0] ++ cs.drop (k * 3))) := ⟨
    (grow_ins HOC8.out.rows k rfl ⟨none, 0, rfl, HSS.out, by have := HNL.out; simp [Lit.wf, IntKind.min, IntKind.max, IntKind.bits, IntKind.signed]; omega, SAt.none _ _ _⟩).mono RCX_mono (own_keepS HOC8.out.own HOC8.out.bn hg9)⟩
  have hne := fun {c : Nat} {vs : Array Value} (hc : W8.heap[c]? = some (.cells vs 24 (0, 0))) => own_ne HOC8.out.own hc (by decide)
  have HC9 : Hold (w9.heap[w.heap.size]? = some (.cells #[.slice sa l.length scap] 24 (0, 0))) := ⟨by
    rw [hg9.block _ (heap_lt HC8.out) (fun e => hne HC8.out _ e.symm rfl)]; exact HC8.out⟩
  have HR9 : Hold (w9.heap[w.heap.size + 1]? = some (.cells #[.slice none 0 0] 24 (0, 0))) := ⟨by
    rw [hg9.block _ (heap_lt HR8.out) (fun e => hne HR8.out _ e.symm rfl)]; exact HR8.out⟩
  have HBW9 : Hold (Below w.heap.size w w9) := ⟨HBW8.out.trans ((Below.refl _ W8).grown hg9 HBW8.out.size (fun g hg => by have := (HOC8.out.own.lt g hg).1; have := HZ4.out; omega))⟩
  clear ho9 hg9 hn9 hne HIN HOC8 HC8 HR8 hx
  have hf : w9.frozen? ⟨w.heap.size, 0, none⟩ = false := free_box HC9.out 0
  have hx : w9.cell? ⟨w.heap.size, 0, none⟩ = some (.slice sa l.length scap) := by
    have := HC9.out
    simp [World.cell?, this]
  go_upto_region 11 with (fail)
  clear hf hx
  obtain ⟨W10, hW10⟩ : ∃ W10, W10 = w9.setCell ⟨w.heap.size, 0, none⟩ (.slice s9 (l.length + 1) c9) := ⟨_, rfl⟩
  rw [← hW10]
  have hg10 : w9.grownBy W10 (some w.heap.size) := by rw [hW10]; exact grownZ_set _ _ _ _
  have hk10 : W10.heap[w.heap.size]? = some (.cells #[.slice s9 (l.length + 1) c9] 24 (0, 0)) := by
    rw [hW10]
    have := set_self (o := 0) (c := .slice s9 (l.length + 1) c9) HC9.out
    simpa using this
  have HR10 : Hold (W10.heap[w.heap.size + 1]? = some (.cells #[.slice none 0 0] 24 (0, 0))) := ⟨by
    rw [hg10.block _ (heap_lt HR9.out) (fun e => by injection e with e; omega)]; exact HR9.out⟩
  have HO10 := Hold.mk (box_keepO HO9.out HC9.out (by decide) hg10)
  have HSA10 := Hold.mk (HSA.out.mono RCX_mono (box_keepS HC9.out (Nat.le_refl _) hg10))
  have HBW10 : Hold (Below w.heap.size w W10) := ⟨HBW9.out.trans (below_grownZ hg10 (Nat.le_refl _) HBW9.out.size)⟩
  have hx : W10.cell? ⟨w.heap.size, 0, none⟩ = some (.slice s9 (l.length + 1) c9) := by simp [World.cell?, hk10]
  have hf1 : W10.frozen? ⟨w.heap.size + 1, 0, none⟩ = false := free_box HR10.out 0
  have hx1 : W10.cell? ⟨w.heap.size + 1, 0, none⟩ = some (.slice none 0 0) := by
    have := HR10.out
    simp [World.cell?, this]
  clear hW10 hg10 hk10 HO9 HSA HC9 HR9 HBW9
  go_wp2_with fail
  clear hf1 hx1 hx
  obtain ⟨W, hW⟩ : ∃ W, W = W10.setCell ⟨w.heap.size + 1, 0, none⟩ (.slice s9 (l.length + 1) c9) := ⟨_, rfl⟩
  rw [← hW]
  have hg : W10.grownBy W (some (w.heap.size + 1)) := by rw [hW]; exact grownZ_set _ _ _ _
  have hk : W.heap[w.heap.size + 1]? = some (.cells #[.slice s9 (l.length + 1) c9] 24 (0, 0)) := by
    rw [hW]
    have := set_self (o := 0) (c := .slice s9 (l.length + 1) c9) HR10.out
    simpa using this
  have hx : W.cell? ⟨w.heap.size + 1, 0, none⟩ = some (.slice s9 (l.length + 1) c9) := by simp [World.cell?, hk]
  refine bodyPost_ret (v := .tuple #[.agg #[.slice s9 (l.length + 1) c9], .int .i64 0]) (by simp [results, Tryz.results26, go_sem, hx]) rfl ?_
  refine cat_ok (l := insZ k ⟨s, (n : Int), []⟩ l) (by rw [HRN.out, HFN.out]) ?_ (HBW10.out.trans (below_grownZ hg (by omega) HBW10.out.size))
  refine sat_cat (B := w.heap.size) (by rw [insZ_len HKL.out]; exact box_keepO HO10.out HR10.out (by decide) hg) (HSA10.out.mono RCX_mono (box_keepS HR10.out (by omega) hg))
end Go.Proofs.YtfpphpjobkhalaaGreatDoor
