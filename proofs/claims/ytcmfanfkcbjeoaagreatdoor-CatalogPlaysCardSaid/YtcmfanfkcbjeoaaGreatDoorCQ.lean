/- Catalogs: act and awake of the laws (printed by genXCQ.py). -/
import Derived.Test.YtcmfanfkcbjeoaaGreatDoorCP
import Derived.Test.YtcmfanfkcbjeoaaGreatDoorCM
namespace Go.Proofs.YtcmfanfkcbjeoaaGreatDoor
open Go.Shelf Go.RowKit

/-- memory but for a block -/
def cfB (k : Nat) (w : World) : CF := fun b o => if b = k then none else cf w b o
theorem cfB_set {k o : Nat} {w : World} {v : Value} : CLe (cfB k w) (cf (w.setCell ⟨k, o, none⟩ v)) := fun b q u h => by
  unfold cfB at h
  split at h
  · cases h
  · rename_i hne
    unfold cf World.cell? at h ⊢
    rw [Below.heap_setCell _ _ _ _ hne]; exact h
/-- a box of one cell holds no row of greater elements -/
theorem sat_one {α : Type} {n k : Nat} {R : Rep α} {w : World} {T : TypeId} {s : Nat × Nat} {c sv : Value} {xs : List α} (hn : 2 ≤ n) (hk : w.heap[k]? = some (.cells #[c] T s)) (hR : ∀ x d, R (cf w) x d → R (cfB k w) x d) (h : SAt n R (cf w) sv xs) : SAt n R (cfB k w) sv xs := by
  obtain ⟨a, cap, e, h1, h2, h3⟩ := h
  refine ⟨a, cap, e, h1, h2, fun i x hx => ?_⟩
  obtain ⟨b, off, d, e2, h4, h5, h6⟩ := h3 i x hx
  have hb : b ≠ k := fun e => by
    subst e
    have := h5 1 _ (List.getElem?_eq_getElem (by omega))
    unfold cf World.cell? at this
    rw [hk] at this
    simp at this
  exact ⟨b, off, d, e2, h4, fun j u hu => by unfold cfB; rw [if_neg hb]; exact h5 j u hu, hR _ _ h6⟩
theorem fields_one {k : Nat} {w : World} {T : TypeId} {s : Nat × Nat} {c v : Value} {l : List Fd} (hk : w.heap[k]? = some (.cells #[c] T s)) (h : FieldsAt (cf w) v l) : FieldsAt (cfB k w) v l :=
  sat_fieldsAt (sat_one (by decide) hk (fun _ _ h => h) (fieldsAt_sat h))
theorem cat_one {k : Nat} {w : World} {T : TypeId} {s : Nat × Nat} {c v : Value} {l : List CX} (hk : w.heap[k]? = some (.cells #[c] T s)) (h : CatAt (cf w) l v) : CatAt (cfB k w) l v := by
  obtain ⟨a, cap, e, h1⟩ := h
  refine ⟨a, cap, e, sat_one (by decide) hk (fun x d h2 => ?_) h1⟩
  obtain ⟨xa, xcap, e1, e2, e3, h3⟩ := h2
  refine ⟨xa, xcap, e1, e2, e3, sat_one (by decide) hk (fun p d h4 => ?_) h3⟩
  obtain ⟨pa, pcap, g1, g2, g3, g4⟩ := h4
  exact ⟨pa, pcap, g1, g2, fields_one hk g3, g4⟩
theorem CatAt.set {k o : Nat} {w : World} {T : TypeId} {s : Nat × Nat} {c v u : Value} {l : List CX} (h : CatAt (cf w) l v) (hk : w.heap[k]? = some (.cells #[c] T s)) : CatAt (cf (w.setCell ⟨k, o, none⟩ u)) l v := (cat_one hk h).mono cfB_set

set_option maxRecDepth 100000 in
set_option maxHeartbeats 16000000 in
theorem act_any (l : List CX) (v : Value) (o : OpX) (fa : Option Addr) (fcap : Nat) (w : World) (h : CatAt (cf w) l v) (hsm : SmallC l) (hsz : Sized l) (hn : o.name.size ≤ 9223372036854775807) (hx : IAt (cf w) o.x (.agg #[.string o.x.name, .slice fa o.x.fields.length fcap, .bool o.x.uniq])) (hxs : ∀ f ∈ o.x.fields, f.1.size ≤ 1000000) (hxl : o.x.fields.length ≤ 1000000) (hT : Tabs w) :
    Calls Tryz.prog 21 #[v, .agg #[.int .i64 o.kind, .string o.name, .string o.x.name, .slice fa o.x.fields.length fcap, .bool o.x.uniq]] w (CatPost w (actF l o)) := by
  obtain ⟨a, cap, rfl, hsat⟩ := h
  obtain ⟨kd, nm, ⟨xn, fl, u⟩⟩ := o
  simp only at *
  have HS := Hold.mk hsat
  have HX := Hold.mk hx
  have HXS := Hold.mk hxs
  have HXL := Hold.mk hxl
  obtain ⟨W0, hW0⟩ : ∃ W0, W0 = (((w.alloc (.cells #[.slice a l.length cap] 51)).alloc (.cells #[.int .i64 kd, .string nm, .string xn, .slice fa fl.length fcap, .bool u] 62)).alloc (.cells #[.slice none 0 0] 51)).alloc (.cells #[.slice none 0 0] 51) := ⟨_, rfl⟩
  have hb0 : Below w.heap.size w W0 := by rw [hW0]; exact ((((Below.refl _ w).alloc (Nat.le_refl _) _).alloc (by simp <;> omega) _).alloc (by simp <;> omega) _).alloc (by simp <;> omega) _
  have HCB : Hold (W0.heap[w.heap.size]? = some (.cells #[.slice a l.length cap] 51 (0, 0))) := ⟨by
    rw [hW0, Below.heap_alloc _ _ _ (by simp <;> omega), Below.heap_alloc _ _ _ (by simp <;> omega), Below.heap_alloc _ _ _ (by simp <;> omega)]; exact heap_alloc_new w _⟩
  have hob : W0.heap[w.heap.size + 1]? = some (.cells #[.int .i64 kd, .string nm, .string xn, .slice fa fl.length fcap, .bool u] 62 (0, 0)) := by
    rw [hW0, Below.heap_alloc _ _ _ (by simp <;> omega), Below.heap_alloc _ _ _ (by simp <;> omega)]
    have := heap_alloc_new (w.alloc (.cells #[.slice a l.length cap] 51)) (.cells #[.int .i64 kd, .string nm, .string xn, .slice fa fl.length fcap, .bool u] 62)
    simpa using this
  have HRB : Hold (W0.heap[w.heap.size + 1 + 1]? = some (.cells #[.slice none 0 0] 51 (0, 0))) := ⟨by
    rw [hW0, Below.heap_alloc _ _ _ (by simp <;> omega)]
    have := heap_alloc_new ((w.alloc (.cells #[.slice a l.length cap] 51)).alloc (.cells #[.int .i64 kd, .string nm, .string xn, .slice fa fl.length fcap, .bool u] 62)) (.cells #[.slice none 0 0] 51)
    simpa using this⟩
  have HDB : Hold (W0.heap[w.heap.size + 1 + 1 + 1]? = some (.cells #[.slice none 0 0] 51 (0, 0))) := ⟨by
    rw [hW0]
    have := heap_alloc_new (((w.alloc (.cells #[.slice a l.length cap] 51)).alloc (.cells #[.int .i64 kd, .string nm, .string xn, .slice fa fl.length fcap, .bool u] 62)).alloc (.cells #[.slice none 0 0] 51)) (.cells #[.slice none 0 0] 51)
    simpa using this⟩
  have HB0 := Hold.mk hb0
  have hca : CatAt (cf W0) l (.agg #[.slice a l.length cap]) := ⟨a, cap, rfl, hsat.mono RCX_mono (cle_below hb0)⟩
  have ht := hT.below hb0
  have HIX : Hold (IAt (cf W0) ⟨xn, fl, u⟩ (.agg #[.string xn, .slice fa fl.length fcap, .bool u])) := ⟨hx.mono (cle_below hb0)⟩
  obtain ⟨x0, x1, x2, x3, x4⟩ := cells_five hob
  have y0 : W0.cell? ⟨w.heap.size, 0, none⟩ = some (.slice a l.length cap) := by
    have := HCB.out
    simp [World.cell?, this]
  clear hsat hx hxs hxl hT hb0 hob
  go_enter Tryz.func21, Tryz.ntmps21
  go_upto_region 3 with (fail)
  rw [← hW0]
  clear hW0
  by_cases e1 : kd = 1
  · subst e1
    obtain ⟨r, hr⟩ : ∃ r, r = createF l nm := ⟨_, rfl⟩
    have HRN : Hold (actF l ⟨1, nm, ⟨xn, fl, u⟩⟩ = keepR l r) := ⟨by rw [hr]; unfold actF; rw [if_pos rfl]⟩
    have HK := Hold.mk (Create_any l _ nm W0 hca hsm hsz hn ht)
    rw [← hr] at HK
    clear hr hca ht
    go_wp2_with fail
    refine HK.out.mono ?_
    rintro e w1 ⟨v1, rfl, hcat, hb1⟩
    obtain ⟨lr, z⟩ := r
    obtain ⟨a1, cap1, rfl, hs1⟩ := hcat
    have HS1 := Hold.mk hs1
    have HD0 := Hold.mk (kept HDB.out hb1)
    have HRR := Hold.mk (kept HRB.out hb1)
    have HCC := Hold.mk (kept HCB.out hb1)
    have HBB := Hold.mk (HB0.out.trans (hb1.mono HB0.out.size))
    have hf : w1.frozen? ⟨w.heap.size + 1 + 1 + 1, 0, none⟩ = false := free_box HD0.out 0
    have hx : w1.cell? ⟨w.heap.size + 1 + 1 + 1, 0, none⟩ = some (.slice none 0 0) := by
      have := HD0.out
      simp [World.cell?, this]
    simp only at *
    clear hs1 hb1 y0 x0 x1 x2 x3 x4 HK
    go_upto_region 13 with (fail)
    clear hf hx
    obtain ⟨W1, hW1⟩ : ∃ W1, W1 = w1.setCell ⟨w.heap.size + 1 + 1 + 1, 0, none⟩ (.slice a1 lr.length cap1) := ⟨_, rfl⟩
    rw [← hW1]
    have HD1 : Hold (W1.heap[w.heap.size + 1 + 1 + 1]? = some (.cells #[.slice a1 lr.length cap1] 51 (0, 0))) := ⟨by
      rw [hW1]
      have := set_self (o := 0) (c := .slice a1 lr.length cap1) HD0.out
      simpa using this⟩
    have HR1 : Hold (W1.heap[w.heap.size + 1 + 1]? = some (.cells #[.slice none 0 0] 51 (0, 0))) := ⟨by rw [hW1, Below.heap_setCell _ _ _ _ (show w.heap.size + 1 + 1 ≠ w.heap.size + 1 + 1 + 1 by omega)]; exact HRR.out⟩
    have HC1 : Hold (W1.heap[w.heap.size]? = some (.cells #[.slice a l.length cap] 51 (0, 0))) := ⟨by rw [hW1, Below.heap_setCell _ _ _ _ (show w.heap.size ≠ w.heap.size + 1 + 1 + 1 by omega)]; exact HCC.out⟩
    have HB1 : Hold (Below w.heap.size w W1) := ⟨by rw [hW1]; exact bsetZ HBB.out (by omega)⟩
    have HCW : Hold (CatAt (cf W1) lr (.agg #[.slice a1 lr.length cap1])) := ⟨by rw [hW1]; exact CatAt.set ⟨_, _, rfl, HS1.out⟩ HD0.out⟩
    clear hW1
    by_cases hz : z = 0
    · subst hz
      replace HRN : Hold (actF l ⟨1, nm, ⟨xn, fl, u⟩⟩ = (lr, 0)) := ⟨by rw [HRN.out]; rfl⟩
      have y0 : W1.cell? ⟨w.heap.size + 1 + 1 + 1, 0, none⟩ = some (.slice a1 lr.length cap1) := by
        have := HD1.out
        simp [World.cell?, this]
      have hf1 : W1.frozen? ⟨w.heap.size + 1 + 1, 0, none⟩ = false := free_box HR1.out 0
      have hx1 : W1.cell? ⟨w.heap.size + 1 + 1, 0, none⟩ = some (.slice none 0 0) := by
        have := HR1.out
        simp [World.cell?, this]
      go_wp2_with fail
      clear hf1 hx1 y0
      obtain ⟨W, hW⟩ : ∃ W, W = W1.setCell ⟨w.heap.size + 1 + 1, 0, none⟩ (.slice a1 lr.length cap1) := ⟨_, rfl⟩
      rw [← hW]
      have hk : W.heap[w.heap.size + 1 + 1]? = some (.cells #[.slice a1 lr.length cap1] 51 (0, 0)) := by
        rw [hW]
        have := set_self (o := 0) (c := .slice a1 lr.length cap1) HR1.out
        simpa using this
      have hx : W.cell? ⟨w.heap.size + 1 + 1, 0, none⟩ = some (.slice a1 lr.length cap1) := by simp [World.cell?, hk]
      have hbw : Below w.heap.size w W := by rw [hW]; exact bsetZ HB1.out (by omega)
      refine bodyPost_ret (v := .tuple #[.agg #[.slice a1 lr.length cap1], .int .i64 0]) (by simp [results, Tryz.results21, go_sem, hx]) rfl ?_
      refine ⟨.agg #[.slice a1 lr.length cap1], by rw [HRN.out], ?_, hbw⟩
      rw [HRN.out]
      rw [hW]
      exact HCW.out.set HR1.out
    · replace HRN : Hold (actF l ⟨1, nm, ⟨xn, fl, u⟩⟩ = (l, z)) := ⟨by rw [HRN.out]; unfold keepR; rw [if_neg hz]⟩
      have y0 : W1.cell? ⟨w.heap.size, 0, none⟩ = some (.slice a l.length cap) := by
        have := HC1.out
        simp [World.cell?, this]
      have hf1 : W1.frozen? ⟨w.heap.size + 1 + 1, 0, none⟩ = false := free_box HR1.out 0
      have hx1 : W1.cell? ⟨w.heap.size + 1 + 1, 0, none⟩ = some (.slice none 0 0) := by
        have := HR1.out
        simp [World.cell?, this]
      go_wp2_with fail
      clear hf1 hx1 y0
      obtain ⟨W, hW⟩ : ∃ W, W = W1.setCell ⟨w.heap.size + 1 + 1, 0, none⟩ (.slice a l.length cap) := ⟨_, rfl⟩
      rw [← hW]
      have hk : W.heap[w.heap.size + 1 + 1]? = some (.cells #[.slice a l.length cap] 51 (0, 0)) := by
        rw [hW]
        have := set_self (o := 0) (c := .slice a l.length cap) HR1.out
        simpa using this
      have hx : W.cell? ⟨w.heap.size + 1 + 1, 0, none⟩ = some (.slice a l.length cap) := by simp [World.cell?, hk]
      have hbw : Below w.heap.size w W := by rw [hW]; exact bsetZ HB1.out (by omega)
      refine bodyPost_ret (v := .tuple #[.agg #[.slice a l.length cap], .int .i64 z]) (by simp [results, Tryz.results21, go_sem, hx]) rfl ?_
      refine ⟨.agg #[.slice a l.length cap], by rw [HRN.out], ?_, hbw⟩
      rw [HRN.out]
      exact ((show CatAt (cf w) l _ from ⟨_, _, rfl, HS.out⟩).mono (cle_below hbw))
  by_cases e2 : kd = 2
  · subst e2
    obtain ⟨r, hr⟩ : ∃ r, r = dropF l nm := ⟨_, rfl⟩
    have HRN : Hold (actF l ⟨2, nm, ⟨xn, fl, u⟩⟩ = keepR l r) := ⟨by rw [hr]; unfold actF; rw [if_neg (show ¬ (2 : Int) = 1 by decide), if_pos rfl]⟩
    have HK := Hold.mk (Drop_any l _ nm W0 hca hsm hsz ht)
    rw [← hr] at HK
    clear hr hca ht
    go_wp2_with fail
    refine HK.out.mono ?_
    rintro e w1 ⟨v1, rfl, hcat, hb1⟩
    obtain ⟨lr, z⟩ := r
    obtain ⟨a1, cap1, rfl, hs1⟩ := hcat
    have HS1 := Hold.mk hs1
    have HD0 := Hold.mk (kept HDB.out hb1)
    have HRR := Hold.mk (kept HRB.out hb1)
    have HCC := Hold.mk (kept HCB.out hb1)
    have HBB := Hold.mk (HB0.out.trans (hb1.mono HB0.out.size))
    have hf : w1.frozen? ⟨w.heap.size + 1 + 1 + 1, 0, none⟩ = false := free_box HD0.out 0
    have hx : w1.cell? ⟨w.heap.size + 1 + 1 + 1, 0, none⟩ = some (.slice none 0 0) := by
      have := HD0.out
      simp [World.cell?, this]
    simp only at *
    clear hs1 hb1 y0 x0 x1 x2 x3 x4 HK
    go_upto_region 13 with (fail)
    clear hf hx
    obtain ⟨W1, hW1⟩ : ∃ W1, W1 = w1.setCell ⟨w.heap.size + 1 + 1 + 1, 0, none⟩ (.slice a1 lr.length cap1) := ⟨_, rfl⟩
    rw [← hW1]
    have HD1 : Hold (W1.heap[w.heap.size + 1 + 1 + 1]? = some (.cells #[.slice a1 lr.length cap1] 51 (0, 0))) := ⟨by
      rw [hW1]
      have := set_self (o := 0) (c := .slice a1 lr.length cap1) HD0.out
      simpa using this⟩
    have HR1 : Hold (W1.heap[w.heap.size + 1 + 1]? = some (.cells #[.slice none 0 0] 51 (0, 0))) := ⟨by rw [hW1, Below.heap_setCell _ _ _ _ (show w.heap.size + 1 + 1 ≠ w.heap.size + 1 + 1 + 1 by omega)]; exact HRR.out⟩
    have HC1 : Hold (W1.heap[w.heap.size]? = some (.cells #[.slice a l.length cap] 51 (0, 0))) := ⟨by rw [hW1, Below.heap_setCell _ _ _ _ (show w.heap.size ≠ w.heap.size + 1 + 1 + 1 by omega)]; exact HCC.out⟩
    have HB1 : Hold (Below w.heap.size w W1) := ⟨by rw [hW1]; exact bsetZ HBB.out (by omega)⟩
    have HCW : Hold (CatAt (cf W1) lr (.agg #[.slice a1 lr.length cap1])) := ⟨by rw [hW1]; exact CatAt.set ⟨_, _, rfl, HS1.out⟩ HD0.out⟩
    clear hW1
    by_cases hz : z = 0
    · subst hz
      replace HRN : Hold (actF l ⟨2, nm, ⟨xn, fl, u⟩⟩ = (lr, 0)) := ⟨by rw [HRN.out]; rfl⟩
      have y0 : W1.cell? ⟨w.heap.size + 1 + 1 + 1, 0, none⟩ = some (.slice a1 lr.length cap1) := by
        have := HD1.out
        simp [World.cell?, this]
      have hf1 : W1.frozen? ⟨w.heap.size + 1 + 1, 0, none⟩ = false := free_box HR1.out 0
      have hx1 : W1.cell? ⟨w.heap.size + 1 + 1, 0, none⟩ = some (.slice none 0 0) := by
        have := HR1.out
        simp [World.cell?, this]
      go_wp2_with fail
      clear hf1 hx1 y0
      obtain ⟨W, hW⟩ : ∃ W, W = W1.setCell ⟨w.heap.size + 1 + 1, 0, none⟩ (.slice a1 lr.length cap1) := ⟨_, rfl⟩
      rw [← hW]
      have hk : W.heap[w.heap.size + 1 + 1]? = some (.cells #[.slice a1 lr.length cap1] 51 (0, 0)) := by
        rw [hW]
        have := set_self (o := 0) (c := .slice a1 lr.length cap1) HR1.out
        simpa using this
      have hx : W.cell? ⟨w.heap.size + 1 + 1, 0, none⟩ = some (.slice a1 lr.length cap1) := by simp [World.cell?, hk]
      have hbw : Below w.heap.size w W := by rw [hW]; exact bsetZ HB1.out (by omega)
      refine bodyPost_ret (v := .tuple #[.agg #[.slice a1 lr.length cap1], .int .i64 0]) (by simp [results, Tryz.results21, go_sem, hx]) rfl ?_
      refine ⟨.agg #[.slice a1 lr.length cap1], by rw [HRN.out], ?_, hbw⟩
      rw [HRN.out]
      rw [hW]
      exact HCW.out.set HR1.out
    · replace HRN : Hold (actF l ⟨2, nm, ⟨xn, fl, u⟩⟩ = (l, z)) := ⟨by rw [HRN.out]; unfold keepR; rw [if_neg hz]⟩
      have y0 : W1.cell? ⟨w.heap.size, 0, none⟩ = some (.slice a l.length cap) := by
        have := HC1.out
        simp [World.cell?, this]
      have hf1 : W1.frozen? ⟨w.heap.size + 1 + 1, 0, none⟩ = false := free_box HR1.out 0
      have hx1 : W1.cell? ⟨w.heap.size + 1 + 1, 0, none⟩ = some (.slice none 0 0) := by
        have := HR1.out
        simp [World.cell?, this]
      go_wp2_with fail
      clear hf1 hx1 y0
      obtain ⟨W, hW⟩ : ∃ W, W = W1.setCell ⟨w.heap.size + 1 + 1, 0, none⟩ (.slice a l.length cap) := ⟨_, rfl⟩
      rw [← hW]
      have hk : W.heap[w.heap.size + 1 + 1]? = some (.cells #[.slice a l.length cap] 51 (0, 0)) := by
        rw [hW]
        have := set_self (o := 0) (c := .slice a l.length cap) HR1.out
        simpa using this
      have hx : W.cell? ⟨w.heap.size + 1 + 1, 0, none⟩ = some (.slice a l.length cap) := by simp [World.cell?, hk]
      have hbw : Below w.heap.size w W := by rw [hW]; exact bsetZ HB1.out (by omega)
      refine bodyPost_ret (v := .tuple #[.agg #[.slice a l.length cap], .int .i64 z]) (by simp [results, Tryz.results21, go_sem, hx]) rfl ?_
      refine ⟨.agg #[.slice a l.length cap], by rw [HRN.out], ?_, hbw⟩
      rw [HRN.out]
      exact ((show CatAt (cf w) l _ from ⟨_, _, rfl, HS.out⟩).mono (cle_below hbw))
  by_cases e3 : kd = 3
  · subst e3
    obtain ⟨r, hr⟩ : ∃ r, r = addF l nm ⟨xn, fl, u⟩ := ⟨_, rfl⟩
    have HRN : Hold (actF l ⟨3, nm, ⟨xn, fl, u⟩⟩ = keepR l r) := ⟨by rw [hr]; unfold actF; rw [if_neg (show ¬ (3 : Int) = 1 by decide), if_neg (show ¬ (3 : Int) = 2 by decide), if_pos rfl]⟩
    have HK := Hold.mk (AddIndex_any l _ nm ⟨xn, fl, u⟩ _ W0 hca hsm hsz HIX.out HXS.out HXL.out ht)
    rw [← hr] at HK
    clear hr hca ht
    go_wp2_with fail
    refine HK.out.mono ?_
    rintro e w1 ⟨v1, rfl, hcat, hb1⟩
    obtain ⟨lr, z⟩ := r
    obtain ⟨a1, cap1, rfl, hs1⟩ := hcat
    have HS1 := Hold.mk hs1
    have HD0 := Hold.mk (kept HDB.out hb1)
    have HRR := Hold.mk (kept HRB.out hb1)
    have HCC := Hold.mk (kept HCB.out hb1)
    have HBB := Hold.mk (HB0.out.trans (hb1.mono HB0.out.size))
    have hf : w1.frozen? ⟨w.heap.size + 1 + 1 + 1, 0, none⟩ = false := free_box HD0.out 0
    have hx : w1.cell? ⟨w.heap.size + 1 + 1 + 1, 0, none⟩ = some (.slice none 0 0) := by
      have := HD0.out
      simp [World.cell?, this]
    simp only at *
    clear hs1 hb1 y0 x0 x1 x2 x3 x4 HK
    go_upto_region 13 with (fail)
    clear hf hx
    obtain ⟨W1, hW1⟩ : ∃ W1, W1 = w1.setCell ⟨w.heap.size + 1 + 1 + 1, 0, none⟩ (.slice a1 lr.length cap1) := ⟨_, rfl⟩
    rw [← hW1]
    have HD1 : Hold (W1.heap[w.heap.size + 1 + 1 + 1]? = some (.cells #[.slice a1 lr.length cap1] 51 (0, 0))) := ⟨by
      rw [hW1]
      have := set_self (o := 0) (c := .slice a1 lr.length cap1) HD0.out
      simpa using this⟩
    have HR1 : Hold (W1.heap[w.heap.size + 1 + 1]? = some (.cells #[.slice none 0 0] 51 (0, 0))) := ⟨by rw [hW1, Below.heap_setCell _ _ _ _ (show w.heap.size + 1 + 1 ≠ w.heap.size + 1 + 1 + 1 by omega)]; exact HRR.out⟩
    have HC1 : Hold (W1.heap[w.heap.size]? = some (.cells #[.slice a l.length cap] 51 (0, 0))) := ⟨by rw [hW1, Below.heap_setCell _ _ _ _ (show w.heap.size ≠ w.heap.size + 1 + 1 + 1 by omega)]; exact HCC.out⟩
    have HB1 : Hold (Below w.heap.size w W1) := ⟨by rw [hW1]; exact bsetZ HBB.out (by omega)⟩
    have HCW : Hold (CatAt (cf W1) lr (.agg #[.slice a1 lr.length cap1])) := ⟨by rw [hW1]; exact CatAt.set ⟨_, _, rfl, HS1.out⟩ HD0.out⟩
    clear hW1
    by_cases hz : z = 0
    · subst hz
      replace HRN : Hold (actF l ⟨3, nm, ⟨xn, fl, u⟩⟩ = (lr, 0)) := ⟨by rw [HRN.out]; rfl⟩
      have y0 : W1.cell? ⟨w.heap.size + 1 + 1 + 1, 0, none⟩ = some (.slice a1 lr.length cap1) := by
        have := HD1.out
        simp [World.cell?, this]
      have hf1 : W1.frozen? ⟨w.heap.size + 1 + 1, 0, none⟩ = false := free_box HR1.out 0
      have hx1 : W1.cell? ⟨w.heap.size + 1 + 1, 0, none⟩ = some (.slice none 0 0) := by
        have := HR1.out
        simp [World.cell?, this]
      go_wp2_with fail
      clear hf1 hx1 y0
      obtain ⟨W, hW⟩ : ∃ W, W = W1.setCell ⟨w.heap.size + 1 + 1, 0, none⟩ (.slice a1 lr.length cap1) := ⟨_, rfl⟩
      rw [← hW]
      have hk : W.heap[w.heap.size + 1 + 1]? = some (.cells #[.slice a1 lr.length cap1] 51 (0, 0)) := by
        rw [hW]
        have := set_self (o := 0) (c := .slice a1 lr.length cap1) HR1.out
        simpa using this
      have hx : W.cell? ⟨w.heap.size + 1 + 1, 0, none⟩ = some (.slice a1 lr.length cap1) := by simp [World.cell?, hk]
      have hbw : Below w.heap.size w W := by rw [hW]; exact bsetZ HB1.out (by omega)
      refine bodyPost_ret (v := .tuple #[.agg #[.slice a1 lr.length cap1], .int .i64 0]) (by simp [results, Tryz.results21, go_sem, hx]) rfl ?_
      refine ⟨.agg #[.slice a1 lr.length cap1], by rw [HRN.out], ?_, hbw⟩
      rw [HRN.out]
      rw [hW]
      exact HCW.out.set HR1.out
    · replace HRN : Hold (actF l ⟨3, nm, ⟨xn, fl, u⟩⟩ = (l, z)) := ⟨by rw [HRN.out]; unfold keepR; rw [if_neg hz]⟩
      have y0 : W1.cell? ⟨w.heap.size, 0, none⟩ = some (.slice a l.length cap) := by
        have := HC1.out
        simp [World.cell?, this]
      have hf1 : W1.frozen? ⟨w.heap.size + 1 + 1, 0, none⟩ = false := free_box HR1.out 0
      have hx1 : W1.cell? ⟨w.heap.size + 1 + 1, 0, none⟩ = some (.slice none 0 0) := by
        have := HR1.out
        simp [World.cell?, this]
      go_wp2_with fail
      clear hf1 hx1 y0
      obtain ⟨W, hW⟩ : ∃ W, W = W1.setCell ⟨w.heap.size + 1 + 1, 0, none⟩ (.slice a l.length cap) := ⟨_, rfl⟩
      rw [← hW]
      have hk : W.heap[w.heap.size + 1 + 1]? = some (.cells #[.slice a l.length cap] 51 (0, 0)) := by
        rw [hW]
        have := set_self (o := 0) (c := .slice a l.length cap) HR1.out
        simpa using this
      have hx : W.cell? ⟨w.heap.size + 1 + 1, 0, none⟩ = some (.slice a l.length cap) := by simp [World.cell?, hk]
      have hbw : Below w.heap.size w W := by rw [hW]; exact bsetZ HB1.out (by omega)
      refine bodyPost_ret (v := .tuple #[.agg #[.slice a l.length cap], .int .i64 z]) (by simp [results, Tryz.results21, go_sem, hx]) rfl ?_
      refine ⟨.agg #[.slice a l.length cap], by rw [HRN.out], ?_, hbw⟩
      rw [HRN.out]
      exact ((show CatAt (cf w) l _ from ⟨_, _, rfl, HS.out⟩).mono (cle_below hbw))
  by_cases e4 : kd = 4
  · subst e4
    obtain ⟨r, hr⟩ : ∃ r, r = dropIF l nm xn := ⟨_, rfl⟩
    have HRN : Hold (actF l ⟨4, nm, ⟨xn, fl, u⟩⟩ = keepR l r) := ⟨by rw [hr]; unfold actF; rw [if_neg (show ¬ (4 : Int) = 1 by decide), if_neg (show ¬ (4 : Int) = 2 by decide), if_neg (show ¬ (4 : Int) = 3 by decide), if_pos rfl]⟩
    have HK := Hold.mk (DropIndex_any l _ nm xn W0 hca hsm hsz ht)
    rw [← hr] at HK
    clear hr hca ht
    go_wp2_with fail
    refine HK.out.mono ?_
    rintro e w1 ⟨v1, rfl, hcat, hb1⟩
    obtain ⟨lr, z⟩ := r
    obtain ⟨a1, cap1, rfl, hs1⟩ := hcat
    have HS1 := Hold.mk hs1
    have HD0 := Hold.mk (kept HDB.out hb1)
    have HRR := Hold.mk (kept HRB.out hb1)
    have HCC := Hold.mk (kept HCB.out hb1)
    have HBB := Hold.mk (HB0.out.trans (hb1.mono HB0.out.size))
    have hf : w1.frozen? ⟨w.heap.size + 1 + 1 + 1, 0, none⟩ = false := free_box HD0.out 0
    have hx : w1.cell? ⟨w.heap.size + 1 + 1 + 1, 0, none⟩ = some (.slice none 0 0) := by
      have := HD0.out
      simp [World.cell?, this]
    simp only at *
    clear hs1 hb1 y0 x0 x1 x2 x3 x4 HK
    go_upto_region 13 with (fail)
    clear hf hx
    obtain ⟨W1, hW1⟩ : ∃ W1, W1 = w1.setCell ⟨w.heap.size + 1 + 1 + 1, 0, none⟩ (.slice a1 lr.length cap1) := ⟨_, rfl⟩
    rw [← hW1]
    have HD1 : Hold (W1.heap[w.heap.size + 1 + 1 + 1]? = some (.cells #[.slice a1 lr.length cap1] 51 (0, 0))) := ⟨by
      rw [hW1]
      have := set_self (o := 0) (c := .slice a1 lr.length cap1) HD0.out
      simpa using this⟩
    have HR1 : Hold (W1.heap[w.heap.size + 1 + 1]? = some (.cells #[.slice none 0 0] 51 (0, 0))) := ⟨by rw [hW1, Below.heap_setCell _ _ _ _ (show w.heap.size + 1 + 1 ≠ w.heap.size + 1 + 1 + 1 by omega)]; exact HRR.out⟩
    have HC1 : Hold (W1.heap[w.heap.size]? = some (.cells #[.slice a l.length cap] 51 (0, 0))) := ⟨by rw [hW1, Below.heap_setCell _ _ _ _ (show w.heap.size ≠ w.heap.size + 1 + 1 + 1 by omega)]; exact HCC.out⟩
    have HB1 : Hold (Below w.heap.size w W1) := ⟨by rw [hW1]; exact bsetZ HBB.out (by omega)⟩
    have HCW : Hold (CatAt (cf W1) lr (.agg #[.slice a1 lr.length cap1])) := ⟨by rw [hW1]; exact CatAt.set ⟨_, _, rfl, HS1.out⟩ HD0.out⟩
    clear hW1
    by_cases hz : z = 0
    · subst hz
      replace HRN : Hold (actF l ⟨4, nm, ⟨xn, fl, u⟩⟩ = (lr, 0)) := ⟨by rw [HRN.out]; rfl⟩
      have y0 : W1.cell? ⟨w.heap.size + 1 + 1 + 1, 0, none⟩ = some (.slice a1 lr.length cap1) := by
        have := HD1.out
        simp [World.cell?, this]
      have hf1 : W1.frozen? ⟨w.heap.size + 1 + 1, 0, none⟩ = false := free_box HR1.out 0
      have hx1 : W1.cell? ⟨w.heap.size + 1 + 1, 0, none⟩ = some (.slice none 0 0) := by
        have := HR1.out
        simp [World.cell?, this]
      go_wp2_with fail
      clear hf1 hx1 y0
      obtain ⟨W, hW⟩ : ∃ W, W = W1.setCell ⟨w.heap.size + 1 + 1, 0, none⟩ (.slice a1 lr.length cap1) := ⟨_, rfl⟩
      rw [← hW]
      have hk : W.heap[w.heap.size + 1 + 1]? = some (.cells #[.slice a1 lr.length cap1] 51 (0, 0)) := by
        rw [hW]
        have := set_self (o := 0) (c := .slice a1 lr.length cap1) HR1.out
        simpa using this
      have hx : W.cell? ⟨w.heap.size + 1 + 1, 0, none⟩ = some (.slice a1 lr.length cap1) := by simp [World.cell?, hk]
      have hbw : Below w.heap.size w W := by rw [hW]; exact bsetZ HB1.out (by omega)
      refine bodyPost_ret (v := .tuple #[.agg #[.slice a1 lr.length cap1], .int .i64 0]) (by simp [results, Tryz.results21, go_sem, hx]) rfl ?_
      refine ⟨.agg #[.slice a1 lr.length cap1], by rw [HRN.out], ?_, hbw⟩
      rw [HRN.out]
      rw [hW]
      exact HCW.out.set HR1.out
    · replace HRN : Hold (actF l ⟨4, nm, ⟨xn, fl, u⟩⟩ = (l, z)) := ⟨by rw [HRN.out]; unfold keepR; rw [if_neg hz]⟩
      have y0 : W1.cell? ⟨w.heap.size, 0, none⟩ = some (.slice a l.length cap) := by
        have := HC1.out
        simp [World.cell?, this]
      have hf1 : W1.frozen? ⟨w.heap.size + 1 + 1, 0, none⟩ = false := free_box HR1.out 0
      have hx1 : W1.cell? ⟨w.heap.size + 1 + 1, 0, none⟩ = some (.slice none 0 0) := by
        have := HR1.out
        simp [World.cell?, this]
      go_wp2_with fail
      clear hf1 hx1 y0
      obtain ⟨W, hW⟩ : ∃ W, W = W1.setCell ⟨w.heap.size + 1 + 1, 0, none⟩ (.slice a l.length cap) := ⟨_, rfl⟩
      rw [← hW]
      have hk : W.heap[w.heap.size + 1 + 1]? = some (.cells #[.slice a l.length cap] 51 (0, 0)) := by
        rw [hW]
        have := set_self (o := 0) (c := .slice a l.length cap) HR1.out
        simpa using this
      have hx : W.cell? ⟨w.heap.size + 1 + 1, 0, none⟩ = some (.slice a l.length cap) := by simp [World.cell?, hk]
      have hbw : Below w.heap.size w W := by rw [hW]; exact bsetZ HB1.out (by omega)
      refine bodyPost_ret (v := .tuple #[.agg #[.slice a l.length cap], .int .i64 z]) (by simp [results, Tryz.results21, go_sem, hx]) rfl ?_
      refine ⟨.agg #[.slice a l.length cap], by rw [HRN.out], ?_, hbw⟩
      rw [HRN.out]
      exact ((show CatAt (cf w) l _ from ⟨_, _, rfl, HS.out⟩).mono (cle_below hbw))
  have HRN : Hold (actF l ⟨kd, nm, ⟨xn, fl, u⟩⟩ = (l, 0)) := ⟨by unfold actF; rw [if_neg e1, if_neg e2, if_neg e3, if_neg e4]⟩
  have hf1 : W0.frozen? ⟨w.heap.size + 1 + 1, 0, none⟩ = false := free_box HRB.out 0
  have hx1 : W0.cell? ⟨w.heap.size + 1 + 1, 0, none⟩ = some (.slice none 0 0) := by
    have := HRB.out
    simp [World.cell?, this]
  clear hca ht
  go_wp2_with fail
  clear hf1 hx1 y0 x0 x1 x2 x3 x4
  obtain ⟨W, hW⟩ : ∃ W, W = W0.setCell ⟨w.heap.size + 1 + 1, 0, none⟩ (.slice a l.length cap) := ⟨_, rfl⟩
  rw [← hW]
  have hk : W.heap[w.heap.size + 1 + 1]? = some (.cells #[.slice a l.length cap] 51 (0, 0)) := by
    rw [hW]
    have := set_self (o := 0) (c := .slice a l.length cap) HRB.out
    simpa using this
  have hx : W.cell? ⟨w.heap.size + 1 + 1, 0, none⟩ = some (.slice a l.length cap) := by simp [World.cell?, hk]
  have hbw : Below w.heap.size w W := by rw [hW]; exact bsetZ HB0.out (by omega)
  refine bodyPost_ret (v := .tuple #[.agg #[.slice a l.length cap], .int .i64 0]) (by simp [results, Tryz.results21, go_sem, hx]) rfl ?_
  refine ⟨.agg #[.slice a l.length cap], by rw [HRN.out], ?_, hbw⟩
  rw [HRN.out]
  exact (show CatAt (cf w) l _ from ⟨_, _, rfl, HS.out⟩).mono (cle_below hbw)

theorem wake_create : ∃ n : Int, createF [] ⟨#[97]⟩ = ([⟨⟨#[97]⟩, n, []⟩], 0) := by
  have h1 : nameF ⟨#[97]⟩ = true := by decide +kernel
  have h2 : findI (nameIs ⟨#[97]⟩) [] = -1 := rfl
  refine ⟨freshZ (spacesC []), ?_⟩
  unfold createF
  rw [form_nil, h1, h2, if_neg (by decide), if_neg (by decide), if_neg (by decide)]
  simp [insZ, placeZ]
set_option maxRecDepth 100000 in
set_option maxHeartbeats 4000000 in
theorem awake19_any (w : World) (hT : Tabs w) : Calls Tryz.prog 17 #[] w fun e w' => e = .returned (.bool true) ∧ Below w.heap.size w w' := by
  obtain ⟨n, hn⟩ := wake_create
  obtain ⟨hsm, hsz⟩ := small_form form_nil
  have HK := Hold.mk (Create_any [] (.agg #[.slice none 0 0]) ⟨#[97]⟩ w ⟨none, 0, rfl, SAt.none _ _ _⟩ hsm hsz (by decide) hT)
  rw [hn] at HK
  have HF : Hold (findI (nameIs ⟨#[97]⟩) [⟨⟨#[97]⟩, n, []⟩] = 0) := ⟨by
    have : nameIs ⟨#[97]⟩ ⟨⟨#[97]⟩, n, []⟩ = true := nameIs_iff.2 rfl
    unfold findI; simp [List.findIdx?_cons, this]⟩
  have HG : Hold (findI (nameIs ⟨#[98]⟩) [⟨⟨#[97]⟩, n, []⟩] = -1) := ⟨by
    have : nameIs ⟨#[98]⟩ ⟨⟨#[97]⟩, n, []⟩ = false := by
      cases h : nameIs ⟨#[98]⟩ ⟨⟨#[97]⟩, n, []⟩ with
      | false => rfl
      | true => exact absurd (show (⟨#[97]⟩ : ByteArray) = ⟨#[98]⟩ from nameIs_iff.1 h) (by decide)
    unfold findI; simp [List.findIdx?_cons, this]⟩
  clear hT hn hsm hsz
  go_enter Tryz.func17, Tryz.ntmps17
  go_wp2_with fail
  refine HK.out.mono ?_
  rintro e w1 ⟨v1, rfl, hcat, hb1⟩
  obtain ⟨a1, cap1, rfl, hs1⟩ := hcat
  simp only at *
  obtain ⟨W1, hW1⟩ : ∃ W1, W1 = w1.alloc (.cells #[.slice a1 1 cap1] 51) := ⟨_, rfl⟩
  have hb2 : Below w1.heap.size w1 W1 := by rw [hW1]; exact (Below.refl _ w1).alloc (Nat.le_refl _) _
  have hk2 : W1.heap[w1.heap.size]? = some (.cells #[.slice a1 1 cap1] 51 (0, 0)) := by rw [hW1]; exact heap_alloc_new w1 _
  have HCT : Hold (∀ wn, Below W1.heap.size W1 wn → CatAt (cf wn) [⟨⟨#[97]⟩, n, []⟩] (.agg #[.slice a1 1 cap1]) ∧ wn.cell? ⟨w1.heap.size, 0, none⟩ = some (.slice a1 1 cap1) ∧ Below w.heap.size w wn) := ⟨fun wn hb => by
    have h1 := hb1.trans ((hb2.trans (hb.mono hb2.size)).mono hb1.size)
    have h2 := kept hk2 hb
    exact ⟨⟨a1, cap1, rfl, hs1.mono RCX_mono (cle_below (hb2.trans (hb.mono hb2.size)))⟩, by simp [World.cell?, h2], h1⟩⟩
  clear hs1 hb1 hb2 hk2 HK
  go_upto_region 2 with (fail)
  rw [← hW1]
  clear hW1
  obtain ⟨hc, y0, _⟩ := HCT.out W1 (Below.refl _ _)
  have H1 := Hold.mk (Find_any _ _ ⟨#[97]⟩ W1 hc)
  rw [HF.out] at H1
  clear hc
  go_wp2_with fail
  refine H1.out.mono ?_
  rintro e w2 ⟨rfl, hb2⟩
  have HB2 := Hold.mk hb2
  clear hb2 y0 H1
  obtain ⟨hc, y0, _⟩ := HCT.out w2 HB2.out
  have H1 := Hold.mk (Find_any _ _ ⟨#[98]⟩ w2 hc)
  rw [HG.out] at H1
  clear hc
  go_wp2_with fail
  refine H1.out.mono ?_
  rintro e w3 ⟨rfl, hb3⟩
  obtain ⟨_, _, hbw⟩ := HCT.out w3 (HB2.out.trans (hb3.mono HB2.out.size))
  have HBW := Hold.mk hbw
  clear hb3 y0 H1 hbw
  go_wp2_with fail
  go_ret
  exact ⟨rfl, HBW.out⟩

end Go.Proofs.YtcmfanfkcbjeoaaGreatDoor
