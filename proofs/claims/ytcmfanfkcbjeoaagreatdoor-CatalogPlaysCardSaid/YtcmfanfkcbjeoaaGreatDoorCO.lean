/- Catalogs: index and small of the laws (printed by genXCO.py). -/
import Derived.Test.YtcmfanfkcbjeoaaGreatDoorCA
import Derived.Test.YtcmfanfkcbjeoaaGreatDoorED
import Derived.Test.YtcmfanfkcbjeoaaGreatDoorEF
namespace Go.Proofs.YtcmfanfkcbjeoaaGreatDoor
open Go.RowKit

set_option maxRecDepth 100000 in
set_option maxHeartbeats 8000000 in
theorem lindexA_any (x : IX) (v : Value) (w : World) (hx : IAt (cf w) x v) (hn : x.fields.length ≤ 1000) :
    Calls Tryz.prog 50 #[v] w fun e w' => ∃ y, e = .returned y ∧ IAt (cfA w.heap.size w') x y ∧ Below w.heap.size w w' := by
  obtain ⟨hnm, fv, rfl, hfv⟩ := hx
  obtain ⟨a, cap, rfl, hlen, hcap, hel⟩ := hfv
  have HE := Hold.mk hel
  have HNM := Hold.mk hnm
  obtain ⟨i0, hi, hz0, hz1, hz2⟩ := info_parts infoFd
  have HI := Hold.mk (And.intro hi (And.intro hz0 (And.intro hz1 hz2)))
  obtain ⟨nm, l, u⟩ := x
  simp only at *
  have HP := Hold.mk (PL.start w nm (.slice a l.length cap) u l)
  clear hel hnm hi hz0 hz1 hz2
  go_enter Tryz.func50, Tryz.ntmps50
  go_wp2_with fail
  go_loopw [4] (fun i wr => ∃ (j : Nat) (sv : Value), i = .int .i64 j ∧ j ≤ l.length ∧ PL w wr nm (.slice a l.length cap) u sv j l) (fun i _ => l.length - (intOf i).toNat)
  case atStart => exact ⟨0, _, rfl, Nat.zero_le _, HP.out⟩
  case round =>
    obtain ⟨j, sv, rfl, hj, hpl⟩ := hrel
    clear HP
    have HP := Hold.mk hpl
    clear hpl
    obtain ⟨sa, scap, rfl⟩ := own_form2 HP.out.own
    obtain ⟨x0, x1, x2⟩ := cells_three HP.out.xb
    by_cases hlt : j < l.length
    · obtain ⟨f, hf⟩ : ∃ f, l[j]? = some f := ⟨l[j], List.getElem?_eq_getElem hlt⟩
      obtain ⟨hfs, b, off, rfl, z0, z1⟩ := HE.out j f hf
      have hbl : b < w.heap.size := lt_of_cell z0
      have hcl := cle_below HP.out.bel
      have g0 := GrowB.cell (B := w.heap.size + 1) (hcl _ _ _ z0) (by omega)
      have g1 := GrowB.cell (B := w.heap.size + 1) (hcl _ _ _ z1) (by omega)
      have g2 := GrowB.cell (B := w.heap.size + 1) x1 (by omega)
      have HF := Hold.mk hf
      obtain ⟨s, dn⟩ := f
      simp only at *
      clear z0 z1 hcl hf
      go_wp2_with fail
      clear x0 x1 x2
      refine wp_region_mixB (w.heap.size + 1) 11 rfl (by kernel_rfl) ?_
      rintro w1 hw1 hb1
      have HP1 : Hold (PL w w1 nm (.slice (some ⟨b, off, none⟩) l.length cap) u (.slice sa j scap) j l) := ⟨by subst hw1; exact ⟨HP.out.bel.drew, HP.out.xb, HP.out.rb, HP.out.yb, HP.out.own.drew⟩⟩
      have HB1 : Hold (Below (w.heap.size + 1) wr w1) := ⟨hb1.mono (by have := heap_lt HP.out.xb; omega)⟩
      clear hb1 hw1
      refine mixl_seg (by kernel_rfl) (fun _ _ d _ _ h => by cases d <;> exact h) [0, 2, 3, 4, 5, 6] [_, _, _, _, _, _] 5 11 rfl _ _ _ rfl (by kernel_rfl) (growBC HB1.out) ?_
      repeat (go_big_quiet_step (fail))
      refine wpQuiet_nil ?_
      obtain ⟨y0, y1, y2⟩ := cells_three HP1.out.yb
      refine mixl_two (i := 1) (j := 7) rfl rfl (by kernel_rfl) (growBC HB1.out) rfl rfl (fun K hK => ?_) (fun K hK => ?_)
      · go_wp2_with fail
        refine mixl_act (i := 7) rfl (by kernel_rfl) (growBC HB1.out) rfl (fun K hK => ?_)
        go_wp2_with fail
        clear y0 y1 y2
        generalize hw2 : w1.alloc (.cells #[.string s, .bool dn] 99) = w2
        have HP2 : Hold (PL w w2 nm (.slice (some ⟨b, off, none⟩) l.length cap) u (.slice sa j scap) j l) := ⟨by rw [← hw2]; exact HP1.out.alloc _⟩
        have HB2 : Hold (Below (w.heap.size + 1) wr w2) := ⟨by rw [← hw2]; exact HB1.out.alloc (by have := heap_lt HP1.out.xb; omega) _⟩
        have HN2 : Hold (w2.heap[w1.heap.size]? = some (.cells #[.string s, .bool dn] 99 (0, 0))) := ⟨by rw [← hw2]; exact heap_alloc_new w1 _⟩
        clear hw2
        refine mixl_act (i := 8) rfl (by kernel_rfl) (growBC HB2.out) rfl (fun K hK => ?_)
        refine wp_append_lies w2 (.tmp 18) (.tmp 24) 46 rfl (w.heap.size + 1 + 1 + 1) 99 i0 (.agg #[.string ⟨#[]⟩, .bool false]) 2 24 Tryz.underlying46 HI.out.1 HI.out.2.1 HI.out.2.2.1 HI.out.2.2.2 rfl (by decide) (.slice sa j scap) j _ rfl HP2.out.own ⟨w1.heap.size, 0, none⟩ 1 1 [.string s, .bool dn] rfl rfl (World.news_of_block HN2.out) (by simp [Value.oneCell']) (by decide) (by unfold maxLen; omega) (by omega) (by have := heap_lt HP2.out.yb; omega) _ rfl ?_
        intro g cap2 w3 hown hgr _ _
        refine hK _ _ ?_
        clear hK K
        have hy3 : w3.heap[w.heap.size + 1 + 1]? = some (.cells #[.string nm, .slice sa j scap, .bool u] 48 (0, 0)) := by
          rw [hgr.block _ (heap_lt HP2.out.yb) (fun e => by have := (HP2.out.own.lt _ e.symm).1; omega)]; exact HP2.out.yb
        have HB3 : Hold (Below (w.heap.size + 1) wr w3) := ⟨HB2.out.grown hgr (by have := heap_lt HP2.out.xb; omega) (fun q hq => by have := (HP2.out.own.lt q hq).1; omega)⟩
        have HN := Hold.mk (HP2.out.push HF.out hgr hown)
        refine mixl_act (i := 9) rfl (by kernel_rfl) (growBC HB3.out) rfl (fun K hK => ?_)
        go_wp2_with fail
        obtain ⟨v0, v1, v2⟩ := cells_three hy3
        have vf : w3.frozen? ⟨w.heap.size + 1 + 1, 1, none⟩ = false := free_box hy3 1
        have HB4 : Hold (∀ v, Below (w.heap.size + 1) wr (w3.setCell ⟨w.heap.size + 1 + 1, 1, none⟩ v)) := ⟨fun v => HB3.out.setCell (p := ⟨w.heap.size + 1 + 1, 1, none⟩) (by simp) v⟩
        clear hy3 hown hgr
        refine mixl_act (i := 10) rfl (by kernel_rfl) (growBC HB3.out) rfl (fun K hK => ?_)
        go_wp2_with fail
        clear v0 v1 v2 vf
        refine mix_done (by kernel_rfl) (growBC (HB4.out _)) ?_
        go_wp2_with fail
        exact ⟨⟨j + 1, _, by go_num, hlt, HN.out⟩, by simp [intOf]; omega⟩
      · go_wp2_with fail
        have hlt1 := heap_lt HP1.out.yb
        refine mixl_act (i := 1) rfl (by kernel_rfl) (growBC (HB1.out.alloc (by have := heap_lt HP1.out.xb; omega) _)) rfl (fun K hK => ?_)
        go_wp2_with fail
        clear y0 y1 y2 hlt1
        generalize hw2 : w1.alloc (.cells #[.string s, .bool dn] 99) = w2
        have HP2 : Hold (PL w w2 nm (.slice (some ⟨b, off, none⟩) l.length cap) u (.slice sa j scap) j l) := ⟨by rw [← hw2]; exact HP1.out.alloc _⟩
        have HB2 : Hold (Below (w.heap.size + 1) wr w2) := ⟨by rw [← hw2]; exact HB1.out.alloc (by have := heap_lt HP1.out.xb; omega) _⟩
        have HN2 : Hold (w2.heap[w1.heap.size]? = some (.cells #[.string s, .bool dn] 99 (0, 0))) := ⟨by rw [← hw2]; exact heap_alloc_new w1 _⟩
        clear hw2
        refine mixl_act (i := 8) rfl (by kernel_rfl) (growBC HB2.out) rfl (fun K hK => ?_)
        refine wp_append_lies w2 (.tmp 18) (.tmp 24) 46 rfl (w.heap.size + 1 + 1 + 1) 99 i0 (.agg #[.string ⟨#[]⟩, .bool false]) 2 24 Tryz.underlying46 HI.out.1 HI.out.2.1 HI.out.2.2.1 HI.out.2.2.2 rfl (by decide) (.slice sa j scap) j _ rfl HP2.out.own ⟨w1.heap.size, 0, none⟩ 1 1 [.string s, .bool dn] rfl rfl (World.news_of_block HN2.out) (by simp [Value.oneCell']) (by decide) (by unfold maxLen; omega) (by omega) (by have := heap_lt HP2.out.yb; omega) _ rfl ?_
        intro g cap2 w3 hown hgr _ _
        refine hK _ _ ?_
        clear hK K
        have hy3 : w3.heap[w.heap.size + 1 + 1]? = some (.cells #[.string nm, .slice sa j scap, .bool u] 48 (0, 0)) := by
          rw [hgr.block _ (heap_lt HP2.out.yb) (fun e => by have := (HP2.out.own.lt _ e.symm).1; omega)]; exact HP2.out.yb
        have HB3 : Hold (Below (w.heap.size + 1) wr w3) := ⟨HB2.out.grown hgr (by have := heap_lt HP2.out.xb; omega) (fun q hq => by have := (HP2.out.own.lt q hq).1; omega)⟩
        have HN := Hold.mk (HP2.out.push HF.out hgr hown)
        refine mixl_act (i := 9) rfl (by kernel_rfl) (growBC HB3.out) rfl (fun K hK => ?_)
        go_wp2_with fail
        obtain ⟨v0, v1, v2⟩ := cells_three hy3
        have vf : w3.frozen? ⟨w.heap.size + 1 + 1, 1, none⟩ = false := free_box hy3 1
        have HB4 : Hold (∀ v, Below (w.heap.size + 1) wr (w3.setCell ⟨w.heap.size + 1 + 1, 1, none⟩ v)) := ⟨fun v => HB3.out.setCell (p := ⟨w.heap.size + 1 + 1, 1, none⟩) (by simp) v⟩
        clear hy3 hown hgr
        refine mixl_act (i := 10) rfl (by kernel_rfl) (growBC HB3.out) rfl (fun K hK => ?_)
        go_wp2_with fail
        clear v0 v1 v2 vf
        refine mix_done (by kernel_rfl) (growBC (HB4.out _)) ?_
        go_wp2_with fail
        exact ⟨⟨j + 1, _, by go_num, hlt, HN.out⟩, by simp [intOf]; omega⟩
    · have HOW := Hold.mk HP.out.own
      rw [List.take_of_length_le (by omega)] at HOW
      obtain rfl : j = l.length := by omega
      obtain ⟨y0, y1, y2⟩ := cells_three HP.out.yb
      obtain ⟨r0, r1, r2⟩ := cells_three HP.out.rb
      have f0 := free_box HP.out.rb 0
      have f1 := free_box HP.out.rb 1
      have f2 := free_box HP.out.rb 2
      have HFE : Hold (∀ p ∈ l, p.1.size ≤ 9223372036854775807) := ⟨fun p hp => by
        obtain ⟨i, hi⟩ := List.getElem?_of_mem hp
        exact (HE.out i p hi).1⟩
      go_wp2_with fail
      obtain ⟨W, hW⟩ : ∃ W, W = (((wr.setCell ⟨w.heap.size + 1, 0, none⟩ (.string nm)).setCell ⟨w.heap.size + 1, 1, none⟩ (.slice sa l.length scap)).setCell ⟨w.heap.size + 1, 2, none⟩ (.bool u)) := ⟨_, rfl⟩
      rw [← hW]
      have hbk : W.heap[w.heap.size + 1]? = some (.cells #[.string nm, .slice sa l.length scap, .bool u] 48 (0, 0)) := by
        rw [hW]
        have := set_self (o := 2) (c := .bool u) (set_self (o := 1) (c := .slice sa l.length scap) (set_self (o := 0) (c := .string nm) HP.out.rb))
        simpa [zeroI] using this
      have how : W.ownsRow (w.heap.size + 1 + 1 + 1) 99 2 (.slice sa l.length scap) l.length (fcells l) := by
        rw [hW]; exact own_set (own_set (own_set HOW.out (by omega)) (by omega)) (by omega)
      have hbw : Below w.heap.size w W := by
        rw [hW]; exact ((HP.out.bel.setCell (p := ⟨w.heap.size + 1, 0, none⟩) (by simp) _).setCell (p := ⟨w.heap.size + 1, 1, none⟩) (by simp) _).setCell (p := ⟨w.heap.size + 1, 2, none⟩) (by simp) _
      clear hW y0 y1 y2 r0 r1 r2 f0 f1 f2
      obtain ⟨c0, c1, c2⟩ := cells_three hbk
      exact bodyPost_ret (v := .agg #[.string nm, .slice sa l.length scap, .bool u]) (by simp [results, Tryz.results50, go_sem, c0, c1, c2]) rfl ⟨_, rfl, ⟨HNM.out, _, rfl, (fields_own_A how HFE.out).mono (cfA_anti _ (by omega))⟩, hbw⟩
theorem lindex_any (x : IX) (v : Value) (w : World) (hx : IAt (cf w) x v) (hn : x.fields.length ≤ 1000) :
    Calls Tryz.prog 50 #[v] w fun e w' => ∃ y, e = .returned y ∧ IAt (cf w') x y ∧ Below w.heap.size w w' :=
  (lindexA_any x v w hx hn).mono fun _ _ ⟨y, he, hy, hb⟩ => ⟨y, he, hy.mono (cfA_le _ _), hb⟩


/-- what is done -/
structure OpX where
  kind : Int
  name : ByteArray
  x : IX
def ROp : Rep OpX := fun c o d => ∃ a cap, d = [.int .i64 o.kind, .string o.name, .string o.x.name, .slice a o.x.fields.length cap, .bool o.x.uniq] ∧ o.name.size ≤ 9223372036854775807 ∧ o.x.name.size ≤ 9223372036854775807 ∧ FieldsAt c (.slice a o.x.fields.length cap) o.x.fields ∧ (Lit.int .i64 o.kind).wf = true
theorem ROp_mono : Mono ROp := fun _ _ _ _ hc ⟨a, cap, e, h1, h2, h3, h4⟩ => ⟨a, cap, e, h1, h2, h3.mono hc, h4⟩
def SmallOps (l : List OpX) : Prop := l.length ≤ 40 ∧ ∀ o ∈ l, o.name.size ≤ 1000 ∧ fewI o.x = true
def SmallPost (ops : List OpX) (w : World) (e : Ending) (w' : World) : Prop := ∃ b, e = .returned (.bool b) ∧ (b = true → SmallOps ops) ∧ Below w.heap.size w w'

set_option maxRecDepth 100000 in
set_option maxHeartbeats 8000000 in
theorem small_any (ops : List OpX) (v : Value) (w : World) (h : SAt 5 ROp (cf w) v ops) :
    Calls Tryz.prog 19 #[v] w (SmallPost ops w) := by
  obtain ⟨a, cap, rfl, hlen, hcap, hel⟩ := h
  have HE := Hold.mk hel
  clear hel
  go_enter Tryz.func19, Tryz.ntmps19
  go_wp2_with fail
  go_loopw [3] (fun i wr => ∃ j : Nat, i = .int .i64 j ∧ j ≤ ops.length ∧ j ≤ 100 ∧ (∀ (q : Nat) o, q < j → ops[q]? = some o → o.name.size ≤ 1000 ∧ fewI o.x = true) ∧ Below w.heap.size w wr) (fun i _ => ops.length - (intOf i).toNat)
  case atStart => exact ⟨0, rfl, Nat.zero_le _, by omega, fun q o hq => by omega, Below.refl _ w⟩
  case round =>
    obtain ⟨j, rfl, hj, hj1, hall, hb⟩ := hrel
    have HB := Hold.mk hb
    have HALL := Hold.mk hall
    clear hb hall
    by_cases hlt : j < ops.length
    · by_cases hlt1 : j < 100
      · obtain ⟨o, ho⟩ : ∃ o, ops[j]? = some o := ⟨ops[j], List.getElem?_eq_getElem hlt⟩
        obtain ⟨b, off, d, rfl, hd, hcc, fa, fcap, rfl, hn, hxn, hf, hk⟩ := HE.out j o ho
        have HO := Hold.mk ho
        have hcl := cle_below HB.out
        have y0 := hcl _ _ _ (hcc 0 _ rfl)
        have y1 := hcl _ _ _ (hcc 1 _ rfl)
        have y2 := hcl _ _ _ (hcc 2 _ rfl)
        have y3 := hcl _ _ _ (hcc 3 _ rfl)
        have y4 := hcl _ _ _ (hcc 4 _ rfl)
        unfold cf at y0 y1 y2 y3 y4
        rw [Nat.add_zero] at y0
        have HX : Hold (IAt (cf wr) o.x (.agg #[.string o.x.name, .slice fa o.x.fields.length fcap, .bool o.x.uniq])) := ⟨⟨hxn, _, rfl, hf.mono hcl⟩⟩
        obtain ⟨kd, nm, ⟨xn, fl, u⟩⟩ := o
        simp only at *
        have hnm : (nm.size : Int) ≤ 9223372036854775807 := by omega
        clear ho hcc hcl hd hf hk hxn
        by_cases hs : nm.size ≤ 1000
        · have hs2 : ¬ (1000 : Int) < (nm.size : Int) := by omega
          by_cases hl : fl.length ≤ 10
          · have hl2 : ¬ (10 : Int) < (fl.length : Int) := by omega
            have HIX := Hold.mk (lindex_any ⟨xn, fl, u⟩ _ wr HX.out (by simp only; omega))
            go_wp2_with fail
            refine HIX.out.mono ?_
            rintro e w1 ⟨y, rfl, hy, hb1⟩
            have HB1 := Hold.mk (HB.out.trans (hb1.mono HB.out.size))
            have HFE := Hold.mk (rFewI_any ⟨xn, fl, u⟩ y w1 hy (by simp only; omega))
            clear hy hb1 HIX y0 y1 y2 y3 y4
            go_wp2_with fail
            refine HFE.out.mono ?_
            rintro e w2 ⟨rfl, hb2⟩
            have HB2 := Hold.mk (HB1.out.trans (hb2.mono HB1.out.size))
            clear hb2 HFE
            cases hsh : shortI ⟨xn, fl, u⟩ with
            | false =>
              go_wp2_with fail
              go_ret
              exact ⟨false, rfl, fun h => (by cases h), HB2.out⟩
            | true =>
              have HFW : Hold (fewI ⟨xn, fl, u⟩ = true) := ⟨by unfold fewI; rw [hsh, decide_eq_true hl]; rfl⟩
              go_wp2_with fail
              refine ⟨⟨j + 1, by go_num, hlt, by omega, fun q o hq ho => ?_, HB2.out⟩, by simp [intOf]; omega⟩
              by_cases e : q = j
              · subst e
                rw [HO.out] at ho
                obtain rfl := Option.some.inj ho
                exact ⟨hs, HFW.out⟩
              · exact HALL.out q o (by omega) ho
          · have hl2 : (10 : Int) < (fl.length : Int) := by omega
            go_wp2_with fail
            go_ret
            exact ⟨false, rfl, fun h => (by cases h), HB.out⟩
        · have hs2 : (1000 : Int) < (nm.size : Int) := by omega
          go_wp2_with fail
          go_ret
          exact ⟨false, rfl, fun h => (by cases h), HB.out⟩
      · have hj3 : j = 100 := by omega
        subst hj3
        have h40 : ¬ ops.length ≤ 40 := by omega
        have h40b : ¬ (ops.length : Int) ≤ 40 := by omega
        go_wp2_with fail
        go_ret
        exact ⟨false, rfl, fun h => by simp at h, HB.out⟩
    · obtain rfl : j = ops.length := by omega
      by_cases h40 : ops.length ≤ 40
      · have h40b : (ops.length : Int) ≤ 40 := by omega
        have HF : Hold (SmallOps ops) := ⟨h40, fun o ho => by
          obtain ⟨q, hq⟩ := List.getElem?_of_mem ho
          exact HALL.out q o (List.getElem?_eq_some_iff.1 hq).1 hq⟩
        go_wp2_with fail
        go_ret
        exact ⟨_, rfl, fun _ => HF.out, HB.out⟩
      · have h40b : ¬ (ops.length : Int) ≤ 40 := by omega
        go_wp2_with fail
        go_ret
        exact ⟨false, rfl, fun h => by simp at h, HB.out⟩

end Go.Proofs.YtcmfanfkcbjeoaaGreatDoor
