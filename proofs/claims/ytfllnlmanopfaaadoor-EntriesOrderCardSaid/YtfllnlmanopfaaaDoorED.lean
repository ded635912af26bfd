/- Indexes: an index as the reference has it (plain of the law). -/
import Derived.Test.YtfllnlmanopfaaaDoorEB
import Derived.Test.YtfllnlmanopfaaaDoorJGrow
import Derived.Deep.AppendLies
namespace Go.Proofs.YtfllnlmanopfaaaDoor
open Go.RowKit

theorem infoFd : (Tryd.prog.info? 83).map (fun i => (i.zero, i.size, i.bytes)) = some (some (.agg #[.string ⟨#[]⟩, .bool false]), 2, 24) := by kernel_rfl

/-- fields as cells -/
def fcells : List Fd → List Value
  | [] => []
  | p :: l => .string p.1 :: .bool p.2 :: fcells l
theorem fcells_snoc (p : Fd) : ∀ l, fcells (l ++ [p]) = fcells l ++ [.string p.1, .bool p.2]
  | [] => rfl
  | q :: l => by simp [fcells, fcells_snoc p l]
theorem fcells_len : ∀ l, (fcells l).length = l.length * 2
  | [] => rfl
  | q :: l => by simp [fcells, fcells_len l]; omega
theorem fcells_at : ∀ (l : List Fd) (i : Nat) (p : Fd), l[i]? = some p → (fcells l)[i * 2]? = some (.string p.1) ∧ (fcells l)[i * 2 + 1]? = some (.bool p.2)
  | [], i, p, h => by simp at h
  | q :: l, 0, p, h => by simp at h; subst h; simp [fcells]
  | q :: l, i + 1, p, h => by
    have := fcells_at l i p (by simpa using h)
    rw [show (i + 1) * 2 = i * 2 + 1 + 1 by omega]
    simpa [fcells] using this
/-- a row of fields of the call's own -/
theorem cfA_anti {B B' : Nat} (w : World) (h : B ≤ B') : CLe (cfA B' w) (cfA B w) := fun b o u hu => by
  unfold cfA at hu ⊢; split at hu
  · rw [if_pos (by omega)]; exact hu
  · cases hu
theorem fields_own_A {w : World} {B : Nat} {e : TypeId} {v : Value} {l : List Fd} (h : w.ownsRow B e 2 v l.length (fcells l)) (hs : ∀ p ∈ l, p.1.size ≤ 9223372036854775807) : FieldsAt (cfA B w) v l := by
  have h2 := h.2
  rcases h2 with ⟨hv, hn⟩ | ⟨g, cap, cur, hv, hb, _, hle, hcap, _⟩
  · obtain rfl : l = [] := List.length_eq_zero_iff.1 hn
    exact ⟨none, 0, hv, by simp, by simp, fun i s h => by simp at h⟩
  · refine ⟨some ⟨g, 0, none⟩, cap, hv, hle, by unfold maxLen at hcap; omega, fun i p hi => ⟨hs p (List.mem_of_getElem? hi), g, 0, rfl, ?_, ?_⟩⟩
    · have := h.cells (g := g) (by rw [hv]; rfl) (i * 2) (.string p.1) (fcells_at l i p hi).1
      rw [addr_at] at this
      unfold cfA; rw [Nat.zero_add, if_pos hb]; exact this
    · have := h.cells (g := g) (by rw [hv]; rfl) (i * 2 + 1) (.bool p.2) (fcells_at l i p hi).2
      rw [addr_at] at this
      unfold cfA; rw [Nat.zero_add, if_pos hb]; exact this
theorem fields_of_own {w : World} {B : Nat} {e : TypeId} {v : Value} {l : List Fd} (h : w.ownsRow B e 2 v l.length (fcells l)) (hs : ∀ p ∈ l, p.1.size ≤ 9223372036854775807) : FieldsAt (cf w) v l := (fields_own_A h hs).mono (cfA_le _ _)
theorem own_form2 {w : World} {B : Nat} {e : TypeId} {s : Nat} {v : Value} {n : Nat} {xs : List Value} (h : w.ownsRow B e s v n xs) : ∃ a cap, v = .slice a n cap := by
  rcases h.2 with ⟨hv, hn⟩ | ⟨g, cap, cur, hv, _⟩
  · exact ⟨none, 0, by rw [hv, hn]⟩
  · exact ⟨_, cap, hv⟩

theorem own_set {w : World} {B k o : Nat} {e : TypeId} {n sz : Nat} {v c : Value} {xs : List Value} (h : w.ownsRow B e sz v n xs) (hk : k < B) : (w.setCell ⟨k, o, none⟩ c).ownsRow B e sz v n xs := by
  obtain ⟨h1, h2⟩ := h
  refine ⟨h1, ?_⟩
  rcases h2 with h2 | ⟨g, cap, cur, hv, hb, hc, hrest⟩
  · exact .inl h2
  · exact .inr ⟨g, cap, cur, hv, hb, by rw [Below.heap_setCell _ _ _ _ (show g ≠ k by omega)]; exact hc, hrest⟩

abbrev zeroI : Array Value := #[.string ⟨#[]⟩, .slice none 0 0, .bool false]
/-- where plain stands -/
structure PL (w wr : World) (nm : ByteArray) (fv : Value) (u : Bool) (sv : Value) (j : Nat) (l : List Fd) : Prop where
  bel : Below w.heap.size w wr
  xb : wr.heap[w.heap.size]? = some (.cells #[.string nm, fv, .bool u] 37 (0, 0))
  rb : wr.heap[w.heap.size + 1]? = some (.cells zeroI 42 (0, 0))
  yb : wr.heap[w.heap.size + 1 + 1]? = some (.cells #[.string nm, sv, .bool u] 42 (0, 0))
  own : wr.ownsRow (w.heap.size + 1 + 1 + 1) 83 2 sv j (fcells (l.take j))
theorem PL.start (w : World) (nm : ByteArray) (fv : Value) (u : Bool) (l : List Fd) :
    PL w (((w.alloc (.cells #[.string nm, fv, .bool u] 37)).alloc (.cells zeroI 42)).alloc (.cells #[.string nm, .slice none 0 0, .bool u] 42)) nm fv u (.slice none 0 0) 0 l := by
  refine ⟨(((Below.refl _ w).alloc (Nat.le_refl _) _).alloc (by simp) _).alloc (by simp; omega) _, al_old2 (al_old2 (al_new2 rfl)), al_old2 (al_new2 (by simp)), al_new2 (by simp), World.ownsRow_nil _ _ _ _⟩
where
  al_old2 {w : World} {o x : Obj} {k : Nat} (h : w.heap[k]? = some x) : (w.alloc o).heap[k]? = some x := kept h ((Below.refl _ w).alloc (Nat.le_refl _) o)
  al_new2 {w : World} {o : Obj} {n : Nat} (h : n = w.heap.size) : (w.alloc o).heap[n]? = some o := by rw [h]; exact heap_alloc_new w o

theorem PL.alloc {w w1 : World} {nm : ByteArray} {fv : Value} {u : Bool} {sv : Value} {j : Nat} {l : List Fd} (h : PL w w1 nm fv u sv j l) (o : Obj) : PL w (w1.alloc o) nm fv u sv j l :=
  ⟨h.bel.alloc h.bel.size o, kept h.xb ((Below.refl _ w1).alloc (Nat.le_refl _) o), kept h.rb ((Below.refl _ w1).alloc (Nat.le_refl _) o), kept h.yb ((Below.refl _ w1).alloc (Nat.le_refl _) o), h.own.alloc o⟩

/-- y.Fields = append(y.Fields, f) -/
theorem PL.push {w w1 w2 : World} {nm : ByteArray} {fv : Value} {u : Bool} {sv : Value} {j g cap : Nat} {l : List Fd} {f : Fd} (h : PL w w1 nm fv u sv j l) (hf : l[j]? = some f)
    (hg : w1.grownBy w2 sv.ownBlock) (hown : w2.ownsRow (w.heap.size + 1 + 1 + 1) 83 2 (.slice (some ⟨g, 0, none⟩) (j + 1) cap) (j + 1) (fcells (l.take j) ++ [.string f.1, .bool f.2])) :
    PL w (w2.setCell ⟨w.heap.size + 1 + 1, 1, none⟩ (.slice (some ⟨g, 0, none⟩) (j + 1) cap)) nm fv u (.slice (some ⟨g, 0, none⟩) (j + 1) cap) (j + 1) l := by
  have hne : ∀ k, k < w.heap.size + 1 + 1 + 1 → sv.ownBlock ≠ some k := fun k hk e => by have := (h.own.lt k e).1; omega
  have hsz : w.heap.size + 1 + 1 < w1.heap.size := heap_lt h.yb
  have old : ∀ k, k < w.heap.size + 1 + 1 + 1 → w2.heap[k]? = w1.heap[k]? := fun k hk => hg.block k (by omega) (fun e => hne k hk e.symm)
  have ny : ∀ k, k ≠ w.heap.size + 1 + 1 → ∀ v, (w2.setCell ⟨w.heap.size + 1 + 1, 1, none⟩ v).heap[k]? = w2.heap[k]? := fun k hk v => Below.heap_setCell _ _ _ _ hk
  refine ⟨?_, ?_, ?_, ?_, ?_⟩
  · have hb2 : Below w.heap.size w w2 := h.bel.grown hg h.bel.size (fun q hq => by have := (h.own.lt q hq).1; omega)
    exact hb2.setCell (p := ⟨w.heap.size + 1 + 1, 1, none⟩) (by simp; omega) _
  · rw [ny _ (by omega), old _ (by omega)]; exact h.xb
  · rw [ny _ (by omega), old _ (by omega)]; exact h.rb
  · have := set_self (o := 1) (c := .slice (some ⟨g, 0, none⟩) (j + 1) cap) (by rw [old _ (by omega)]; exact h.yb : w2.heap[w.heap.size + 1 + 1]? = some (.cells #[.string nm, sv, .bool u] 42 (0, 0)))
    simpa using this
  · have e : l.take (j + 1) = l.take j ++ [f] := by rw [List.take_add_one, hf]; rfl
    rw [e, fcells_snoc]
    obtain ⟨h1, h2⟩ := hown
    refine ⟨h1, ?_⟩
    rcases h2 with ⟨hv, _⟩ | ⟨g', cap', cur, hv, hb, hc, hrest⟩
    · cases hv
    · refine .inr ⟨g', cap', cur, hv, hb, ?_, hrest⟩
      rw [ny _ (by omega)]; exact hc

set_option maxRecDepth 100000 in
set_option maxHeartbeats 8000000 in
theorem lplainA_any (x : IX) (v : Value) (w : World) (hx : IAt (cf w) x v) (hn : x.fields.length ≤ 1000) :
    Calls Tryd.prog 25 #[v] w fun e w' => ∃ y, e = .returned y ∧ IAt (cfA w.heap.size w') x y ∧ Below w.heap.size w w' := by
  obtain ⟨hnm, fv, rfl, hfv⟩ := hx
  obtain ⟨a, cap, rfl, hlen, hcap, hel⟩ := hfv
  have HE := Hold.mk hel
  have HNM := Hold.mk hnm
  obtain ⟨i0, hi, hz0, hz1, hz2⟩ := info_parts infoFd
  have HI := Hold.mk (And.intro hi (And.intro hz0 (And.intro hz1 hz2)))
  obtain ⟨nm, l, u⟩ := x
  simp only at *
  have HP := Hold.mk (PL.start w nm (.slice a l.length cap) u l)
  clear hel hnm hi hz0 hz1 hz2
  go_enter Tryd.func25, Tryd.ntmps25
  go_wp2_with fail
  go_loopw [4] (fun i wr => ∃ (j : Nat) (sv : Value), i = .int .i64 j ∧ j ≤ l.length ∧ PL w wr nm (.slice a l.length cap) u sv j l) (fun i _ => l.length - (intOf i).toNat)
  case atStart => exact ⟨0, _, rfl, Nat.zero_le _, HP.out⟩
  case round =>
    obtain ⟨j, sv, rfl, hj, hpl⟩ := hrel
    clear HP
    have HP := Hold.mk hpl
    clear hpl
    obtain ⟨sa, scap, rfl⟩ := own_form2 HP.out.own
    obtain ⟨x0, x1, x2⟩ := cells_three HP.out.xb
    by_cases hlt : j < l.length
    · obtain ⟨f, hf⟩ : ∃ f, l[j]? = some f := ⟨l[j], List.getElem?_eq_getElem hlt⟩
      obtain ⟨hfs, b, off, rfl, z0, z1⟩ := HE.out j f hf
      have hbl : b < w.heap.size := lt_of_cell z0
      have hcl := cle_below HP.out.bel
      have g0 := GrowB.cell (B := w.heap.size + 1) (hcl _ _ _ z0) (by omega)
      have g1 := GrowB.cell (B := w.heap.size + 1) (hcl _ _ _ z1) (by omega)
      have g2 := GrowB.cell (B := w.heap.size + 1) x1 (by omega)
      have HF := Hold.mk hf
      obtain ⟨s, dn⟩ := f
      simp only at *
      clear z0 z1 hcl hf
      go_wp2_with fail
      clear x0 x1 x2
      refine wp_region_mixB (w.heap.size + 1) 11 rfl (by kernel_rfl) ?_
      rintro w1 hw1 hb1
      have HP1 : Hold (PL w w1 nm (.slice (some ⟨b, off, none⟩) l.length cap) u (.slice sa j scap) j l) := ⟨by subst hw1; exact ⟨HP.out.bel.drew, HP.out.xb, HP.out.rb, HP.out.yb, HP.out.own.drew⟩⟩
      have HB1 : Hold (Below (w.heap.size + 1) wr w1) := ⟨hb1.mono (by have := heap_lt HP.out.xb; omega)⟩
      clear hb1 hw1
      refine mixl_seg (by kernel_rfl) (fun _ _ d _ _ h => by cases d <;> exact h) [0, 2, 3, 4, 5, 6] [_, _, _, _, _, _] 5 11 rfl _ _ _ rfl (by kernel_rfl) (growBC HB1.out) ?_
      repeat (go_big_quiet_step (fail))
      refine wpQuiet_nil ?_
      obtain ⟨y0, y1, y2⟩ := cells_three HP1.out.yb
      refine mixl_two (i := 1) (j := 7) rfl rfl (by kernel_rfl) (growBC HB1.out) rfl rfl (fun K hK => ?_) (fun K hK => ?_)
      · go_wp2_with fail
        refine mixl_act (i := 7) rfl (by kernel_rfl) (growBC HB1.out) rfl (fun K hK => ?_)
        go_wp2_with fail
        clear y0 y1 y2
        generalize hw2 : w1.alloc (.cells #[.string s, .bool dn] 83) = w2
        have HP2 : Hold (PL w w2 nm (.slice (some ⟨b, off, none⟩) l.length cap) u (.slice sa j scap) j l) := ⟨by rw [← hw2]; exact HP1.out.alloc _⟩
        have HB2 : Hold (Below (w.heap.size + 1) wr w2) := ⟨by rw [← hw2]; exact HB1.out.alloc (by have := heap_lt HP1.out.xb; omega) _⟩
        have HN2 : Hold (w2.heap[w1.heap.size]? = some (.cells #[.string s, .bool dn] 83 (0, 0))) := ⟨by rw [← hw2]; exact heap_alloc_new w1 _⟩
        clear hw2
        refine mixl_act (i := 8) rfl (by kernel_rfl) (growBC HB2.out) rfl (fun K hK => ?_)
        refine wp_append_lies w2 (.tmp 18) (.tmp 24) 40 rfl (w.heap.size + 1 + 1 + 1) 83 i0 (.agg #[.string ⟨#[]⟩, .bool false]) 2 24 Tryd.underlying40 HI.out.1 HI.out.2.1 HI.out.2.2.1 HI.out.2.2.2 rfl (by decide) (.slice sa j scap) j _ rfl HP2.out.own ⟨w1.heap.size, 0, none⟩ 1 1 [.string s, .bool dn] rfl rfl (World.news_of_block HN2.out) (by simp [Value.oneCell']) (by decide) (by unfold maxLen; omega) (by omega) (by have := heap_lt HP2.out.yb; omega) _ rfl ?_
        intro g cap2 w3 hown hgr _ _
        refine hK _ _ ?_
        clear hK K
        have hy3 : w3.heap[w.heap.size + 1 + 1]? = some (.cells #[.string nm, .slice sa j scap, .bool u] 42 (0, 0)) := by
          rw [hgr.block _ (heap_lt HP2.out.yb) (fun e => by have := (HP2.out.own.lt _ e.symm).1; omega)]; exact HP2.out.yb
        have HB3 : Hold (Below (w.heap.size + 1) wr w3) := ⟨HB2.out.grown hgr (by have := heap_lt HP2.out.xb; omega) (fun q hq => by have := (HP2.out.own.lt q hq).1; omega)⟩
        have HN := Hold.mk (HP2.out.push HF.out hgr hown)
        refine mixl_act (i := 9) rfl (by kernel_rfl) (growBC HB3.out) rfl (fun K hK => ?_)
        go_wp2_with fail
        obtain ⟨v0, v1, v2⟩ := cells_three hy3
        have vf : w3.frozen? ⟨w.heap.size + 1 + 1, 1, none⟩ = false := free_box hy3 1
        have HB4 : Hold (∀ v, Below (w.heap.size + 1) wr (w3.setCell ⟨w.heap.size + 1 + 1, 1, none⟩ v)) := ⟨fun v => HB3.out.setCell (p := ⟨w.heap.size + 1 + 1, 1, none⟩) (by simp) v⟩
        clear hy3 hown hgr
        refine mixl_act (i := 10) rfl (by kernel_rfl) (growBC HB3.out) rfl (fun K hK => ?_)
        go_wp2_with fail
        clear v0 v1 v2 vf
        refine mix_done (by kernel_rfl) (growBC (HB4.out _)) ?_
        go_wp2_with fail
        exact ⟨⟨j + 1, _, by go_num, hlt, HN.out⟩, by simp [intOf]; omega⟩
      · go_wp2_with fail
        have hlt1 := heap_lt HP1.out.yb
        refine mixl_act (i := 1) rfl (by kernel_rfl) (growBC (HB1.out.alloc (by have := heap_lt HP1.out.xb; omega) _)) rfl (fun K hK => ?_)
        go_wp2_with fail
        clear y0 y1 y2 hlt1
        generalize hw2 : w1.alloc (.cells #[.string s, .bool dn] 83) = w2
        have HP2 : Hold (PL w w2 nm (.slice (some ⟨b, off, none⟩) l.length cap) u (.slice sa j scap) j l) := ⟨by rw [← hw2]; exact HP1.out.alloc _⟩
        have HB2 : Hold (Below (w.heap.size + 1) wr w2) := ⟨by rw [← hw2]; exact HB1.out.alloc (by have := heap_lt HP1.out.xb; omega) _⟩
        have HN2 : Hold (w2.heap[w1.heap.size]? = some (.cells #[.string s, .bool dn] 83 (0, 0))) := ⟨by rw [← hw2]; exact heap_alloc_new w1 _⟩
        clear hw2
        refine mixl_act (i := 8) rfl (by kernel_rfl) (growBC HB2.out) rfl (fun K hK => ?_)
        refine wp_append_lies w2 (.tmp 18) (.tmp 24) 40 rfl (w.heap.size + 1 + 1 + 1) 83 i0 (.agg #[.string ⟨#[]⟩, .bool false]) 2 24 Tryd.underlying40 HI.out.1 HI.out.2.1 HI.out.2.2.1 HI.out.2.2.2 rfl (by decide) (.slice sa j scap) j _ rfl HP2.out.own ⟨w1.heap.size, 0, none⟩ 1 1 [.string s, .bool dn] rfl rfl (World.news_of_block HN2.out) (by simp [Value.oneCell']) (by decide) (by unfold maxLen; omega) (by omega) (by have := heap_lt HP2.out.yb; omega) _ rfl ?_
        intro g cap2 w3 hown hgr _ _
        refine hK _ _ ?_
        clear hK K
        have hy3 : w3.heap[w.heap.size + 1 + 1]? = some (.cells #[.string nm, .slice sa j scap, .bool u] 42 (0, 0)) := by
          rw [hgr.block _ (heap_lt HP2.out.yb) (fun e => by have := (HP2.out.own.lt _ e.symm).1; omega)]; exact HP2.out.yb
        have HB3 : Hold (Below (w.heap.size + 1) wr w3) := ⟨HB2.out.grown hgr (by have := heap_lt HP2.out.xb; omega) (fun q hq => by have := (HP2.out.own.lt q hq).1; omega)⟩
        have HN := Hold.mk (HP2.out.push HF.out hgr hown)
        refine mixl_act (i := 9) rfl (by kernel_rfl) (growBC HB3.out) rfl (fun K hK => ?_)
        go_wp2_with fail
        obtain ⟨v0, v1, v2⟩ := cells_three hy3
        have vf : w3.frozen? ⟨w.heap.size + 1 + 1, 1, none⟩ = false := free_box hy3 1
        have HB4 : Hold (∀ v, Below (w.heap.size + 1) wr (w3.setCell ⟨w.heap.size + 1 + 1, 1, none⟩ v)) := ⟨fun v => HB3.out.setCell (p := ⟨w.heap.size + 1 + 1, 1, none⟩) (by simp) v⟩
        clear hy3 hown hgr
        refine mixl_act (i := 10) rfl (by kernel_rfl) (growBC HB3.out) rfl (fun K hK => ?_)
        go_wp2_with fail
        clear v0 v1 v2 vf
        refine mix_done (by kernel_rfl) (growBC (HB4.out _)) ?_
        go_wp2_with fail
        exact ⟨⟨j + 1, _, by go_num, hlt, HN.out⟩, by simp [intOf]; omega⟩
    · have HOW := Hold.mk HP.out.own
      rw [List.take_of_length_le (by omega)] at HOW
      obtain rfl : j = l.length := by omega
      obtain ⟨y0, y1, y2⟩ := cells_three HP.out.yb
      obtain ⟨r0, r1, r2⟩ := cells_three HP.out.rb
      have f0 := free_box HP.out.rb 0
      have f1 := free_box HP.out.rb 1
      have f2 := free_box HP.out.rb 2
      have HFE : Hold (∀ p ∈ l, p.1.size ≤ 9223372036854775807) := ⟨fun p hp => by
        obtain ⟨i, hi⟩ := List.getElem?_of_mem hp
        exact (HE.out i p hi).1⟩
      go_wp2_with fail
      obtain ⟨W, hW⟩ : ∃ W, W = (((wr.setCell ⟨w.heap.size + 1, 0, none⟩ (.string nm)).setCell ⟨w.heap.size + 1, 1, none⟩ (.slice sa l.length scap)).setCell ⟨w.heap.size + 1, 2, none⟩ (.bool u)) := ⟨_, rfl⟩
      rw [← hW]
      have hbk : W.heap[w.heap.size + 1]? = some (.cells #[.string nm, .slice sa l.length scap, .bool u] 42 (0, 0)) := by
        rw [hW]
        have := set_self (o := 2) (c := .bool u) (set_self (o := 1) (c := .slice sa l.length scap) (set_self (o := 0) (c := .string nm) HP.out.rb))
        simpa [zeroI] using this
      have how : W.ownsRow (w.heap.size + 1 + 1 + 1) 83 2 (.slice sa l.length scap) l.length (fcells l) := by
        rw [hW]; exact own_set (own_set (own_set HOW.out (by omega)) (by omega)) (by omega)
      have hbw : Below w.heap.size w W := by
        rw [hW]; exact ((HP.out.bel.setCell (p := ⟨w.heap.size + 1, 0, none⟩) (by simp) _).setCell (p := ⟨w.heap.size + 1, 1, none⟩) (by simp) _).setCell (p := ⟨w.heap.size + 1, 2, none⟩) (by simp) _
      clear hW y0 y1 y2 r0 r1 r2 f0 f1 f2
      obtain ⟨c0, c1, c2⟩ := cells_three hbk
      exact bodyPost_ret (v := .agg #[.string nm, .slice sa l.length scap, .bool u]) (by simp [results, Tryd.results25, go_sem, c0, c1, c2]) rfl ⟨_, rfl, ⟨HNM.out, _, rfl, (fields_own_A how HFE.out).mono (cfA_anti _ (by omega))⟩, hbw⟩
theorem lplain_any (x : IX) (v : Value) (w : World) (hx : IAt (cf w) x v) (hn : x.fields.length ≤ 1000) :
    Calls Tryd.prog 25 #[v] w fun e w' => ∃ y, e = .returned y ∧ IAt (cf w') x y ∧ Below w.heap.size w w' :=
  (lplainA_any x v w hx hn).mono fun _ _ ⟨y, he, hy, hb⟩ => ⟨y, he, hy.mono (cfA_le _ _), hb⟩

end Go.Proofs.YtfllnlmanopfaaaDoor
