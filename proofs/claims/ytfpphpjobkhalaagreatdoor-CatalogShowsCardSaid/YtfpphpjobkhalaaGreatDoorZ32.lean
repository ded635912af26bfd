/- Indexes: Same of the reference. -/
import Derived.Test.YtfpphpjobkhalaaGreatDoorZ01
import Derived.Test.YtfpphpjobkhalaaGreatDoorZ02
import Derived.Test.YtfpphpjobkhalaaGreatDoorZ03
import Derived.Test.YtfpphpjobkhalaaGreatDoorZ09
import Derived.Test.YtfpphpjobkhalaaGreatDoorZ19
import Derived.Test.YtfpphpjobkhalaaGreatDoorZ30
namespace Go.Proofs.YtfpphpjobkhalaaGreatDoor
open Go.RowKit

theorem twoEM (w : World) (o0 o1 : Obj) : ∃ W, W = ((w.alloc o0).alloc o1) ∧ Below w.heap.size w W ∧ W.heap[w.heap.size]? = some o0 ∧ W.heap[w.heap.size + 1]? = some o1 :=
  ⟨_, rfl, ((Below.refl _ w).alloc (Nat.le_refl _) o0).alloc (by simp) o1, kept (heap_alloc_new w o0) ((Below.refl _ _).alloc (Nat.le_refl _) o1), by have := heap_alloc_new (w.alloc o0) o1; simpa using this⟩
open Classical in
/-- two indexes are alike -/
noncomputable def sameI (x y : IX) : Bool := decide (x = y)
open Classical in
theorem sameI_no {x y : IX} (h : x ≠ y) : sameI x y = false := by unfold sameI; exact decide_eq_false h
open Classical in
theorem sameI_yes {x y : IX} (h : x = y) : sameI x y = true := by unfold sameI; exact decide_eq_true h
/-- two boxes of indexes -/
structure TwoI (w wr : World) (a b : Array Value) : Prop where
  bel : Below w.heap.size w wr
  one : wr.heap[w.heap.size]? = some (.cells a 73 (0, 0))
  two : wr.heap[w.heap.size + 1]? = some (.cells b 73 (0, 0))
theorem TwoI.drewN {w wr : World} {a b : Array Value} (h : TwoI w wr a b) (n : Nat) : TwoI w (wr.drewN n) a b := ⟨h.bel.trans ⟨rfl, rfl, rfl, Nat.le_refl _, fun _ _ => rfl⟩, h.one, h.two⟩
set_option maxRecDepth 100000 in
set_option maxHeartbeats 8000000 in
theorem rSameI_any (x y : IX) (v u : Value) (w : World) (hx : IAt (cf w) x v) (hy : IAt (cf w) y u) :
    Calls Tryz.prog 37 #[v, u] w fun e w' => e = .returned (.bool (sameI x y)) ∧ Below w.heap.size w w' := by
  obtain ⟨hnm, fv, rfl, a, cap, rfl, hlen, hcap, hel⟩ := hx
  obtain ⟨hnm2, fv2, rfl, a2, cap2, rfl, hlen2, hcap2, hel2⟩ := hy
  obtain ⟨nm, l, bu⟩ := x
  obtain ⟨nm2, l2, bu2⟩ := y
  simp only at *
  obtain ⟨W, hW, hB, e0, e1⟩ := twoEM w (.cells #[.string nm, .slice a l.length cap, .bool bu] 73) (.cells #[.string nm2, .slice a2 l2.length cap2, .bool bu2] 73)
  have HB := Hold.mk hB
  have HE := Hold.mk hel
  have HE2 := Hold.mk hel2
  have H0 := Hold.mk e0
  have H1 := Hold.mk e1
  clear hB hel hel2 e0 e1
  by_cases h1 : nm = nm2
  · subst h1
    by_cases h2 : bu = bu2
    · subst h2
      by_cases h3 : l.length = l2.length
      · have b3 : (((l.length : Nat) : Int) != ((l2.length : Nat) : Int)) = false := by rw [h3]; simp
        have HL := Hold.mk h3
        have H2 : Hold (TwoI w W #[.string nm, .slice a l.length cap, .bool bu] #[.string nm, .slice a2 l2.length cap2, .bool bu]) := ⟨⟨HB.out, H0.out, H1.out⟩⟩
        clear h3
        go_enter Tryz.func37, Tryz.ntmps37
        go_wp2_with fail
        rw [← hW]
        clear hW
        go_loopw [5] (fun i wr => ∃ j : Nat, i = .int .i64 j ∧ j ≤ l.length ∧ EqTo l l2 j ∧ TwoI w wr #[.string nm, .slice a l.length cap, .bool bu] #[.string nm, .slice a2 l2.length cap2, .bool bu]) (fun i _ => l.length - (intOf i).toNat)
        case atStart => exact ⟨0, rfl, Nat.zero_le _, fun q hq => by omega, H2.out⟩
        case round =>
          obtain ⟨j, rfl, hj, hq, h2⟩ := hrel
          clear H2 HB H0 H1
          have HQ := Hold.mk hq
          have H2 := Hold.mk h2
          clear hq h2
          obtain ⟨y0, y1, y2⟩ := cells_three H2.out.one
          obtain ⟨z0, z1, z2⟩ := cells_three H2.out.two
          by_cases hlt : j < l.length
          · have hlt2 : j < l2.length := by rw [← HL.out]; exact hlt
            obtain ⟨f, hf⟩ : ∃ s, l[j]? = some s := ⟨l[j], List.getElem?_eq_getElem hlt⟩
            obtain ⟨g, hg⟩ : ∃ s, l2[j]? = some s := ⟨l2[j], List.getElem?_eq_getElem hlt2⟩
            obtain ⟨_, b, off, rfl, x0, x1⟩ := HE.out j f hf
            obtain ⟨_, b2, off2, rfl, v0, v1⟩ := HE2.out j g hg
            replace x0 := cle_below H2.out.bel _ _ _ x0
            replace x1 := cle_below H2.out.bel _ _ _ x1
            replace v0 := cle_below H2.out.bel _ _ _ v0
            replace v1 := cle_below H2.out.bel _ _ _ v1
            unfold cf at x0 x1 v0 v1
            have HF := Hold.mk hf
            have HG := Hold.mk hg
            clear hf hg
            obtain ⟨s, d⟩ := f
            obtain ⟨s2, d2⟩ := g
            simp only at *
            by_cases hs : s = s2
            · subst hs
              by_cases hd : d = d2
              · subst hd
                have HNX := Hold.mk (HQ.out.next (HF.out.trans HG.out.symm))
                go_wp2_with fail
                go_quiet (fail)
                go_wp2_with fail
                exact ⟨⟨j + 1, by go_num, hlt, HNX.out, H2.out.drewN _⟩, by simp [intOf]; omega⟩
              · have bd : (d == d2) = false := by simpa using hd
                have HR : Hold (sameI ⟨nm, l, bu⟩ ⟨nm, l2, bu⟩ = false) := ⟨sameI_no (fun e => hd (by cases e; have := HF.out.symm.trans HG.out; simpa using this))⟩
                clear hd
                go_wp2_with fail
                go_quiet (fail)
                go_wp2_with fail
                go_ret
                exact ⟨by rw [HR.out]; rfl, (H2.out.drewN _).bel⟩
            · have bs : (s.toList == s2.toList) = false := str_ne hs
              have HR : Hold (sameI ⟨nm, l, bu⟩ ⟨nm, l2, bu⟩ = false) := ⟨sameI_no (fun e => hs (by cases e; have := HF.out.symm.trans HG.out; simp at this; exact this.1))⟩
              clear hs
              go_wp2_with fail
              go_quiet (fail)
              go_wp2_with fail
              go_ret
              exact ⟨by rw [HR.out]; rfl, (H2.out.drewN _).bel⟩
          · obtain rfl : j = l.length := by omega
            have HR : Hold (sameI ⟨nm, l, bu⟩ ⟨nm, l2, bu⟩ = true) := ⟨sameI_yes (by
              have : l = l2 := EqTo.all HL.out HQ.out
              rw [this])⟩
            go_wp2_with fail
            go_ret
            exact ⟨by rw [HR.out]; rfl, H2.out.bel⟩
      · have b3 : (((l.length : Nat) : Int) != ((l2.length : Nat) : Int)) = true := by simp; omega
        have HR : Hold (sameI ⟨nm, l, bu⟩ ⟨nm, l2, bu⟩ = false) := ⟨sameI_no (fun e => h3 (by cases e; rfl))⟩
        clear h3
        go_enter Tryz.func37, Tryz.ntmps37
        go_wp2_with fail
        rw [← hW]
        go_ret
        exact ⟨by rw [HR.out]; rfl, HB.out⟩
    · have HR : Hold (sameI ⟨nm, l, bu⟩ ⟨nm, l2, bu2⟩ = false) := ⟨sameI_no (fun e => h2 (by cases e; rfl))⟩
      cases bu <;> cases bu2 <;> first
        | exact absurd rfl h2
        | (clear h2
           go_enter Tryz.func37, Tryz.ntmps37
           go_wp2_with fail
           rw [← hW]
           go_ret
           exact ⟨by rw [HR.out]; rfl, HB.out⟩)
  · have b1 : (nm.toList == nm2.toList) = false := str_ne h1
    have HR : Hold (sameI ⟨nm, l, bu⟩ ⟨nm2, l2, bu2⟩ = false) := ⟨sameI_no (fun e => h1 (by cases e; rfl))⟩
    clear h1
    go_enter Tryz.func37, Tryz.ntmps37
    go_wp2_with fail
    rw [← hW]
    go_ret
    exact ⟨by rw [HR.out]; rfl, HB.out⟩
end Go.Proofs.YtfpphpjobkhalaaGreatDoor

/- Indexes: what is shown and read, plainly. -/
namespace Go.Proofs.YtfpphpjobkhalaaGreatDoor
open Go.RowKit

def zeroJE : JV := .mk 0 0 ⟨#[]⟩ [] []
def zeroX : IX := ⟨⟨#[]⟩, [], false⟩
def errI (b : Bool) : Int := if b then 0 else 2
theorem zeroJ_at (c : CF) : JAt c zeroJE (.agg #[.int .i64 0, .int .i64 0, .string ⟨#[]⟩, .slice none 0 0, .slice none 0 0]) := by
  refine JAt.shut (by decide) (by decide) (by decide) ⟨none, 0, rfl, by decide, fun i s h => by simp at h⟩ ⟨none, 0, rfl, by decide, fun i s h => by simp at h⟩
noncomputable def parseX (v : JV) : IX := (parseF v).getD zeroX
theorem few_item_le {l : Nat} : ∀ (n : Nat) (ns : List Nat), (∀ m ∈ ns, 1 ≤ m) → addTo n ns ≤ 1000 → n + ns.length ≤ addTo n ns
  | n, [], _, _ => by simp [addTo]
  | n, m :: ns, h1, h => by
    by_cases hn : n ≤ 1000
    · rw [addTo_step hn] at h ⊢
      have := few_item_le (l := l) (n + m) ns (fun q hq => h1 q (List.mem_cons_of_mem _ hq)) h
      have := h1 m (List.mem_cons_self ..)
      simp only [List.length_cons]; omega
    · rw [addTo_stop hn] at h; omega
theorem nodes_pos : ∀ (l : Nat) (v : JV), 1 ≤ nodesF l v
  | 0, _ => by simp [nodesF]
  | l + 1, v => by
    rw [nodesF]
    have : ∀ (ns : List Nat) (n : Nat), 1 ≤ n → 1 ≤ addTo n ns := by
      intro ns
      induction ns with
      | nil => intro n h; simpa [addTo] using h
      | cons m ns ih =>
        intro n h
        by_cases hn : n ≤ 1000
        · rw [addTo_step hn]; exact ih _ (by omega)
        · rw [addTo_stop hn]; exact h
    have := this (v.items.map (nodesF l)) 1 (Nat.le_refl _)
    omega
theorem few_parsable {v : JV} (h : fewF v = true) : parsable v := by
  intro i0 hi0
  obtain ⟨k, n, t, nm, it⟩ := v
  rw [fewF, fewL_all] at h
  simp only [Bool.and_eq_true] at h
  have h1 := List.all_eq_true.1 h.2 i0 hi0
  obtain ⟨k1, n1, t1, nm1, it1⟩ := i0
  rw [fewF, fewL_all] at h1
  simp only [Bool.and_eq_true, decide_eq_true_eq] at h1
  refine ⟨?_, fun j hj => ?_⟩
  · have h2 := h1.1.1.1.1
    rw [nodesF] at h2
    have h3 := few_item_le (l := 0) 1 (it1.map (nodesF 39)) (fun m hm => by obtain ⟨q, _, rfl⟩ := List.mem_map.1 hm; exact nodes_pos _ _) (by simp only [JV.items] at h2; omega)
    simp only [JV.items, List.length_map] at h2 h3 ⊢
    omega
  · have h2 := List.all_eq_true.1 h1.2 j hj
    obtain ⟨k2, n2, t2, nm2, it2⟩ := j
    rw [fewF, fewL_all] at h2
    simp only [Bool.and_eq_true, decide_eq_true_eq] at h2
    have := h2.1.1.2
    simp only [JV.text]
    omega
theorem dash_len (s : ByteArray) (d : Bool) : (dashS s d).size ≤ s.size + 1 := by
  unfold dashS; split
  · rw [ByteArray.size_append]; show 1 + _ ≤ _; omega
  · omega
theorem show_parsable {x : IX} (h : formI x = true) : parsable (showJ x) := by
  obtain ⟨h1, h2, h3⟩ := form_parts h
  intro i0 hi0
  simp only [showJ, JV.items, List.mem_cons, List.not_mem_nil, or_false] at hi0
  rcases hi0 with rfl | rfl | rfl
  · refine ⟨?_, fun j hj => ?_⟩
    · simp only [JV.items, showItems, List.length_map]; omega
    · simp only [JV.items, showItems] at hj
      obtain ⟨f, hf, rfl⟩ := List.mem_map.1 hj
      have := h3 f hf
      have := dash_len f.1 f.2
      simp only [strJ, JV.text]; omega
  · exact ⟨by simp [strJ, JV.items], fun j hj => by simp [strJ, JV.items] at hj⟩
  · exact ⟨by simp [kindJ, JV.items], fun j hj => by simp [kindJ, JV.items] at hj⟩
end Go.Proofs.YtfpphpjobkhalaaGreatDoor

/- EntriesShow, walked. -/
namespace Go.Proofs.YtfpphpjobkhalaaGreatDoor
open Go.RowKit

/-- the two boxes of what comes in -/
structure TB (w wr : World) (o0 o1 : Obj) : Prop where
  bel : Below w.heap.size w wr
  one : wr.heap[w.heap.size]? = some o0
  two : wr.heap[w.heap.size + 1]? = some o1
theorem TB.next {w wr w2 : World} {o0 o1 : Obj} (h : TB w wr o0 o1) (hb : Below wr.heap.size wr w2) : TB w w2 o0 o1 := ⟨h.bel.trans (hb.mono h.bel.size), kept h.one hb, kept h.two hb⟩
/-- a new box ahead of all that follows -/
theorem oneE (w : World) (o : Obj) : ∃ W, W = w.alloc o ∧ Below w.heap.size w W ∧ W.heap[w.heap.size]? = some o :=
  ⟨_, rfl, (Below.refl w.heap.size w).alloc (Nat.le_refl _) o, heap_alloc_new w o⟩
end Go.Proofs.YtfpphpjobkhalaaGreatDoor

/- EntriesShow: what is shown is formed, and read again as it was. -/
namespace Go.Proofs.YtfpphpjobkhalaaGreatDoor
open Go.RowKit

theorem good_plain {all : List Fd} : ∀ (l : List Fd) (j : Nat), goodF all j l = true → ∀ f ∈ l, plainS f.1 = true
  | [], _, _, f, hf => by cases hf
  | g :: l, j, h, f, hf => by
    rw [goodF, Bool.and_eq_true, Bool.and_eq_true] at h
    rcases List.mem_cons.1 hf with rfl | hf
    · have := h.1.1
      unfold pathOk simpleF at this
      rw [Bool.and_eq_true, Bool.and_eq_true] at this
      exact this.2.1
    · exact good_plain l (j + 1) h.2 f hf
theorem dash_list (s : ByteArray) : (dashS s true).data.toList = 45 :: s.data.toList := by
  show (⟨#[45]⟩ ++ s : ByteArray).data.toList = _
  rw [ByteArray.data_append]; simp
theorem cut_dash {s : ByteArray} {d : Bool} (h : plainS s = true) : cutF (dashS s d) = (s, d) := by
  cases d with
  | true =>
    unfold cutF Lib.trimPrefix Lib.hasPrefix
    rw [dash_list]
    simp [List.isPrefixOf]
  | false =>
    show cutF s = _
    refine cut_no (fun h2 => ?_)
    have := List.all_eq_true.1 h 45 (List.mem_of_getElem? h2.2)
    simp [okN] at this
theorem read_showE {x : IX} (h : formI x = true) : readI (.mk 5 0 ⟨#[]⟩ [] (showItems x)) (strJ x.name) (kindJ (if x.uniq then 2 else 1)) = x := by
  have hg : goodF x.fields 0 x.fields = true := by unfold formI at h; rw [Bool.and_eq_true, Bool.and_eq_true] at h; exact h.2
  obtain ⟨nm, l, u⟩ := x
  unfold readI
  have e1 : (showItems ⟨nm, l, u⟩).map (fun j => cutF j.text) = l := by
    unfold showItems
    rw [List.map_map]
    have : ∀ f ∈ l, ((fun j => cutF (JV.text j)) ∘ fun f : Fd => strJ (dashS f.1 f.2)) f = id f := fun f hf => cut_dash (good_plain _ _ hg f hf)
    rw [List.map_congr_left this, List.map_id]
  have e2 : decide ((kindJ (if u then 2 else 1)).kind = 2) = u := by cases u <;> rfl
  show IX.mk nm ((showItems ⟨nm, l, u⟩).map fun j => cutF j.text) (decide ((kindJ (if u then 2 else 1)).kind = 2)) = _
  rw [e1, e2]
theorem parse_show {x : IX} (h : formI x = true) : parseF (showJ x) = some x := by
  have e := read_showE h
  have := parse_some (v := showJ x) rfl (by rw [e]; exact h) (by rw [e])
  rw [this, e]
theorem asc_text {s : ByteArray} (h : ∀ b ∈ s.data.toList, b.toNat < 128) (hs : s.size ≤ 60) : textF s = true := by
  unfold textF
  have : Lib.validD s.data.toList = true := by
    have h2 := Lib.valid_skip s s.size (fun b hb => h b (List.mem_of_mem_take hb))
    rw [← h2, ByteArray.data_extract]
    simp [Lib.validD_nil]
  rw [this, decide_eq_true hs]; rfl
theorem str_formed {s : ByteArray} {l : Nat} (h : textF s = true) : formedF (l + 1) (strJ s) = true := by
  unfold strJ
  rw [formedF]
  have : headOk 4 0 s := ⟨by decide, by decide, .inr rfl, .inl rfl, h⟩
  rw [decide_eq_true this]; rfl
theorem empty_t : textF ⟨#[]⟩ = true := asc_text (fun b hb => by simp at hb) (by decide)
end Go.Proofs.YtfpphpjobkhalaaGreatDoor
