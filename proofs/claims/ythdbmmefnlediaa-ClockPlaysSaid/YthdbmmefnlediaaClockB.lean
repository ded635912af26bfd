/- The reference's clock, walked. -/
import Derived.Test.YthdbmmefnlediaaClockA
namespace Go.Proofs.Ythdbmmefnlediaa
open Go.RowKit Go.Maps

theorem Try.infoU : (Try.prog.info? 22).map (fun i => (i.zero, i.size, i.bytes)) = some (some (.int .u64 0), 1, 8) := by kernel_rfl
theorem Try.infoB : (Try.prog.info? 4).map (fun i => (i.zero, i.size, i.bytes)) = some (some (.bool false), 1, 1) := by kernel_rfl

structure RClk (w : World) (B rb : Nat) (tv lv : Value) (now : Int) (ts : List Int) (ls : List Bool) : Prop where
  blk : w.heap[rb]? = some (.cells #[.int .u64 now, tv, lv] 31 (0, 0))
  ot : w.ownsRow B 22 1 tv ts.length (ts.map (Value.int .u64))
  ol : w.ownsRow B 4 1 lv ls.length (ls.map Value.bool)
  len : ts.length = ls.length
  low : B ≤ rb
  wf : (Lit.int .u64 now).wf = true
  wfs : ∀ t ∈ ts, (Lit.int .u64 t).wf = true

/-- what the reference's calls leave alone -/
def RSame (w w' : World) : Prop := ∀ (j : Nat) (o : Obj), w.heap[j]? = some o → (∀ c e f, o = Obj.cells c e f → e ≠ 31 ∧ e ≠ 22 ∧ e ≠ 4) → w'.heap[j]? = some o

theorem RSame.refl (w : World) : RSame w w := fun _ _ h _ => h
theorem RSame.trans {a b c : World} (h : RSame a b) (k : RSame b c) : RSame a c := fun j o hj ho => k j o (h j o hj ho) ho

theorem RClk.c0 {w : World} {B rb : Nat} {tv lv : Value} {now : Int} {ts : List Int} {ls : List Bool} (h : RClk w B rb tv lv now ts ls) : w.cell? ⟨rb, 0, none⟩ = some (.int .u64 now) := by
  simp [World.cell?, h.blk]
theorem RClk.c1 {w : World} {B rb : Nat} {tv lv : Value} {now : Int} {ts : List Int} {ls : List Bool} (h : RClk w B rb tv lv now ts ls) : w.cell? ⟨rb, 1, none⟩ = some tv := by
  simp [World.cell?, h.blk]
theorem RClk.c2 {w : World} {B rb : Nat} {tv lv : Value} {now : Int} {ts : List Int} {ls : List Bool} (h : RClk w B rb tv lv now ts ls) : w.cell? ⟨rb, 2, none⟩ = some lv := by
  simp [World.cell?, h.blk]
theorem RClk.fr {w : World} {B rb : Nat} {tv lv : Value} {now : Int} {ts : List Int} {ls : List Bool} (h : RClk w B rb tv lv now ts ls) (o : Nat) : w.frozen? ⟨rb, o, none⟩ = false := by
  simp [World.frozen?, h.blk]

/-- an owned row's value, written out -/
theorem own_form {w : World} {B : Nat} {e : TypeId} {v : Value} {n : Nat} {xs : List Value} (h : w.ownsRow B e 1 v n xs) :
    (v = .slice none 0 0 ∧ n = 0 ∧ xs = []) ∨ ∃ g cap, v = .slice (some ⟨g, 0, none⟩) n cap ∧ B ≤ g ∧ n ≤ cap ∧ xs.length = n ∧ (∀ (j : Nat) u, xs[j]? = some u → w.cell? ⟨g, j, none⟩ = some u) ∧ (∀ (j : Nat), w.frozen? ⟨g, j, none⟩ = false) ∧ ∃ cur, w.heap[g]? = some (.cells cur e (0, 0)) := by
  obtain ⟨hl, h⟩ := h
  rcases h with ⟨rfl, rfl⟩ | ⟨g, cap, cur, rfl, hb, hg, hc, hm, hs, ht⟩
  · exact .inl ⟨rfl, rfl, List.eq_nil_of_length_eq_zero (by simpa using hl)⟩
  · refine .inr ⟨g, cap, rfl, hb, hc, by simpa using hl, ?_, ?_, cur, hg⟩
    · intro j u hu
      rw [← ht] at hu
      rw [List.getElem?_take] at hu
      split at hu
      · simp [World.cell?, hg]; simpa using hu
      · cases hu
    · intro j; simp [World.frozen?, hg]

set_option maxHeartbeats 400000 in
theorem ref_tick {B b : Nat} {tv lv : Value} {n : Int} {ts : List Int} {ls : List Bool} (w : World) (h : RClk w B b tv lv n ts ls) (hn : ¬ n = 18446744073709551615) :
    Calls Try.prog 22 #[.pointer (some ⟨b, 0, none⟩)] w fun e w' => e = .returned (.tuple #[.int .u64 (n+1), .int .i64 0]) ∧ w' = w.setCell ⟨b, 0, none⟩ (.int .u64 (n+1)) := by
  have h1 : (n == 18446744073709551615) = false := by simpa using hn
  have hw := (wrap_u64_succ h.wf hn).1
  have hc := h.c0
  have hf := h.fr 0
  clear h hn
  go_enter Try.func22, Try.ntmps22
  go_wp2
  go_ret2
  exact ⟨rfl, rfl⟩

set_option maxHeartbeats 400000 in
theorem ref_tick_full {B b : Nat} {tv lv : Value} {ts : List Int} {ls : List Bool} (w : World) (h : RClk w B b tv lv 18446744073709551615 ts ls) :
    Calls Try.prog 22 #[.pointer (some ⟨b, 0, none⟩)] w fun e w' => e = .returned (.tuple #[.int .u64 0, .int .i64 6]) ∧ w = w' := by
  have hc := h.c0
  clear h
  go_enter Try.func22, Try.ntmps22
  go_wp2
  go_ret2
  exact ⟨rfl, rfl⟩

/-- the time of number k, if it lives -/
def liveAt (ts : List Int) (ls : List Bool) (k : Int) : Option Int :=
  if 1 ≤ k ∧ k ≤ ls.length ∧ ls[(k - 1).toNat]? = some true then ts[(k - 1).toNat]? else none

theorem liveAt_in {ts : List Int} {ls : List Bool} {k : Int} {j : Nat} (hk : k = j + 1) (hj : j < ls.length) : liveAt ts ls k = if ls[j]? = some true then ts[j]? else none := by
  subst hk
  have : ((j : Int) + 1 - 1).toNat = j := by omega
  simp only [liveAt, this]
  by_cases h : ls[j]? = some true
  · simp [h]; omega
  · simp [h]

theorem liveAt_out {ts : List Int} {ls : List Bool} {k : Int} (hk : k < 1 ∨ (ls.length : Int) < k) : liveAt ts ls k = none := by
  unfold liveAt; rw [if_neg]; omega

set_option maxHeartbeats 400000 in
theorem ref_time_out {B b : Nat} {tv lv : Value} {n : Int} {ts : List Int} {ls : List Bool} (w : World) (id : Int) (h : RClk w B b tv lv n ts ls) (hid : id < 1 ∨ (ls.length : Int) < id) :
    Calls Try.prog 24 #[.pointer (some ⟨b, 0, none⟩), .int .i64 id] w fun e w' => e = .returned (.tuple #[.int .u64 0, .bool false]) ∧ w = w' := by
  have hc := h.c2
  have hlv : ∃ a c, lv = .slice a ls.length c := by
    rcases own_form h.ol with ⟨rfl, h0, _⟩ | ⟨g, cap, rfl, _⟩
    · exact ⟨none, 0, by rw [h0]⟩
    · exact ⟨_, _, rfl⟩
  obtain ⟨a, c, rfl⟩ := hlv
  clear h
  by_cases h1 : id < 1
  · clear hid
    go_enter Try.func24, Try.ntmps24
    go_wp2
    go_ret2
    exact ⟨rfl, rfl⟩
  · have h2 : (ls.length : Int) < id := by omega
    clear hid
    go_enter Try.func24, Try.ntmps24
    go_wp2
    go_ret2
    exact ⟨rfl, rfl⟩

set_option maxHeartbeats 400000 in
theorem ref_time_in {B b : Nat} {tv lv : Value} {n : Int} {ts : List Int} {ls : List Bool} (w : World) (j : Nat) (h : RClk w B b tv lv n ts ls) (hj : j < ls.length) (hm : ls.length ≤ 1000) (bo : Bool) (hb : ls[j]? = some bo) (t : Int) (ht : ts[j]? = some t) :
    Calls Try.prog 24 #[.pointer (some ⟨b, 0, none⟩), .int .i64 ((j : Int) + 1)] w fun e w' => e = .returned (.tuple #[.int .u64 (if bo then t else 0), .bool bo]) ∧ w = w' := by
  have hc := h.c2
  have hc1 := h.c1
  rcases own_form h.ol with ⟨rfl, h0, _⟩ | ⟨g, cap, rfl, _, hcap, _, hcell, _⟩
  · omega
  rcases own_form h.ot with ⟨rfl, h0, _⟩ | ⟨g', cap', rfl, _, hcap', _, hcell', _⟩
  · have := h.len; omega
  have x1 := hcell j (.bool bo) (by simp [hb])
  have x2 := hcell' j (.int .u64 t) (by simp [ht])
  have hl := h.len
  have hj2 : j < ts.length := by omega
  clear hcell hcell' h hb ht hl
  cases bo
  · go_enter Try.func24, Try.ntmps24
    go_wp2
    go_ret2
    exact ⟨rfl, rfl⟩
  · go_enter Try.func24, Try.ntmps24
    go_wp2
    go_ret2
    exact ⟨rfl, rfl⟩

theorem RSame.grown {w w' : World} {row : Option Nat} (hg : w.grownBy w' row) (h : ∀ g, row = some g → ∃ c e f, w.heap[g]? = some (.cells c e f) ∧ (e = 31 ∨ e = 22 ∨ e = 4)) : RSame w w' := by
  intro j o hj ho
  rw [hg.block j (lt_of_block hj) ?_]; exact hj
  intro e
  obtain ⟨c, e', f, hc, h3⟩ := h j e.symm
  rw [hj] at hc
  cases hc
  have := ho _ _ _ rfl
  rcases h3 with h3 | h3 | h3
  · exact this.1 h3
  · exact this.2.1 h3
  · exact this.2.2 h3

theorem grownBy_set (w : World) (g j : Nat) (u : Value) : w.grownBy (w.setCell ⟨g, j, none⟩ u) (some g) :=
  ⟨rfl, rfl, rfl, by simp [World.setCell], fun k _ hk => Below.heap_setCell _ _ _ _ (fun e => hk (by rw [e]))⟩

theorem RClk.ne {w : World} {B rb : Nat} {tv lv : Value} {now : Int} {ts : List Int} {ls : List Bool} (h : RClk w B rb tv lv now ts ls) : tv.ownBlock ≠ some rb ∧ lv.ownBlock ≠ some rb ∧ (tv.ownBlock = none ∨ tv.ownBlock ≠ lv.ownBlock) := by
  rcases own_form h.ol with ⟨rfl, h0, _⟩ | ⟨g, cap, rfl, _, _, _, _, _, cur, hg⟩ <;> rcases own_form h.ot with ⟨rfl, h0, _⟩ | ⟨g', cap', rfl, _, _, _, _, _, cur', hg'⟩
  · simp [Value.ownBlock]
  · refine ⟨fun e => ?_, by simp [Value.ownBlock], by simp [Value.ownBlock]⟩
    simp [Value.ownBlock] at e; subst e; rw [h.blk] at hg'; cases hg'
  · refine ⟨by simp [Value.ownBlock], fun e => ?_, by simp [Value.ownBlock]⟩
    simp [Value.ownBlock] at e; subst e; rw [h.blk] at hg; cases hg
  · refine ⟨fun e => ?_, fun e => ?_, .inr fun e => ?_⟩ <;> simp [Value.ownBlock] at e <;> subst e
    · rw [h.blk] at hg'; cases hg'
    · rw [h.blk] at hg; cases hg
    · rw [hg] at hg'; cases hg'

theorem cells3_set0 {w : World} {b : Nat} {v0 v1 v2 u : Value} {t : TypeId} (h : w.heap[b]? = some (.cells #[v0, v1, v2] t (0, 0))) : (w.setCell ⟨b, 0, none⟩ u).heap[b]? = some (.cells #[u, v1, v2] t (0, 0)) := by
  have hlt := lt_of_block h
  have h' : w.heap[b] = .cells #[v0, v1, v2] t (0, 0) := by simpa [Array.getElem?_eq_getElem hlt] using h
  show (w.heap.modify b _)[b]? = _
  rw [Array.getElem?_eq_getElem (by simpa using hlt), Array.getElem_modify_self, h']
  rfl
theorem cells3_set1 {w : World} {b : Nat} {v0 v1 v2 u : Value} {t : TypeId} (h : w.heap[b]? = some (.cells #[v0, v1, v2] t (0, 0))) : (w.setCell ⟨b, 1, none⟩ u).heap[b]? = some (.cells #[v0, u, v2] t (0, 0)) := by
  have hlt := lt_of_block h
  have h' : w.heap[b] = .cells #[v0, v1, v2] t (0, 0) := by simpa [Array.getElem?_eq_getElem hlt] using h
  show (w.heap.modify b _)[b]? = _
  rw [Array.getElem?_eq_getElem (by simpa using hlt), Array.getElem_modify_self, h']
  rfl
theorem cells3_set2 {w : World} {b : Nat} {v0 v1 v2 u : Value} {t : TypeId} (h : w.heap[b]? = some (.cells #[v0, v1, v2] t (0, 0))) : (w.setCell ⟨b, 2, none⟩ u).heap[b]? = some (.cells #[v0, v1, u] t (0, 0)) := by
  have hlt := lt_of_block h
  have h' : w.heap[b] = .cells #[v0, v1, v2] t (0, 0) := by simpa [Array.getElem?_eq_getElem hlt] using h
  show (w.heap.modify b _)[b]? = _
  rw [Array.getElem?_eq_getElem (by simpa using hlt), Array.getElem_modify_self, h']
  rfl

theorem RClk.setL {w : World} {B rb g cap : Nat} {tv : Value} {n : Nat} {now : Int} {ts : List Int} {ls : List Bool} (h : RClk w B rb tv (.slice (some ⟨g, 0, none⟩) n cap) now ts ls) (j : Nat) (x : Bool) :
    RClk (w.setCell ⟨g, j, none⟩ (.bool x)) B rb tv (.slice (some ⟨g, 0, none⟩) n cap) now ts (ls.set j x) ∧ RSame w (w.setCell ⟨g, j, none⟩ (.bool x)) := by
  have hne := h.ne
  have hn : n = ls.length := by rcases own_form h.ol with ⟨e, _⟩ | ⟨g, cap, e, _⟩ <;> cases e; rfl
  subst hn
  obtain ⟨s1, s2⟩ := h.ol.stored j (.bool x)
  refine ⟨⟨?_, h.ot.kept s2 (hne.2.2.imp id (fun a b => a (b.trans rfl))), ?_, by simpa using h.len, h.low, h.wf, h.wfs⟩, RSame.grown s2 ?_⟩
  · rw [s2.block rb (lt_of_block h.blk) (fun e => hne.2.1 (by simp [Value.ownBlock]; cases e; rfl))]; exact h.blk
  · rw [List.length_set, List.map_set]; exact s1
  · rintro g' e; cases e
    rcases own_form h.ol with ⟨e, _⟩ | ⟨g, cap, e, _, _, _, _, _, cur, hg⟩ <;> cases e
    exact ⟨_, _, _, hg, by simp⟩

theorem RClk.setT {w : World} {B rb g cap : Nat} {lv : Value} {n : Nat} {now : Int} {ts : List Int} {ls : List Bool} (h : RClk w B rb (.slice (some ⟨g, 0, none⟩) n cap) lv now ts ls) (j : Nat) (x : Int) (hx : (Lit.int .u64 x).wf = true) :
    RClk (w.setCell ⟨g, j, none⟩ (.int .u64 x)) B rb (.slice (some ⟨g, 0, none⟩) n cap) lv now (ts.set j x) ls ∧ RSame w (w.setCell ⟨g, j, none⟩ (.int .u64 x)) := by
  have hne := h.ne
  have hn : n = ts.length := by rcases own_form h.ot with ⟨e, _⟩ | ⟨g, cap, e, _⟩ <;> cases e; rfl
  subst hn
  obtain ⟨s1, s2⟩ := h.ot.stored j (.int .u64 x)
  refine ⟨⟨?_, ?_, h.ol.kept s2 ?_, by simpa using h.len, h.low, h.wf, ?_⟩, RSame.grown s2 ?_⟩
  · rw [s2.block rb (lt_of_block h.blk) (fun e => hne.1 (by simp [Value.ownBlock]; cases e; rfl))]; exact h.blk
  · rw [List.length_set, List.map_set]; exact s1
  · rcases hne.2.2 with e | e
    · cases e
    · exact .inr (fun e' => e e'.symm)
  · intro t ht
    rcases List.mem_or_eq_of_mem_set ht with ht | rfl
    · exact h.wfs t ht
    · exact hx
  · rintro g' e; cases e
    rcases own_form h.ot with ⟨e, _⟩ | ⟨g, cap, e, _, _, _, _, _, cur, hg⟩ <;> cases e
    exact ⟨_, _, _, hg, by simp⟩

theorem RClk.setN {w : World} {B rb : Nat} {tv lv : Value} {now : Int} {ts : List Int} {ls : List Bool} (h : RClk w B rb tv lv now ts ls) (x : Int) (hx : (Lit.int .u64 x).wf = true) :
    RClk (w.setCell ⟨rb, 0, none⟩ (.int .u64 x)) B rb tv lv x ts ls ∧ RSame w (w.setCell ⟨rb, 0, none⟩ (.int .u64 x)) := by
  have hne := h.ne
  refine ⟨⟨cells3_set0 h.blk, ownsRow_setCell_other h.ot hne.1 _, ownsRow_setCell_other h.ol hne.2.1 _, h.len, h.low, hx, h.wfs⟩, RSame.grown (grownBy_set _ _ _ _) ?_⟩
  rintro g' e; cases e
  exact ⟨_, _, _, h.blk, by simp⟩

/-- what a call on the reference's clock leaves -/
structure RGo (w w' : World) (B rb : Nat) (now : Int) (ts : List Int) (ls : List Bool) : Prop where
  clk : ∃ tv lv, RClk w' B rb tv lv now ts ls
  same : RSame w w'
  bel : Below B w w'

theorem Below.set_ge {B : Nat} {w : World} {g j : Nat} (h : B ≤ g) (u : Value) : Below B w (w.setCell ⟨g, j, none⟩ u) := (Below.refl B w).setCell (p := ⟨g, j, none⟩) h u

set_option maxHeartbeats 400000 in
theorem ref_drop_in {B b : Nat} {tv lv : Value} {n : Int} {ts : List Int} {ls : List Bool} (w : World) (j : Nat) (h : RClk w B b tv lv n ts ls) (hj : j < ls.length) (hm : ls.length ≤ 1000) (bo : Bool) (hb : ls[j]? = some bo) :
    Calls Try.prog 23 #[.pointer (some ⟨b, 0, none⟩), .int .i64 ((j : Int) + 1)] w fun e w' => e = .returned (.bool bo) ∧ RGo w w' B b n ts (ls.set j false) := by
  obtain ⟨t, ht⟩ : ∃ t, ts[j]? = some t := ⟨ts[j]'(by have := h.len; omega), List.getElem?_eq_getElem (by have := h.len; omega)⟩
  have H := Lib.hid h
  have HT := Lib.hid (ref_time_in w j h hj hm bo hb _ ht)
  clear ht
  have hc := h.c2
  rcases own_form h.ol with ⟨rfl, h0, _⟩ | ⟨g, cap, rfl, hlow, hcap, _, hcell, hfr, _⟩
  · omega
  have x1 := hcell j (.bool bo) (by simp [hb])
  have x2 := hfr j
  clear h hcell hfr
  have HB := Lib.hid hb; clear hb
  cases bo
  · go_enter Try.func23, Try.ntmps23
    go_wp2_with (go_at_call 24; refine HT.out.mono ?_; rintro e w' ⟨rfl, rfl⟩)
    go_ret
    have e : ls.set j false = ls := by
      have := HB.out
      rw [List.getElem?_eq_some_iff] at this
      obtain ⟨_, e⟩ := this
      rw [← e]; simp
    exact ⟨rfl, ⟨_, _, by rw [e]; exact H.out⟩, RSame.refl _, Below.refl _ _⟩
  · go_enter Try.func23, Try.ntmps23
    go_wp2_with (go_at_call 24; refine HT.out.mono ?_; rintro e w' ⟨rfl, rfl⟩)
    go_ret
    exact ⟨rfl, ⟨_, _, (H.out.setL j false).1⟩, (H.out.setL j false).2, Below.set_ge hlow _⟩

set_option maxHeartbeats 400000 in
theorem ref_drop_out {B b : Nat} {tv lv : Value} {n : Int} {ts : List Int} {ls : List Bool} (w : World) (id : Int) (h : RClk w B b tv lv n ts ls) (hid : id < 1 ∨ (ls.length : Int) < id) :
    Calls Try.prog 23 #[.pointer (some ⟨b, 0, none⟩), .int .i64 id] w fun e w' => e = .returned (.bool false) ∧ w = w' := by
  have HT := Lib.hid (ref_time_out w id h hid)
  clear hid h
  go_enter Try.func23, Try.ntmps23
  go_wp2_with (go_at_call 24; refine HT.out.mono ?_; rintro e w' ⟨rfl, rfl⟩)
  go_ret
  exact ⟨rfl, rfl⟩

theorem liveAt_set {ts : List Int} {ls : List Bool} {j : Nat} (hj : j < ls.length) : liveAt ts (ls.set j false) = fun k => if k = (j : Int) + 1 then none else liveAt ts ls k := by
  funext k
  unfold liveAt
  by_cases e : k = (j : Int) + 1
  · subst e
    simp [hj]
  · simp only [e, if_false, List.length_set]
    by_cases h : 1 ≤ k
    · have : j ≠ (k - 1).toNat := by omega
      rw [List.getElem?_set_ne this]
    · simp [h]

theorem RClk.drew {w : World} {B rb : Nat} {tv lv : Value} {now : Int} {ts : List Int} {ls : List Bool} (h : RClk w B rb tv lv now ts ls) : RClk w.drew B rb tv lv now ts ls := ⟨h.blk, h.ot, h.ol, h.len, h.low, h.wf, h.wfs⟩

set_option maxHeartbeats 400000 in
theorem ref_take_hit {B b : Nat} {tv lv : Value} {n : Int} {ts : List Int} {ls : List Bool} (w : World) (m : Nat) (h : RClk w B b tv lv n ts ls) (hmx : ls.length ≤ 1000) (hml : m < ls.length)
    (hall : ∀ j, j < m → ls[j]? = some true) (hno : ls[m]? = some false) :
    Calls Try.prog 21 #[.pointer (some ⟨b, 0, none⟩)] w fun e w' => e = .returned (.int .i64 ((m : Int) + 1)) ∧ RGo w w' B b n (ts.set m n) (ls.set m true) := by
  have H := Lib.hid h
  have hc := h.c2
  have hc1 := h.c1
  have hc0 := h.c0
  have hl := h.len
  have hne := h.ne
  rcases own_form h.ol with ⟨rfl, h0, _⟩ | ⟨g, cap, rfl, hlow, hcap, _, hcell, hfr, _⟩
  · omega
  rcases own_form h.ot with ⟨rfl, h0, _⟩ | ⟨g', cap', rfl, hlow', hcap', _, hcell', hfr', _⟩
  · omega
  have hgg : g' ≠ g := by
    rcases hne.2.2 with e | e
    · cases e
    · intro e'; subst e'; exact e rfl
  have hgb : g ≠ b := fun e => hne.2.1 (by subst e; rfl)
  have hgb' : g' ≠ b := fun e => hne.1 (by subst e; rfl)
  have x2 := hfr m
  have x2' := hfr' m
  obtain ⟨t, ht⟩ : ∃ t, ts[m]? = some t := ⟨ts[m]'(by omega), List.getElem?_eq_getElem (by omega)⟩
  have y1 := hcell m (.bool false) (by simp [hno])
  have y2 := hcell' m (.int .u64 t) (by simp [ht])
  have HC := Lib.hid hcell; clear hcell
  have HA := Lib.hid hall
  clear h hfr hfr' hcell' ht hall hno hne
  have hl2 : m < ts.length := by omega
  clear hl
  go_enter Try.func21, Try.ntmps21
  go_wp2
  go_loop [3] (fun i => ∃ j : Nat, j ≤ m ∧ i = .int .i64 j) (fun i => m + 1 - (intOf i).toNat)
  case atStart => exact ⟨0, by omega, rfl⟩
  case round =>
    obtain ⟨j, hj, rfl⟩ := hrel
    by_cases hjm : j < m
    · have x1 := HC.out j (.bool true) (by simp [HA.out j hjm])
      go_wp2
      go_round
      case rel => exact ⟨j + 1, by omega, by go_num⟩
      case measure => simp [intOf]; omega
    · obtain rfl : j = m := by omega
      go_wp2
      obtain ⟨K, KS⟩ := H.out.setL j true
      have KB : Below B w (w.setCell ⟨g, j, none⟩ (.bool true)) := Below.set_ge hlow _
      generalize w.setCell ⟨g, j, none⟩ (.bool true) = w1 at K KS KB ⊢
      have hc1 := K.c1
      have hc0 := K.c0
      obtain ⟨t, ht⟩ : ∃ t, ts[j]? = some t := ⟨ts[j], List.getElem?_eq_getElem hl2⟩
      have hK := own_form K.ot
      have y2 : w1.cell? ⟨g', j, none⟩ = some (.int .u64 t) := by
        rcases hK with ⟨e, _⟩ | ⟨_, _, e, _, _, _, hcell', _⟩
        · cases e
        · cases e; exact hcell' j _ (by simp [ht])
      have y3 : w1.frozen? ⟨g', j, none⟩ = false := by
        rcases hK with ⟨e, _⟩ | ⟨_, _, e, _, _, _, _, hfr', _⟩
        · cases e
        · cases e; exact hfr' j
      clear hK ht
      have HK := Lib.hid K; clear K
      refine wp_region_still_tail 10 (by kernel_rfl) (by kernel_rfl) ?_
      simp only [List.take_succ_cons, List.take_zero, List.drop_succ_cons, List.drop_zero]
      repeat still_step
      refine wpStill_nil ?_
      change wpList _ _ _ _ _ w1.drew
      go_wp2
      go_ret
      obtain ⟨k1, k2⟩ := HK.out.setT j n HK.out.wf
      exact ⟨rfl, ⟨_, _, k1.drew⟩, KS.trans k2, KB.trans (Below.set_ge hlow' _).drew⟩

/-- the clock behind an append to Lives and the store of its new head -/
theorem RClk.pushL {w w1 w2 : World} {B rb : Nat} {tv lv lv' : Value} {now : Int} {ts : List Int} {ls : List Bool} (h : RClk w B rb tv lv now ts ls) (hg0 : w.grownBy w1 none) (hg : w1.grownBy w2 lv.ownBlock)
    (ho : w2.ownsRow B 4 1 lv' (ls.length + 1) (ls.map Value.bool ++ [.bool true])) (hloc : lv'.ownBlock = lv.ownBlock ∨ lv'.ownBlock = some w1.heap.size) :
    (w2.setCell ⟨rb, 2, none⟩ lv').heap[rb]? = some (.cells #[.int .u64 now, tv, lv'] 31 (0, 0)) ∧
    (w2.setCell ⟨rb, 2, none⟩ lv').ownsRow B 22 1 tv ts.length (ts.map (Value.int .u64)) ∧
    (w2.setCell ⟨rb, 2, none⟩ lv').ownsRow B 4 1 lv' (ls.length + 1) ((ls ++ [true]).map Value.bool) ∧ RSame w (w2.setCell ⟨rb, 2, none⟩ lv') ∧ Below B w (w2.setCell ⟨rb, 2, none⟩ lv') ∧ tv.ownBlock ≠ some rb ∧ lv'.ownBlock ≠ some rb ∧ (tv.ownBlock = none ∨ tv.ownBlock ≠ lv'.ownBlock) := by
  have hne := h.ne
  have hlt := lt_of_block h.blk
  have b1 : w1.heap[rb]? = w.heap[rb]? := hg0.block rb hlt (by simp)
  have b2 : w2.heap[rb]? = some (.cells #[.int .u64 now, tv, lv] 31 (0, 0)) := by
    rw [hg.block rb (Nat.lt_of_lt_of_le hlt hg0.size) (fun e => hne.2.1 e.symm), b1]; exact h.blk
  have hlv' : lv'.ownBlock ≠ some rb := by
    rcases hloc with e | e
    · rw [e]; exact hne.2.1
    · rw [e]; intro e'; have := hg0.size; cases e'; omega
  have hne' : tv.ownBlock = none ∨ tv.ownBlock ≠ lv'.ownBlock := by
    rcases hloc with e | e
    · rw [e]; exact hne.2.2
    · rw [e]
      rcases own_form h.ot with ⟨rfl, _⟩ | ⟨g, cap, rfl, _, _, _, _, _, cur, hgg⟩
      · exact .inl rfl
      · right; intro e'; simp [Value.ownBlock] at e'; have := lt_of_block hgg; have := hg0.size; omega
  have hot2 : w2.ownsRow B 22 1 tv ts.length (ts.map (Value.int .u64)) :=
    (h.ot.kept hg0 (by cases tv.ownBlock <;> simp)).kept hg hne.2.2
  refine ⟨cells3_set2 b2, ownsRow_setCell_other hot2 hne.1 _, ?_, ?_, ?_, hne.1, hlv', hne'⟩
  · rw [List.map_append]; exact ownsRow_setCell_other ho hlv' _
  · refine (RSame.grown hg0 (by simp)).trans ((RSame.grown hg ?_).trans (RSame.grown (grownBy_set _ _ _ _) ?_))
    · intro g e
      rcases own_form h.ol with ⟨rfl, _⟩ | ⟨g', cap, rfl, _, _, _, _, _, cur, hgg⟩
      · cases e
      · simp [Value.ownBlock] at e; subst e
        exact ⟨_, _, _, (hg0.block _ (lt_of_block hgg) (by simp)).trans hgg, by simp⟩
    · rintro g e; cases e; exact ⟨_, _, _, b2, by simp⟩
  · have hB : B ≤ w.heap.size := by have := h.low; omega
    refine (((Below.refl B w).grown hg0 hB (by simp)).grown hg (Nat.le_trans hB hg0.size) ?_).trans (Below.set_ge h.low _)
    intro k e
    rcases own_form h.ol with ⟨rfl, _⟩ | ⟨g', cap, rfl, hlow, _⟩
    · cases e
    · simp [Value.ownBlock] at e; omega

theorem pushT {w w1 w2 : World} {B rb : Nat} {tv lv tv' : Value} {now : Int} {ts : List Int} {ls : List Bool} (hlow : B ≤ rb) (hwf : (Lit.int .u64 now).wf = true) (hwfs : ∀ t ∈ ts, (Lit.int .u64 t).wf = true) (hlen : ts.length + 1 = ls.length)
    (hblk : w.heap[rb]? = some (.cells #[.int .u64 now, tv, lv] 31 (0, 0))) (hot : w.ownsRow B 22 1 tv ts.length (ts.map (Value.int .u64))) (hol : w.ownsRow B 4 1 lv ls.length (ls.map Value.bool))
    (hne1 : tv.ownBlock ≠ some rb) (hne2 : lv.ownBlock ≠ some rb) (hne3 : tv.ownBlock = none ∨ tv.ownBlock ≠ lv.ownBlock)
    (hg0 : w.grownBy w1 none) (hg : w1.grownBy w2 tv.ownBlock)
    (ho : w2.ownsRow B 22 1 tv' (ts.length + 1) (ts.map (Value.int .u64) ++ [.int .u64 now])) (hloc : tv'.ownBlock = tv.ownBlock ∨ tv'.ownBlock = some w1.heap.size) :
    RClk (w2.setCell ⟨rb, 1, none⟩ tv') B rb tv' lv now (ts ++ [now]) ls ∧ RSame w (w2.setCell ⟨rb, 1, none⟩ tv') ∧ Below B w (w2.setCell ⟨rb, 1, none⟩ tv') := by
  have hlt := lt_of_block hblk
  have b1 : w1.heap[rb]? = w.heap[rb]? := hg0.block rb hlt (by simp)
  have b2 : w2.heap[rb]? = some (.cells #[.int .u64 now, tv, lv] 31 (0, 0)) := by
    rw [hg.block rb (Nat.lt_of_lt_of_le hlt hg0.size) (fun e => hne1 e.symm), b1]; exact hblk
  have htv' : tv'.ownBlock ≠ some rb := by
    rcases hloc with e | e
    · rw [e]; exact hne1
    · rw [e]; intro e'; have := hg0.size; cases e'; omega
  have hol2 : w2.ownsRow B 4 1 lv ls.length (ls.map Value.bool) := by
    refine (hol.kept hg0 (by cases lv.ownBlock <;> simp)).kept hg ?_
    rcases hne3 with e | e
    · rw [e]; cases lv.ownBlock <;> simp
    · exact .inr fun e' => e e'.symm
  refine ⟨⟨cells3_set1 b2, ?_, ownsRow_setCell_other hol2 hne2 _, by simpa using hlen, hlow, hwf, ?_⟩, ?_, ?_⟩
  · rw [List.map_append, List.length_append]; exact ownsRow_setCell_other ho htv' _
  · intro t ht
    rcases List.mem_append.1 ht with ht | ht
    · exact hwfs t ht
    · simp at ht; subst ht; exact hwf
  · refine (RSame.grown hg0 (by simp)).trans ((RSame.grown hg ?_).trans (RSame.grown (grownBy_set _ _ _ _) ?_))
    · intro g e
      rcases own_form hot with ⟨rfl, _⟩ | ⟨g', cap, rfl, _, _, _, _, _, cur, hgg⟩
      · cases e
      · simp [Value.ownBlock] at e; subst e
        exact ⟨_, _, _, (hg0.block _ (lt_of_block hgg) (by simp)).trans hgg, by simp⟩
    · rintro g e; cases e; exact ⟨_, _, _, b2, by simp⟩
  · have hB : B ≤ w.heap.size := by omega
    refine (((Below.refl B w).grown hg0 hB (by simp)).grown hg (Nat.le_trans hB hg0.size) ?_).trans (Below.set_ge hlow _)
    intro k e
    rcases own_form hot with ⟨rfl, _⟩ | ⟨g', cap, rfl, hlow, _⟩
    · cases e
    · simp [Value.ownBlock] at e; omega

end Go.Proofs.Ythdbmmefnlediaa
