/- act: one step on both clocks. -/
import Derived.Test.YthdbmmefnlediaaClockC
import Derived.Deep.RegionWith
namespace Go.Proofs.Ythdbmmefnlediaa
open Go.RowKit Go.Maps

structure Both (W w : World) (B cb mb k rb : Nat) (now : Int) (ts : List Int) (ls : List Bool) : Prop where
  bel : Below B W w
  lc : B ≤ cb
  lm : B ≤ mb
  clk : Clk w cb mb k now (liveAt ts ls)
  ref : ∃ tv lv, RClk w B rb tv lv now ts ls

theorem RClk.kept {w w' : World} {B rb : Nat} {tv lv : Value} {now : Int} {ts : List Int} {ls : List Bool} (h : RClk w B rb tv lv now ts ls) {row : Option Nat} (hg : w.grownBy w' row)
    (hr : ∀ g, row = some g → (∃ es c, w.heap[g]? = some (.map es c)) ∨ ∃ c f, w.heap[g]? = some (.cells c 51 f)) : RClk w' B rb tv lv now ts ls := by
  have ne : ∀ g c e f, w.heap[g]? = some (.cells c e f) → e ≠ 51 → some g ≠ row := by
    intro g c e f hc he hrow
    rcases hr g hrow.symm with ⟨es, c', h'⟩ | ⟨c', f', h'⟩
    · rw [hc] at h'; cases h'
    · rw [hc] at h'; cases h'; exact he rfl
  refine ⟨?_, h.ot.kept hg ?_, h.ol.kept hg ?_, h.len, h.low, h.wf, h.wfs⟩
  · rw [hg.block rb (lt_of_block h.blk) (ne _ _ _ _ h.blk (by decide))]; exact h.blk
  · rcases own_form h.ot with ⟨rfl, _⟩ | ⟨g, cap, rfl, _, _, _, _, _, cur, hgg⟩
    · exact .inl rfl
    · exact .inr (ne _ _ _ _ hgg (by decide))
  · rcases own_form h.ol with ⟨rfl, _⟩ | ⟨g, cap, rfl, _, _, _, _, _, cur, hgg⟩
    · exact .inl rfl
    · exact .inr (ne _ _ _ _ hgg (by decide))

theorem Clk.same {w w' : World} {cb mb n : Nat} {now : Int} {f : Int → Option Int} (h : Clk w cb mb n now f) (hs : RSame w w') : Clk w' cb mb n now f := by
  refine h.kept ((hs cb _ h.blk ?_).trans h.blk.symm) ?_
  · intro c e f he; cases he; decide
  · obtain ⟨D, ⟨es, c, hb, r⟩, hD⟩ := h.own
    rw [hs mb _ hb (by intro c e f he; cases he), hb]

theorem RClk.tick {w : World} {B rb cb : Nat} {tv lv : Value} {now : Int} {ts : List Int} {ls : List Bool} (h : RClk w B rb tv lv now ts ls) {c : Array Value} {f : Nat × Nat} (hc : w.heap[cb]? = some (.cells c 51 f)) (u : Value) :
    RClk (w.setCell ⟨cb, 0, none⟩ u) B rb tv lv now ts ls :=
  h.kept (grownBy_set w cb 0 u) (fun g e => by cases e; exact .inr ⟨_, _, hc⟩)

theorem Both.alloc {W w : World} {B cb mb k rb : Nat} {now : Int} {ts : List Int} {ls : List Bool} (h : Both W w B cb mb k rb now ts ls) (o : Obj) : Both W (w.alloc o) B cb mb k rb now ts ls := by
  obtain ⟨tv, lv, hr⟩ := h.ref
  have hB : B ≤ w.heap.size := by have := h.lc; have := lt_of_block h.clk.blk; omega
  refine ⟨h.bel.alloc hB o, h.lc, h.lm, h.clk.kept ?_ ?_, tv, lv, hr.kept (World.grownBy_alloc w o none) (by simp)⟩
  · exact Below.heap_alloc _ _ _ (lt_of_block h.clk.blk)
  · obtain ⟨D, ho, _⟩ := h.clk.own
    exact Below.heap_alloc _ _ _ ho.lt

theorem Both.drew {W w : World} {B cb mb k rb : Nat} {now : Int} {ts : List Int} {ls : List Bool} (h : Both W w B cb mb k rb now ts ls) : Both W w.drew B cb mb k rb now ts ls := by
  obtain ⟨tv, lv, hr⟩ := h.ref
  exact ⟨h.bel.drew, h.lc, h.lm, h.clk.kept rfl rfl, tv, lv, hr.drew⟩

theorem Both.clkGo {W w w' : World} {B cb mb k k' rb : Nat} {now : Int} {ts : List Int} {ls : List Bool} {g : Int → Option Int} (h : Both W w B cb mb k rb now ts ls) (hg : ClkGo w w' cb mb k' now g) :
    Below B W w' ∧ Clk w' cb mb k' now g ∧ ∃ tv lv, RClk w' B rb tv lv now ts ls := by
  obtain ⟨tv, lv, hr⟩ := h.ref
  have hB : B ≤ w.heap.size := by have := h.lc; have := lt_of_block h.clk.blk; omega
  refine ⟨h.bel.grown hg.gr hB (fun k e => by cases e; exact h.lm), hg.clk, tv, lv, hr.kept hg.gr (fun g e => ?_)⟩
  cases e
  obtain ⟨D, ⟨es, c, hb, _⟩, _⟩ := h.clk.own
  exact .inl ⟨es, c, hb⟩

/-- the next state -/
def firstFree : List Bool → Nat
  | [] => 0
  | b :: l => if b then firstFree l + 1 else 0
theorem firstFree_le : ∀ ls : List Bool, firstFree ls ≤ ls.length
  | [] => Nat.le_refl _
  | b :: l => by have := firstFree_le l; cases b <;> simp [firstFree]; omega
theorem firstFree_all : ∀ (ls : List Bool) j, j < firstFree ls → ls[j]? = some true
  | [], j, h => by simp [firstFree] at h
  | b :: l, j, h => by
    cases b
    · simp [firstFree] at h
    · cases j with
      | zero => rfl
      | succ j => simp [firstFree] at h; simpa using firstFree_all l j h
theorem firstFree_at : ∀ (ls : List Bool), firstFree ls < ls.length → ls[firstFree ls]? = some false
  | [], h => by simp [firstFree] at h
  | b :: l, h => by
    cases b
    · rfl
    · simp [firstFree] at h ⊢; exact firstFree_at l h

/-- what a Take makes of times and lives -/
def takeT (now : Int) (ts : List Int) (ls : List Bool) : List Int := if firstFree ls < ls.length then ts.set (firstFree ls) now else ts ++ [now]
def takeL (ls : List Bool) : List Bool := if firstFree ls < ls.length then ls.set (firstFree ls) true else ls ++ [true]
theorem takeL_len (ls : List Bool) : (takeL ls).length ≤ ls.length + 1 := by unfold takeL; split <;> simp
theorem takeL_ge (ls : List Bool) : ls.length ≤ (takeL ls).length := by unfold takeL; split <;> simp

theorem liveAt_take {now : Int} {ts : List Int} {ls : List Bool} (hl : ts.length = ls.length) : liveAt (takeT now ts ls) (takeL ls) = fun k => if k = (firstFree ls : Int) + 1 then some now else liveAt ts ls k := by
  funext k
  have hle := firstFree_le ls
  unfold liveAt takeT takeL
  by_cases hf : firstFree ls < ls.length
  · simp only [hf, if_true, List.length_set]
    by_cases e : k = (firstFree ls : Int) + 1
    · subst e
      simp [hf, hl]; omega
    · simp only [e, if_false]
      by_cases h : 1 ≤ k
      · have : firstFree ls ≠ (k - 1).toNat := by omega
        rw [List.getElem?_set_ne this, List.getElem?_set_ne this]
      · simp [h]
  · have hfe : firstFree ls = ls.length := by omega
    simp only [hf, if_false, List.length_append, List.length_singleton]
    by_cases e : k = (firstFree ls : Int) + 1
    · subst e
      rw [hfe]
      simp [hl]; omega
    · simp only [e, if_false]
      by_cases h : 1 ≤ k ∧ k ≤ ls.length
      · have h1 : (k - 1).toNat < ls.length := by omega
        rw [List.getElem?_append_left h1, List.getElem?_append_left (by omega)]
        have : (k ≤ (ls.length : Int) + 1) := by omega
        simp [h.1, h.2, this]
      · rw [if_neg (by omega), if_neg (by omega)]

/-- a tick on both -/
theorem Both.ticked {W w : World} {B cb mb k rb : Nat} {now : Int} {ts : List Int} {ls : List Bool} (h : Both W w B cb mb k rb now ts ls) (hn : ¬ now = 18446744073709551615) :
    (∃ tv lv, RClk (w.setCell ⟨cb, 0, none⟩ (.int .u64 (now + 1))) B rb tv lv now ts ls) ∧
    Both W ((w.setCell ⟨cb, 0, none⟩ (.int .u64 (now + 1))).setCell ⟨rb, 0, none⟩ (.int .u64 (now + 1))) B cb mb k rb (now + 1) ts ls := by
  obtain ⟨tv, lv, hr⟩ := h.ref
  have hw := (wrap_u64_succ h.clk.wf hn).2
  have r1 := hr.tick h.clk.blk (.int .u64 (now + 1))
  obtain ⟨r2, r3⟩ := r1.setN (now + 1) hw
  refine ⟨⟨tv, lv, r1⟩, (h.bel.trans (Below.set_ge h.lc _)).trans (Below.set_ge hr.low _), h.lc, h.lm, (h.clk.set hw).same r3, tv, lv, r2⟩

def tickN (now : Int) : Int := if now = 18446744073709551615 then now else now + 1

set_option maxHeartbeats 1000000 in
theorem act_tick {W w : World} {B cb mb k rb : Nat} {now : Int} {ts : List Int} {ls : List Bool} (n : Int) (h : Both W w B cb mb k rb now ts ls) :
    Calls Try.prog 12 #[.pointer (some ⟨cb, 0, none⟩), .pointer (some ⟨rb, 0, none⟩), .agg #[.int .i64 1, .int .i64 n]] w fun e w' => e = .returned (.bool true) ∧
      Both W w' B cb mb k rb (tickN now) ts ls := by
  have H := Lib.hid (h.alloc (.cells #[.int .i64 1, .int .i64 n] 35))
  clear h
  by_cases hn : now = 18446744073709551615
  · subst hn
    go_enter Try.func12, Try.ntmps12
    go_wp2_with fail
    obtain ⟨tv, lv, hr⟩ := H.out.ref
    refine (clk_tick_full _ H.out.clk).mono ?_
    rintro e w' ⟨rfl, rfl⟩
    go_wp2_with fail
    refine (ref_tick_full _ hr).mono ?_
    rintro e w' ⟨rfl, rfl⟩
    clear hr
    go_wp2_with fail
    go_ret
    refine ⟨rfl, ?_⟩
    rw [show tickN 18446744073709551615 = 18446744073709551615 from rfl]
    exact H.out
  · have HN := Lib.hid hn
    clear hn
    go_enter Try.func12, Try.ntmps12
    go_wp2_with fail
    refine (clk_tick _ H.out.clk HN.out).mono ?_
    rintro e w' ⟨rfl, rfl⟩
    obtain ⟨⟨tv, lv, hr⟩, h2⟩ := H.out.ticked HN.out
    have HR := Lib.hid hr; clear hr
    have H2 := Lib.hid h2; clear h2
    generalize ((w.alloc (.cells #[.int .i64 1, .int .i64 n] 35)).setCell ⟨cb, 0, none⟩ (.int .u64 (now + 1))) = w1 at HR H2 ⊢
    go_wp2_with fail
    refine (ref_tick _ HR.out HN.out).mono ?_
    rintro e w' ⟨rfl, rfl⟩
    generalize (w1.setCell ⟨rb, 0, none⟩ (.int .u64 (now + 1))) = w2 at H2 ⊢
    go_wp2_with fail
    go_ret
    refine ⟨rfl, ?_⟩
    unfold tickN; rw [if_neg HN.out]; exact H2.out

theorem Both.took {W w w' w'' : World} {B cb mb k rb : Nat} {now : Int} {ts : List Int} {ls : List Bool} (h : Both W w B cb mb k rb now ts ls) (hl : ts.length = ls.length)
    (h1 : ClkGo w w' cb mb (k+1) now (fun i => if i = (firstFree ls : Int) + 1 then some now else liveAt ts ls i)) (h2 : RGo w' w'' B rb now (takeT now ts ls) (takeL ls)) :
    Both W w'' B cb mb (k+1) rb now (takeT now ts ls) (takeL ls) := by
  obtain ⟨b1, b2, b3⟩ := h.clkGo h1
  rw [← liveAt_take hl] at b2
  exact ⟨b1.trans h2.bel, h.lc, h.lm, b2.same h2.same, h2.clk⟩

theorem both_take {W w : World} {B cb mb k rb : Nat} {now : Int} {ts : List Int} {ls : List Bool} (h : Both W w B cb mb k rb now ts ls) (hls : ls.length ≤ 1000) (hk : k ≤ 1000) :
    Calls Try.prog 13 #[.pointer (some ⟨cb, 0, none⟩)] w fun e w' => e = .returned (.int .i64 ((firstFree ls : Int) + 1)) ∧
      Calls Try.prog 21 #[.pointer (some ⟨rb, 0, none⟩)] w' fun e w'' => e = .returned (.int .i64 ((firstFree ls : Int) + 1)) ∧ Both W w'' B cb mb (k+1) rb now (takeT now ts ls) (takeL ls) := by
  have hle := firstFree_le ls
  have hl : ts.length = ls.length := by obtain ⟨tv, lv, hr⟩ := h.ref; exact hr.len
  refine (clk_take w (firstFree ls) h.clk (by unfold maxLen; omega) (by omega) ?_ ?_).mono ?_
  · intro j h1 h2
    have := firstFree_all ls (j - 1) (by omega)
    rw [liveAt_in (j := j - 1) (by omega) (by omega), if_pos this]
    simp [hl]; omega
  · by_cases hf : firstFree ls < ls.length
    · rw [liveAt_in (j := firstFree ls) rfl hf, if_neg (by rw [firstFree_at ls hf]; simp)]
    · rw [liveAt_out (by omega)]
  · rintro e w' ⟨rfl, h1⟩
    refine ⟨rfl, ?_⟩
    obtain ⟨_, _, tv, lv, hr⟩ := h.clkGo h1
    by_cases hf : firstFree ls < ls.length
    · refine (ref_take_hit w' (firstFree ls) hr hls hf (firstFree_all ls) (firstFree_at ls hf)).mono ?_
      rintro e w'' ⟨rfl, h2⟩
      refine ⟨rfl, h.took hl h1 ?_⟩
      unfold takeT takeL; rw [if_pos hf, if_pos hf]; exact h2
    · have hfe : firstFree ls = ls.length := by omega
      refine (ref_take_new w' hr hls (fun j hj => firstFree_all ls j (by omega))).mono ?_
      rintro e w'' ⟨rfl, h2⟩
      refine ⟨by rw [hfe], h.took hl h1 ?_⟩
      unfold takeT takeL; rw [if_neg hf, if_neg hf]; exact h2

set_option maxHeartbeats 1000000 in
theorem act_take {W w : World} {B cb mb k rb : Nat} {now : Int} {ts : List Int} {ls : List Bool} (n : Int) (h : Both W w B cb mb k rb now ts ls) (hls : ls.length ≤ 1000) (hk : k ≤ 1000) :
    Calls Try.prog 12 #[.pointer (some ⟨cb, 0, none⟩), .pointer (some ⟨rb, 0, none⟩), .agg #[.int .i64 2, .int .i64 n]] w fun e w' => e = .returned (.bool true) ∧
      Both W w' B cb mb (k+1) rb now (takeT now ts ls) (takeL ls) := by
  have H := Lib.hid (both_take (h.alloc (.cells #[.int .i64 2, .int .i64 n] 35)) hls hk)
  clear h
  go_enter Try.func12, Try.ntmps12
  go_wp2_with fail
  refine H.out.mono ?_
  rintro e w' ⟨rfl, h2⟩
  have H2 := Lib.hid h2; clear h2
  generalize firstFree ls = ff at H2 H ⊢
  go_wp2_with fail
  refine H2.out.mono ?_
  rintro e w' ⟨rfl, h3⟩
  have H3 := Lib.hid h3; clear h3
  go_wp2_with fail
  go_ret
  exact ⟨rfl, H3.out⟩

/-- what a Drop makes of lives -/
def dropL (id : Int) (ls : List Bool) : List Bool := if 1 ≤ id ∧ id ≤ ls.length then ls.set (id - 1).toNat false else ls
theorem dropL_len (id : Int) (ls : List Bool) : (dropL id ls).length = ls.length := by unfold dropL; split <;> simp

theorem liveAt_drop (id : Int) (ts : List Int) (ls : List Bool) : liveAt ts (dropL id ls) = fun k => if k = id then none else liveAt ts ls k := by
  unfold dropL
  by_cases h : 1 ≤ id ∧ id ≤ ls.length
  · rw [if_pos h, liveAt_set (by omega)]
    funext k
    have : ((id - 1).toNat : Int) + 1 = id := by omega
    rw [this]
  · rw [if_neg h]
    funext k
    by_cases e : k = id
    · subst e; rw [if_pos rfl, liveAt_out (by omega)]
    · rw [if_neg e]

theorem both_drop {W w : World} {B cb mb k rb : Nat} {now : Int} {ts : List Int} {ls : List Bool} (id : Int) (hid : (Lit.int .i64 id).wf = true) (h : Both W w B cb mb k rb now ts ls) (hls : ls.length ≤ 1000) :
    Calls Try.prog 16 #[.pointer (some ⟨cb, 0, none⟩), .int .i64 id] w fun e w' => e = .returned (.bool (liveAt ts ls id).isSome) ∧ w.grownBy w' (some mb) ∧
      Calls Try.prog 23 #[.pointer (some ⟨rb, 0, none⟩), .int .i64 id] w' fun e w'' => e = .returned (.bool (liveAt ts ls id).isSome) ∧ Both W w'' B cb mb k rb now ts (dropL id ls) := by
  have hl : ts.length = ls.length := by obtain ⟨tv, lv, hr⟩ := h.ref; exact hr.len
  refine (clk_drop w id h.clk hid).mono ?_
  rintro e w' ⟨rfl, h1⟩
  refine ⟨rfl, h1.gr, ?_⟩
  obtain ⟨b1, b2, tv, lv, hr⟩ := h.clkGo h1
  rw [← liveAt_drop] at b2
  by_cases hin : 1 ≤ id ∧ id ≤ ls.length
  · obtain ⟨j, rfl⟩ : ∃ j : Nat, id = (j : Int) + 1 := ⟨(id - 1).toNat, by omega⟩
    have hj : j < ls.length := by omega
    have hjb : ls[j]? = some ls[j] := List.getElem?_eq_getElem hj
    have hjt : ts[j]? = some (ts[j]'(by omega)) := List.getElem?_eq_getElem (by omega)
    have e1 : (liveAt ts ls ((j : Int) + 1)).isSome = ls[j] := by
      rw [liveAt_in rfl hj, hjb, hjt]
      cases ls[j] <;> simp
    have e2 : dropL ((j : Int) + 1) ls = ls.set j false := by
      unfold dropL; rw [if_pos hin, show ((j : Int) + 1 - 1).toNat = j from by omega]
    rw [e1]
    refine (ref_drop_in w' j hr hj hls ls[j] hjb).mono ?_
    rintro e w'' ⟨rfl, h2⟩
    rw [e2] at b2 ⊢
    exact ⟨rfl, b1.trans h2.bel, h.lc, h.lm, b2.same h2.same, h2.clk⟩
  · have e1 : liveAt ts ls id = none := liveAt_out (by omega)
    have e2 : dropL id ls = ls := by unfold dropL; rw [if_neg hin]
    rw [e1]
    refine (ref_drop_out w' id hr (by omega)).mono ?_
    rintro e w'' ⟨rfl, rfl⟩
    rw [e2] at b2 ⊢
    exact ⟨rfl, b1, h.lc, h.lm, b2, tv, lv, hr⟩

theorem grown_cell1 {w w' : World} {mb : Nat} {v0 v1 : Value} {t : TypeId} (hlt : mb < w.heap.size) (hg : (w.alloc (.cells #[v0, v1] t)).drew.grownBy w' (some mb)) : w'.cell? ⟨w.heap.size, 1, none⟩ = some v1 := by
  have h := hg.block w.heap.size (by show w.heap.size < (w.alloc _).heap.size; simp) (by intro e; cases e; omega)
  have h2 : (w.alloc (.cells #[v0, v1] t)).drew.heap[w.heap.size]? = some (.cells #[v0, v1] t) := heap_alloc_new w _
  rw [h2] at h
  simp [World.cell?, h]

set_option maxHeartbeats 1000000 in
theorem act_drop {W w : World} {B cb mb k rb : Nat} {now : Int} {ts : List Int} {ls : List Bool} (n : Int) (hn : (Lit.int .i64 n).wf = true) (h : Both W w B cb mb k rb now ts ls) (hls : ls.length ≤ 1000) :
    Calls Try.prog 12 #[.pointer (some ⟨cb, 0, none⟩), .pointer (some ⟨rb, 0, none⟩), .agg #[.int .i64 3, .int .i64 n]] w fun e w' => e = .returned (.bool true) ∧
      Both W w' B cb mb k rb now ts (dropL n ls) := by
  have H := Lib.hid (both_drop n hn (h.alloc (.cells #[.int .i64 3, .int .i64 n] 35)).drew hls)
  have hlt : mb < w.heap.size := by obtain ⟨D, ho, _⟩ := h.clk.own; exact ho.lt
  clear h hn
  go_enter Try.func12, Try.ntmps12
  go_wp2_with fail
  go_region_with (first
    | (go_at_call 16; go_must (refine H.out.mono ?_; rintro e w' ⟨rfl, hg, h2⟩; have z1 := grown_cell1 hlt hg; have H2 := Lib.hid h2; clear h2 hg))
    | (go_at_call 23; go_must (refine H2.out.mono ?_; rintro e w'' ⟨rfl, h3⟩; have H3 := Lib.hid h3; clear h3)))
  all_goals
    go_wp2_with fail
    go_ret
    exact ⟨rfl, H3.out⟩

set_option maxHeartbeats 1000000 in
theorem act_time {W w : World} {B cb mb k rb : Nat} {now : Int} {ts : List Int} {ls : List Bool} (n : Int) (hn : (Lit.int .i64 n).wf = true) (h : Both W w B cb mb k rb now ts ls) (hls : ls.length ≤ 1000) :
    Calls Try.prog 12 #[.pointer (some ⟨cb, 0, none⟩), .pointer (some ⟨rb, 0, none⟩), .agg #[.int .i64 4, .int .i64 n]] w fun e w' => e = .returned (.bool true) ∧
      Both W w' B cb mb k rb now ts ls := by
  have HB := Lib.hid (h.alloc (.cells #[.int .i64 4, .int .i64 n] 35))
  have H := Lib.hid (clk_time _ n HB.out.clk hn)
  have H2 : Calls Try.prog 24 #[.pointer (some ⟨rb, 0, none⟩), .int .i64 n] (w.alloc (.cells #[.int .i64 4, .int .i64 n] 35)) fun e w' => e = .returned (.tuple #[.int .u64 ((liveAt ts ls n).getD 0), .bool (liveAt ts ls n).isSome]) ∧ (w.alloc (.cells #[.int .i64 4, .int .i64 n] 35)) = w' := by
    obtain ⟨tv, lv, hr⟩ := HB.out.ref
    by_cases hin : 1 ≤ n ∧ n ≤ ls.length
    · obtain ⟨j, rfl⟩ : ∃ j : Nat, n = (j : Int) + 1 := ⟨(n - 1).toNat, by omega⟩
      have hj : j < ls.length := by omega
      have hjb : ls[j]? = some ls[j] := List.getElem?_eq_getElem hj
      have hjt : ts[j]? = some (ts[j]'(by rw [hr.len]; exact hj)) := List.getElem?_eq_getElem _
      have e1 : liveAt ts ls ((j : Int) + 1) = if ls[j] then some (ts[j]'(by rw [hr.len]; exact hj)) else none := by
        rw [liveAt_in rfl hj, hjb, hjt]
        cases ls[j] <;> simp
      rw [e1]
      refine (ref_time_in _ j hr hj hls _ hjb _ hjt).mono ?_
      rintro e w' ⟨rfl, rfl⟩
      refine ⟨?_, rfl⟩
      cases ls[j] <;> simp
    · rw [liveAt_out (by omega)]
      exact ref_time_out _ n hr (by omega)
  have H2 := Lib.hid H2
  clear h hn
  generalize liveAt ts ls n = la at H H2
  go_enter Try.func12, Try.ntmps12
  go_wp2_with fail
  refine H.out.mono ?_
  rintro e w' ⟨rfl, rfl⟩
  go_wp2_with fail
  refine H2.out.mono ?_
  rintro e w' ⟨rfl, rfl⟩
  go_wp2_with fail
  go_ret
  exact ⟨rfl, HB.out⟩

set_option maxHeartbeats 1000000 in
theorem act_else {W w : World} {B cb mb k rb : Nat} {now : Int} {ts : List Int} {ls : List Bool} (kd n : Int) (h : Both W w B cb mb k rb now ts ls) (h1 : (kd == 1) = false) (h2 : (kd == 2) = false) (h3 : (kd == 3) = false) (h4 : (kd == 4) = false) :
    Calls Try.prog 12 #[.pointer (some ⟨cb, 0, none⟩), .pointer (some ⟨rb, 0, none⟩), .agg #[.int .i64 kd, .int .i64 n]] w fun e w' => e = .returned (.bool true) ∧
      Both W w' B cb mb k rb now ts ls := by
  have HB := Lib.hid (h.alloc (.cells #[.int .i64 kd, .int .i64 n] 35))
  clear h
  go_enter Try.func12, Try.ntmps12
  go_wp2_with fail
  go_ret
  exact ⟨rfl, HB.out⟩

/-- the state behind one act -/
def stepN (kd now : Int) : Int := if kd = 1 then tickN now else now
def stepT (kd now : Int) (ts : List Int) (ls : List Bool) : List Int := if kd = 2 then takeT now ts ls else ts
def stepL (kd n : Int) (ls : List Bool) : List Bool := if kd = 2 then takeL ls else if kd = 3 then dropL n ls else ls

theorem stepL_len (kd n : Int) (ls : List Bool) : (stepL kd n ls).length ≤ ls.length + 1 := by
  unfold stepL
  split
  · exact takeL_len ls
  · split
    · rw [dropL_len]; omega
    · omega

theorem act_any {W w : World} {B cb mb k rb : Nat} {now : Int} {ts : List Int} {ls : List Bool} (kd n : Int) (hn : (Lit.int .i64 n).wf = true) (h : Both W w B cb mb k rb now ts ls) (hls : ls.length ≤ 1000) (hk : k ≤ 1000) :
    Calls Try.prog 12 #[.pointer (some ⟨cb, 0, none⟩), .pointer (some ⟨rb, 0, none⟩), .agg #[.int .i64 kd, .int .i64 n]] w fun e w' => e = .returned (.bool true) ∧
      ∃ k', k' ≤ k + 1 ∧ Both W w' B cb mb k' rb (stepN kd now) (stepT kd now ts ls) (stepL kd n ls) := by
  by_cases h1 : kd = 1
  · subst h1; exact (act_tick n h).mono fun e w' ⟨he, hb⟩ => ⟨he, k, by omega, hb⟩
  by_cases h2 : kd = 2
  · subst h2; exact (act_take n h hls hk).mono fun e w' ⟨he, hb⟩ => ⟨he, k + 1, by omega, hb⟩
  by_cases h3 : kd = 3
  · subst h3; exact (act_drop n hn h hls).mono fun e w' ⟨he, hb⟩ => ⟨he, k, by omega, hb⟩
  by_cases h4 : kd = 4
  · subst h4; exact (act_time n hn h hls).mono fun e w' ⟨he, hb⟩ => ⟨he, k, by omega, hb⟩
  refine (act_else kd n h (by simpa using h1) (by simpa using h2) (by simpa using h3) (by simpa using h4)).mono fun e w' ⟨he, hb⟩ => ⟨he, k, by omega, ?_⟩
  simpa [stepN, stepT, stepL, h1, h2, h3] using hb

end Go.Proofs.Ythdbmmefnlediaa
