/- The clock's own functions, walked: New, Now, Tick, Time, Drop, Take, Oldest. -/
import Derived.Test.YthdbmmefnlediaaRows
import Derived.WalkKit
import Derived.WalkSpells
import Derived.WalkLawsBesides
import Derived.Maps.Own
import Derived.Maps.OwnSet
import Derived.Maps.RangeWalk
import Derived.Lib.Hide
import Derived.StillTailTactics
namespace Go.Proofs.Ythdbmmefnlediaa
open Go.RowKit Go.Maps

theorem Clk.law : Keyed Try.prog 3 := int_keyed Try.underlying3
theorem Clk.zero (w : World) : (zeroValue 22).run Try.prog w = .ok (.int .u64 0) w := by kernel_rfl

/-- what a map of numbers reads as: a function -/
def MapFn (D : DataW Unit) (f : Int → Option Int) : Prop :=
  IsMap D ∧ (∀ k, (Lit.int .i64 k).wf = true → has D (.int .i64 k) = (f k).isSome ∧ ∀ z v, f k = some v → D.atKey (.int .i64 k) z = .lit (.int .u64 v)) ∧
    (∀ k v, f k = some v → (Lit.int .i64 k).wf = true ∧ (Lit.int .u64 v).wf = true)

/-- a clock: its block, its map's block -/
structure Clk (w : World) (cb mb n : Nat) (now : Int) (f : Int → Option Int) : Prop where
  blk : w.heap[cb]? = some (.cells #[.int .u64 now, .map (some mb)] 51 (0, 0))
  own : ∃ D : DataW Unit, w.ownsMap Try.prog 3 (plainElem Try.prog 22) mb n D ∧ MapFn D f
  wf : (Lit.int .u64 now).wf = true

theorem Clk.c0 {w : World} {cb mb n : Nat} {now : Int} {f : Int → Option Int} (h : Clk w cb mb n now f) : w.cell? ⟨cb, 0, none⟩ = some (.int .u64 now) := by
  simp [World.cell?, h.blk]
theorem Clk.c1 {w : World} {cb mb n : Nat} {now : Int} {f : Int → Option Int} (h : Clk w cb mb n now f) : w.cell? ⟨cb, 1, none⟩ = some (.map (some mb)) := by
  simp [World.cell?, h.blk]
theorem Clk.f0 {w : World} {cb mb n : Nat} {now : Int} {f : Int → Option Int} (h : Clk w cb mb n now f) : w.frozen? ⟨cb, 0, none⟩ = false := by
  simp [World.frozen?, h.blk]
theorem Clk.ne {w : World} {cb mb n : Nat} {now : Int} {f : Int → Option Int} (h : Clk w cb mb n now f) : cb ≠ mb := by
  rintro rfl
  obtain ⟨D, ⟨es, c, hb, _⟩, _⟩ := h.own
  rw [h.blk] at hb; cases hb
theorem Clk.kept {w w' : World} {cb mb n : Nat} {now : Int} {f : Int → Option Int} (h : Clk w cb mb n now f) (h1 : w'.heap[cb]? = w.heap[cb]?) (h2 : w'.heap[mb]? = w.heap[mb]?) : Clk w' cb mb n now f := by
  obtain ⟨D, ⟨es, c, hb, r⟩, hD⟩ := h.own
  exact ⟨h1.trans h.blk, ⟨D, ⟨es, c, h2.trans hb, r⟩, hD⟩, h.wf⟩

set_option maxHeartbeats 400000 in
theorem clk_now (b : Nat) (n : Int) (w : World) (hc : w.cell? ⟨b, 0, none⟩ = some (.int .u64 n)) :
    Calls Try.prog 10 #[.pointer (some ⟨b, 0, none⟩)] w fun e w' => e = .returned (.int .u64 n) ∧ w = w' := by
  go_enter Try.func10, Try.ntmps10
  go_wp2
  go_ret
  exact ⟨rfl, rfl⟩

theorem mapFn_empty : MapFn (.map []) (fun _ => none) := ⟨⟨[], rfl⟩, fun k _ => ⟨rfl, fun _ _ h => by cases h⟩, fun _ _ h => by cases h⟩

set_option maxHeartbeats 400000 in
theorem clk_new (n : Int) (w : World) :
    Calls Try.prog 9 #[.int .u64 n] w fun e w' => e = .returned (.pointer (some ⟨w.heap.size+1, 0, none⟩)) ∧ w' = ((w.alloc (.map #[] 0)).alloc (.cells #[.int .u64 n, .map (some w.heap.size)] 51)) := by
  have hmm := @run_makeMap Try.prog
  go_enter Try.func9, Try.ntmps9
  go_wp2
  go_ret
  exact ⟨rfl, rfl⟩

theorem clk_made (n : Int) (w : World) (hn : (Lit.int .u64 n).wf = true) :
    Clk ((w.alloc (.map #[] 0)).alloc (.cells #[.int .u64 n, .map (some w.heap.size)] 51)) (w.heap.size+1) w.heap.size 0 n (fun _ => none) := by
  refine ⟨?_, ⟨.map [], (World.ownsMap_made w _ _ _).alloc _, mapFn_empty⟩, hn⟩
  have := heap_alloc_new (w.alloc (.map #[] 0)) (.cells #[.int .u64 n, .map (some w.heap.size)] 51)
  simpa using this

theorem wrap_u64_succ {n : Int} (hn : (Lit.int .u64 n).wf = true) (h : ¬ n = 18446744073709551615) : IntKind.u64.wrap (n + 1) = n + 1 ∧ (Lit.int .u64 (n+1)).wf = true := by
  simp [Lit.wf, IntKind.min, IntKind.max, IntKind.wrap, IntKind.bits, IntKind.signed] at *
  omega

set_option maxHeartbeats 400000 in
theorem clk_tick {b mb k : Nat} {n : Int} {f : Int → Option Int} (w : World) (h : Clk w b mb k n f) (hn : ¬ n = 18446744073709551615) :
    Calls Try.prog 14 #[.pointer (some ⟨b, 0, none⟩)] w fun e w' => e = .returned (.tuple #[.int .u64 (n+1), .int .i64 0]) ∧ w' = w.setCell ⟨b, 0, none⟩ (.int .u64 (n+1)) := by
  have h1 : (n == 18446744073709551615) = false := by simpa using hn
  have hw := (wrap_u64_succ h.wf hn).1
  have hc := h.c0
  have hf := h.f0
  clear h hn
  go_enter Try.func14, Try.ntmps14
  go_wp2
  go_ret2
  exact ⟨rfl, rfl⟩

set_option maxHeartbeats 400000 in
theorem clk_tick_full {b mb k : Nat} {f : Int → Option Int} (w : World) (h : Clk w b mb k 18446744073709551615 f) :
    Calls Try.prog 14 #[.pointer (some ⟨b, 0, none⟩)] w fun e w' => e = .returned (.tuple #[.int .u64 0, .int .i64 6]) ∧ w = w' := by
  have hc := h.c0
  clear h
  go_enter Try.func14, Try.ntmps14
  go_wp2
  go_ret2
  exact ⟨rfl, rfl⟩

set_option maxHeartbeats 400000 in
theorem clk_time {b mb k : Nat} {n : Int} {f : Int → Option Int} (w : World) (id : Int) (h : Clk w b mb k n f) (hid : (Lit.int .i64 id).wf = true) :
    Calls Try.prog 15 #[.pointer (some ⟨b, 0, none⟩), .int .i64 id] w fun e w' => e = .returned (.tuple #[.int .u64 ((f id).getD 0), .bool (f id).isSome]) ∧ w = w' := by
  have hc := h.c1
  obtain ⟨D, hown, hD⟩ := h.own
  clear h
  obtain ⟨_, hD2, _⟩ := hD
  obtain ⟨hh, hv⟩ := hD2 id hid
  clear hD2
  have HH := Lib.hid hh; clear hh
  have HV := Lib.hid hv; clear hv
  go_enter Try.func15, Try.ntmps15
  go_wp2_with (at_lookup; refine wpList_lookup_own_ok_int _ rfl _ _ 49 rfl 3 22 .u64 Clk.law Try.underlying49 Try.underlying22 (Clk.zero _) mb k _ rfl hown _ _ rfl (keyOf_int_mk Try.underlying3 hid) ?_; intro c hat hwc)
  go_ret2
  refine ⟨?_, rfl⟩
  have hh := HH.out
  have hv := HV.out
  cases hf : f id with
  | none => 
    rw [hf] at hh
    have := atKey_of_not_has (by simpa using hh) (DataW.lit (Lit.int .u64 0))
    rw [this] at hat
    cases hat
    simp [hh]
  | some v =>
    rw [hf] at hh
    rw [hv _ v hf] at hat
    cases hat
    simp [hh]

theorem mapFn_del {D : DataW Unit} {f : Int → Option Int} (h : MapFn D f) (id : Int) : MapFn (D.del (.int .i64 id)) (fun k => if k = id then none else f k) := by
  refine ⟨h.1.del _, fun k hk => ?_, fun k v hv => ?_⟩
  · by_cases e : k = id
    · subst e; simp [has_del_same]
    · have ne : (Lit.int .i64 k) ≠ .int .i64 id := by simpa using e
      simp only [e, if_false]
      rw [has_del_other ne]
      exact ⟨(h.2.1 k hk).1, fun z v hv => by rw [atKey_del_other ne]; exact (h.2.1 k hk).2 z v hv⟩
  · by_cases e : k = id
    · simp [e] at hv
    · simp only [e, if_false] at hv; exact h.2.2 k v hv

theorem mapFn_put {D : DataW Unit} {f : Int → Option Int} (h : MapFn D f) (id n : Int) (hid : (Lit.int .i64 id).wf = true) (hn : (Lit.int .u64 n).wf = true) :
    MapFn (D.put (.int .i64 id) (.lit (.int .u64 n))) (fun k => if k = id then some n else f k) := by
  refine ⟨h.1.put _ _, fun k hk => ?_, fun k v hv => ?_⟩
  · by_cases e : k = id
    · subst e
      rw [has_put_same (k := .int .i64 k) h.1 trivial]
      simp only [if_true]
      exact ⟨rfl, fun z v hv => by cases hv; exact atKey_put_same (k := .int .i64 k) h.1 trivial _ _⟩
    · have ne : (Lit.int .i64 k) ≠ .int .i64 id := by simpa using e
      simp only [e, if_false]
      rw [has_put_other ne]
      exact ⟨(h.2.1 k hk).1, fun z v hv => by rw [atKey_put_other ne]; exact (h.2.1 k hk).2 z v hv⟩
  · by_cases e : k = id
    · simp [e] at hv; subst e hv; exact ⟨hid, hn⟩
    · simp only [e, if_false] at hv; exact h.2.2 k v hv

theorem Clk.turned {w w' : World} {cb mb n n' : Nat} {now : Int} {f g : Int → Option Int} (h : Clk w cb mb n now f) (hg : w.grownBy w' (some mb))
    (own : ∃ D : DataW Unit, w'.ownsMap Try.prog 3 (plainElem Try.prog 22) mb n' D ∧ MapFn D g) : Clk w' cb mb n' now g :=
  ⟨(hg.block cb (lt_of_block h.blk) (fun e => h.ne (by cases e; rfl))).trans h.blk, own, h.wf⟩

theorem Clk.set {w : World} {cb mb n : Nat} {now now' : Int} {f : Int → Option Int} (h : Clk w cb mb n now f) (hn : (Lit.int .u64 now').wf = true) :
    Clk (w.setCell ⟨cb, 0, none⟩ (.int .u64 now')) cb mb n now' f := by
  obtain ⟨D, hown, hD⟩ := h.own
  refine ⟨?_, ⟨D, hown.setCell (fun e => h.ne e.symm) _, hD⟩, hn⟩
  have hlt := lt_of_block h.blk
  have h' : w.heap[cb] = .cells #[.int .u64 now, .map (some mb)] 51 (0, 0) := by simpa [Array.getElem?_eq_getElem hlt] using h.blk
  show (w.heap.modify cb _)[cb]? = _
  rw [Array.getElem?_eq_getElem (by simpa using hlt), Array.getElem_modify_self, h']
  rfl

/-- what a call on a clock leaves: the clock with another map; all else below is as it was -/
structure ClkGo (w w' : World) (cb mb n : Nat) (now : Int) (f : Int → Option Int) : Prop where
  clk : Clk w' cb mb n now f
  gr : w.grownBy w' (some mb)

set_option maxHeartbeats 400000 in
theorem clk_drop {b mb k : Nat} {n : Int} {f : Int → Option Int} (w : World) (id : Int) (h : Clk w b mb k n f) (hid : (Lit.int .i64 id).wf = true) :
    Calls Try.prog 16 #[.pointer (some ⟨b, 0, none⟩), .int .i64 id] w fun e w' => e = .returned (.bool (f id).isSome) ∧ ClkGo w w' b mb k n (fun k => if k = id then none else f k) := by
  have hc := h.c1
  have H := Lib.hid h
  obtain ⟨D, hown, hD⟩ := h.own
  clear h
  have HD := Lib.hid hD; clear hD
  cases hf : f id with
  | none =>
    have HF := Lib.hid hf; clear hf
    go_enter Try.func16, Try.ntmps16
    go_wp2_with fail
    refine (clk_time w id H.out hid).mono ?_
    rintro e w' ⟨rfl, rfl⟩
    rw [HF.out]
    go_wp2_with fail
    go_ret
    have hf := HF.out
    refine ⟨rfl, ?_, ⟨rfl, rfl, rfl, Nat.le_refl _, fun _ _ _ => rfl⟩⟩
    have : (fun k => if k = id then none else f k) = f := by funext k; by_cases e : k = id <;> simp [e, hf]
    rw [this]; exact H.out
  | some v =>
    have HF := Lib.hid hf; clear hf
    go_enter Try.func16, Try.ntmps16
    go_wp2_with fail
    refine (clk_time w id H.out hid).mono ?_
    rintro e w' ⟨rfl, rfl⟩
    rw [HF.out]
    go_wp2_with (at_delete; refine wpList_delete_own _ rfl _ _ 49 3 rfl 22 Clk.law Try.underlying49 _ mb k _ rfl hown _ _ rfl (keyOf_int_mk Try.underlying3 hid) ?_; intro w1 hown1 hturn1)
    go_ret
    exact ⟨rfl, H.out.turned hturn1.grown ⟨_, hown1, mapFn_del HD.out id⟩, hturn1.grown⟩

set_option maxHeartbeats 400000 in
theorem clk_take {b mb k : Nat} {n : Int} {f : Int → Option Int} (w : World) (m : Nat) (h : Clk w b mb k n f) (hk : k < maxLen) (hm : (m : Int) < 9223372036854775807)
    (hall : ∀ j : Nat, 1 ≤ j → j ≤ m → (f j).isSome = true) (hno : f ((m : Int) + 1) = none) :
    Calls Try.prog 13 #[.pointer (some ⟨b, 0, none⟩)] w fun e w' => e = .returned (.int .i64 ((m : Int) + 1)) ∧ ClkGo w w' b mb (k+1) n (fun k => if k = (m : Int) + 1 then some n else f k) := by
  have hc0 := h.c0
  have hc := h.c1
  have H := Lib.hid h
  obtain ⟨D, hown, hD⟩ := h.own
  clear h
  have HD := Lib.hid hD; clear hD
  have HA := Lib.hid hall; clear hall
  have HN := Lib.hid hno; clear hno
  go_enter Try.func13, Try.ntmps13
  go_wp2
  go_loop [3] (fun i => ∃ j : Nat, 1 ≤ j ∧ j ≤ m + 1 ∧ i = .int .i64 j) (fun i => m + 1 - (intOf i).toNat)
  case atStart => exact ⟨1, by omega, by omega, rfl⟩
  case round =>
    obtain ⟨j, hj1, hj2, rfl⟩ := hrel
    have hid : (Lit.int .i64 j).wf = true := WalkArith.wf_i64 (by omega)
    have HJ := Lib.hid hid
    by_cases hjm : j ≤ m
    · go_wp2_with (at_lookup; refine wpList_lookup_own_ok_int _ rfl _ _ 49 rfl 3 22 .u64 Clk.law Try.underlying49 Try.underlying22 (Clk.zero _) mb k _ rfl hown _ _ rfl (keyOf_int_mk Try.underlying3 HJ.out) ?_; intro c hat hwc; rw [(HD.out.2.1 j HJ.out).1, HA.out j hj1 hjm]; clear hat hwc)
      go_round
      case rel => exact ⟨j + 1, by omega, by omega, by go_num⟩
      case measure => simp [intOf]; omega
    · obtain rfl : j = m + 1 := by omega
      go_wp2_with (at_lookup; refine wpList_lookup_own_ok_int _ rfl _ _ 49 rfl 3 22 .u64 Clk.law Try.underlying49 Try.underlying22 (Clk.zero _) mb k _ rfl hown _ _ rfl (keyOf_int_mk Try.underlying3 HJ.out) ?_; intro c hat hwc; rw [(HD.out.2.1 _ HJ.out).1, show (((m + 1 : Nat) : Int)) = (m : Int) + 1 from rfl, HN.out]; clear hat hwc)
      refine wp_region_still_tail 9 (by kernel_rfl) (by kernel_rfl) ?_
      simp only [List.take_succ_cons, List.take_zero, List.drop_succ_cons, List.drop_zero]
      repeat still_step
      refine wpStill_nil ?_
      change wpList _ _ _ _ _ w.drew
      have hown1 := hown.drew
      have hv : plainElem (H := Unit) Try.prog 22 (.int .u64 n) = some (.lit (.int .u64 n), []) := plainElem_int Try.underlying22 H.out.wf
      have HV := Lib.hid hv; clear hv
      go_wp2_with (at_mapUpdate; refine wpList_mapUpdate_own _ rfl _ _ _ 49 rfl 3 22 Clk.law Try.underlying49 _ mb k _ rfl hown1 hk _ _ _ rfl rfl (keyOf_int_mk Try.underlying3 HJ.out) _ [] HV.out ?_; intro w1 hown2 hgrow1)
      go_ret
      have hg : w.grownBy w1 (some mb) := ⟨hgrow1.os, hgrow1.tape, hgrow1.output, hgrow1.size, hgrow1.block⟩
      exact ⟨rfl, H.out.turned hg ⟨_, hown2, mapFn_put HD.out _ n HJ.out H.out.wf⟩, hg⟩

/-- the least of the times of those that live, and of now -/
def OldestIs (now : Int) (f : Int → Option Int) (t : Int) : Prop := t ≤ now ∧ (∀ k v, f k = some v → t ≤ v) ∧ (t = now ∨ ∃ k, f k = some t)

set_option maxHeartbeats 400000 in
theorem clk_oldest {b mb k : Nat} {n : Int} {f : Int → Option Int} (w : World) (h : Clk w b mb k n f) :
    Calls Try.prog 11 #[.pointer (some ⟨b, 0, none⟩)] w fun e w' => ∃ t, e = .returned (.int .u64 t) ∧ OldestIs n f t ∧ Below w.heap.size w w' := by
  have hc0 := h.c0
  have hc := h.c1
  obtain ⟨D, hown, hD⟩ := h.own
  have H := Lib.hid h
  clear h
  have HD := Lib.hid hD; clear hD
  go_enter Try.func11, Try.ntmps11
  go_wp2_with (first
    | (at_range; refine wpList_range_own _ rfl _ 49 rfl 3 22 Clk.law Try.underlying49 _ mb k _ rfl hown ?_; intro w0 hrg0 hg0 hs0)
    | (go_at_call 10; refine (clk_now _ _ _ hc0).mono ?_; rintro e w' ⟨rfl, rfl⟩))
  go_frame
  go_loopw [3] (fun s wr => ∃ (left : Lit → Bool) (cnt : Nat) (t : Int), s = .int .u64 t ∧ wr.ranges Try.prog 3 (plainElem Try.prog 22) mb w.heap.size k D left cnt ∧ w.grownBy wr none ∧
      t ≤ n ∧ (∀ k v, f k = some v → left (.int .i64 k) = false → t ≤ v) ∧ (t = n ∨ ∃ k, f k = some t))
    (fun _ wr => wr.rangeLeft mb w.heap.size)
  case atStart => exact ⟨_, _, n, rfl, hrg0, hg0, Int.le_refl _, (fun k v hv hl => by rw [(HD.out.2.1 k (HD.out.2.2 k v hv).1).1, hv] at hl; cases hl), Or.inl rfl⟩
  case round =>
    obtain ⟨left, cnt, t, rfl, hrg, hgw, ht1, ht2, ht3⟩ := hrel
    have HT2 := Lib.hid ht2; clear ht2
    have HT3 := Lib.hid ht3; clear ht3
    go_wp2_with (at_next; refine wpList_next_ranges_ii _ rfl _ rfl 3 22 .i64 .u64 Clk.law Try.underlying3 Try.underlying22 mb w.heap.size k _ _ _ rfl hrg ?_ ?_)
    · intro _ hl0
      go_wp2
      go_ret
      refine ⟨t, rfl, ⟨ht1, fun k v hv => HT2.out k v hv (hl0 _), HT3.out⟩, ?_⟩
      exact ⟨hgw.os, hgw.tape, hgw.output, hgw.size, fun k hk => hgw.block k hk (by simp)⟩
    · intro x c w1 cnt1 hwx hwc hlx hat hrg1 hlt hg1 hs1 hen
      have hf : f x = some c := by
        have h1 := HD.out.2.1 x hwx
        have h2 : has D (.int .i64 x) = true := has_true_of_atKey hat
        rw [h2] at h1
        obtain ⟨v, hv⟩ := Option.isSome_iff_exists.1 h1.1.symm
        have h3 := h1.2 (.lit (.int .u64 0)) v hv
        rw [hat] at h3
        cases h3
        exact hv
      have HX := Lib.hid hf; clear hf hat
      clear hlx
      go_wp2
      go_roundw
      case rel =>
        refine ⟨_, cnt1, _, rfl, hrg1, hgw.andThen hg1 (fun j hj => by cases hj; exact Or.inl (Nat.le_refl _)), ?_, ?_, ?_⟩
        · split <;> omega
        · intro k v hv hl
          by_cases e : k = x
          · subst e
            have := HX.out
            rw [hv] at this
            cases this
            split <;> omega
          · have ne : (Lit.int .i64 k).sameKey (.int .i64 x) = false := sameKey_ne (by simpa using e)
            rw [ne] at hl
            have := HT2.out k v hv (by simpa using hl)
            split <;> omega
        · split
          · exact Or.inr ⟨x, HX.out⟩
          · exact HT3.out
      case measure => rw [hrg1.left_eq, hrg.left_eq]; exact hlt

end Go.Proofs.Ythdbmmefnlediaa
