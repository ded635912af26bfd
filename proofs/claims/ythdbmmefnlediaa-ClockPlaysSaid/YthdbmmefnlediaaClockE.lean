/- ClockRises: the law's walk. -/
import Derived.Test.YthdbmmefnlediaaClockD
namespace Go.Proofs.Ythdbmmefnlediaa
open Go.RowKit Go.Maps

set_option maxHeartbeats 1000000 in
theorem awake13 (w : World) : Calls Try.prog 8 #[] w fun e w' => e = .returned (.bool true) ∧ Below w.heap.size w w' := by
  have HT := Lib.hid (clk_take (mb := w.heap.size) (k := 0) (n := 5) (f := fun _ => none) _ 0 (clk_made 5 w (by decide)) (by unfold maxLen; omega) (by omega) (by intro j h1 h2; omega) rfl)
  go_enter Try.func8, Try.ntmps8
  go_wp2_with fail
  refine (clk_new 5 w).mono ?_
  rintro e w' ⟨rfl, rfl⟩
  have hc := (clk_made 5 w (by decide)).c0
  have hsz : w.heap.size < ((w.alloc (.map #[] 0)).alloc (.cells #[.int .u64 5, .map (some w.heap.size)] 51)).heap.size := by simp; omega
  have hb : Below w.heap.size w ((w.alloc (.map #[] 0)).alloc (.cells #[.int .u64 5, .map (some w.heap.size)] 51)) := ((Below.refl _ w).alloc (Nat.le_refl _) _).alloc (by simp) _
  generalize ((w.alloc (.map #[] 0)).alloc (.cells #[.int .u64 5, .map (some w.heap.size)] 51)) = w1 at HT hc hsz hb ⊢
  go_wp2_with fail
  refine (clk_now _ _ _ hc).mono ?_
  rintro e w' ⟨rfl, rfl⟩
  go_wp2_with fail
  refine HT.out.mono ?_
  rintro e w' ⟨rfl, h⟩
  go_wp2_with fail
  go_ret
  exact ⟨rfl, hb.grown h.gr (Nat.le_of_lt hsz) (fun k e => by cases e; exact Nat.le_refl _)⟩

theorem Both.below {W w w' : World} {B cb mb k rb : Nat} {now : Int} {ts : List Int} {ls : List Bool} (h : Both W w B cb mb k rb now ts ls) (hb : Below w.heap.size w w') : Both W w' B cb mb k rb now ts ls := by
  obtain ⟨tv, lv, hr⟩ := h.ref
  have hB : B ≤ w.heap.size := by have := h.lc; have := lt_of_block h.clk.blk; omega
  refine ⟨h.bel.trans (hb.mono hB), h.lc, h.lm, h.clk.kept (hb.block _ (lt_of_block h.clk.blk)) ?_, tv, lv, ?_⟩
  · obtain ⟨D, ho, _⟩ := h.clk.own
    exact hb.block _ ho.lt
  · exact hr.kept (row := none) ⟨hb.os, hb.tape, hb.output, hb.size, fun k hk _ => hb.block k hk⟩ (by simp)

theorem both_made (W w : World) (B : Nat) (hB : B ≤ w.heap.size) (hW : Below B W w) (now : Int) (hn : (Lit.int .u64 now).wf = true) :
    Both W (((w.alloc (.map #[] 0)).alloc (.cells #[.int .u64 now, .map (some w.heap.size)] 51)).alloc (.cells #[.int .u64 now, .slice none 0 0, .slice none 0 0] 31)) B (w.heap.size + 1) w.heap.size 0 (w.heap.size + 1 + 1) now [] [] := by
  have hc := clk_made now w hn
  generalize hw1 : ((w.alloc (.map #[] 0)).alloc (.cells #[.int .u64 now, .map (some w.heap.size)] 51)) = w1 at hc ⊢
  have hs : w1.heap.size = w.heap.size + 2 := by subst hw1; simp
  have hb : Below B W w1 := by subst hw1; exact (hW.alloc hB _).alloc (by simp; omega) _
  have hf : liveAt [] [] = fun _ => none := by funext k; exact liveAt_out (by simp; omega)
  refine ⟨hb.alloc (by omega) _, by omega, hB, ?_, .slice none 0 0, .slice none 0 0, ?_, World.ownsRow_nil _ _ _ _, World.ownsRow_nil _ _ _ _, rfl, by omega, hn, by simp⟩
  · rw [hf]
    refine hc.kept (Below.heap_alloc _ _ _ (by omega)) (Below.heap_alloc _ _ _ (by omega))
  · rw [show w.heap.size + 1 + 1 = w1.heap.size from by omega]; exact heap_alloc_new w1 _

/-- a slice of acts -/
def OpsAt (w : World) (v : Value) (ops : List (Int × Int)) : Prop :=
  ∃ a cap, v = .slice a ops.length cap ∧ ∀ (i : Nat) kd n, ops[i]? = some (kd, n) → ∃ b off, a = some ⟨b, off, none⟩ ∧ w.cell? ⟨b, off + i * 2, none⟩ = some (.int .i64 kd) ∧ w.cell? ⟨b, off + i * 2 + 1, none⟩ = some (.int .i64 n) ∧ (Lit.int .i64 n).wf = true

theorem oldest_rises {now now' t t' : Int} {f f' : Int → Option Int} (h : OldestIs now f t) (h' : OldestIs now' f' t') (hn : now ≤ now') (hf : ∀ k v, f' k = some v → v = now ∨ f k = some v) : t ≤ t' := by
  rcases h'.2.2 with e | ⟨k, hk⟩
  · have := h.1; omega
  · rcases hf k t' hk with e | e
    · have := h.1; omega
    · exact h.2.1 k t' e

theorem stepN_ge (kd now : Int) : now ≤ stepN kd now := by
  unfold stepN tickN; split
  · split <;> omega
  · omega

theorem step_live {kd n now : Int} {ts : List Int} {ls : List Bool} (hl : ts.length = ls.length) (k v : Int) (h : liveAt (stepT kd now ts ls) (stepL kd n ls) k = some v) : v = now ∨ liveAt ts ls k = some v := by
  unfold stepT stepL at h
  by_cases h2 : kd = 2
  · simp only [h2, if_true] at h
    rw [liveAt_take hl] at h
    dsimp only at h
    split at h
    · cases h; exact .inl rfl
    · exact .inr h
  · simp only [h2, if_false] at h
    by_cases h3 : kd = 3
    · simp only [h3, if_true] at h
      rw [liveAt_drop] at h
      dsimp only at h
      split at h
      · cases h
      · exact .inr h
    · simp only [h3, if_false] at h; exact .inr h

set_option maxHeartbeats 1000000 in
theorem rises_long (now : Int) (v : Value) (ops : List (Int × Int)) (w : World) (ho : OpsAt w v ops) (hlen : 200 < ops.length) (hmax : ops.length ≤ 9223372036854775807) :
    Calls Try.prog 3 #[.int .u64 now, v] w fun e w' => e = .returned (.bool true) ∧ Below w.heap.size w w' := by
  obtain ⟨a, cap, rfl, _⟩ := ho
  go_enter Try.func3, Try.ntmps3
  go_wp2_with fail
  refine (awake13 w).mono ?_
  rintro e w1 ⟨rfl, hb1⟩
  go_wp2_with fail
  refine (awake13 w1).mono ?_
  rintro e w2 ⟨rfl, hb2⟩
  go_wp2_with fail
  go_ret
  exact ⟨rfl, hb1.trans (hb2.mono hb1.size)⟩

theorem lt_of_cell {w : World} {b o : Nat} (h : w.cell? ⟨b, o, none⟩ ≠ none) : b < w.heap.size := by
  rcases Nat.lt_or_ge b w.heap.size with h' | h'
  · exact h'
  · exact absurd (by simp [World.cell?, Array.getElem?_eq_none h']) h

def RisesRel (W wr : World) (B cb mb rb : Nat) (ops : List (Int × Int)) (j : Nat) (was old : Value) : Prop :=
  ∃ k now ts ls t, k ≤ j ∧ ls.length ≤ j ∧ Both W wr B cb mb k rb now ts ls ∧ was = .int .u64 now ∧ old = .int .u64 t ∧ OldestIs now (liveAt ts ls) t ∧ j ≤ ops.length

set_option maxHeartbeats 2000000 in
theorem rises_short (now : Int) (hn : (Lit.int .u64 now).wf = true) (v : Value) (ops : List (Int × Int)) (w : World) (ho : OpsAt w v ops) (hlen : ops.length ≤ 200) :
    Calls Try.prog 3 #[.int .u64 now, v] w fun e w' => e = .returned (.bool true) ∧ Below w.heap.size w w' := by
  obtain ⟨a, cap, rfl, hcells⟩ := ho
  have HC := Lib.hid hcells; clear hcells
  have HN := Lib.hid hn; clear hn
  go_enter Try.func3, Try.ntmps3
  go_wp2_with fail
  refine (awake13 w).mono ?_
  rintro e w1 ⟨rfl, hb1⟩
  go_wp2_with fail
  refine (clk_new now w1).mono ?_
  rintro e w2 ⟨rfl, rfl⟩
  go_wp2_with fail
  have h0 := both_made w w1 w.heap.size hb1.size hb1 now HN.out
  have hs : (((w1.alloc (.map #[] 0)).alloc (.cells #[.int .u64 now, .map (some w1.heap.size)] 51)).alloc (.cells #[.int .u64 now, .slice none 0 0, .slice none 0 0] 31)).heap.size = w1.heap.size + 3 := by simp
  generalize (((w1.alloc (.map #[] 0)).alloc (.cells #[.int .u64 now, .map (some w1.heap.size)] 51)).alloc (.cells #[.int .u64 now, .slice none 0 0, .slice none 0 0] 31)) = w2 at h0 hs ⊢
  have H0 := Lib.hid h0; clear h0
  clear hs
  generalize w1.heap.size + 1 + 1 = rb at H0 ⊢
  generalize w1.heap.size + 1 = cb at H0 ⊢
  refine (clk_now _ _ _ H0.out.clk.c0).mono ?_
  rintro e w3 ⟨rfl, rfl⟩
  go_wp2_with fail
  refine (clk_oldest _ H0.out.clk).mono ?_
  rintro e w3 ⟨t, rfl, ho, hb⟩
  have H1 := Lib.hid (H0.out.below hb)
  have HO := Lib.hid ho
  clear hb ho H0
  go_wp2_with fail
  go_loopw [7, 8, 9] (fun was old i wr => ∃ j : Nat, i = .int .i64 j ∧ RisesRel w wr w.heap.size cb w1.heap.size rb ops j was old) (fun _ _ i _ => ops.length - (intOf i).toNat)
  case atStart => exact ⟨0, rfl, 0, now, [], [], t, Nat.le_refl _, Nat.le_refl _, H1.out, rfl, rfl, HO.out, Nat.zero_le _⟩
  case round =>
    obtain ⟨j, rfl, k, now, ts, ls, t, hk, hls, hB, rfl, rfl, ho, hj⟩ := hrel
    clear H1 HO HN
    have HB := Lib.hid hB; clear hB
    have HO := Lib.hid ho; clear ho
    by_cases hlt : j < ops.length
    · obtain ⟨⟨kd, n⟩, hop⟩ : ∃ x, ops[j]? = some x := ⟨ops[j], List.getElem?_eq_getElem hlt⟩
      obtain ⟨b, off, rfl, x1, x2, hwn⟩ := HC.out j kd n hop
      have hbb : ∀ o, w.cell? ⟨b, o, none⟩ ≠ none → wr.cell? ⟨b, o, none⟩ = w.cell? ⟨b, o, none⟩ := fun o h => HB.out.bel.cell (p := ⟨b, o, none⟩) (lt_of_cell h)
      have y1 : wr.cell? ⟨b, off + j * 2, none⟩ = some (.int .i64 kd) := by rw [hbb _ (by rw [x1]; simp)]; exact x1
      have y2 : wr.cell? ⟨b, off + j * 2 + 1, none⟩ = some (.int .i64 n) := by rw [hbb _ (by rw [x2]; simp)]; exact x2
      clear hbb x1 x2 hop
      have HW := Lib.hid hwn; clear hwn
      go_wp2_with fail
      refine (act_any kd n HW.out HB.out (by omega) (by omega)).mono ?_
      rintro e w3 ⟨rfl, k', hk', hB'⟩
      have HB1 := Lib.hid hB'; clear hB' y1 y2
      have hge : now ≤ stepN kd now := stepN_ge kd now
      have HL : Hid (∀ k v, liveAt (stepT kd now ts ls) (stepL kd n ls) k = some v → v = now ∨ liveAt ts ls k = some v) := by
        obtain ⟨tv, lv, hr⟩ := HB.out.ref
        exact step_live hr.len
      have hll := stepL_len kd n ls
      clear HB HW
      generalize stepN kd now = now' at *
      generalize stepT kd now ts ls = ts' at *
      generalize stepL kd n ls = ls' at *
      go_wp2_with fail
      refine (clk_now _ _ _ HB1.out.clk.c0).mono ?_
      rintro e w4 ⟨rfl, rfl⟩
      go_wp2_with fail
      refine (clk_oldest _ HB1.out.clk).mono ?_
      rintro e w4 ⟨t1, rfl, ho1, hb1⟩
      have ht1 : t ≤ t1 := oldest_rises HO.out ho1 hge HL.out
      have HB2 := Lib.hid (HB1.out.below hb1)
      clear ho1 hb1 HB1
      go_wp2_with fail
      refine (clk_oldest _ HB2.out.clk).mono ?_
      rintro e w5 ⟨t2, rfl, ho2, hb2⟩
      have ht2 : t2 ≤ now' := ho2.1
      have HB3 := Lib.hid (HB2.out.below hb2)
      clear ho2 hb2 HB2
      go_wp2_with fail
      refine (clk_now _ _ _ HB3.out.clk.c0).mono ?_
      rintro e w6 ⟨rfl, rfl⟩
      go_wp2_with fail
      refine (clk_now _ _ _ HB3.out.clk.c0).mono ?_
      rintro e w6 ⟨rfl, rfl⟩
      go_wp2_with fail
      refine (clk_oldest _ HB3.out.clk).mono ?_
      rintro e w7 ⟨t3, rfl, ho3, hb3⟩
      have HB4 := Lib.hid (HB3.out.below hb3)
      have HO3 := Lib.hid ho3
      clear ho3 hb3 HB3
      go_wp2_with fail
      go_roundw
      case rel => exact ⟨j + 1, by go_num, k', now', ts', ls', t3, by omega, by omega, HB4.out, rfl, rfl, HO3.out, hlt⟩
      case measure => simp [intOf]; omega
    · go_wp2_with fail
      go_ret
      exact ⟨rfl, HB.out.bel⟩

end Go.Proofs.Ythdbmmefnlediaa
