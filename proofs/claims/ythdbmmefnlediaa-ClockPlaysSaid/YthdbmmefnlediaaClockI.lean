/- ClockPlays: the law's walk. -/
import Derived.Test.YthdbmmefnlediaaClockH
namespace Go.Proofs.Ythdbmmefnlediaa
open Go.RowKit Go.Maps

theorem oldest_one {now t t' : Int} {f : Int → Option Int} (h : OldestIs now f t) (h' : OldestIs now f t') : t = t' := by
  have a : t ≤ t' := by
    rcases h'.2.2 with e | ⟨k, hk⟩
    · rw [e]; exact h.1
    · exact h.2.1 k t' hk
  have b : t' ≤ t := by
    rcases h.2.2 with e | ⟨k, hk⟩
    · rw [e]; exact h'.1
    · exact h'.2.1 k t hk
  omega

theorem Both.len {W w : World} {B cb mb k rb : Nat} {now : Int} {ts : List Int} {ls : List Bool} (h : Both W w B cb mb k rb now ts ls) : ts.length = ls.length := by
  obtain ⟨tv, lv, hr⟩ := h.ref; exact hr.len

theorem both_oldest_ref {W w : World} {B cb mb k rb : Nat} {now : Int} {ts : List Int} {ls : List Bool} (h : Both W w B cb mb k rb now ts ls) (hls : ls.length ≤ 1000) :
    Calls Try.prog 18 #[.pointer (some ⟨rb, 0, none⟩)] w fun e w' => (∃ t, e = .returned (.int .u64 t) ∧ OldestIs now (liveAt ts ls) t) ∧ w = w' := by
  obtain ⟨tv, lv, hr⟩ := h.ref; exact ref_oldest w hr hls

theorem both_live_ref {W w : World} {B cb mb k rb : Nat} {now : Int} {ts : List Int} {ls : List Bool} (h : Both W w B cb mb k rb now ts ls) (hls : ls.length ≤ 1000) :
    Calls Try.prog 20 #[.pointer (some ⟨rb, 0, none⟩)] w fun e w' => ∃ v, e = .returned v ∧ w'.ownsRow w.heap.size 3 1 v (liveTo ls ls.length).length ((liveTo ls ls.length).map (Value.int .i64)) ∧ Below w.heap.size w w' := by
  obtain ⟨tv, lv, hr⟩ := h.ref; exact ref_live w hr hls

theorem own_below {w w' : World} {B e : Nat} {v : Value} {n : Nat} {xs : List Value} (h : w.ownsRow B e 1 v n xs) (hb : Below w.heap.size w w') : w'.ownsRow B e 1 v n xs :=
  h.kept (row := none) ⟨hb.os, hb.tape, hb.output, hb.size, fun k hk _ => hb.block k hk⟩ (by cases v.ownBlock <;> simp)

theorem Both.refNow {W w : World} {B cb mb k rb : Nat} {now : Int} {ts : List Int} {ls : List Bool} (h : Both W w B cb mb k rb now ts ls) : w.cell? ⟨rb, 0, none⟩ = some (.int .u64 now) := by
  obtain ⟨tv, lv, hr⟩ := h.ref; exact hr.c0

theorem Both.drewN {W w : World} {B cb mb k rb : Nat} {now : Int} {ts : List Int} {ls : List Bool} (h : Both W w B cb mb k rb now ts ls) : ∀ n, Both W (w.drewN n) B cb mb k rb now ts ls
  | 0 => h
  | n + 1 => (Both.drewN h n).drew

def PlaysRel (W wr : World) (B cb mb rb : Nat) (ops : List (Int × Int)) (j : Nat) : Prop :=
  ∃ k now ts ls, k ≤ j ∧ ls.length ≤ j ∧ Both W wr B cb mb k rb now ts ls ∧ j ≤ ops.length

set_option maxHeartbeats 4000000 in
theorem plays_short (now : Int) (hn : (Lit.int .u64 now).wf = true) (v : Value) (ops : List (Int × Int)) (w : World) (ho : OpsAt w v ops) (hlen : ops.length ≤ 200) :
    Calls Try.prog 5 #[.int .u64 now, v] w fun e w' => e = .returned (.bool true) ∧ Below w.heap.size w w' := by
  obtain ⟨a, cap, rfl, hcells⟩ := ho
  have HC := Lib.hid hcells; clear hcells
  have HN := Lib.hid hn; clear hn
  go_enter Try.func5, Try.ntmps5
  go_wp2_with fail
  refine (awake13 w).mono ?_
  rintro e w1 ⟨rfl, hb1⟩
  go_wp2_with fail
  refine (clk_new now w1).mono ?_
  rintro e w2 ⟨rfl, rfl⟩
  go_wp2_with fail
  have h0 := both_made w w1 w.heap.size hb1.size hb1 now HN.out
  generalize (((w1.alloc (.map #[] 0)).alloc (.cells #[.int .u64 now, .map (some w1.heap.size)] 51)).alloc (.cells #[.int .u64 now, .slice none 0 0, .slice none 0 0] 31)) = w2 at h0 ⊢
  have H0 := Lib.hid h0; clear h0
  generalize w1.heap.size + 1 + 1 = rb at H0 ⊢
  generalize w1.heap.size + 1 = cb at H0 ⊢
  go_loopw [7] (fun i wr => ∃ j : Nat, i = .int .i64 j ∧ PlaysRel w wr w.heap.size cb w1.heap.size rb ops j) (fun i _ => ops.length - (intOf i).toNat)
  case atStart => exact ⟨0, rfl, 0, now, [], [], Nat.le_refl _, Nat.le_refl _, H0.out, Nat.zero_le _⟩
  case round =>
    obtain ⟨j, rfl, k, now, ts, ls, hk, hls, hB, hj⟩ := hrel
    clear H0 HN
    have HB := Lib.hid hB; clear hB
    by_cases hlt : j < ops.length
    · obtain ⟨⟨kd, n⟩, hop⟩ : ∃ x, ops[j]? = some x := ⟨ops[j], List.getElem?_eq_getElem hlt⟩
      obtain ⟨b, off, rfl, x1, x2, hwn⟩ := HC.out j kd n hop
      have hbb : ∀ o, w.cell? ⟨b, o, none⟩ ≠ none → wr.cell? ⟨b, o, none⟩ = w.cell? ⟨b, o, none⟩ := fun o h => HB.out.bel.cell (p := ⟨b, o, none⟩) (lt_of_cell h)
      have y1 : wr.cell? ⟨b, off + j * 2, none⟩ = some (.int .i64 kd) := by rw [hbb _ (by rw [x1]; simp)]; exact x1
      have y2 : wr.cell? ⟨b, off + j * 2 + 1, none⟩ = some (.int .i64 n) := by rw [hbb _ (by rw [x2]; simp)]; exact x2
      clear hbb x1 x2 hop
      have HW := Lib.hid hwn; clear hwn
      have HA := Lib.hid (act_any kd n HW.out HB.out.drew (by omega) (by omega))
      have hll := stepL_len kd n ls
      clear HW
      generalize stepN kd now = now' at *
      generalize stepT kd now ts ls = ts' at *
      generalize stepL kd n ls = ls' at *
      go_wp2_with fail
      go_region_with (first
        | (go_at_call 12; go_must (refine HA.out.mono ?_; rintro e w3 ⟨rfl, k', hk', hB'⟩; have HB1 := Lib.hid hB'; clear hB'; have z1 := HB1.out.refNow))
        | (go_at_call 10; go_must (refine (clk_now _ _ _ HB1.out.clk.c0).mono ?_; rintro e w4 ⟨rfl, rfl⟩))
        | (go_at_call 11; go_must (refine (clk_oldest _ HB1.out.clk).mono ?_; rintro e w4 ⟨t1, rfl, ho1, hb1⟩; have HO1 := Lib.hid ho1; have HB2 := Lib.hid (HB1.out.below hb1); clear ho1 hb1))
        | (go_at_call 18; go_must (refine (both_oldest_ref HB2.out (by omega)).mono ?_; rintro e w5 ⟨⟨t2, rfl, ho2⟩, rfl⟩; obtain rfl := oldest_one HO1.out ho2; clear ho2))
        | (go_at_call 17; go_must (refine (clk_live HB2.out.len _ HB2.out.clk (by omega)).mono ?_; rintro e w6 ⟨v1, rfl, hv1, hb6⟩; have HV1 := Lib.hid hv1; have HB3 := Lib.hid (HB2.out.below hb6); clear hv1 hb6))
        | (go_at_call 20; go_must (refine (both_live_ref HB3.out (by omega)).mono ?_; rintro e w7 ⟨v2, rfl, hv2, hb7⟩; have HV2 := Lib.hid (own_below HV1.out hb7); have HV3 := Lib.hid hv2; have HB4 := Lib.hid (HB3.out.below hb7); clear hv2 hb7))
        | (go_at_call 19; go_must (refine (ints_same _ _ _ _ HV2.out HV3.out (Nat.le_trans (liveTo_len _ _) (by omega))).mono ?_; rintro e w8 ⟨rfl, nq, rfl⟩)))
      all_goals
        go_wp2_with fail
        go_roundw
        case rel => exact ⟨j + 1, by go_num, k', now', ts', ls', by omega, by omega, HB4.out.drewN nq, hlt⟩
        case measure => simp [intOf]; omega
    · go_wp2_with fail
      go_ret
      exact ⟨rfl, HB.out.bel⟩

end Go.Proofs.Ythdbmmefnlediaa
