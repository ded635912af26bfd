/- ClockNil and ClockNumbers: the laws' walks. -/
import Derived.Test.YthdbmmefnlediaaClockG
namespace Go.Proofs.Ythdbmmefnlediaa
open Go.RowKit Go.Maps

theorem nil_tick (w : World) : Calls Try.prog 14 #[.pointer none] w fun e w' => e = .returned (.tuple #[.int .u64 0, .int .i64 1]) ∧ w = w' := by
  go_enter Try.func14, Try.ntmps14
  go_wp2
  go_ret2
  exact ⟨rfl, rfl⟩
theorem nil_time (w : World) (id : Int) : Calls Try.prog 15 #[.pointer none, .int .i64 id] w fun e w' => e = .returned (.tuple #[.int .u64 0, .bool false]) ∧ w = w' := by
  go_enter Try.func15, Try.ntmps15
  go_wp2
  go_ret2
  exact ⟨rfl, rfl⟩
theorem nil_drop (w : World) (id : Int) : Calls Try.prog 16 #[.pointer none, .int .i64 id] w fun e w' => e = .returned (.bool false) ∧ w = w' := by
  go_enter Try.func16, Try.ntmps16
  go_wp2
  go_ret
  exact ⟨rfl, rfl⟩
theorem nil_now (w : World) : Calls Try.prog 10 #[.pointer none] w fun e w' => e = .returned (.int .u64 0) ∧ w = w' := by
  go_enter Try.func10, Try.ntmps10
  go_wp2
  go_ret
  exact ⟨rfl, rfl⟩
theorem nil_oldest (w : World) : Calls Try.prog 11 #[.pointer none] w fun e w' => e = .returned (.int .u64 0) ∧ w = w' := by
  go_enter Try.func11, Try.ntmps11
  go_wp2
  go_ret
  exact ⟨rfl, rfl⟩
theorem nil_take (w : World) : Calls Try.prog 13 #[.pointer none] w fun e w' => e = .returned (.int .i64 0) ∧ w = w' := by
  go_enter Try.func13, Try.ntmps13
  go_wp2
  go_ret
  exact ⟨rfl, rfl⟩
theorem nil_live (w : World) : Calls Try.prog 17 #[.pointer none] w fun e w' => e = .returned (.slice none 0 0) ∧ w = w' := by
  go_enter Try.func17, Try.ntmps17
  go_wp2
  go_ret
  exact ⟨rfl, rfl⟩

set_option maxHeartbeats 1000000 in
theorem ClockNil.walk (id : Int) (w : World) : Calls Try.prog 7 #[.int .i64 id] w fun e w' => e = .returned (.bool true) ∧ Below w.heap.size w w' := by
  go_enter Try.func7, Try.ntmps7
  go_wp2_with fail
  refine (awake13 w).mono ?_
  rintro e w1 ⟨rfl, hb1⟩
  go_wp2_with fail
  refine (nil_tick w1).mono ?_
  rintro e w2 ⟨rfl, rfl⟩
  go_wp2_with fail
  refine (nil_time w1 id).mono ?_
  rintro e w2 ⟨rfl, rfl⟩
  go_wp2_with fail
  refine (clk_new 18446744073709551615 w1).mono ?_
  rintro e w2 ⟨rfl, rfl⟩
  have hc := clk_made 18446744073709551615 w1 (by decide)
  have hb2 : Below w.heap.size w ((w1.alloc (.map #[] 0)).alloc (.cells #[.int .u64 18446744073709551615, .map (some w1.heap.size)] 51)) := (hb1.alloc hb1.size _).alloc (by have := hb1.size; simp; omega) _
  generalize ((w1.alloc (.map #[] 0)).alloc (.cells #[.int .u64 18446744073709551615, .map (some w1.heap.size)] 51)) = w2 at hc hb2 ⊢
  have HC := Lib.hid hc; clear hc
  go_wp2_with fail
  refine (clk_tick_full w2 HC.out).mono ?_
  rintro e w3 ⟨rfl, rfl⟩
  go_wp2_with (first
    | (go_at_call 16; refine (nil_drop _ _).mono ?_; rintro e w3 ⟨rfl, rfl⟩)
    | (go_at_call 11; refine (nil_oldest _).mono ?_; rintro e w3 ⟨rfl, rfl⟩)
    | (go_at_call 13; refine (nil_take _).mono ?_; rintro e w3 ⟨rfl, rfl⟩)
    | (go_at_call 17; refine (nil_live _).mono ?_; rintro e w3 ⟨rfl, rfl⟩)
    | (go_at_call 10; ((with_reducible refine (nil_now _).mono ?_); rintro e w3 ⟨rfl, rfl⟩))
    | (go_at_call 10; refine (clk_now _ _ _ HC.out.c0).mono ?_; rintro e w3 ⟨rfl, rfl⟩))
  go_ret
  exact ⟨rfl, hb2⟩

theorem clk_takeL {b mb k : Nat} {n : Int} {ts : List Int} {ls : List Bool} (w : World) (h : Clk w b mb k n (liveAt ts ls)) (hl : ts.length = ls.length) (hls : ls.length ≤ 1000) (hk : k ≤ 1000) :
    Calls Try.prog 13 #[.pointer (some ⟨b, 0, none⟩)] w fun e w' => e = .returned (.int .i64 ((firstFree ls : Int) + 1)) ∧ ClkGo w w' b mb (k+1) n (liveAt (takeT n ts ls) (takeL ls)) := by
  have hle := firstFree_le ls
  refine (clk_take w (firstFree ls) h (by unfold maxLen; omega) (by omega) ?_ ?_).mono ?_
  · intro j h1 h2
    have := firstFree_all ls (j - 1) (by omega)
    rw [liveAt_in (j := j - 1) (by omega) (by omega), if_pos this]
    simp [hl]; omega
  · by_cases hf : firstFree ls < ls.length
    · rw [liveAt_in (j := firstFree ls) rfl hf, if_neg (by rw [firstFree_at ls hf]; simp)]
    · rw [liveAt_out (by omega)]
  · rintro e w' ⟨rfl, h1⟩
    refine ⟨rfl, ?_⟩
    rw [liveAt_take hl]; exact h1

theorem clk_dropL {b mb k : Nat} {n : Int} {ts : List Int} {ls : List Bool} (w : World) (id : Int) (h : Clk w b mb k n (liveAt ts ls)) (hid : (Lit.int .i64 id).wf = true) :
    Calls Try.prog 16 #[.pointer (some ⟨b, 0, none⟩), .int .i64 id] w fun e w' => e = .returned (.bool (liveAt ts ls id).isSome) ∧ ClkGo w w' b mb k n (liveAt ts (dropL id ls)) := by
  rw [liveAt_drop]; exact clk_drop w id h hid

/-- the times 0, 1, .. -/
def upTo (j : Nat) : List Int := (List.range j).map (fun i : Nat => (i : Int))
def allOn (j : Nat) : List Bool := List.replicate j true
theorem upTo_len (j : Nat) : (upTo j).length = j := by simp [upTo]
theorem allOn_len (j : Nat) : (allOn j).length = j := by simp [allOn]
theorem firstFree_allOn : ∀ j, firstFree (allOn j) = j
  | 0 => rfl
  | j + 1 => by rw [show allOn (j + 1) = true :: allOn j from List.replicate_succ]; simp only [firstFree, if_true]; rw [firstFree_allOn j]
theorem take_allOn (j : Nat) : takeT (j : Int) (upTo j) (allOn j) = upTo (j + 1) ∧ takeL (allOn j) = allOn (j + 1) := by
  unfold takeT takeL
  rw [firstFree_allOn, allOn_len, if_neg (by omega), if_neg (by omega)]
  refine ⟨?_, ?_⟩
  · unfold upTo; rw [List.range_succ, List.map_append]; rfl
  · unfold allOn; rw [List.replicate_succ']
theorem liveAt_upTo {j i : Nat} (h : i < j) : liveAt (upTo j) (allOn j) ((i : Int) + 1) = some (i : Int) := by
  rw [liveAt_in rfl (by rw [allOn_len]; exact h)]
  simp [upTo, allOn, h]
theorem dropL_allOn {j i : Nat} (h : i < j) : dropL ((i : Int) + 1) (allOn j) = (allOn j).set i false := by
  unfold dropL; rw [allOn_len, if_pos (by omega), show ((i : Int) + 1 - 1).toNat = i from by omega]
theorem firstFree_set : ∀ {j i : Nat}, i < j → firstFree ((allOn j).set i false) = i
  | j + 1, 0, _ => by rw [show allOn (j + 1) = true :: allOn j from List.replicate_succ]; rfl
  | j + 1, i + 1, h => by
    rw [show allOn (j + 1) = true :: allOn j from List.replicate_succ, List.set_cons_succ]
    simp only [firstFree, if_true]
    rw [firstFree_set (by omega)]
theorem takeL_set {j i : Nat} (h : i < j) : takeL ((allOn j).set i false) = allOn j := by
  unfold takeL
  rw [firstFree_set h, List.length_set, allOn_len, if_pos h, List.set_set]
  unfold allOn
  apply List.ext_getElem?
  intro k
  rw [List.getElem?_set]
  split
  · rename_i e; subst e; simp [h]
  · rfl
theorem takeT_len (now : Int) (ts : List Int) (ls : List Bool) (hl : ts.length = ls.length) : (takeT now ts ls).length = (takeL ls).length := by
  unfold takeT takeL; split <;> simp [hl]
theorem liveTo_allOn (j : Nat) : ∀ k, k ≤ j → (liveTo (allOn j) k).length = k
  | 0, _ => rfl
  | k + 1, h => by rw [liveTo_yes (by unfold allOn; rw [List.getElem?_replicate, if_pos (by omega)]), List.length_append, liveTo_allOn j k (by omega)]; rfl

structure NumRel (W wr : World) (cb mb : Nat) (j : Nat) : Prop where
  clk : ∃ k, k ≤ j ∧ Clk wr cb mb k (j : Int) (liveAt (upTo j) (allOn j))
  bel : Below W.heap.size W wr
  lc : W.heap.size ≤ cb
  lm : W.heap.size ≤ mb

theorem ClkGo.below {W w w' : World} {cb mb k : Nat} {now : Int} {f : Int → Option Int} (h : ClkGo w w' cb mb k now f) (hb : Below W.heap.size W w) (hm : W.heap.size ≤ mb) : Below W.heap.size W w' :=
  hb.grown h.gr hb.size (fun k e => by cases e; exact hm)

set_option maxHeartbeats 1000000 in
theorem ClockNumbers.walk (n at' : Nat) (hn : n ≤ 255) (ha : at' ≤ 255) (w : World) : Calls Try.prog 4 #[.int .u8 n, .int .u8 at'] w fun e w' => e = .returned (.bool true) ∧ Below w.heap.size w w' := by
  go_enter Try.func4, Try.ntmps4
  go_wp2_with fail
  refine (awake13 w).mono ?_
  rintro e w1 ⟨rfl, hb1⟩
  go_wp2_with fail
  refine (clk_new 0 w1).mono ?_
  rintro e w2 ⟨rfl, rfl⟩
  have h0 : NumRel w ((w1.alloc (.map #[] 0)).alloc (.cells #[.int .u64 0, .map (some w1.heap.size)] 51)) (w1.heap.size + 1) w1.heap.size 0 := by
    have hc := clk_made 0 w1 (by decide)
    have hf : liveAt (upTo 0) (allOn 0) = fun _ => none := by funext k; exact liveAt_out (by rw [allOn_len]; omega)
    have hs := hb1.size
    refine ⟨⟨0, Nat.le_refl _, by rw [hf]; exact hc⟩, (hb1.alloc hb1.size _).alloc (by simp; omega) _, by omega, hs⟩
  have H0 := Lib.hid h0; clear h0
  generalize ((w1.alloc (.map #[] 0)).alloc (.cells #[.int .u64 0, .map (some w1.heap.size)] 51)) = w2 at H0 ⊢
  generalize w1.heap.size + 1 = cb at H0 ⊢
  generalize w1.heap.size = mb at H0
  clear hb1
  go_wp2_with fail
  go_loopw [6] (fun i wr => ∃ j : Nat, i = .int .i64 ((j : Int) + 1) ∧ j ≤ n ∧ NumRel w wr cb mb j) (fun i _ => n + 2 - (intOf i).toNat)
  case atStart => exact ⟨0, rfl, Nat.zero_le _, H0.out⟩
  case round =>
    obtain ⟨j, rfl, hj, hr⟩ := hrel
    have HR := Lib.hid hr
    clear H0
    obtain ⟨⟨k, hk, hc⟩, hbel, hlc, hlm⟩ := hr
    have HC := Lib.hid hc; clear hc
    by_cases hlt : j < n
    · go_wp2_with fail
      refine (clk_takeL _ HC.out (by rw [upTo_len, allOn_len]) (by rw [allOn_len]; omega) (by omega)).mono ?_
      rintro e w3 ⟨rfl, h1⟩
      have hb3 := h1.below hbel hlm
      have hcl := h1.clk
      rw [(take_allOn j).1, (take_allOn j).2] at hcl
      have HC1 := Lib.hid hcl
      clear hcl h1 HR HC
      rw [firstFree_allOn]
      go_wp2_with fail
      refine (clk_tick _ HC1.out (by omega)).mono ?_
      rintro e w4 ⟨rfl, rfl⟩
      go_wp2_with fail
      go_roundw
      case rel =>
        refine ⟨j + 1, by go_num, by omega, ⟨k + 1, by omega, ?_⟩, hb3.trans ?_, hlc, hlm⟩
        · have := HC1.out.set (now' := ((j + 1 : Nat) : Int)) (by simp [Lit.wf, IntKind.min, IntKind.max, IntKind.bits, IntKind.signed]; omega)
          simpa using this
        · exact Below.set_ge hlc _
      case measure => simp [intOf]; omega
    · obtain rfl : j = n := by omega
      clear HR
      by_cases hz : j = 0
      · subst hz
        go_wp2_with fail
        refine (clk_takeL _ HC.out (by rw [upTo_len, allOn_len]) (by rw [allOn_len]; omega) (by omega)).mono ?_
        rintro e w3 ⟨rfl, h1⟩
        have hb3 := h1.below hbel hlm
        rw [firstFree_allOn]
        clear h1
        go_wp2_with fail
        go_ret
        exact ⟨rfl, hb3⟩
      · have hz1 : ((j : Int) == 0) = false := by simpa using hz
        have hz2 : 1 ≤ j := by omega
        clear hz
        go_wp2_with fail
        obtain ⟨q, hq, hqe⟩ : ∃ q : Nat, q < j ∧ (1 + (at' : Int) % (j : Int)) = (q : Int) + 1 :=
          ⟨at' % j, Nat.mod_lt _ hz2, by rw [Int.add_comm]; simp⟩
        rw [hqe]
        have hwr : wrap64 ((q : Int) + 1) = (q : Int) + 1 := IntWalk.wrap64_in _ ⟨by omega, by omega⟩
        simp only [hwr]
        clear hqe hwr
        have hid : (Lit.int .i64 ((q : Int) + 1)).wf = true := WalkArith.wf_i64 (by omega)
        have hlv := liveAt_upTo hq
        have HT := Lib.hid (clk_time wr ((q : Int) + 1) HC.out hid)
        have HD := Lib.hid (clk_dropL wr ((q : Int) + 1) HC.out hid)
        rw [hlv, dropL_allOn hq] at HD
        rw [hlv] at HT
        clear hlv hid
        refine HT.out.mono ?_
        rintro e w3 ⟨rfl, rfl⟩
        have hcv : IntKind.u64.wrap (q : Int) = (q : Int) := by simp [IntKind.wrap, IntKind.bits, IntKind.signed]; omega
        simp only [Option.getD_some, Option.isSome_some] at HD ⊢
        go_wp2_with fail
        refine HD.out.mono ?_
        rintro e w3 ⟨rfl, h1⟩
        have hb3 := h1.below hbel hlm
        have HC1 := Lib.hid (clk_takeL _ h1.clk (by rw [upTo_len, List.length_set, allOn_len]) (by rw [List.length_set, allOn_len]; omega) (by omega))
        rw [firstFree_set hq, takeL_set hq] at HC1
        have hl4 := takeT_len (j : Int) (upTo j) ((allOn j).set q false) (by rw [upTo_len, List.length_set, allOn_len])
        rw [takeL_set hq, allOn_len] at hl4
        clear h1 HD HT HC
        go_wp2_with fail
        refine HC1.out.mono ?_
        rintro e w4 ⟨rfl, h2⟩
        have hb4 := h2.below hb3 hlm
        have h2c := h2.clk
        clear h2 HC1
        generalize takeT (j : Int) (upTo j) ((allOn j).set q false) = ts4 at h2c hl4
        have HC2 := Lib.hid (clk_takeL _ h2c (by rw [hl4, allOn_len]) (by rw [allOn_len]; omega) (by omega))
        have hl5 := takeT_len (j : Int) ts4 (allOn j) (by rw [hl4, allOn_len])
        rw [firstFree_allOn, (take_allOn j).2] at HC2
        rw [(take_allOn j).2, allOn_len] at hl5
        clear h2c
        go_wp2_with fail
        refine HC2.out.mono ?_
        rintro e w5 ⟨rfl, h3⟩
        have hb5 := h3.below hb4 hlm
        have h3c := h3.clk
        clear h3 HC2
        generalize takeT (j : Int) ts4 (allOn j) = ts5 at h3c hl5
        have HL := Lib.hid (clk_live (by rw [hl5, allOn_len]) w5 h3c (by omega))
        rw [allOn_len, liveTo_allOn _ _ (Nat.le_refl _)] at HL
        clear h3c hl4 hl5
        go_wp2_with fail
        refine HL.out.mono ?_
        rintro e w6 ⟨v, rfl, hv, hb6⟩
        obtain ⟨g, c, rfl⟩ := slice_of_own hv
        clear hv
        go_wp2_with fail
        go_ret
        exact ⟨rfl, hb5.trans (hb6.mono hb5.size)⟩

end Go.Proofs.Ythdbmmefnlediaa
