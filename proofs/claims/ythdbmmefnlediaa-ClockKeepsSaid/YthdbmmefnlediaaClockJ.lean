/- ClockKeeps: the law's walk. -/
import Derived.Test.YthdbmmefnlediaaClockH
namespace Go.Proofs.Ythdbmmefnlediaa
open Go.RowKit Go.Maps

def KeepsRel (W wr : World) (B cb mb rb : Nat) (j : Nat) (x : Option (Int × Int)) : Prop :=
  ∃ k now ts ls, k ≤ j ∧ ls.length ≤ j ∧ Both W wr B cb mb k rb now ts ls ∧ ∀ id t, x = some (id, t) → liveAt ts ls id = some t

theorem step_keeps {kd n now id t : Int} {ts : List Int} {ls : List Bool} (hl : ts.length = ls.length) (h : liveAt ts ls id = some t) (hne : ¬ (kd = 3 ∧ n = id)) : liveAt (stepT kd now ts ls) (stepL kd n ls) id = some t := by
  unfold stepT stepL
  by_cases h2 : kd = 2
  · simp only [h2, if_true]
    rw [liveAt_take hl]
    have : id ≠ (firstFree ls : Int) + 1 := by
      rintro rfl
      by_cases hf : firstFree ls < ls.length
      · rw [liveAt_in (j := firstFree ls) rfl hf, if_neg (by rw [firstFree_at ls hf]; simp)] at h; cases h
      · rw [liveAt_out (by omega)] at h; cases h
    simp only [this, if_false]; exact h
  · simp only [h2, if_false]
    by_cases h3 : kd = 3
    · simp only [h3, if_true]
      rw [liveAt_drop]
      have : id ≠ n := fun e => hne ⟨h3, e.symm⟩
      simp only [this, if_false]; exact h
    · simp only [h3, if_false]; exact h

theorem free_not_live {ts : List Int} {ls : List Bool} (hl : ts.length = ls.length) : ∀ x ∈ liveTo ls ls.length, x ≠ (firstFree ls : Int) + 1 := by
  rintro x hx rfl
  rw [liveTo_mem hl] at hx
  by_cases hf : firstFree ls < ls.length
  · rw [liveAt_in (j := firstFree ls) rfl hf, if_neg (by rw [firstFree_at ls hf]; simp)] at hx; cases hx
  · rw [liveAt_out (by omega)] at hx; cases hx

theorem Both.len {W w : World} {B cb mb k rb : Nat} {now : Int} {ts : List Int} {ls : List Bool} (h : Both W w B cb mb k rb now ts ls) : ts.length = ls.length := by
  obtain ⟨tv, lv, hr⟩ := h.ref; exact hr.len

theorem both_take2 {W w : World} {B cb mb k rb : Nat} {now : Int} {ts : List Int} {ls : List Bool} (h : Both W w B cb mb k rb now ts ls) (hls : ls.length ≤ 1000) (hk : k ≤ 1000) :
    Calls Try.prog 13 #[.pointer (some ⟨cb, 0, none⟩)] w fun e w' => e = .returned (.int .i64 ((firstFree ls : Int) + 1)) ∧ w.grownBy w' (some mb) ∧ w'.cell? ⟨cb, 0, none⟩ = some (.int .u64 now) ∧
      Calls Try.prog 21 #[.pointer (some ⟨rb, 0, none⟩)] w' fun e w'' => e = .returned (.int .i64 ((firstFree ls : Int) + 1)) ∧ RSame w' w'' ∧ Both W w'' B cb mb (k+1) rb now (takeT now ts ls) (takeL ls) := by
  have hle := firstFree_le ls
  have hl := h.len
  refine (clk_takeL w h.clk hl hls hk).mono ?_
  rintro e w' ⟨rfl, h1⟩
  refine ⟨rfl, h1.gr, h1.clk.c0, ?_⟩
  obtain ⟨_, _, tv, lv, hr⟩ := h.clkGo h1
  have h1' := h1
  rw [liveAt_take hl] at h1'
  by_cases hf : firstFree ls < ls.length
  · refine (ref_take_hit w' (firstFree ls) hr hls hf (firstFree_all ls) (firstFree_at ls hf)).mono ?_
    rintro e w'' ⟨rfl, h2⟩
    refine ⟨rfl, h2.same, h.took hl h1' ?_⟩
    unfold takeT takeL; rw [if_pos hf, if_pos hf]; exact h2
  · have hfe : firstFree ls = ls.length := by omega
    refine (ref_take_new w' hr hls (fun j hj => firstFree_all ls j (by omega))).mono ?_
    rintro e w'' ⟨rfl, h2⟩
    refine ⟨by rw [hfe], h2.same, h.took hl h1' ?_⟩
    unfold takeT takeL; rw [if_neg hf, if_neg hf]; exact h2

theorem ints_kept {w w' : World} {B mb : Nat} {v : Value} {n : Nat} {xs : List Value} (h : w.ownsRow B 3 1 v n xs) (hm : ∃ es c, w.heap[mb]? = some (.map es c)) (hg : w.grownBy w' (some mb)) : w'.ownsRow B 3 1 v n xs := by
  refine h.kept hg ?_
  rcases own_form h with ⟨rfl, _⟩ | ⟨g, cap, rfl, _, _, _, _, _, cur, hgg⟩
  · exact .inl rfl
  · right; intro e; simp [Value.ownBlock] at e; subst e
    obtain ⟨es, c, hm⟩ := hm
    rw [hm] at hgg; cases hgg
theorem ints_same2 {w w' : World} {B : Nat} {v : Value} {n : Nat} {xs : List Value} (h : w.ownsRow B 3 1 v n xs) (hs : RSame w w') : w'.ownsRow B 3 1 v n xs := by
  refine ⟨h.1, ?_⟩
  rcases h.2 with hn | ⟨g, cap, cur, rfl, hb, hgg, rest⟩
  · exact .inl hn
  · exact .inr ⟨g, cap, cur, rfl, hb, hs g _ hgg (by intro c e f he; cases he; decide), rest⟩

set_option maxHeartbeats 1000000 in
theorem keeps_long (v1 v2 : Value) (ops1 ops2 : List (Int × Int)) (w : World) (h1 : OpsAt w v1 ops1) (h2 : OpsAt w v2 ops2) (hlen : 200 < ops1.length ∨ 200 < ops2.length) (hm1 : ops1.length ≤ 9223372036854775807) (hm2 : ops2.length ≤ 9223372036854775807) :
    Calls Try.prog 6 #[v1, v2] w fun e w' => e = .returned (.bool true) ∧ Below w.heap.size w w' := by
  obtain ⟨a1, cap1, rfl, _⟩ := h1
  obtain ⟨a2, cap2, rfl, _⟩ := h2
  by_cases hc : 200 < ops1.length
  · clear hlen
    go_enter Try.func6, Try.ntmps6
    go_wp2_with fail
    refine (awake13 w).mono ?_
    rintro e w1 ⟨rfl, hb1⟩
    go_wp2_with fail
    refine (awake13 w1).mono ?_
    rintro e w2 ⟨rfl, hb2⟩
    go_wp2_with fail
    go_ret
    exact ⟨rfl, hb1.trans (hb2.mono hb1.size)⟩
  · have hd : 200 < ops2.length := by omega
    clear hlen
    go_enter Try.func6, Try.ntmps6
    go_wp2_with fail
    refine (awake13 w).mono ?_
    rintro e w1 ⟨rfl, hb1⟩
    go_wp2_with fail
    refine (awake13 w1).mono ?_
    rintro e w2 ⟨rfl, hb2⟩
    go_wp2_with fail
    go_ret
    exact ⟨rfl, hb1.trans (hb2.mono hb1.size)⟩

set_option maxHeartbeats 4000000 in
theorem keeps_short (v1 v2 : Value) (ops1 ops2 : List (Int × Int)) (w : World) (h1 : OpsAt w v1 ops1) (h2 : OpsAt w v2 ops2) (hl1 : ops1.length ≤ 200) (hl2 : ops2.length ≤ 200) :
    Calls Try.prog 6 #[v1, v2] w fun e w' => e = .returned (.bool true) ∧ Below w.heap.size w w' := by
  obtain ⟨a1, cap1, rfl, hcells1⟩ := h1
  obtain ⟨a2, cap2, rfl, hcells2⟩ := h2
  have HC1 := Lib.hid hcells1; clear hcells1
  have HC2 := Lib.hid hcells2; clear hcells2
  go_enter Try.func6, Try.ntmps6
  go_wp2_with fail
  refine (awake13 w).mono ?_
  rintro e w1 ⟨rfl, hb1⟩
  go_wp2_with fail
  refine (clk_new 7 w1).mono ?_
  rintro e w2 ⟨rfl, rfl⟩
  go_wp2_with fail
  have h0 := both_made w w1 w.heap.size hb1.size hb1 7 (by decide)
  generalize (((w1.alloc (.map #[] 0)).alloc (.cells #[.int .u64 7, .map (some w1.heap.size)] 51)).alloc (.cells #[.int .u64 7, .slice none 0 0, .slice none 0 0] 31)) = w2 at h0 ⊢
  have H0 := Lib.hid h0; clear h0
  generalize w1.heap.size + 1 + 1 = rb at H0 ⊢
  generalize w1.heap.size + 1 = cb at H0 ⊢
  go_loopw [7] (fun i wr => ∃ j : Nat, i = .int .i64 j ∧ j ≤ ops1.length ∧ KeepsRel w wr w.heap.size cb w1.heap.size rb j none) (fun i _ => ops1.length - (intOf i).toNat)
  case atStart => exact ⟨0, rfl, Nat.zero_le _, 0, 7, [], [], Nat.le_refl _, Nat.le_refl _, H0.out, fun _ _ h => by cases h⟩
  case round =>
    obtain ⟨j, rfl, hj, k, now, ts, ls, hk, hls, hB, _⟩ := hrel
    clear H0
    have HB := Lib.hid hB; clear hB
    by_cases hlt : j < ops1.length
    · obtain ⟨⟨kd, n⟩, hop⟩ : ∃ x, ops1[j]? = some x := ⟨ops1[j], List.getElem?_eq_getElem hlt⟩
      obtain ⟨b, off, rfl, x1, x2, hwn⟩ := HC1.out j kd n hop
      have hbb : ∀ o, w.cell? ⟨b, o, none⟩ ≠ none → wr.cell? ⟨b, o, none⟩ = w.cell? ⟨b, o, none⟩ := fun o h => HB.out.bel.cell (p := ⟨b, o, none⟩) (lt_of_cell h)
      have y1 : wr.cell? ⟨b, off + j * 2, none⟩ = some (.int .i64 kd) := by rw [hbb _ (by rw [x1]; simp)]; exact x1
      have y2 : wr.cell? ⟨b, off + j * 2 + 1, none⟩ = some (.int .i64 n) := by rw [hbb _ (by rw [x2]; simp)]; exact x2
      clear hbb x1 x2 hop
      have HW := Lib.hid hwn; clear hwn
      have hll := stepL_len kd n ls
      go_wp2_with fail
      refine (act_any kd n HW.out HB.out (by omega) (by omega)).mono ?_
      rintro e w3 ⟨rfl, k', hk', hB'⟩
      have HB1 := Lib.hid hB'; clear hB'
      go_wp2_with fail
      go_roundw
      case rel => exact ⟨j + 1, by go_num, hlt, k', _, _, _, by omega, by omega, HB1.out, fun _ _ h => by cases h⟩
      case measure => simp [intOf]; omega
    · go_wp2_with fail
      refine (clk_live HB.out.len _ HB.out.clk (by omega)).mono ?_
      rintro e w3 ⟨lv, rfl, hlv, hb3⟩
      have HB1 := Lib.hid (HB.out.below hb3)
      have HLV := Lib.hid hlv
      clear hb3 hlv HB
      have HF := Lib.hid (free_not_live HB1.out.len)
      have hlt2 := liveTo_len ls ls.length
      generalize liveTo ls ls.length = lst at HLV HF hlt2
      obtain ⟨al, cl, rfl⟩ : ∃ a c, lv = .slice a lst.length c := by
        rcases own_form HLV.out with ⟨rfl, h0, _⟩ | ⟨g, cap, rfl, _⟩
        · exact ⟨none, 0, by rw [h0]⟩
        · exact ⟨_, _, rfl⟩
      have hmap : ∃ es c, w3.heap[w1.heap.size]? = some (.map es c) := by obtain ⟨D, ⟨es, c, hb, _⟩, _⟩ := HB1.out.clk.own; exact ⟨es, c, hb⟩
      have HM := Lib.hid hmap; clear hmap
      go_wp2_with fail
      refine (both_take2 HB1.out (by omega) (by omega)).mono ?_
      rintro e w4 ⟨rfl, hg4, hc4, h4⟩
      have HLV4 := Lib.hid (ints_kept HLV.out HM.out hg4)
      have H4 := Lib.hid h4
      have hlen4 := takeL_len ls
      have hlv4 : liveAt (takeT now ts ls) (takeL ls) ((firstFree ls : Int) + 1) = some now := by rw [liveAt_take HB1.out.len]; simp
      have HV4 := Lib.hid hlv4
      have hff := firstFree_le ls
      clear h4 hg4 HLV HM HB1 hlv4
      generalize (firstFree ls) = ff at H4 HF HV4 hff ⊢
      go_wp2_with fail
      refine (clk_now _ _ _ hc4).mono ?_
      rintro e w5 ⟨rfl, rfl⟩
      clear hc4
      go_wp2_with fail
      refine H4.out.mono ?_
      rintro e w5 ⟨rfl, hs5, hB5⟩
      have HLV5 := Lib.hid (ints_same2 HLV4.out hs5)
      have HB5 := Lib.hid hB5
      clear hs5 hB5 HLV4 H4
      generalize takeT now ts ls = ts5 at HB5 HV4
      generalize takeL ls = ls5 at HB5 HV4 hlen4
      have hcl : ∀ (i : Nat) x, lst[i]? = some x → (∃ g, al = some ⟨g, 0, none⟩ ∧ w5.cell? ⟨g, i, none⟩ = some (.int .i64 x)) ∧ x ≠ (ff : Int) + 1 := by
        intro i x hx
        refine ⟨?_, HF.out x (List.mem_of_getElem? hx)⟩
        have hi : i < lst.length := (List.getElem?_eq_some_iff.1 hx).1
        rcases own_form HLV5.out with ⟨e, h0, _⟩ | ⟨g, cap, e, _, _, _, hcell, _⟩
        · omega
        · cases e; exact ⟨g, rfl, hcell i _ (by simp [hx])⟩
      have HCL := Lib.hid hcl
      clear hcl HLV5 HF
      go_wp2_with fail
      go_loop [11] (fun i => ∃ q : Nat, i = .int .i64 q ∧ q ≤ lst.length) (fun i => lst.length - (intOf i).toNat)
      case atStart => exact ⟨0, rfl, Nat.zero_le _⟩
      case round =>
        obtain ⟨q, rfl, hq⟩ := hrel
        by_cases hql : q < lst.length
        · obtain ⟨x, hx⟩ : ∃ x, lst[q]? = some x := ⟨lst[q], List.getElem?_eq_getElem hql⟩
          obtain ⟨⟨g, rfl, y1⟩, hxn⟩ := HCL.out q x hx
          have hxb : (x == (ff : Int) + 1) = false := by simpa using hxn
          clear hx hxn
          go_wp2_with fail
          go_round
          case rel => exact ⟨q + 1, by go_num, hql⟩
          case measure => simp [intOf]; omega
        · clear HCL HC1
          go_wp2_with fail
          go_loopw [12] (fun i wr => ∃ j : Nat, i = .int .i64 j ∧ j ≤ ops2.length ∧ KeepsRel w wr w.heap.size cb w1.heap.size rb (j + 201) (some ((ff : Int) + 1, now))) (fun i _ => ops2.length - (intOf i).toNat)
          case atStart => exact ⟨0, rfl, Nat.zero_le _, k + 1, now, ts5, ls5, by omega, by omega, HB5.out, fun id t h => by cases h; exact HV4.out⟩
          case round =>
            obtain ⟨i2, rfl, hi2, k2, now2, ts2, ls2, hk2, hls2, hB2, hlv2⟩ := hrel
            have hlv2 := hlv2 _ _ rfl
            clear HB5 HV4
            have HB := Lib.hid hB2; clear hB2
            have HV := Lib.hid hlv2; clear hlv2
            by_cases hlt2 : i2 < ops2.length
            · obtain ⟨⟨kd, n⟩, hop⟩ : ∃ x, ops2[i2]? = some x := ⟨ops2[i2], List.getElem?_eq_getElem hlt2⟩
              obtain ⟨b, off, rfl, x1, x2, hwn⟩ := HC2.out i2 kd n hop
              have hbb : ∀ o, w.cell? ⟨b, o, none⟩ ≠ none → wr.cell? ⟨b, o, none⟩ = w.cell? ⟨b, o, none⟩ := fun o h => HB.out.bel.cell (p := ⟨b, o, none⟩) (lt_of_cell h)
              have y1 : wr.cell? ⟨b, off + i2 * 2, none⟩ = some (.int .i64 kd) := by rw [hbb _ (by rw [x1]; simp)]; exact x1
              have y2 : wr.cell? ⟨b, off + i2 * 2 + 1, none⟩ = some (.int .i64 n) := by rw [hbb _ (by rw [x2]; simp)]; exact x2
              clear hbb x1 x2 hop
              have HW := Lib.hid hwn; clear hwn
              have hll := stepL_len kd n ls2
              by_cases h3 : kd = 3
              · subst h3
                by_cases hn : n = (ff : Int) + 1
                · subst hn
                  go_wp2_with fail
                  go_roundw
                  case rel => exact ⟨i2 + 1, by go_num, hlt2, k2, now2, ts2, ls2, by omega, by omega, HB.out, fun id t h => by cases h; exact HV.out⟩
                  case measure => simp [intOf]; omega
                · have hnb : (n == (ff : Int) + 1) = false := by simpa using hn
                  have HN := Lib.hid hn; clear hn
                  go_wp2_with fail
                  refine (act_any 3 n HW.out HB.out (by omega) (by omega)).mono ?_
                  rintro e w6 ⟨rfl, k', hk', hB'⟩
                  have HB1 := Lib.hid hB'; clear hB'
                  go_wp2_with fail
                  go_roundw
                  case rel => exact ⟨i2 + 1, by go_num, hlt2, k', _, _, _, by omega, by omega, HB1.out, fun id t h => by cases h; exact step_keeps HB.out.len HV.out (fun e => HN.out e.2)⟩
                  case measure => simp [intOf]; omega
              · have h3b : (kd == 3) = false := by simpa using h3
                have H3 := Lib.hid h3; clear h3
                go_wp2_with fail
                refine (act_any kd n HW.out HB.out (by omega) (by omega)).mono ?_
                rintro e w6 ⟨rfl, k', hk', hB'⟩
                have HB1 := Lib.hid hB'; clear hB'
                go_wp2_with fail
                go_roundw
                case rel => exact ⟨i2 + 1, by go_num, hlt2, k', _, _, _, by omega, by omega, HB1.out, fun id t h => by cases h; exact step_keeps HB.out.len HV.out (fun e => H3.out e.1)⟩
                case measure => simp [intOf]; omega
            · have hid : (Lit.int .i64 ((ff : Int) + 1)).wf = true := WalkArith.wf_i64 (by omega)
              have HT := Lib.hid (clk_time wr ((ff : Int) + 1) HB.out.clk hid)
              rw [HV.out] at HT
              have HID := Lib.hid hid; clear hid
              simp only [Option.getD_some, Option.isSome_some] at HT
              go_wp2_with fail
              refine HT.out.mono ?_
              rintro e w6 ⟨rfl, rfl⟩
              clear HT
              go_wp2_with fail
              refine (clk_oldest _ HB.out.clk).mono ?_
              rintro e w6 ⟨t1, rfl, ho1, hb1⟩
              have ht1 : t1 ≤ now := ho1.2.1 _ _ HV.out
              have HB1 := Lib.hid (HB.out.below hb1)
              clear ho1 hb1 HB
              have HD := Lib.hid (clk_dropL w6 ((ff : Int) + 1) HB1.out.clk HID.out)
              rw [HV.out] at HD
              simp only [Option.isSome_some] at HD
              go_wp2_with fail
              refine HD.out.mono ?_
              rintro e w7 ⟨rfl, h7⟩
              obtain ⟨b7, c7, _⟩ := HB1.out.clkGo h7
              have HD2 := Lib.hid (clk_dropL w7 ((ff : Int) + 1) h7.clk HID.out)
              rw [liveAt_drop] at HD2
              simp only [if_true, Option.isSome_none] at HD2
              have hlm := HB1.out.lm
              clear h7 c7 HD
              go_wp2_with fail
              refine HD2.out.mono ?_
              rintro e w8 ⟨rfl, h8⟩
              have b8 := h8.below b7 hlm
              clear h8 HD2
              go_wp2_with fail
              go_ret
              exact ⟨rfl, b8⟩

end Go.Proofs.Ythdbmmefnlediaa
