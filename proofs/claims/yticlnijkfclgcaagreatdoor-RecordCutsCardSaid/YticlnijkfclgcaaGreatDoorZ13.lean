/- The reader of the program: number. -/
import Derived.Test.YticlnijkfclgcaaGreatDoorZ11
namespace Go.Proofs.YticlnijkfclgcaaGreatDoor
open Go.Shelf Go.RowKit

/-- digits from d on, as far as j -/
structure DigTo (s : ByteArray) (d j : Nat) : Prop where
  le : d ≤ j
  lt : j ≤ s.size
  tk : (dl s d).takeWhile isD = (dl s d).take (j - d) ++ (dl s j).takeWhile isD
  dr : (dl s d).dropWhile isD = (dl s j).dropWhile isD
theorem DigTo.start {s : ByteArray} {d : Nat} (h : d ≤ s.size) : DigTo s d d := ⟨Nat.le_refl _, h, by simp, rfl⟩
theorem DigTo.next {s : ByteArray} {d j : Nat} (h : DigTo s d j) (hj : j < s.size) (hd : isD s[j] = true) : DigTo s d (j + 1) := by
  have hl := h.le
  refine ⟨by omega, hj, ?_, ?_⟩
  · have e : (dl s d).take (j + 1 - d) = (dl s d).take (j - d) ++ [s[j]] := by
      have h1 : (dl s d)[j - d]? = some s[j] := by
        unfold dl
        rw [List.getElem?_drop, show d + (j - d) = j by omega, List.getElem?_eq_getElem (by rw [size_list]; exact hj)]
        rfl
      rw [show j + 1 - d = (j - d) + 1 by omega, List.take_add_one, h1]; rfl
    rw [h.tk, e, dl_cons hj, List.takeWhile_cons, if_pos hd]
    simp
  · rw [h.dr, dl_cons hj, List.dropWhile_cons, if_pos hd]
theorem DigTo.stop {s : ByteArray} {d j : Nat} (h : DigTo s d j) (hs : ∀ hj : j < s.size, isD s[j] = false) : (dl s d).takeWhile isD = (dl s d).take (j - d) ∧ (dl s d).dropWhile isD = dl s j := by
  rcases Nat.lt_or_ge j s.size with hj | hj
  · have := hs hj
    refine ⟨?_, ?_⟩
    · rw [h.tk, dl_cons hj, List.takeWhile_cons, if_neg (by rw [this]; simp), List.append_nil]
    · rw [h.dr, dl_cons hj, List.dropWhile_cons, if_neg (by rw [this]; simp)]
  · have e : j = s.size := by have := h.lt; omega
    subst e
    refine ⟨?_, ?_⟩
    · rw [h.tk, dl_end]; simp
    · rw [h.dr, dl_end]; rfl
theorem takeWhile_all {l : List UInt8} : ∀ c ∈ l.takeWhile isD, isD c = true := fun c hc => by
  induction l with
  | nil => simp at hc
  | cons x l ih =>
    rw [List.takeWhile_cons] at hc
    split at hc
    · rename_i hx
      rcases List.mem_cons.1 hc with rfl | h
      · exact hx
      · exact ih h
    · simp at hc
theorem take_head {l : List UInt8} {n : Nat} (h : 0 < n) : (l.take n).head? = l.head? := by
  cases l with
  | nil => simp
  | cons x l => cases n with
    | zero => omega
    | succ n => rfl
/-- what ParseInt answers, and what the number is -/
def NumEnd (r : Lib.NumEnd Int) (l : List UInt8) (s : ByteArray) (d j : Nat) : Prop :=
  match r with
  | .ok v => (d + 1 < j ∧ (dl s d).head? = some 48 → numL l = none) ∧ (¬ (d + 1 < j ∧ (dl s d).head? = some 48) → numL l = some (v, dl s j))
  | _ => numL l = none
theorem digs_end {neg : Bool} {s : ByteArray} {d j : Nat} {r : Lib.NumEnd Int} {l : List UInt8} (hD : DigTo s d j) (hS : ∀ hj : j < s.size, isD s[j] = false) (hl : numL l = digL neg ((dl s d).takeWhile isD) ((dl s d).dropWhile isD))
    (hr : (dl s d).takeWhile isD ≠ [] → r = if neg then (if valD ((dl s d).takeWhile isD) ≤ 9223372036854775808 then .ok (-(valD ((dl s d).takeWhile isD) : Int)) else .range) else if valD ((dl s d).takeWhile isD) < 9223372036854775808 then .ok (valD ((dl s d).takeWhile isD) : Int) else .range)
    (hr0 : (dl s d).takeWhile isD = [] → r = .syntax) : NumEnd r l s d j := by
  obtain ⟨h1, h2⟩ := hD.stop hS
  have hlen : ((dl s d).takeWhile isD).length = j - d := by
    rw [h1, List.length_take, dl_len]; have := hD.lt; have := hD.le; omega
  by_cases hne : (dl s d).takeWhile isD = []
  · rw [hr0 hne]
    show numL l = none
    rw [hl]; unfold digL; rw [if_pos (.inl hne)]
  · have hjd : d < j := by
      have := List.length_pos_iff.2 hne
      omega
    have hhd : ((dl s d).takeWhile isD).head? = (dl s d).head? := by rw [h1]; exact take_head (by omega)
    have hcond : ((dl s d).takeWhile isD = [] ∨ 1 < ((dl s d).takeWhile isD).length ∧ ((dl s d).takeWhile isD).head? = some 48) ↔ (d + 1 < j ∧ (dl s d).head? = some 48) := by
      rw [hhd, hlen]
      refine ⟨fun h => h.elim (fun e => absurd e hne) (fun ⟨a, b⟩ => ⟨by omega, b⟩), fun ⟨a, b⟩ => .inr ⟨by omega, b⟩⟩
    rw [h2] at hl
    unfold digL at hl
    rw [hr hne]
    cases neg with
    | true =>
      simp only [if_true] at hl ⊢
      by_cases hv : valD ((dl s d).takeWhile isD) ≤ 9223372036854775808
      · rw [if_pos hv] at hl ⊢
        exact ⟨fun h => by rw [hl, if_pos (hcond.2 h)], fun h => by rw [hl, if_neg (fun h' => h (hcond.1 h'))]⟩
      · rw [if_neg hv] at hl ⊢
        show numL l = none
        rw [hl]; split <;> rfl
    | false =>
      simp only [Bool.false_eq_true, if_false] at hl ⊢
      by_cases hv : valD ((dl s d).takeWhile isD) < 9223372036854775808
      · rw [if_pos hv] at hl ⊢
        exact ⟨fun h => by rw [hl, if_pos (hcond.2 h)], fun h => by rw [hl, if_neg (fun h' => h (hcond.1 h'))]⟩
      · rw [if_neg hv] at hl ⊢
        show numL l = none
        rw [hl]; split <;> rfl
theorem num_end_pos {s : ByteArray} {d j : Nat} (hd : d < s.size) (hdig : isD s[d] = true) (hD : DigTo s d j) (hS : ∀ hj : j < s.size, isD s[j] = false) : NumEnd (Lib.parseIntB 64 (s.extract d j).data.toList) (dl s d) s d j := by
  obtain ⟨h1, _⟩ := hD.stop hS
  have hne : (dl s d).takeWhile isD ≠ [] := by rw [dl_cons hd, List.takeWhile_cons, if_pos hdig]; simp
  have h45 : ¬ (dl s d).head? = some 45 := by
    rw [dl_cons hd]
    intro e
    have e2 : s[d] = 45 := by simpa using e
    rw [e2] at hdig; exact absurd hdig (by decide)
  rw [dl_take, ← h1]
  refine digs_end (neg := false) hD hS (by unfold numL; rw [if_neg h45]) (fun h => by rw [parse_pos takeWhile_all h]; simp) (fun h => absurd h hne)
theorem num_end_neg {s : ByteArray} {i j : Nat} (hi : i < s.size) (h45 : s[i] = 45) (hD : DigTo s (i + 1) j) (hS : ∀ hj : j < s.size, isD s[j] = false) : NumEnd (Lib.parseIntB 64 (s.extract i j).data.toList) (dl s i) s (i + 1) j := by
  obtain ⟨h1, _⟩ := hD.stop hS
  have hle := hD.le
  have e : (s.extract i j).data.toList = 45 :: (dl s (i + 1)).takeWhile isD := by
    rw [dl_take, h1, dl_cons hi, h45, show j - i = (j - (i + 1)) + 1 by omega, List.take_succ_cons]
  rw [e]
  refine digs_end (neg := true) hD hS (by unfold numL; rw [dl_cons hi, h45]; rfl) (fun h => by rw [parse_neg takeWhile_all h]; simp) (fun h => by rw [h]; rfl)
abbrev num5 (v : Int) : Array Value := #[.int .i64 3, .int .i64 v, .string ⟨#[]⟩, .slice none 0 0, .slice none 0 0]
def NumPost (b : Nat) (s : ByteArray) (l : Option (Int × List UInt8)) (w : World) (e : Ending) (w' : World) : Prop :=
  But b w w' ∧ match l with
    | some (v, r) => e = .returned (.agg (num5 v)) ∧ ∃ j, dl s j = r ∧ RB b s j false w'
    | none => e = .returned (.agg zero5R) ∧ RBad b s w'
set_option maxHeartbeats 8000000 in
set_option maxRecDepth 100000 in
theorem number_any (b : Nat) (s : ByteArray) (i : Nat) (w : World) (h : RB b s i false w) (hs : s.size ≤ 1000000) (hi : i < s.size) (hc0 : s[i] = 45 ∨ isD s[i] = true) (hE : Errs b w) :
    Calls Tryz.prog 39 #[.pointer (some ⟨b, 0, none⟩)] w (NumPost b s (numL (dl s i)) w) := by
  obtain ⟨W, hW⟩ : ∃ W, W = w.alloc (.cells zero5R 58) := ⟨_, rfl⟩
  have HB0 : Hold (Below w.heap.size w W) := ⟨by rw [hW]; exact (Below.refl _ w).alloc (Nat.le_refl _) _⟩
  have HV : Hold (W.heap[w.heap.size]? = some (.cells zero5R 58 (0, 0))) := ⟨by rw [hW]; exact heap_alloc_new w _⟩
  have HR := Hold.mk (h.below HB0.out)
  have HE := Hold.mk (hE.below HB0.out)
  have hlt := h.lt
  have hle := h.le
  clear h hE
  go_enter Tryz.func39, Tryz.ntmps39
  go_upto_region 1 with (fail)
  rw [← hW]
  clear hW
  have x0 := HR.out.c0
  have x1 := HR.out.c1
  have f1 := HR.out.fz 1
  obtain ⟨c, hc⟩ : ∃ c, s[i] = c := ⟨_, rfl⟩
  have HCC := Hold.mk hc
  by_cases h45 : c = 45
  · subst h45
    have HNE : Hold (∀ j, DigTo s (i + 1) j → (∀ hj : j < s.size, isD s[j] = false) → NumEnd (Lib.parseIntB 64 (s.extract i j).data.toList) (dl s i) s (i + 1) j) := ⟨fun j h1 h2 => num_end_neg hi HCC.out h1 h2⟩
    go_wp2_with fail
    go_quiet (fail)
    go_wp2_with fail
    obtain ⟨W1, hW1⟩ : ∃ W1, W1 = (W.drewN nq).setCell ⟨b, 1, none⟩ (.int .i64 ((i : Int) + 1)) := ⟨_, rfl⟩
    rw [← hW1]
    have HR1 : Hold (RB b s (i + 1) false W1) := ⟨by rw [hW1]; exact (HR.out.drewN nq).to1 hi⟩
    have HB1 : Hold (But b W W1) := ⟨by rw [hW1]; exact ((But.refl b W).drewN nq).trans (But.set _ _ _)⟩
    have hde : (i : Int) + 1 = ((i + 1 : Nat) : Int) := by omega
    rw [hde]
    have HD0 : Hold (DigTo s (i + 1) (i + 1)) := ⟨DigTo.start hi⟩
    have hfd : i ≤ i + 1 := Nat.le_succ i
    clear hW1 x0 x1 f1 hc hde HR HCC
    generalize i + 1 = d at *
    go_loopw [] (fun wr => ∃ j, DigTo s d j ∧ RB b s j false wr ∧ But b W wr) (fun wr => s.size - rat b wr)
    case atStart => exact ⟨d, HD0.out, HR1.out, HB1.out⟩
    case round =>
      obtain ⟨j, hD, hr, hbt⟩ := hrel
      clear HR1 HB1 HD0
      have HD := Hold.mk hD
      have HR := Hold.mk hr
      have HB := Hold.mk hbt
      have hjs := hr.le
      have hdj := hD.le
      have hij : i ≤ j := Nat.le_trans hfd hdj
      clear hD hr hbt
      have x0 := HR.out.c0
      have x1 := HR.out.c1
      have f1 := HR.out.fz 1
      by_cases hdig : ∃ hlt : j < s.size, isD s[j] = true
      · obtain ⟨hlt, hdg⟩ := hdig
        have HN := Hold.mk (HD.out.next hlt hdg)
        obtain ⟨c, hc⟩ : ∃ c, s[j] = c := ⟨_, rfl⟩
        rw [hc] at hdg
        have hk : 48 ≤ c.toNat ∧ c.toNat ≤ 57 := of_decide_eq_true hdg
        have k0 : (48 : Int) ≤ (c.toNat : Int) := by omega
        have k1 : (c.toNat : Int) ≤ 57 := by omega
        clear hdg
        go_wp2_with fail
        go_quiet (fail)
        go_wp2_with fail
        exact ⟨⟨j + 1, HN.out, (HR.out.drewN nq).to1 hlt, (HB.out.drewN nq).trans (But.set _ _ _)⟩, by rw [((HR.out.drewN nq).to1 hlt).rat, HR.out.rat]; omega⟩
      · have HS : Hold (∀ hj : j < s.size, isD s[j] = false) := ⟨fun hj => by
          cases e : isD s[j] with
          | false => rfl
          | true => exact absurd ⟨hj, e⟩ hdig⟩
        clear hdig
        have HEND := Hold.mk (HNE.out j HD.out HS.out)
        have hways : j = s.size ∨ (∃ hlt : j < s.size, s[j].toNat < 48) ∨ (∃ hlt : j < s.size, 48 ≤ s[j].toNat ∧ 57 < s[j].toNat) := by
          rcases Nat.lt_or_ge j s.size with hlt | hge
          · have h1 := of_decide_eq_false (HS.out hlt)
            rcases Nat.lt_or_ge s[j].toNat 48 with h2 | h2
            · exact .inr (.inl ⟨hlt, h2⟩)
            · exact .inr (.inr ⟨hlt, h2, by omega⟩)
          · exact .inl (by omega)
        have HP : Hold (∀ wd, Errs b wd → Calls Tryz.prog 59 #[.string (s.extract i j), .int .i64 10, .int .i64 64] wd (IntPost (Lib.parseIntB 64 (s.extract i j).data.toList) wd)) := ⟨fun wd hE => parseInt_any _ b wd (by rw [ByteArray.size_extract]; omega) hE⟩
        rcases hways with hje | ⟨hlt, hk⟩ | ⟨hlt, hk, hk2⟩
        · have hb1 : ¬ j < s.size := by omega
          have hb2 : decide (j < s.size) = false := decide_eq_false hb1
          clear hje
          go_wp2_with fail
          go_quiet (fail)
          go_wp2_with fail
          obtain ⟨wd, hwd⟩ : ∃ wd, wd = (wr.drewN nq).drew := ⟨_, rfl⟩
          refine wp_region_mixC (GrowC wd) 16 rfl (by kernel_rfl) ?_
          rw [← hwd]
          have HR2 : Hold (RB b s j false wd) := ⟨by rw [hwd]; exact (HR.out.drewN nq).drew⟩
          have HB2 : Hold (But b W wd) := ⟨by rw [hwd]; exact (HB.out.drewN nq).drew⟩
          have HE2 := Hold.mk (HE.out.but HB2.out)
          clear hwd x0 x1 f1 HR HB HS HD
          have y0 := Grow.cell HR2.out.c0
          have y1 := Grow.cell HR2.out.c1
          refine mixl_seg (by kernel_rfl) (fun _ _ d _ _ h => by cases d <;> exact h) [0, 1, 2, 3, 4, 5, 6, 7, 8, 9] [_, _, _, _, _, _, _, _, _, _] 6 16 rfl _ _ _ rfl (by kernel_rfl) (growC (Below.refl _ _)) ?_
          repeat (go_big_quiet_step (fail))
          refine wpQuiet_nil ?_
          refine mixl_act (i := 10) rfl (by kernel_rfl) (growC (Below.refl _ _)) rfl (fun K hK => ?_)
          go_wp2_with fail
          refine (HP.out wd HE2.out).mono ?_
          rintro e w1 ⟨hb1, he⟩
          replace HB2 := Hold.mk (HB2.out.trans (But.of_below hb1))
          replace HR2 := Hold.mk (HR2.out.below hb1)
          have HV2 := Hold.mk (But.keep HB2.out HV.out (by omega))
          have HB1 := Hold.mk hb1
          clear hb1 y0 y1 HP HE2
          have x0 := HR2.out.c0
          have x1 := HR2.out.c1
          cases hp : Lib.parseIntB 64 (s.extract i j).data.toList with
          | ok v =>
            rw [hp] at he HEND
            dsimp only at he
            subst he
            clear hp
            go_wp2_with fail
            refine mixl_seg (by kernel_rfl) (fun _ _ d _ _ h => by cases d <;> exact h) [11, 12, 13, 14, 15] [_, _, _, _, _] 0 5 rfl _ _ _ rfl (by kernel_rfl) (growC HB1.out) ?_
            repeat (go_big_quiet_step (fail))
            refine wpQuiet_nil ?_
            refine mix_done (by kernel_rfl) (growC HB1.out) ?_
            have hcases : (∃ hd : d < s.size, d + 1 < j ∧ s[d] = 48) ∨ (¬ d + 1 < j) ∨ (∃ hd : d < s.size, d + 1 < j ∧ s[d] ≠ 48) := by
              by_cases h1 : d + 1 < j
              · have hd : d < s.size := by omega
                by_cases h2 : s[d] = 48
                · exact .inl ⟨hd, h1, h2⟩
                · exact .inr (.inr ⟨hd, h1, h2⟩)
              · exact .inr (.inl h1)
            rcases hcases with ⟨hd, h1, h2⟩ | h1 | ⟨hd, h1, h2⟩
            · have HL : Hold (numL (dl s i) = none) := ⟨HEND.out.1 ⟨h1, by rw [dl_cons hd, h2]; rfl⟩⟩
              have h1i : (d : Int) + 1 < (j : Int) := by omega
              clear HEND
              go_wp2_with fail
              refine (fail_any b s j false _ HR2.out).mono ?_
              rintro e w2 ⟨rfl, hbad, hb2⟩
              have hv2 := But.keep hb2 HV2.out (by omega)
              have HBAD := Hold.mk hbad
              have HB3 := Hold.mk (HB2.out.trans hb2)
              clear hbad hb2 x0 x1
              obtain ⟨v0, v1, v2, v3, v4⟩ := cells5R hv2
              have g0 := freeR hv2 0
              have g1 := freeR hv2 1
              have g2 := freeR hv2 2
              have g3 := freeR hv2 3
              have g4 := freeR hv2 4
              go_wp2_with fail
              obtain ⟨W2, hW2⟩ : ∃ W2, W2 = set5R w2 w.heap.size (.int .i64 0) (.int .i64 0) (.string ⟨#[]⟩) (.slice none 0 0) (.slice none 0 0) := ⟨_, rfl⟩
              have hv3 : W2.heap[w.heap.size]? = some (.cells zero5R 58 (0, 0)) := by rw [hW2]; exact set5R_self hv2
              obtain ⟨j2, hj2⟩ := HBAD.out
              have hr3 : RB b s j2 true W2 := by rw [hW2]; exact hj2.keep (set5R_but _ _ _ _ _ _ _) (by omega)
              have hb3 : But b w W2 := by rw [hW2]; exact But.own ((But.of_below HB0.out).trans HB3.out) (Nat.le_refl _) (set5R_but _ _ _ _ _ _ _)
              unfold set5R at hW2
              rw [← hW2]
              clear hW2 v0 v1 v2 v3 v4
              obtain ⟨v0, v1, v2, v3, v4⟩ := cells5R hv3
              exact bodyPost_ret (v := .agg zero5R) (by simp [results, Tryz.results39, go_sem, v0, v1, v2, v3, v4]) rfl ⟨hb3, by rw [HL.out]; exact ⟨rfl, j2, hr3⟩⟩
            · have HL : Hold (numL (dl s i) = some (v, dl s j)) := ⟨HEND.out.2 (fun h => h1 h.1)⟩
              have h1i : ¬ (d : Int) + 1 < (j : Int) := by omega
              have hv2 := HV2.out
              clear HEND
              obtain ⟨v0, v1, v2, v3, v4⟩ := cells5R hv2
              have g0 := freeR hv2 0
              have g1 := freeR hv2 1
              have g2 := freeR hv2 2
              have g3 := freeR hv2 3
              have g4 := freeR hv2 4
              go_wp2_with fail
              obtain ⟨W2, hW2⟩ : ∃ W2, W2 = set5R w1 w.heap.size (.int .i64 3) (.int .i64 v) (.string ⟨#[]⟩) (.slice none 0 0) (.slice none 0 0) := ⟨_, rfl⟩
              have hv3 : W2.heap[w.heap.size]? = some (.cells (num5 v) 58 (0, 0)) := by rw [hW2]; exact set5R_self hv2
              have hr3 : RB b s j false W2 := by rw [hW2]; exact HR2.out.keep (set5R_but _ _ _ _ _ _ _) (by omega)
              have hb3 : But b w W2 := by rw [hW2]; exact But.own ((But.of_below HB0.out).trans HB2.out) (Nat.le_refl _) (set5R_but _ _ _ _ _ _ _)
              unfold set5R at hW2
              rw [← hW2]
              clear hW2 v0 v1 v2 v3 v4
              obtain ⟨v0, v1, v2, v3, v4⟩ := cells5R hv3
              exact bodyPost_ret (v := .agg (num5 v)) (by simp [results, Tryz.results39, go_sem, v0, v1, v2, v3, v4]) rfl ⟨hb3, by rw [HL.out]; exact ⟨rfl, j, rfl, hr3⟩⟩
            · have HL : Hold (numL (dl s i) = some (v, dl s j)) := ⟨HEND.out.2 (fun h => h2 (by have h3 := h.2; rw [dl_cons hd] at h3; simpa using h3))⟩
              have h1i : (d : Int) + 1 < (j : Int) := by omega
              obtain ⟨c2, hc2⟩ : ∃ c2, s[d] = c2 := ⟨_, rfl⟩
              have hne : ((c2.toNat : Int) == 48) = false := byte_ne (k := 48) (by rw [← hc2]; exact h2)
              have hv2 := HV2.out
              clear HEND h2
              obtain ⟨v0, v1, v2, v3, v4⟩ := cells5R hv2
              have g0 := freeR hv2 0
              have g1 := freeR hv2 1
              have g2 := freeR hv2 2
              have g3 := freeR hv2 3
              have g4 := freeR hv2 4
              go_wp2_with fail
              obtain ⟨W2, hW2⟩ : ∃ W2, W2 = set5R w1 w.heap.size (.int .i64 3) (.int .i64 v) (.string ⟨#[]⟩) (.slice none 0 0) (.slice none 0 0) := ⟨_, rfl⟩
              have hv3 : W2.heap[w.heap.size]? = some (.cells (num5 v) 58 (0, 0)) := by rw [hW2]; exact set5R_self hv2
              have hr3 : RB b s j false W2 := by rw [hW2]; exact HR2.out.keep (set5R_but _ _ _ _ _ _ _) (by omega)
              have hb3 : But b w W2 := by rw [hW2]; exact But.own ((But.of_below HB0.out).trans HB2.out) (Nat.le_refl _) (set5R_but _ _ _ _ _ _ _)
              unfold set5R at hW2
              rw [← hW2]
              clear hW2 v0 v1 v2 v3 v4
              obtain ⟨v0, v1, v2, v3, v4⟩ := cells5R hv3
              exact bodyPost_ret (v := .agg (num5 v)) (by simp [results, Tryz.results39, go_sem, v0, v1, v2, v3, v4]) rfl ⟨hb3, by rw [HL.out]; exact ⟨rfl, j, rfl, hr3⟩⟩
          | _ =>
            rw [hp] at he HEND
            dsimp only at he
            obtain ⟨n, tt, pp, rfl⟩ := he
            have HL : Hold (numL (dl s i) = none) := ⟨HEND.out⟩
            clear hp HEND
            go_wp2_with fail
            refine mixl_seg (by kernel_rfl) (fun _ _ d _ _ h => by cases d <;> exact h) [11, 12, 13, 14, 15] [_, _, _, _, _] 0 5 rfl _ _ _ rfl (by kernel_rfl) (growC HB1.out) ?_
            repeat (go_big_quiet_step (fail))
            refine wpQuiet_nil ?_
            refine mix_done (by kernel_rfl) (growC HB1.out) ?_
            go_wp2_with fail
            refine (fail_any b s j false _ HR2.out).mono ?_
            rintro e w2 ⟨rfl, hbad, hb2⟩
            have hv2 := But.keep hb2 HV2.out (by omega)
            have HBAD := Hold.mk hbad
            have HB3 := Hold.mk (HB2.out.trans hb2)
            clear hbad hb2 x0 x1
            obtain ⟨v0, v1, v2, v3, v4⟩ := cells5R hv2
            have g0 := freeR hv2 0
            have g1 := freeR hv2 1
            have g2 := freeR hv2 2
            have g3 := freeR hv2 3
            have g4 := freeR hv2 4
            go_wp2_with fail
            obtain ⟨W2, hW2⟩ : ∃ W2, W2 = set5R w2 w.heap.size (.int .i64 0) (.int .i64 0) (.string ⟨#[]⟩) (.slice none 0 0) (.slice none 0 0) := ⟨_, rfl⟩
            have hv3 : W2.heap[w.heap.size]? = some (.cells zero5R 58 (0, 0)) := by rw [hW2]; exact set5R_self hv2
            obtain ⟨j2, hj2⟩ := HBAD.out
            have hr3 : RB b s j2 true W2 := by rw [hW2]; exact hj2.keep (set5R_but _ _ _ _ _ _ _) (by omega)
            have hb3 : But b w W2 := by rw [hW2]; exact But.own ((But.of_below HB0.out).trans HB3.out) (Nat.le_refl _) (set5R_but _ _ _ _ _ _ _)
            unfold set5R at hW2
            rw [← hW2]
            clear hW2 v0 v1 v2 v3 v4
            obtain ⟨v0, v1, v2, v3, v4⟩ := cells5R hv3
            exact bodyPost_ret (v := .agg zero5R) (by simp [results, Tryz.results39, go_sem, v0, v1, v2, v3, v4]) rfl ⟨hb3, by rw [HL.out]; exact ⟨rfl, j2, hr3⟩⟩
        · obtain ⟨c, hc⟩ : ∃ c, s[j] = c := ⟨_, rfl⟩
          rw [hc] at hk
          have k0 : ¬ (48 : Int) ≤ (c.toNat : Int) := by omega
          have k2 : decide ((48 : Int) ≤ (c.toNat : Int)) = false := decide_eq_false k0
          clear k0
          go_wp2_with fail
          go_quiet (fail)
          go_wp2_with fail
          clear k2
          obtain ⟨wd, hwd⟩ : ∃ wd, wd = (wr.drewN nq).drew := ⟨_, rfl⟩
          refine wp_region_mixC (GrowC wd) 16 rfl (by kernel_rfl) ?_
          rw [← hwd]
          have HR2 : Hold (RB b s j false wd) := ⟨by rw [hwd]; exact (HR.out.drewN nq).drew⟩
          have HB2 : Hold (But b W wd) := ⟨by rw [hwd]; exact (HB.out.drewN nq).drew⟩
          have HE2 := Hold.mk (HE.out.but HB2.out)
          clear hwd x0 x1 f1 HR HB HS HD
          have y0 := Grow.cell HR2.out.c0
          have y1 := Grow.cell HR2.out.c1
          refine mixl_seg (by kernel_rfl) (fun _ _ d _ _ h => by cases d <;> exact h) [0, 1, 2, 3, 4, 5, 6, 7, 8, 9] [_, _, _, _, _, _, _, _, _, _] 6 16 rfl _ _ _ rfl (by kernel_rfl) (growC (Below.refl _ _)) ?_
          repeat (go_big_quiet_step (fail))
          refine wpQuiet_nil ?_
          refine mixl_act (i := 10) rfl (by kernel_rfl) (growC (Below.refl _ _)) rfl (fun K hK => ?_)
          go_wp2_with fail
          refine (HP.out wd HE2.out).mono ?_
          rintro e w1 ⟨hb1, he⟩
          replace HB2 := Hold.mk (HB2.out.trans (But.of_below hb1))
          replace HR2 := Hold.mk (HR2.out.below hb1)
          have HV2 := Hold.mk (But.keep HB2.out HV.out (by omega))
          have HB1 := Hold.mk hb1
          clear hb1 y0 y1 HP HE2
          have x0 := HR2.out.c0
          have x1 := HR2.out.c1
          cases hp : Lib.parseIntB 64 (s.extract i j).data.toList with
          | ok v =>
            rw [hp] at he HEND
            dsimp only at he
            subst he
            clear hp
            go_wp2_with fail
            refine mixl_seg (by kernel_rfl) (fun _ _ d _ _ h => by cases d <;> exact h) [11, 12, 13, 14, 15] [_, _, _, _, _] 0 5 rfl _ _ _ rfl (by kernel_rfl) (growC HB1.out) ?_
            repeat (go_big_quiet_step (fail))
            refine wpQuiet_nil ?_
            refine mix_done (by kernel_rfl) (growC HB1.out) ?_
            have hcases : (∃ hd : d < s.size, d + 1 < j ∧ s[d] = 48) ∨ (¬ d + 1 < j) ∨ (∃ hd : d < s.size, d + 1 < j ∧ s[d] ≠ 48) := by
              by_cases h1 : d + 1 < j
              · have hd : d < s.size := by omega
                by_cases h2 : s[d] = 48
                · exact .inl ⟨hd, h1, h2⟩
                · exact .inr (.inr ⟨hd, h1, h2⟩)
              · exact .inr (.inl h1)
            rcases hcases with ⟨hd, h1, h2⟩ | h1 | ⟨hd, h1, h2⟩
            · have HL : Hold (numL (dl s i) = none) := ⟨HEND.out.1 ⟨h1, by rw [dl_cons hd, h2]; rfl⟩⟩
              have h1i : (d : Int) + 1 < (j : Int) := by omega
              clear HEND
              go_wp2_with fail
              refine (fail_any b s j false _ HR2.out).mono ?_
              rintro e w2 ⟨rfl, hbad, hb2⟩
              have hv2 := But.keep hb2 HV2.out (by omega)
              have HBAD := Hold.mk hbad
              have HB3 := Hold.mk (HB2.out.trans hb2)
              clear hbad hb2 x0 x1
              obtain ⟨v0, v1, v2, v3, v4⟩ := cells5R hv2
              have g0 := freeR hv2 0
              have g1 := freeR hv2 1
              have g2 := freeR hv2 2
              have g3 := freeR hv2 3
              have g4 := freeR hv2 4
              go_wp2_with fail
              obtain ⟨W2, hW2⟩ : ∃ W2, W2 = set5R w2 w.heap.size (.int .i64 0) (.int .i64 0) (.string ⟨#[]⟩) (.slice none 0 0) (.slice none 0 0) := ⟨_, rfl⟩
              have hv3 : W2.heap[w.heap.size]? = some (.cells zero5R 58 (0, 0)) := by rw [hW2]; exact set5R_self hv2
              obtain ⟨j2, hj2⟩ := HBAD.out
              have hr3 : RB b s j2 true W2 := by rw [hW2]; exact hj2.keep (set5R_but _ _ _ _ _ _ _) (by omega)
              have hb3 : But b w W2 := by rw [hW2]; exact But.own ((But.of_below HB0.out).trans HB3.out) (Nat.le_refl _) (set5R_but _ _ _ _ _ _ _)
              unfold set5R at hW2
              rw [← hW2]
              clear hW2 v0 v1 v2 v3 v4
              obtain ⟨v0, v1, v2, v3, v4⟩ := cells5R hv3
              exact bodyPost_ret (v := .agg zero5R) (by simp [results, Tryz.results39, go_sem, v0, v1, v2, v3, v4]) rfl ⟨hb3, by rw [HL.out]; exact ⟨rfl, j2, hr3⟩⟩
            · have HL : Hold (numL (dl s i) = some (v, dl s j)) := ⟨HEND.out.2 (fun h => h1 h.1)⟩
              have h1i : ¬ (d : Int) + 1 < (j : Int) := by omega
              have hv2 := HV2.out
              clear HEND
              obtain ⟨v0, v1, v2, v3, v4⟩ := cells5R hv2
              have g0 := freeR hv2 0
              have g1 := freeR hv2 1
              have g2 := freeR hv2 2
              have g3 := freeR hv2 3
              have g4 := freeR hv2 4
              go_wp2_with fail
              obtain ⟨W2, hW2⟩ : ∃ W2, W2 = set5R w1 w.heap.size (.int .i64 3) (.int .i64 v) (.string ⟨#[]⟩) (.slice none 0 0) (.slice none 0 0) := ⟨_, rfl⟩
              have hv3 : W2.heap[w.heap.size]? = some (.cells (num5 v) 58 (0, 0)) := by rw [hW2]; exact set5R_self hv2
              have hr3 : RB b s j false W2 := by rw [hW2]; exact HR2.out.keep (set5R_but _ _ _ _ _ _ _) (by omega)
              have hb3 : But b w W2 := by rw [hW2]; exact But.own ((But.of_below HB0.out).trans HB2.out) (Nat.le_refl _) (set5R_but _ _ _ _ _ _ _)
              unfold set5R at hW2
              rw [← hW2]
              clear hW2 v0 v1 v2 v3 v4
              obtain ⟨v0, v1, v2, v3, v4⟩ := cells5R hv3
              exact bodyPost_ret (v := .agg (num5 v)) (by simp [results, Tryz.results39, go_sem, v0, v1, v2, v3, v4]) rfl ⟨hb3, by rw [HL.out]; exact ⟨rfl, j, rfl, hr3⟩⟩
            · have HL : Hold (numL (dl s i) = some (v, dl s j)) := ⟨HEND.out.2 (fun h => h2 (by have h3 := h.2; rw [dl_cons hd] at h3; simpa using h3))⟩
              have h1i : (d : Int) + 1 < (j : Int) := by omega
              obtain ⟨c2, hc2⟩ : ∃ c2, s[d] = c2 := ⟨_, rfl⟩
              have hne : ((c2.toNat : Int) == 48) = false := byte_ne (k := 48) (by rw [← hc2]; exact h2)
              have hv2 := HV2.out
              clear HEND h2
              obtain ⟨v0, v1, v2, v3, v4⟩ := cells5R hv2
              have g0 := freeR hv2 0
              have g1 := freeR hv2 1
              have g2 := freeR hv2 2
              have g3 := freeR hv2 3
              have g4 := freeR hv2 4
              go_wp2_with fail
              obtain ⟨W2, hW2⟩ : ∃ W2, W2 = set5R w1 w.heap.size (.int .i64 3) (.int .i64 v) (.string ⟨#[]⟩) (.slice none 0 0) (.slice none 0 0) := ⟨_, rfl⟩
              have hv3 : W2.heap[w.heap.size]? = some (.cells (num5 v) 58 (0, 0)) := by rw [hW2]; exact set5R_self hv2
              have hr3 : RB b s j false W2 := by rw [hW2]; exact HR2.out.keep (set5R_but _ _ _ _ _ _ _) (by omega)
              have hb3 : But b w W2 := by rw [hW2]; exact But.own ((But.of_below HB0.out).trans HB2.out) (Nat.le_refl _) (set5R_but _ _ _ _ _ _ _)
              unfold set5R at hW2
              rw [← hW2]
              clear hW2 v0 v1 v2 v3 v4
              obtain ⟨v0, v1, v2, v3, v4⟩ := cells5R hv3
              exact bodyPost_ret (v := .agg (num5 v)) (by simp [results, Tryz.results39, go_sem, v0, v1, v2, v3, v4]) rfl ⟨hb3, by rw [HL.out]; exact ⟨rfl, j, rfl, hr3⟩⟩
          | _ =>
            rw [hp] at he HEND
            dsimp only at he
            obtain ⟨n, tt, pp, rfl⟩ := he
            have HL : Hold (numL (dl s i) = none) := ⟨HEND.out⟩
            clear hp HEND
            go_wp2_with fail
            refine mixl_seg (by kernel_rfl) (fun _ _ d _ _ h => by cases d <;> exact h) [11, 12, 13, 14, 15] [_, _, _, _, _] 0 5 rfl _ _ _ rfl (by kernel_rfl) (growC HB1.out) ?_
            repeat (go_big_quiet_step (fail))
            refine wpQuiet_nil ?_
            refine mix_done (by kernel_rfl) (growC HB1.out) ?_
            go_wp2_with fail
            refine (fail_any b s j false _ HR2.out).mono ?_
            rintro e w2 ⟨rfl, hbad, hb2⟩
            have hv2 := But.keep hb2 HV2.out (by omega)
            have HBAD := Hold.mk hbad
            have HB3 := Hold.mk (HB2.out.trans hb2)
            clear hbad hb2 x0 x1
            obtain ⟨v0, v1, v2, v3, v4⟩ := cells5R hv2
            have g0 := freeR hv2 0
            have g1 := freeR hv2 1
            have g2 := freeR hv2 2
            have g3 := freeR hv2 3
            have g4 := freeR hv2 4
            go_wp2_with fail
            obtain ⟨W2, hW2⟩ : ∃ W2, W2 = set5R w2 w.heap.size (.int .i64 0) (.int .i64 0) (.string ⟨#[]⟩) (.slice none 0 0) (.slice none 0 0) := ⟨_, rfl⟩
            have hv3 : W2.heap[w.heap.size]? = some (.cells zero5R 58 (0, 0)) := by rw [hW2]; exact set5R_self hv2
            obtain ⟨j2, hj2⟩ := HBAD.out
            have hr3 : RB b s j2 true W2 := by rw [hW2]; exact hj2.keep (set5R_but _ _ _ _ _ _ _) (by omega)
            have hb3 : But b w W2 := by rw [hW2]; exact But.own ((But.of_below HB0.out).trans HB3.out) (Nat.le_refl _) (set5R_but _ _ _ _ _ _ _)
            unfold set5R at hW2
            rw [← hW2]
            clear hW2 v0 v1 v2 v3 v4
            obtain ⟨v0, v1, v2, v3, v4⟩ := cells5R hv3
            exact bodyPost_ret (v := .agg zero5R) (by simp [results, Tryz.results39, go_sem, v0, v1, v2, v3, v4]) rfl ⟨hb3, by rw [HL.out]; exact ⟨rfl, j2, hr3⟩⟩
        · obtain ⟨c, hc⟩ : ∃ c, s[j] = c := ⟨_, rfl⟩
          rw [hc] at hk hk2
          have k0 : (48 : Int) ≤ (c.toNat : Int) := by omega
          have k1 : ¬ (c.toNat : Int) ≤ 57 := by omega
          go_wp2_with fail
          go_quiet (fail)
          go_wp2_with fail
          obtain ⟨wd, hwd⟩ : ∃ wd, wd = (wr.drewN nq).drew := ⟨_, rfl⟩
          refine wp_region_mixC (GrowC wd) 16 rfl (by kernel_rfl) ?_
          rw [← hwd]
          have HR2 : Hold (RB b s j false wd) := ⟨by rw [hwd]; exact (HR.out.drewN nq).drew⟩
          have HB2 : Hold (But b W wd) := ⟨by rw [hwd]; exact (HB.out.drewN nq).drew⟩
          have HE2 := Hold.mk (HE.out.but HB2.out)
          clear hwd x0 x1 f1 HR HB HS HD
          have y0 := Grow.cell HR2.out.c0
          have y1 := Grow.cell HR2.out.c1
          refine mixl_seg (by kernel_rfl) (fun _ _ d _ _ h => by cases d <;> exact h) [0, 1, 2, 3, 4, 5, 6, 7, 8, 9] [_, _, _, _, _, _, _, _, _, _] 6 16 rfl _ _ _ rfl (by kernel_rfl) (growC (Below.refl _ _)) ?_
          repeat (go_big_quiet_step (fail))
          refine wpQuiet_nil ?_
          refine mixl_act (i := 10) rfl (by kernel_rfl) (growC (Below.refl _ _)) rfl (fun K hK => ?_)
          go_wp2_with fail
          refine (HP.out wd HE2.out).mono ?_
          rintro e w1 ⟨hb1, he⟩
          replace HB2 := Hold.mk (HB2.out.trans (But.of_below hb1))
          replace HR2 := Hold.mk (HR2.out.below hb1)
          have HV2 := Hold.mk (But.keep HB2.out HV.out (by omega))
          have HB1 := Hold.mk hb1
          clear hb1 y0 y1 HP HE2
          have x0 := HR2.out.c0
          have x1 := HR2.out.c1
          cases hp : Lib.parseIntB 64 (s.extract i j).data.toList with
          | ok v =>
            rw [hp] at he HEND
            dsimp only at he
            subst he
            clear hp
            go_wp2_with fail
            refine mixl_seg (by kernel_rfl) (fun _ _ d _ _ h => by cases d <;> exact h) [11, 12, 13, 14, 15] [_, _, _, _, _] 0 5 rfl _ _ _ rfl (by kernel_rfl) (growC HB1.out) ?_
            repeat (go_big_quiet_step (fail))
            refine wpQuiet_nil ?_
            refine mix_done (by kernel_rfl) (growC HB1.out) ?_
            have hcases : (∃ hd : d < s.size, d + 1 < j ∧ s[d] = 48) ∨ (¬ d + 1 < j) ∨ (∃ hd : d < s.size, d + 1 < j ∧ s[d] ≠ 48) := by
              by_cases h1 : d + 1 < j
              · have hd : d < s.size := by omega
                by_cases h2 : s[d] = 48
                · exact .inl ⟨hd, h1, h2⟩
                · exact .inr (.inr ⟨hd, h1, h2⟩)
              · exact .inr (.inl h1)
            rcases hcases with ⟨hd, h1, h2⟩ | h1 | ⟨hd, h1, h2⟩
            · have HL : Hold (numL (dl s i) = none) := ⟨HEND.out.1 ⟨h1, by rw [dl_cons hd, h2]; rfl⟩⟩
              have h1i : (d : Int) + 1 < (j : Int) := by omega
              clear HEND
              go_wp2_with fail
              refine (fail_any b s j false _ HR2.out).mono ?_
              rintro e w2 ⟨rfl, hbad, hb2⟩
              have hv2 := But.keep hb2 HV2.out (by omega)
              have HBAD := Hold.mk hbad
              have HB3 := Hold.mk (HB2.out.trans hb2)
              clear hbad hb2 x0 x1
              obtain ⟨v0, v1, v2, v3, v4⟩ := cells5R hv2
              have g0 := freeR hv2 0
              have g1 := freeR hv2 1
              have g2 := freeR hv2 2
              have g3 := freeR hv2 3
              have g4 := freeR hv2 4
              go_wp2_with fail
              obtain ⟨W2, hW2⟩ : ∃ W2, W2 = set5R w2 w.heap.size (.int .i64 0) (.int .i64 0) (.string ⟨#[]⟩) (.slice none 0 0) (.slice none 0 0) := ⟨_, rfl⟩
              have hv3 : W2.heap[w.heap.size]? = some (.cells zero5R 58 (0, 0)) := by rw [hW2]; exact set5R_self hv2
              obtain ⟨j2, hj2⟩ := HBAD.out
              have hr3 : RB b s j2 true W2 := by rw [hW2]; exact hj2.keep (set5R_but _ _ _ _ _ _ _) (by omega)
              have hb3 : But b w W2 := by rw [hW2]; exact But.own ((But.of_below HB0.out).trans HB3.out) (Nat.le_refl _) (set5R_but _ _ _ _ _ _ _)
              unfold set5R at hW2
              rw [← hW2]
              clear hW2 v0 v1 v2 v3 v4
              obtain ⟨v0, v1, v2, v3, v4⟩ := cells5R hv3
              exact bodyPost_ret (v := .agg zero5R) (by simp [results, Tryz.results39, go_sem, v0, v1, v2, v3, v4]) rfl ⟨hb3, by rw [HL.out]; exact ⟨rfl, j2, hr3⟩⟩
            · have HL : Hold (numL (dl s i) = some (v, dl s j)) := ⟨HEND.out.2 (fun h => h1 h.1)⟩
              have h1i : ¬ (d : Int) + 1 < (j : Int) := by omega
              have hv2 := HV2.out
              clear HEND
              obtain ⟨v0, v1, v2, v3, v4⟩ := cells5R hv2
              have g0 := freeR hv2 0
              have g1 := freeR hv2 1
              have g2 := freeR hv2 2
              have g3 := freeR hv2 3
              have g4 := freeR hv2 4
              go_wp2_with fail
              obtain ⟨W2, hW2⟩ : ∃ W2, W2 = set5R w1 w.heap.size (.int .i64 3) (.int .i64 v) (.string ⟨#[]⟩) (.slice none 0 0) (.slice none 0 0) := ⟨_, rfl⟩
              have hv3 : W2.heap[w.heap.size]? = some (.cells (num5 v) 58 (0, 0)) := by rw [hW2]; exact set5R_self hv2
              have hr3 : RB b s j false W2 := by rw [hW2]; exact HR2.out.keep (set5R_but _ _ _ _ _ _ _) (by omega)
              have hb3 : But b w W2 := by rw [hW2]; exact But.own ((But.of_below HB0.out).trans HB2.out) (Nat.le_refl _) (set5R_but _ _ _ _ _ _ _)
              unfold set5R at hW2
              rw [← hW2]
              clear hW2 v0 v1 v2 v3 v4
              obtain ⟨v0, v1, v2, v3, v4⟩ := cells5R hv3
              exact bodyPost_ret (v := .agg (num5 v)) (by simp [results, Tryz.results39, go_sem, v0, v1, v2, v3, v4]) rfl ⟨hb3, by rw [HL.out]; exact ⟨rfl, j, rfl, hr3⟩⟩
            · have HL : Hold (numL (dl s i) = some (v, dl s j)) := ⟨HEND.out.2 (fun h => h2 (by have h3 := h.2; rw [dl_cons hd] at h3; simpa using h3))⟩
              have h1i : (d : Int) + 1 < (j : Int) := by omega
              obtain ⟨c2, hc2⟩ : ∃ c2, s[d] = c2 := ⟨_, rfl⟩
              have hne : ((c2.toNat : Int) == 48) = false := byte_ne (k := 48) (by rw [← hc2]; exact h2)
              have hv2 := HV2.out
              clear HEND h2
              obtain ⟨v0, v1, v2, v3, v4⟩ := cells5R hv2
              have g0 := freeR hv2 0
              have g1 := freeR hv2 1
              have g2 := freeR hv2 2
              have g3 := freeR hv2 3
              have g4 := freeR hv2 4
              go_wp2_with fail
              obtain ⟨W2, hW2⟩ : ∃ W2, W2 = set5R w1 w.heap.size (.int .i64 3) (.int .i64 v) (.string ⟨#[]⟩) (.slice none 0 0) (.slice none 0 0) := ⟨_, rfl⟩
              have hv3 : W2.heap[w.heap.size]? = some (.cells (num5 v) 58 (0, 0)) := by rw [hW2]; exact set5R_self hv2
              have hr3 : RB b s j false W2 := by rw [hW2]; exact HR2.out.keep (set5R_but _ _ _ _ _ _ _) (by omega)
              have hb3 : But b w W2 := by rw [hW2]; exact But.own ((But.of_below HB0.out).trans HB2.out) (Nat.le_refl _) (set5R_but _ _ _ _ _ _ _)
              unfold set5R at hW2
              rw [← hW2]
              clear hW2 v0 v1 v2 v3 v4
              obtain ⟨v0, v1, v2, v3, v4⟩ := cells5R hv3
              exact bodyPost_ret (v := .agg (num5 v)) (by simp [results, Tryz.results39, go_sem, v0, v1, v2, v3, v4]) rfl ⟨hb3, by rw [HL.out]; exact ⟨rfl, j, rfl, hr3⟩⟩
          | _ =>
            rw [hp] at he HEND
            dsimp only at he
            obtain ⟨n, tt, pp, rfl⟩ := he
            have HL : Hold (numL (dl s i) = none) := ⟨HEND.out⟩
            clear hp HEND
            go_wp2_with fail
            refine mixl_seg (by kernel_rfl) (fun _ _ d _ _ h => by cases d <;> exact h) [11, 12, 13, 14, 15] [_, _, _, _, _] 0 5 rfl _ _ _ rfl (by kernel_rfl) (growC HB1.out) ?_
            repeat (go_big_quiet_step (fail))
            refine wpQuiet_nil ?_
            refine mix_done (by kernel_rfl) (growC HB1.out) ?_
            go_wp2_with fail
            refine (fail_any b s j false _ HR2.out).mono ?_
            rintro e w2 ⟨rfl, hbad, hb2⟩
            have hv2 := But.keep hb2 HV2.out (by omega)
            have HBAD := Hold.mk hbad
            have HB3 := Hold.mk (HB2.out.trans hb2)
            clear hbad hb2 x0 x1
            obtain ⟨v0, v1, v2, v3, v4⟩ := cells5R hv2
            have g0 := freeR hv2 0
            have g1 := freeR hv2 1
            have g2 := freeR hv2 2
            have g3 := freeR hv2 3
            have g4 := freeR hv2 4
            go_wp2_with fail
            obtain ⟨W2, hW2⟩ : ∃ W2, W2 = set5R w2 w.heap.size (.int .i64 0) (.int .i64 0) (.string ⟨#[]⟩) (.slice none 0 0) (.slice none 0 0) := ⟨_, rfl⟩
            have hv3 : W2.heap[w.heap.size]? = some (.cells zero5R 58 (0, 0)) := by rw [hW2]; exact set5R_self hv2
            obtain ⟨j2, hj2⟩ := HBAD.out
            have hr3 : RB b s j2 true W2 := by rw [hW2]; exact hj2.keep (set5R_but _ _ _ _ _ _ _) (by omega)
            have hb3 : But b w W2 := by rw [hW2]; exact But.own ((But.of_below HB0.out).trans HB3.out) (Nat.le_refl _) (set5R_but _ _ _ _ _ _ _)
            unfold set5R at hW2
            rw [← hW2]
            clear hW2 v0 v1 v2 v3 v4
            obtain ⟨v0, v1, v2, v3, v4⟩ := cells5R hv3
            exact bodyPost_ret (v := .agg zero5R) (by simp [results, Tryz.results39, go_sem, v0, v1, v2, v3, v4]) rfl ⟨hb3, by rw [HL.out]; exact ⟨rfl, j2, hr3⟩⟩
  · have hdg : isD s[i] = true := by
      rcases hc0 with h | h
      · exact absurd (hc.symm.trans h) h45
      · exact h
    have HNE : Hold (∀ j, DigTo s i j → (∀ hj : j < s.size, isD s[j] = false) → NumEnd (Lib.parseIntB 64 (s.extract i j).data.toList) (dl s i) s i j) := ⟨fun j h1 h2 => num_end_pos hi hdg h1 h2⟩
    have hb45 : ((c.toNat : Int) == 45) = false := byte_ne (k := 45) h45
    go_wp2_with fail
    go_quiet (fail)
    go_wp2_with fail
    have HR1 : Hold (RB b s i false (W.drewN nq)) := ⟨HR.out.drewN nq⟩
    have HB1 : Hold (But b W (W.drewN nq)) := ⟨(But.refl b W).drewN nq⟩
    obtain ⟨W1, hW1⟩ : ∃ W1, W1 = W.drewN nq := ⟨_, rfl⟩
    rw [← hW1] at HR1 HB1 ⊢
    have HD0 : Hold (DigTo s i i) := ⟨DigTo.start hle⟩
    have hfd : i ≤ i := Nat.le_refl i
    clear hW1 x0 x1 f1 hc HR HCC hdg h45 hb45 hc0
    go_loopw [] (fun wr => ∃ j, DigTo s i j ∧ RB b s j false wr ∧ But b W wr) (fun wr => s.size - rat b wr)
    case atStart => exact ⟨i, HD0.out, HR1.out, HB1.out⟩
    case round =>
      obtain ⟨j, hD, hr, hbt⟩ := hrel
      clear HR1 HB1 HD0
      have HD := Hold.mk hD
      have HR := Hold.mk hr
      have HB := Hold.mk hbt
      have hjs := hr.le
      have hdj := hD.le
      have hij : i ≤ j := Nat.le_trans hfd hdj
      clear hD hr hbt
      have x0 := HR.out.c0
      have x1 := HR.out.c1
      have f1 := HR.out.fz 1
      by_cases hdig : ∃ hlt : j < s.size, isD s[j] = true
      · obtain ⟨hlt, hdg⟩ := hdig
        have HN := Hold.mk (HD.out.next hlt hdg)
        obtain ⟨c, hc⟩ : ∃ c, s[j] = c := ⟨_, rfl⟩
        rw [hc] at hdg
        have hk : 48 ≤ c.toNat ∧ c.toNat ≤ 57 := of_decide_eq_true hdg
        have k0 : (48 : Int) ≤ (c.toNat : Int) := by omega
        have k1 : (c.toNat : Int) ≤ 57 := by omega
        clear hdg
        go_wp2_with fail
        go_quiet (fail)
        go_wp2_with fail
        exact ⟨⟨j + 1, HN.out, (HR.out.drewN nq).to1 hlt, (HB.out.drewN nq).trans (But.set _ _ _)⟩, by rw [((HR.out.drewN nq).to1 hlt).rat, HR.out.rat]; omega⟩
      · have HS : Hold (∀ hj : j < s.size, isD s[j] = false) := ⟨fun hj => by
          cases e : isD s[j] with
          | false => rfl
          | true => exact absurd ⟨hj, e⟩ hdig⟩
        clear hdig
        have HEND := Hold.mk (HNE.out j HD.out HS.out)
        have hways : j = s.size ∨ (∃ hlt : j < s.size, s[j].toNat < 48) ∨ (∃ hlt : j < s.size, 48 ≤ s[j].toNat ∧ 57 < s[j].toNat) := by
          rcases Nat.lt_or_ge j s.size with hlt | hge
          · have h1 := of_decide_eq_false (HS.out hlt)
            rcases Nat.lt_or_ge s[j].toNat 48 with h2 | h2
            · exact .inr (.inl ⟨hlt, h2⟩)
            · exact .inr (.inr ⟨hlt, h2, by omega⟩)
          · exact .inl (by omega)
        have HP : Hold (∀ wd, Errs b wd → Calls Tryz.prog 59 #[.string (s.extract i j), .int .i64 10, .int .i64 64] wd (IntPost (Lib.parseIntB 64 (s.extract i j).data.toList) wd)) := ⟨fun wd hE => parseInt_any _ b wd (by rw [ByteArray.size_extract]; omega) hE⟩
        rcases hways with hje | ⟨hlt, hk⟩ | ⟨hlt, hk, hk2⟩
        · have hb1 : ¬ j < s.size := by omega
          have hb2 : decide (j < s.size) = false := decide_eq_false hb1
          clear hje
          go_wp2_with fail
          go_quiet (fail)
          go_wp2_with fail
          obtain ⟨wd, hwd⟩ : ∃ wd, wd = (wr.drewN nq).drew := ⟨_, rfl⟩
          refine wp_region_mixC (GrowC wd) 16 rfl (by kernel_rfl) ?_
          rw [← hwd]
          have HR2 : Hold (RB b s j false wd) := ⟨by rw [hwd]; exact (HR.out.drewN nq).drew⟩
          have HB2 : Hold (But b W wd) := ⟨by rw [hwd]; exact (HB.out.drewN nq).drew⟩
          have HE2 := Hold.mk (HE.out.but HB2.out)
          clear hwd x0 x1 f1 HR HB HS HD
          have y0 := Grow.cell HR2.out.c0
          have y1 := Grow.cell HR2.out.c1
          refine mixl_seg (by kernel_rfl) (fun _ _ d _ _ h => by cases d <;> exact h) [0, 1, 2, 3, 4, 5, 6, 7, 8, 9] [_, _, _, _, _, _, _, _, _, _] 6 16 rfl _ _ _ rfl (by kernel_rfl) (growC (Below.refl _ _)) ?_
          repeat (go_big_quiet_step (fail))
          refine wpQuiet_nil ?_
          refine mixl_act (i := 10) rfl (by kernel_rfl) (growC (Below.refl _ _)) rfl (fun K hK => ?_)
          go_wp2_with fail
          refine (HP.out wd HE2.out).mono ?_
          rintro e w1 ⟨hb1, he⟩
          replace HB2 := Hold.mk (HB2.out.trans (But.of_below hb1))
          replace HR2 := Hold.mk (HR2.out.below hb1)
          have HV2 := Hold.mk (But.keep HB2.out HV.out (by omega))
          have HB1 := Hold.mk hb1
          clear hb1 y0 y1 HP HE2
          have x0 := HR2.out.c0
          have x1 := HR2.out.c1
          cases hp : Lib.parseIntB 64 (s.extract i j).data.toList with
          | ok v =>
            rw [hp] at he HEND
            dsimp only at he
            subst he
            clear hp
            go_wp2_with fail
            refine mixl_seg (by kernel_rfl) (fun _ _ d _ _ h => by cases d <;> exact h) [11, 12, 13, 14, 15] [_, _, _, _, _] 0 5 rfl _ _ _ rfl (by kernel_rfl) (growC HB1.out) ?_
            repeat (go_big_quiet_step (fail))
            refine wpQuiet_nil ?_
            refine mix_done (by kernel_rfl) (growC HB1.out) ?_
            have hcases : (∃ hd : i < s.size, i + 1 < j ∧ s[i] = 48) ∨ (¬ i + 1 < j) ∨ (∃ hd : i < s.size, i + 1 < j ∧ s[i] ≠ 48) := by
              by_cases h1 : i + 1 < j
              · have hd : i < s.size := by omega
                by_cases h2 : s[i] = 48
                · exact .inl ⟨hd, h1, h2⟩
                · exact .inr (.inr ⟨hd, h1, h2⟩)
              · exact .inr (.inl h1)
            rcases hcases with ⟨hd, h1, h2⟩ | h1 | ⟨hd, h1, h2⟩
            · have HL : Hold (numL (dl s i) = none) := ⟨HEND.out.1 ⟨h1, by rw [dl_cons hd, h2]; rfl⟩⟩
              have h1i : (i : Int) + 1 < (j : Int) := by omega
              clear HEND
              go_wp2_with fail
              refine (fail_any b s j false _ HR2.out).mono ?_
              rintro e w2 ⟨rfl, hbad, hb2⟩
              have hv2 := But.keep hb2 HV2.out (by omega)
              have HBAD := Hold.mk hbad
              have HB3 := Hold.mk (HB2.out.trans hb2)
              clear hbad hb2 x0 x1
              obtain ⟨v0, v1, v2, v3, v4⟩ := cells5R hv2
              have g0 := freeR hv2 0
              have g1 := freeR hv2 1
              have g2 := freeR hv2 2
              have g3 := freeR hv2 3
              have g4 := freeR hv2 4
              go_wp2_with fail
              obtain ⟨W2, hW2⟩ : ∃ W2, W2 = set5R w2 w.heap.size (.int .i64 0) (.int .i64 0) (.string ⟨#[]⟩) (.slice none 0 0) (.slice none 0 0) := ⟨_, rfl⟩
              have hv3 : W2.heap[w.heap.size]? = some (.cells zero5R 58 (0, 0)) := by rw [hW2]; exact set5R_self hv2
              obtain ⟨j2, hj2⟩ := HBAD.out
              have hr3 : RB b s j2 true W2 := by rw [hW2]; exact hj2.keep (set5R_but _ _ _ _ _ _ _) (by omega)
              have hb3 : But b w W2 := by rw [hW2]; exact But.own ((But.of_below HB0.out).trans HB3.out) (Nat.le_refl _) (set5R_but _ _ _ _ _ _ _)
              unfold set5R at hW2
              rw [← hW2]
              clear hW2 v0 v1 v2 v3 v4
              obtain ⟨v0, v1, v2, v3, v4⟩ := cells5R hv3
              exact bodyPost_ret (v := .agg zero5R) (by simp [results, Tryz.results39, go_sem, v0, v1, v2, v3, v4]) rfl ⟨hb3, by rw [HL.out]; exact ⟨rfl, j2, hr3⟩⟩
            · have HL : Hold (numL (dl s i) = some (v, dl s j)) := ⟨HEND.out.2 (fun h => h1 h.1)⟩
              have h1i : ¬ (i : Int) + 1 < (j : Int) := by omega
              have hv2 := HV2.out
              clear HEND
              obtain ⟨v0, v1, v2, v3, v4⟩ := cells5R hv2
              have g0 := freeR hv2 0
              have g1 := freeR hv2 1
              have g2 := freeR hv2 2
              have g3 := freeR hv2 3
              have g4 := freeR hv2 4
              go_wp2_with fail
              obtain ⟨W2, hW2⟩ : ∃ W2, W2 = set5R w1 w.heap.size (.int .i64 3) (.int .i64 v) (.string ⟨#[]⟩) (.slice none 0 0) (.slice none 0 0) := ⟨_, rfl⟩
              have hv3 : W2.heap[w.heap.size]? = some (.cells (num5 v) 58 (0, 0)) := by rw [hW2]; exact set5R_self hv2
              have hr3 : RB b s j false W2 := by rw [hW2]; exact HR2.out.keep (set5R_but _ _ _ _ _ _ _) (by omega)
              have hb3 : But b w W2 := by rw [hW2]; exact But.own ((But.of_below HB0.out).trans HB2.out) (Nat.le_refl _) (set5R_but _ _ _ _ _ _ _)
              unfold set5R at hW2
              rw [← hW2]
              clear hW2 v0 v1 v2 v3 v4
              obtain ⟨v0, v1, v2, v3, v4⟩ := cells5R hv3
              exact bodyPost_ret (v := .agg (num5 v)) (by simp [results, Tryz.results39, go_sem, v0, v1, v2, v3, v4]) rfl ⟨hb3, by rw [HL.out]; exact ⟨rfl, j, rfl, hr3⟩⟩
            · have HL : Hold (numL (dl s i) = some (v, dl s j)) := ⟨HEND.out.2 (fun h => h2 (by have h3 := h.2; rw [dl_cons hd] at h3; simpa using h3))⟩
              have h1i : (i : Int) + 1 < (j : Int) := by omega
              obtain ⟨c2, hc2⟩ : ∃ c2, s[i] = c2 := ⟨_, rfl⟩
              have hne : ((c2.toNat : Int) == 48) = false := byte_ne (k := 48) (by rw [← hc2]; exact h2)
              have hv2 := HV2.out
              clear HEND h2
              obtain ⟨v0, v1, v2, v3, v4⟩ := cells5R hv2
              have g0 := freeR hv2 0
              have g1 := freeR hv2 1
              have g2 := freeR hv2 2
              have g3 := freeR hv2 3
              have g4 := freeR hv2 4
              go_wp2_with fail
              obtain ⟨W2, hW2⟩ : ∃ W2, W2 = set5R w1 w.heap.size (.int .i64 3) (.int .i64 v) (.string ⟨#[]⟩) (.slice none 0 0) (.slice none 0 0) := ⟨_, rfl⟩
              have hv3 : W2.heap[w.heap.size]? = some (.cells (num5 v) 58 (0, 0)) := by rw [hW2]; exact set5R_self hv2
              have hr3 : RB b s j false W2 := by rw [hW2]; exact HR2.out.keep (set5R_but _ _ _ _ _ _ _) (by omega)
              have hb3 : But b w W2 := by rw [hW2]; exact But.own ((But.of_below HB0.out).trans HB2.out) (Nat.le_refl _) (set5R_but _ _ _ _ _ _ _)
              unfold set5R at hW2
              rw [← hW2]
              clear hW2 v0 v1 v2 v3 v4
              obtain ⟨v0, v1, v2, v3, v4⟩ := cells5R hv3
              exact bodyPost_ret (v := .agg (num5 v)) (by simp [results, Tryz.results39, go_sem, v0, v1, v2, v3, v4]) rfl ⟨hb3, by rw [HL.out]; exact ⟨rfl, j, rfl, hr3⟩⟩
          | _ =>
            rw [hp] at he HEND
            dsimp only at he
            obtain ⟨n, tt, pp, rfl⟩ := he
            have HL : Hold (numL (dl s i) = none) := ⟨HEND.out⟩
            clear hp HEND
            go_wp2_with fail
            refine mixl_seg (by kernel_rfl) (fun _ _ d _ _ h => by cases d <;> exact h) [11, 12, 13, 14, 15] [_, _, _, _, _] 0 5 rfl _ _ _ rfl (by kernel_rfl) (growC HB1.out) ?_
            repeat (go_big_quiet_step (fail))
            refine wpQuiet_nil ?_
            refine mix_done (by kernel_rfl) (growC HB1.out) ?_
            go_wp2_with fail
            refine (fail_any b s j false _ HR2.out).mono ?_
            rintro e w2 ⟨rfl, hbad, hb2⟩
            have hv2 := But.keep hb2 HV2.out (by omega)
            have HBAD := Hold.mk hbad
            have HB3 := Hold.mk (HB2.out.trans hb2)
            clear hbad hb2 x0 x1
            obtain ⟨v0, v1, v2, v3, v4⟩ := cells5R hv2
            have g0 := freeR hv2 0
            have g1 := freeR hv2 1
            have g2 := freeR hv2 2
            have g3 := freeR hv2 3
            have g4 := freeR hv2 4
            go_wp2_with fail
            obtain ⟨W2, hW2⟩ : ∃ W2, W2 = set5R w2 w.heap.size (.int .i64 0) (.int .i64 0) (.string ⟨#[]⟩) (.slice none 0 0) (.slice none 0 0) := ⟨_, rfl⟩
            have hv3 : W2.heap[w.heap.size]? = some (.cells zero5R 58 (0, 0)) := by rw [hW2]; exact set5R_self hv2
            obtain ⟨j2, hj2⟩ := HBAD.out
            have hr3 : RB b s j2 true W2 := by rw [hW2]; exact hj2.keep (set5R_but _ _ _ _ _ _ _) (by omega)
            have hb3 : But b w W2 := by rw [hW2]; exact But.own ((But.of_below HB0.out).trans HB3.out) (Nat.le_refl _) (set5R_but _ _ _ _ _ _ _)
            unfold set5R at hW2
            rw [← hW2]
            clear hW2 v0 v1 v2 v3 v4
            obtain ⟨v0, v1, v2, v3, v4⟩ := cells5R hv3
            exact bodyPost_ret (v := .agg zero5R) (by simp [results, Tryz.results39, go_sem, v0, v1, v2, v3, v4]) rfl ⟨hb3, by rw [HL.out]; exact ⟨rfl, j2, hr3⟩⟩
        · obtain ⟨c, hc⟩ : ∃ c, s[j] = c := ⟨_, rfl⟩
          rw [hc] at hk
          have k0 : ¬ (48 : Int) ≤ (c.toNat : Int) := by omega
          have k2 : decide ((48 : Int) ≤ (c.toNat : Int)) = false := decide_eq_false k0
          clear k0
          go_wp2_with fail
          go_quiet (fail)
          go_wp2_with fail
          clear k2
          obtain ⟨wd, hwd⟩ : ∃ wd, wd = (wr.drewN nq).drew := ⟨_, rfl⟩
          refine wp_region_mixC (GrowC wd) 16 rfl (by kernel_rfl) ?_
          rw [← hwd]
          have HR2 : Hold (RB b s j false wd) := ⟨by rw [hwd]; exact (HR.out.drewN nq).drew⟩
          have HB2 : Hold (But b W wd) := ⟨by rw [hwd]; exact (HB.out.drewN nq).drew⟩
          have HE2 := Hold.mk (HE.out.but HB2.out)
          clear hwd x0 x1 f1 HR HB HS HD
          have y0 := Grow.cell HR2.out.c0
          have y1 := Grow.cell HR2.out.c1
          refine mixl_seg (by kernel_rfl) (fun _ _ d _ _ h => by cases d <;> exact h) [0, 1, 2, 3, 4, 5, 6, 7, 8, 9] [_, _, _, _, _, _, _, _, _, _] 6 16 rfl _ _ _ rfl (by kernel_rfl) (growC (Below.refl _ _)) ?_
          repeat (go_big_quiet_step (fail))
          refine wpQuiet_nil ?_
          refine mixl_act (i := 10) rfl (by kernel_rfl) (growC (Below.refl _ _)) rfl (fun K hK => ?_)
          go_wp2_with fail
          refine (HP.out wd HE2.out).mono ?_
          rintro e w1 ⟨hb1, he⟩
          replace HB2 := Hold.mk (HB2.out.trans (But.of_below hb1))
          replace HR2 := Hold.mk (HR2.out.below hb1)
          have HV2 := Hold.mk (But.keep HB2.out HV.out (by omega))
          have HB1 := Hold.mk hb1
          clear hb1 y0 y1 HP HE2
          have x0 := HR2.out.c0
          have x1 := HR2.out.c1
          cases hp : Lib.parseIntB 64 (s.extract i j).data.toList with
          | ok v =>
            rw [hp] at he HEND
            dsimp only at he
            subst he
            clear hp
            go_wp2_with fail
            refine mixl_seg (by kernel_rfl) (fun _ _ d _ _ h => by cases d <;> exact h) [11, 12, 13, 14, 15] [_, _, _, _, _] 0 5 rfl _ _ _ rfl (by kernel_rfl) (growC HB1.out) ?_
            repeat (go_big_quiet_step (fail))
            refine wpQuiet_nil ?_
            refine mix_done (by kernel_rfl) (growC HB1.out) ?_
            have hcases : (∃ hd : i < s.size, i + 1 < j ∧ s[i] = 48) ∨ (¬ i + 1 < j) ∨ (∃ hd : i < s.size, i + 1 < j ∧ s[i] ≠ 48) := by
              by_cases h1 : i + 1 < j
              · have hd : i < s.size := by omega
                by_cases h2 : s[i] = 48
                · exact .inl ⟨hd, h1, h2⟩
                · exact .inr (.inr ⟨hd, h1, h2⟩)
              · exact .inr (.inl h1)
            rcases hcases with ⟨hd, h1, h2⟩ | h1 | ⟨hd, h1, h2⟩
            · have HL : Hold (numL (dl s i) = none) := ⟨HEND.out.1 ⟨h1, by rw [dl_cons hd, h2]; rfl⟩⟩
              have h1i : (i : Int) + 1 < (j : Int) := by omega
              clear HEND
              go_wp2_with fail
              refine (fail_any b s j false _ HR2.out).mono ?_
              rintro e w2 ⟨rfl, hbad, hb2⟩
              have hv2 := But.keep hb2 HV2.out (by omega)
              have HBAD := Hold.mk hbad
              have HB3 := Hold.mk (HB2.out.trans hb2)
              clear hbad hb2 x0 x1
              obtain ⟨v0, v1, v2, v3, v4⟩ := cells5R hv2
              have g0 := freeR hv2 0
              have g1 := freeR hv2 1
              have g2 := freeR hv2 2
              have g3 := freeR hv2 3
              have g4 := freeR hv2 4
              go_wp2_with fail
              obtain ⟨W2, hW2⟩ : ∃ W2, W2 = set5R w2 w.heap.size (.int .i64 0) (.int .i64 0) (.string ⟨#[]⟩) (.slice none 0 0) (.slice none 0 0) := ⟨_, rfl⟩
              have hv3 : W2.heap[w.heap.size]? = some (.cells zero5R 58 (0, 0)) := by rw [hW2]; exact set5R_self hv2
              obtain ⟨j2, hj2⟩ := HBAD.out
              have hr3 : RB b s j2 true W2 := by rw [hW2]; exact hj2.keep (set5R_but _ _ _ _ _ _ _) (by omega)
              have hb3 : But b w W2 := by rw [hW2]; exact But.own ((But.of_below HB0.out).trans HB3.out) (Nat.le_refl _) (set5R_but _ _ _ _ _ _ _)
              unfold set5R at hW2
              rw [← hW2]
              clear hW2 v0 v1 v2 v3 v4
              obtain ⟨v0, v1, v2, v3, v4⟩ := cells5R hv3
              exact bodyPost_ret (v := .agg zero5R) (by simp [results, Tryz.results39, go_sem, v0, v1, v2, v3, v4]) rfl ⟨hb3, by rw [HL.out]; exact ⟨rfl, j2, hr3⟩⟩
            · have HL : Hold (numL (dl s i) = some (v, dl s j)) := ⟨HEND.out.2 (fun h => h1 h.1)⟩
              have h1i : ¬ (i : Int) + 1 < (j : Int) := by omega
              have hv2 := HV2.out
              clear HEND
              obtain ⟨v0, v1, v2, v3, v4⟩ := cells5R hv2
              have g0 := freeR hv2 0
              have g1 := freeR hv2 1
              have g2 := freeR hv2 2
              have g3 := freeR hv2 3
              have g4 := freeR hv2 4
              go_wp2_with fail
              obtain ⟨W2, hW2⟩ : ∃ W2, W2 = set5R w1 w.heap.size (.int .i64 3) (.int .i64 v) (.string ⟨#[]⟩) (.slice none 0 0) (.slice none 0 0) := ⟨_, rfl⟩
              have hv3 : W2.heap[w.heap.size]? = some (.cells (num5 v) 58 (0, 0)) := by rw [hW2]; exact set5R_self hv2
              have hr3 : RB b s j false W2 := by rw [hW2]; exact HR2.out.keep (set5R_but _ _ _ _ _ _ _) (by omega)
              have hb3 : But b w W2 := by rw [hW2]; exact But.own ((But.of_below HB0.out).trans HB2.out) (Nat.le_refl _) (set5R_but _ _ _ _ _ _ _)
              unfold set5R at hW2
              rw [← hW2]
              clear hW2 v0 v1 v2 v3 v4
              obtain ⟨v0, v1, v2, v3, v4⟩ := cells5R hv3
              exact bodyPost_ret (v := .agg (num5 v)) (by simp [results, Tryz.results39, go_sem, v0, v1, v2, v3, v4]) rfl ⟨hb3, by rw [HL.out]; exact ⟨rfl, j, rfl, hr3⟩⟩
            · have HL : Hold (numL (dl s i) = some (v, dl s j)) := ⟨HEND.out.2 (fun h => h2 (by have h3 := h.2; rw [dl_cons hd] at h3; simpa using h3))⟩
              have h1i : (i : Int) + 1 < (j : Int) := by omega
              obtain ⟨c2, hc2⟩ : ∃ c2, s[i] = c2 := ⟨_, rfl⟩
              have hne : ((c2.toNat : Int) == 48) = false := byte_ne (k := 48) (by rw [← hc2]; exact h2)
              have hv2 := HV2.out
              clear HEND h2
              obtain ⟨v0, v1, v2, v3, v4⟩ := cells5R hv2
              have g0 := freeR hv2 0
              have g1 := freeR hv2 1
              have g2 := freeR hv2 2
              have g3 := freeR hv2 3
              have g4 := freeR hv2 4
              go_wp2_with fail
              obtain ⟨W2, hW2⟩ : ∃ W2, W2 = set5R w1 w.heap.size (.int .i64 3) (.int .i64 v) (.string ⟨#[]⟩) (.slice none 0 0) (.slice none 0 0) := ⟨_, rfl⟩
              have hv3 : W2.heap[w.heap.size]? = some (.cells (num5 v) 58 (0, 0)) := by rw [hW2]; exact set5R_self hv2
              have hr3 : RB b s j false W2 := by rw [hW2]; exact HR2.out.keep (set5R_but _ _ _ _ _ _ _) (by omega)
              have hb3 : But b w W2 := by rw [hW2]; exact But.own ((But.of_below HB0.out).trans HB2.out) (Nat.le_refl _) (set5R_but _ _ _ _ _ _ _)
              unfold set5R at hW2
              rw [← hW2]
              clear hW2 v0 v1 v2 v3 v4
              obtain ⟨v0, v1, v2, v3, v4⟩ := cells5R hv3
              exact bodyPost_ret (v := .agg (num5 v)) (by simp [results, Tryz.results39, go_sem, v0, v1, v2, v3, v4]) rfl ⟨hb3, by rw [HL.out]; exact ⟨rfl, j, rfl, hr3⟩⟩
          | _ =>
            rw [hp] at he HEND
            dsimp only at he
            obtain ⟨n, tt, pp, rfl⟩ := he
            have HL : Hold (numL (dl s i) = none) := ⟨HEND.out⟩
            clear hp HEND
            go_wp2_with fail
            refine mixl_seg (by kernel_rfl) (fun _ _ d _ _ h => by cases d <;> exact h) [11, 12, 13, 14, 15] [_, _, _, _, _] 0 5 rfl _ _ _ rfl (by kernel_rfl) (growC HB1.out) ?_
            repeat (go_big_quiet_step (fail))
            refine wpQuiet_nil ?_
            refine mix_done (by kernel_rfl) (growC HB1.out) ?_
            go_wp2_with fail
            refine (fail_any b s j false _ HR2.out).mono ?_
            rintro e w2 ⟨rfl, hbad, hb2⟩
            have hv2 := But.keep hb2 HV2.out (by omega)
            have HBAD := Hold.mk hbad
            have HB3 := Hold.mk (HB2.out.trans hb2)
            clear hbad hb2 x0 x1
            obtain ⟨v0, v1, v2, v3, v4⟩ := cells5R hv2
            have g0 := freeR hv2 0
            have g1 := freeR hv2 1
            have g2 := freeR hv2 2
            have g3 := freeR hv2 3
            have g4 := freeR hv2 4
            go_wp2_with fail
            obtain ⟨W2, hW2⟩ : ∃ W2, W2 = set5R w2 w.heap.size (.int .i64 0) (.int .i64 0) (.string ⟨#[]⟩) (.slice none 0 0) (.slice none 0 0) := ⟨_, rfl⟩
            have hv3 : W2.heap[w.heap.size]? = some (.cells zero5R 58 (0, 0)) := by rw [hW2]; exact set5R_self hv2
            obtain ⟨j2, hj2⟩ := HBAD.out
            have hr3 : RB b s j2 true W2 := by rw [hW2]; exact hj2.keep (set5R_but _ _ _ _ _ _ _) (by omega)
            have hb3 : But b w W2 := by rw [hW2]; exact But.own ((But.of_below HB0.out).trans HB3.out) (Nat.le_refl _) (set5R_but _ _ _ _ _ _ _)
            unfold set5R at hW2
            rw [← hW2]
            clear hW2 v0 v1 v2 v3 v4
            obtain ⟨v0, v1, v2, v3, v4⟩ := cells5R hv3
            exact bodyPost_ret (v := .agg zero5R) (by simp [results, Tryz.results39, go_sem, v0, v1, v2, v3, v4]) rfl ⟨hb3, by rw [HL.out]; exact ⟨rfl, j2, hr3⟩⟩
        · obtain ⟨c, hc⟩ : ∃ c, s[j] = c := ⟨_, rfl⟩
          rw [hc] at hk hk2
          have k0 : (48 : Int) ≤ (c.toNat : Int) := by omega
          have k1 : ¬ (c.toNat : Int) ≤ 57 := by omega
          go_wp2_with fail
          go_quiet (fail)
          go_wp2_with fail
          obtain ⟨wd, hwd⟩ : ∃ wd, wd = (wr.drewN nq).drew := ⟨_, rfl⟩
          refine wp_region_mixC (GrowC wd) 16 rfl (by kernel_rfl) ?_
          rw [← hwd]
          have HR2 : Hold (RB b s j false wd) := ⟨by rw [hwd]; exact (HR.out.drewN nq).drew⟩
          have HB2 : Hold (But b W wd) := ⟨by rw [hwd]; exact (HB.out.drewN nq).drew⟩
          have HE2 := Hold.mk (HE.out.but HB2.out)
          clear hwd x0 x1 f1 HR HB HS HD
          have y0 := Grow.cell HR2.out.c0
          have y1 := Grow.cell HR2.out.c1
          refine mixl_seg (by kernel_rfl) (fun _ _ d _ _ h => by cases d <;> exact h) [0, 1, 2, 3, 4, 5, 6, 7, 8, 9] [_, _, _, _, _, _, _, _, _, _] 6 16 rfl _ _ _ rfl (by kernel_rfl) (growC (Below.refl _ _)) ?_
          repeat (go_big_quiet_step (fail))
          refine wpQuiet_nil ?_
          refine mixl_act (i := 10) rfl (by kernel_rfl) (growC (Below.refl _ _)) rfl (fun K hK => ?_)
          go_wp2_with fail
          refine (HP.out wd HE2.out).mono ?_
          rintro e w1 ⟨hb1, he⟩
          replace HB2 := Hold.mk (HB2.out.trans (But.of_below hb1))
          replace HR2 := Hold.mk (HR2.out.below hb1)
          have HV2 := Hold.mk (But.keep HB2.out HV.out (by omega))
          have HB1 := Hold.mk hb1
          clear hb1 y0 y1 HP HE2
          have x0 := HR2.out.c0
          have x1 := HR2.out.c1
          cases hp : Lib.parseIntB 64 (s.extract i j).data.toList with
          | ok v =>
            rw [hp] at he HEND
            dsimp only at he
            subst he
            clear hp
            go_wp2_with fail
            refine mixl_seg (by kernel_rfl) (fun _ _ d _ _ h => by cases d <;> exact h) [11, 12, 13, 14, 15] [_, _, _, _, _] 0 5 rfl _ _ _ rfl (by kernel_rfl) (growC HB1.out) ?_
            repeat (go_big_quiet_step (fail))
            refine wpQuiet_nil ?_
            refine mix_done (by kernel_rfl) (growC HB1.out) ?_
            have hcases : (∃ hd : i < s.size, i + 1 < j ∧ s[i] = 48) ∨ (¬ i + 1 < j) ∨ (∃ hd : i < s.size, i + 1 < j ∧ s[i] ≠ 48) := by
              by_cases h1 : i + 1 < j
              · have hd : i < s.size := by omega
                by_cases h2 : s[i] = 48
                · exact .inl ⟨hd, h1, h2⟩
                · exact .inr (.inr ⟨hd, h1, h2⟩)
              · exact .inr (.inl h1)
            rcases hcases with ⟨hd, h1, h2⟩ | h1 | ⟨hd, h1, h2⟩
            · have HL : Hold (numL (dl s i) = none) := ⟨HEND.out.1 ⟨h1, by rw [dl_cons hd, h2]; rfl⟩⟩
              have h1i : (i : Int) + 1 < (j : Int) := by omega
              clear HEND
              go_wp2_with fail
              refine (fail_any b s j false _ HR2.out).mono ?_
              rintro e w2 ⟨rfl, hbad, hb2⟩
              have hv2 := But.keep hb2 HV2.out (by omega)
              have HBAD := Hold.mk hbad
              have HB3 := Hold.mk (HB2.out.trans hb2)
              clear hbad hb2 x0 x1
              obtain ⟨v0, v1, v2, v3, v4⟩ := cells5R hv2
              have g0 := freeR hv2 0
              have g1 := freeR hv2 1
              have g2 := freeR hv2 2
              have g3 := freeR hv2 3
              have g4 := freeR hv2 4
              go_wp2_with fail
              obtain ⟨W2, hW2⟩ : ∃ W2, W2 = set5R w2 w.heap.size (.int .i64 0) (.int .i64 0) (.string ⟨#[]⟩) (.slice none 0 0) (.slice none 0 0) := ⟨_, rfl⟩
              have hv3 : W2.heap[w.heap.size]? = some (.cells zero5R 58 (0, 0)) := by rw [hW2]; exact set5R_self hv2
              obtain ⟨j2, hj2⟩ := HBAD.out
              have hr3 : RB b s j2 true W2 := by rw [hW2]; exact hj2.keep (set5R_but _ _ _ _ _ _ _) (by omega)
              have hb3 : But b w W2 := by rw [hW2]; exact But.own ((But.of_below HB0.out).trans HB3.out) (Nat.le_refl _) (set5R_but _ _ _ _ _ _ _)
              unfold set5R at hW2
              rw [← hW2]
              clear hW2 v0 v1 v2 v3 v4
              obtain ⟨v0, v1, v2, v3, v4⟩ := cells5R hv3
              exact bodyPost_ret (v := .agg zero5R) (by simp [results, Tryz.results39, go_sem, v0, v1, v2, v3, v4]) rfl ⟨hb3, by rw [HL.out]; exact ⟨rfl, j2, hr3⟩⟩
            · have HL : Hold (numL (dl s i) = some (v, dl s j)) := ⟨HEND.out.2 (fun h => h1 h.1)⟩
              have h1i : ¬ (i : Int) + 1 < (j : Int) := by omega
              have hv2 := HV2.out
              clear HEND
              obtain ⟨v0, v1, v2, v3, v4⟩ := cells5R hv2
              have g0 := freeR hv2 0
              have g1 := freeR hv2 1
              have g2 := freeR hv2 2
              have g3 := freeR hv2 3
              have g4 := freeR hv2 4
              go_wp2_with fail
              obtain ⟨W2, hW2⟩ : ∃ W2, W2 = set5R w1 w.heap.size (.int .i64 3) (.int .i64 v) (.string ⟨#[]⟩) (.slice none 0 0) (.slice none 0 0) := ⟨_, rfl⟩
              have hv3 : W2.heap[w.heap.size]? = some (.cells (num5 v) 58 (0, 0)) := by rw [hW2]; exact set5R_self hv2
              have hr3 : RB b s j false W2 := by rw [hW2]; exact HR2.out.keep (set5R_but _ _ _ _ _ _ _) (by omega)
              have hb3 : But b w W2 := by rw [hW2]; exact But.own ((But.of_below HB0.out).trans HB2.out) (Nat.le_refl _) (set5R_but _ _ _ _ _ _ _)
              unfold set5R at hW2
              rw [← hW2]
              clear hW2 v0 v1 v2 v3 v4
              obtain ⟨v0, v1, v2, v3, v4⟩ := cells5R hv3
              exact bodyPost_ret (v := .agg (num5 v)) (by simp [results, Tryz.results39, go_sem, v0, v1, v2, v3, v4]) rfl ⟨hb3, by rw [HL.out]; exact ⟨rfl, j, rfl, hr3⟩⟩
            · have HL : Hold (numL (dl s i) = some (v, dl s j)) := ⟨HEND.out.2 (fun h => h2 (by have h3 := h.2; rw [dl_cons hd] at h3; simpa using h3))⟩
              have h1i : (i : Int) + 1 < (j : Int) := by omega
              obtain ⟨c2, hc2⟩ : ∃ c2, s[i] = c2 := ⟨_, rfl⟩
              have hne : ((c2.toNat : Int) == 48) = false := byte_ne (k := 48) (by rw [← hc2]; exact h2)
              have hv2 := HV2.out
              clear HEND h2
              obtain ⟨v0, v1, v2, v3, v4⟩ := cells5R hv2
              have g0 := freeR hv2 0
              have g1 := freeR hv2 1
              have g2 := freeR hv2 2
              have g3 := freeR hv2 3
              have g4 := freeR hv2 4
              go_wp2_with fail
              obtain ⟨W2, hW2⟩ : ∃ W2, W2 = set5R w1 w.heap.size (.int .i64 3) (.int .i64 v) (.string ⟨#[]⟩) (.slice none 0 0) (.slice none 0 0) := ⟨_, rfl⟩
              have hv3 : W2.heap[w.heap.size]? = some (.cells (num5 v) 58 (0, 0)) := by rw [hW2]; exact set5R_self hv2
              have hr3 : RB b s j false W2 := by rw [hW2]; exact HR2.out.keep (set5R_but _ _ _ _ _ _ _) (by omega)
              have hb3 : But b w W2 := by rw [hW2]; exact But.own ((But.of_below HB0.out).trans HB2.out) (Nat.le_refl _) (set5R_but _ _ _ _ _ _ _)
              unfold set5R at hW2
              rw [← hW2]
              clear hW2 v0 v1 v2 v3 v4
              obtain ⟨v0, v1, v2, v3, v4⟩ := cells5R hv3
              exact bodyPost_ret (v := .agg (num5 v)) (by simp [results, Tryz.results39, go_sem, v0, v1, v2, v3, v4]) rfl ⟨hb3, by rw [HL.out]; exact ⟨rfl, j, rfl, hr3⟩⟩
          | _ =>
            rw [hp] at he HEND
            dsimp only at he
            obtain ⟨n, tt, pp, rfl⟩ := he
            have HL : Hold (numL (dl s i) = none) := ⟨HEND.out⟩
            clear hp HEND
            go_wp2_with fail
            refine mixl_seg (by kernel_rfl) (fun _ _ d _ _ h => by cases d <;> exact h) [11, 12, 13, 14, 15] [_, _, _, _, _] 0 5 rfl _ _ _ rfl (by kernel_rfl) (growC HB1.out) ?_
            repeat (go_big_quiet_step (fail))
            refine wpQuiet_nil ?_
            refine mix_done (by kernel_rfl) (growC HB1.out) ?_
            go_wp2_with fail
            refine (fail_any b s j false _ HR2.out).mono ?_
            rintro e w2 ⟨rfl, hbad, hb2⟩
            have hv2 := But.keep hb2 HV2.out (by omega)
            have HBAD := Hold.mk hbad
            have HB3 := Hold.mk (HB2.out.trans hb2)
            clear hbad hb2 x0 x1
            obtain ⟨v0, v1, v2, v3, v4⟩ := cells5R hv2
            have g0 := freeR hv2 0
            have g1 := freeR hv2 1
            have g2 := freeR hv2 2
            have g3 := freeR hv2 3
            have g4 := freeR hv2 4
            go_wp2_with fail
            obtain ⟨W2, hW2⟩ : ∃ W2, W2 = set5R w2 w.heap.size (.int .i64 0) (.int .i64 0) (.string ⟨#[]⟩) (.slice none 0 0) (.slice none 0 0) := ⟨_, rfl⟩
            have hv3 : W2.heap[w.heap.size]? = some (.cells zero5R 58 (0, 0)) := by rw [hW2]; exact set5R_self hv2
            obtain ⟨j2, hj2⟩ := HBAD.out
            have hr3 : RB b s j2 true W2 := by rw [hW2]; exact hj2.keep (set5R_but _ _ _ _ _ _ _) (by omega)
            have hb3 : But b w W2 := by rw [hW2]; exact But.own ((But.of_below HB0.out).trans HB3.out) (Nat.le_refl _) (set5R_but _ _ _ _ _ _ _)
            unfold set5R at hW2
            rw [← hW2]
            clear hW2 v0 v1 v2 v3 v4
            obtain ⟨v0, v1, v2, v3, v4⟩ := cells5R hv3
            exact bodyPost_ret (v := .agg zero5R) (by simp [results, Tryz.results39, go_sem, v0, v1, v2, v3, v4]) rfl ⟨hb3, by rw [HL.out]; exact ⟨rfl, j2, hr3⟩⟩
end Go.Proofs.YticlnijkfclgcaaGreatDoor
