/- The reader of the program: value, where lists are read. -/
import Derived.Test.YticlnijkfclgcaaGreatDoorZ12
import Derived.Test.YticlnijkfclgcaaGreatDoorZ13
namespace Go.Proofs.YticlnijkfclgcaaGreatDoor
open Go.Shelf Go.RowKit

/-- the cells from a block on -/
def cfF (B : Nat) (w : World) : CF := fun q o => if B ≤ q then w.cell? ⟨q, o, none⟩ else none
theorem cfF_cf (B : Nat) (w : World) : CLe (cfF B w) (cf w) := fun q o v h => by
  unfold cfF at h; split at h
  · exact h
  · cases h
theorem cfF_le {B C : Nat} (w : World) (h : C ≤ B) : CLe (cfF B w) (cfF C w) := fun q o v hv => by
  unfold cfF at *; split at hv
  · rw [if_pos (by omega)]; exact hv
  · cases hv
theorem cfF_but {b B : Nat} {w w' : World} (h : But b w w') (hb : b < B) : CLe (cfF B w) (cfF B w') := fun q o v hv => by
  unfold cfF at *; split at hv
  · rename_i hq
    rw [if_pos hq]
    exact h.cell hv (fun e => by have := Option.some.inj e; simp at this; omega)
  · cases hv
theorem cfF_below {B : Nat} {w w' : World} (h : Below w.heap.size w w') : CLe (cfF B w) (cfF B w') := fun q o v hv => by
  unfold cfF at *; split at hv
  · rename_i hq
    rw [if_pos hq]
    exact cle_below h q o v hv
  · cases hv
def shape5 (x : Value) : Prop := ∃ k n t na nl nc ia il ic, x = .agg #[.int .i64 k, .int .i64 n, .string t, .slice na nl nc, .slice ia il ic]
theorem shape_zero : shape5 (.agg zero5R) := ⟨_, _, _, _, _, _, _, _, _, rfl⟩
theorem JAt.shape {c : CF} {v : JV} {x : Value} (h : JAt c v x) : shape5 x := by
  obtain ⟨k, n, t, nm, it, na, ncap, ia, icap, _, rfl, _⟩ := h.open
  exact ⟨_, _, _, _, _, _, _, _, _, rfl⟩
/-- a value that is read, or it is bad -/
def ResPost (b : Nat) (s : ByteArray) (R : Option (JV × List UInt8)) (w : World) (e : Ending) (w' : World) : Prop :=
  But b w w' ∧ ∃ (bd : Bool) (x : Value) (j : Nat), e = .returned x ∧ shape5 x ∧ RB b s j bd w' ∧ (bd = false → ∃ v, R = some (v, dl s j) ∧ JAt (cfF w.heap.size w') v x) ∧ (bd = true → R = none)
def endK (k : Int) : UInt8 := if k = 5 then 93 else 125
def openK (k : Int) : UInt8 := if k = 5 then 91 else 123
/-- members, from behind the opening sign on -/
def listL (n : Nat) (k : Int) (r : List UInt8) : Option (JV × List UInt8) :=
  if (skipL r).head? = some (endK k) then some (.mk k 0 ⟨#[]⟩ [] [], (skipL r).tail) else if k = 5 then arrL n r [] else objL n r [] []
abbrev kind5 (k : Int) : Array Value := #[.int .i64 k, .int .i64 0, .string ⟨#[]⟩, .slice none 0 0, .slice none 0 0]
/-- what list does -/
def ListAt (b : Nat) (s : ByteArray) (n : Nat) : Prop := ∀ (k : Int) (i : Nat) (w : World), 2 * (s.size - i) ≤ n → (k = 5 ∨ k = 6) → RB b s i false w → Errs b w → (∃ r, dl s i = openK k :: r) →
  Calls Tryz.prog 40 #[.pointer (some ⟨b, 0, none⟩), .agg (kind5 k), .int .u8 ((endK k).toNat : Int)] w (ResPost b s (listL n k (dl s (i + 1))) w)
theorem jat_leaf (c : CF) (k n : Int) (t : ByteArray) (hk : (Lit.int .i64 k).wf = true) (hn : (Lit.int .i64 n).wf = true) (ht : t.size ≤ 9223372036854775807) : JAt c (.mk k n t [] []) (.agg #[.int .i64 k, .int .i64 n, .string t, .slice none 0 0, .slice none 0 0]) :=
  JAt.shut hk hn ht ⟨none, 0, rfl, by simp, fun i s h => by simp at h⟩ ⟨none, 0, rfl, by simp, fun i s h => by simp at h⟩
theorem num_wf {l r : List UInt8} {v : Int} (h : numL l = some (v, r)) : (Lit.int .i64 v).wf = true := by
  have hb : -9223372036854775808 ≤ v ∧ v ≤ 9223372036854775807 := by
    unfold numL at h
    split at h
    · exact (digL_rest h).2.2
    · exact (digL_rest h).2.2
  simp [Lit.wf, IntKind.min, IntKind.max, IntKind.bits, IntKind.signed]
  omega
theorem ret_post {b : Nat} {s : ByteArray} {R : Option (JV × List UInt8)} {w w2 : World} (x0 x1 x2 x3 x4 : Value) (hv : w2.heap[w.heap.size]? = some (.cells zero5R 58 (0, 0))) (hb : But b w w2) (hbw : b < w.heap.size) (B : Nat) (hB : w.heap.size < B) (bd : Bool) (j : Nat) (hr : RB b s j bd w2)
    (hsh : shape5 (.agg #[x0, x1, x2, x3, x4])) (h1 : bd = false → ∃ v, R = some (v, dl s j) ∧ JAt (cfF B w2) v (.agg #[x0, x1, x2, x3, x4])) (h2 : bd = true → R = none) :
    ∃ W2, W2 = set5R w2 w.heap.size x0 x1 x2 x3 x4 ∧ W2.heap[w.heap.size]? = some (.cells #[x0, x1, x2, x3, x4] 58 (0, 0)) ∧ ResPost b s R w (.returned (.agg #[x0, x1, x2, x3, x4])) W2 :=
  ⟨_, rfl, set5R_self hv, But.own hb (Nat.le_refl _) (set5R_but _ _ _ _ _ _ _), bd, _, j, rfl, hsh, hr.keep (set5R_but _ _ _ _ _ _ _) (by omega), fun h => by
    obtain ⟨v, e, hj⟩ := h1 h
    exact ⟨v, e, (hj.mono (cfF_but (set5R_but _ _ _ _ _ _ _) hB)).mono (cfF_le _ (Nat.le_of_lt hB))⟩, h2⟩
theorem val_end {n : Nat} {l : List UInt8} (h : skipL l = []) : valL (n + 1) l = none := by rw [valL, h]
theorem val_word {n : Nat} {l r p : List UInt8} {c : UInt8} {k : Int} (h : skipL l = c :: r) (hc : c = 110 ∧ p = [110, 117, 108, 108] ∧ k = 0 ∨ c = 102 ∧ p = [102, 97, 108, 115, 101] ∧ k = 1 ∨ c = 116 ∧ p = [116, 114, 117, 101] ∧ k = 2) : valL (n + 1) l = (wordL p (c :: r)).map fun r => (.mk k 0 ⟨#[]⟩ [] [], r) := by
  rcases hc with ⟨rfl, rfl, rfl⟩ | ⟨rfl, rfl, rfl⟩ | ⟨rfl, rfl, rfl⟩
  · rw [valL, h]; rfl
  · rw [valL, h]; rfl
  · rw [valL, h]; rfl
theorem val_str {n : Nat} {l r : List UInt8} (h : skipL l = 34 :: r) : valL (n + 1) l = (strL (34 :: r)).map fun p => (.mk 4 0 p.1 [] [], p.2) := by rw [valL, h]; rfl
theorem dig_not {c : UInt8} (hc : c = 45 ∨ isD c = true) : c ≠ 110 ∧ c ≠ 102 ∧ c ≠ 116 ∧ c ≠ 34 ∧ c ≠ 91 ∧ c ≠ 123 := by
  have h : c.toNat = 45 ∨ 48 ≤ c.toNat ∧ c.toNat ≤ 57 := by
    rcases hc with rfl | h
    · exact .inl rfl
    · exact .inr (of_decide_eq_true h)
  have key : ∀ k : UInt8, 57 < k.toNat ∨ k.toNat < 45 → c ≠ k := fun k hk e => by subst e; omega
  exact ⟨key 110 (by decide), key 102 (by decide), key 116 (by decide), key 34 (by decide), key 91 (by decide), key 123 (by decide)⟩
theorem val_num {n : Nat} {l r : List UInt8} {c : UInt8} (h : skipL l = c :: r) (hc : c = 45 ∨ isD c = true) : valL (n + 1) l = (numL (c :: r)).map fun p => (.mk 3 p.1 ⟨#[]⟩ [] [], p.2) := by
  obtain ⟨h1, h2, h3, h4, _, _⟩ := dig_not hc
  rw [valL, h]; dsimp only; rw [if_neg h1, if_neg h2, if_neg h3, if_neg h4, if_pos hc]
theorem val_arr {n : Nat} {l r : List UInt8} (h : skipL l = 91 :: r) : valL (n + 1) l = listL n 5 r := by rw [valL, h]; rfl
theorem val_obj {n : Nat} {l r : List UInt8} (h : skipL l = 123 :: r) : valL (n + 1) l = listL n 6 r := by rw [valL, h]; rfl
theorem val_else {n : Nat} {l r : List UInt8} {c : UInt8} (h : skipL l = c :: r) (h1 : c ≠ 110) (h2 : c ≠ 102) (h3 : c ≠ 116) (h4 : c ≠ 34) (h5 : ¬ (c = 45 ∨ isD c = true)) (h6 : c ≠ 91) (h7 : c ≠ 123) : valL (n + 1) l = none := by
  rw [valL, h]; dsimp only; rw [if_neg h1, if_neg h2, if_neg h3, if_neg h4, if_neg h5, if_neg h6, if_neg h7]
set_option maxHeartbeats 16000000 in
set_option maxRecDepth 100000 in
theorem value_step (b : Nat) (s : ByteArray) (n : Nat) (hs : s.size ≤ 1000000) (i : Nat) (w : World) (h : RB b s i false w) (hE : Errs b w)
    (hL : (∃ k r, (k = 5 ∨ k = 6) ∧ skipL (dl s i) = openK k :: r) → 2 * (s.size - i) ≤ n ∧ ListAt b s n) :
    Calls Tryz.prog 24 #[.pointer (some ⟨b, 0, none⟩)] w (ResPost b s (valL (n + 1) (dl s i)) w) := by
  obtain ⟨W, hW⟩ : ∃ W, W = w.alloc (.cells zero5R 58) := ⟨_, rfl⟩
  have HB0 : Hold (Below w.heap.size w W) := ⟨by rw [hW]; exact (Below.refl _ w).alloc (Nat.le_refl _) _⟩
  have HV : Hold (W.heap[w.heap.size]? = some (.cells zero5R 58 (0, 0))) := ⟨by rw [hW]; exact heap_alloc_new w _⟩
  have hWs : w.heap.size < W.heap.size := by rw [hW]; simp
  have HR := Hold.mk (h.below HB0.out)
  have HE := Hold.mk (hE.below HB0.out)
  have hbw := h.lt
  have HL := Hold.mk hL
  clear h hE hL
  go_enter Tryz.func24, Tryz.ntmps24
  go_upto_region 1 with (fail)
  rw [← hW]
  clear hW
  go_wp2_with fail
  refine (peek_any b s i false W HR.out hs).mono ?_
  rintro e w1 ⟨j, hj, hij, rfl, hr, hb⟩
  have HJ := Hold.mk hj
  replace HR := Hold.mk hr
  have HB := Hold.mk hb
  have HV1 := Hold.mk (But.keep hb HV.out (by omega))
  have HBW : Hold (But b w w1) := ⟨(But.of_below HB0.out).trans hb⟩
  have hw1 : w.heap.size < w1.heap.size := Nat.lt_of_lt_of_le hWs hb.size
  replace HE := Hold.mk (HE.out.but hb)
  have hjs := hr.le
  clear hj hr hb
  by_cases hlt : j < s.size
  · obtain ⟨c, hc⟩ : ∃ c, s[j] = c := ⟨_, rfl⟩
    have hdl : dl s j = c :: dl s (j + 1) := by rw [dl_cons hlt, hc]
    have HSK : Hold (skipL (dl s i) = c :: dl s (j + 1)) := ⟨HJ.out.symm.trans hdl⟩
    have HDL := Hold.mk hdl
    have hhere : hereB (dl s j) = c := by rw [hdl]; rfl
    rw [hhere]
    clear hc hdl hhere
    by_cases h110 : c = 110
    · subst h110
      have HVL : Hold (valL (n + 1) (dl s i) = (wordL (⟨#[110, 117, 108, 108]⟩ : ByteArray).data.toList (dl s j)).map fun r => (.mk 0 0 ⟨#[]⟩ [] [], r)) := ⟨by rw [HDL.out]; exact val_word HSK.out (by simp)⟩
      go_wp2_with fail
      refine (word_any b s ⟨#[110, 117, 108, 108]⟩ 0 j w1 HR.out hs (by decide)).mono ?_
      rintro e w2 ⟨hb2, hm⟩
      have HV2 := Hold.mk (But.keep hb2 HV1.out (by omega))
      cases hwl : wordL (⟨#[110, 117, 108, 108]⟩ : ByteArray).data.toList (dl s j) with
      | some r =>
        rw [hwl] at hm HVL
        obtain ⟨rfl, j2, hj2, hr2⟩ := hm
        have HP := Hold.mk (ret_post (R := valL (n + 1) (dl s i)) (.int .i64 0) (.int .i64 0) (.string ⟨#[]⟩) (.slice none 0 0) (.slice none 0 0) HV2.out (HBW.out.trans hb2) hbw w1.heap.size hw1 false j2 hr2 ⟨_, _, _, _, _, _, _, _, _, rfl⟩ (fun _ => ⟨_, by rw [HVL.out, hj2]; rfl, jat_leaf _ 0 0 ⟨#[]⟩ (by kernel_rfl) (by kernel_rfl) (by decide)⟩) (fun h => by simp at h))
        clear hwl hj2 hr2 hb2 HVL HL
        have hv2 := HV2.out
        obtain ⟨v0, v1, v2, v3, v4⟩ := cells5R hv2
        have g0 := freeR hv2 0
        have g1 := freeR hv2 1
        have g2 := freeR hv2 2
        have g3 := freeR hv2 3
        have g4 := freeR hv2 4
        go_wp2_with fail
        clear v0 v1 v2 v3 v4 g0 g1 g2 g3 g4
        obtain ⟨W2, hW2, hv3, hp⟩ := HP.out
        unfold set5R at hW2
        rw [← hW2]
        clear hW2
        obtain ⟨v0, v1, v2, v3, v4⟩ := cells5R hv3
        exact bodyPost_ret (v := .agg #[.int .i64 0, .int .i64 0, .string ⟨#[]⟩, .slice none 0 0, .slice none 0 0]) (by simp [results, Tryz.results24, go_sem, v0, v1, v2, v3, v4]) rfl hp
      | none =>
        rw [hwl] at hm HVL
        obtain ⟨rfl, j2, hr2⟩ := hm
        have HP := Hold.mk (ret_post (R := valL (n + 1) (dl s i)) (.int .i64 0) (.int .i64 0) (.string ⟨#[]⟩) (.slice none 0 0) (.slice none 0 0) HV2.out (HBW.out.trans hb2) hbw w1.heap.size hw1 true j2 hr2 shape_zero (fun h => by simp at h) (fun _ => by rw [HVL.out]; rfl))
        clear hwl hr2 hb2 HVL HL
        have hv2 := HV2.out
        obtain ⟨v0, v1, v2, v3, v4⟩ := cells5R hv2
        have g0 := freeR hv2 0
        have g1 := freeR hv2 1
        have g2 := freeR hv2 2
        have g3 := freeR hv2 3
        have g4 := freeR hv2 4
        go_wp2_with fail
        clear v0 v1 v2 v3 v4 g0 g1 g2 g3 g4
        obtain ⟨W2, hW2, hv3, hp⟩ := HP.out
        unfold set5R at hW2
        rw [← hW2]
        clear hW2
        obtain ⟨v0, v1, v2, v3, v4⟩ := cells5R hv3
        exact bodyPost_ret (v := .agg #[.int .i64 0, .int .i64 0, .string ⟨#[]⟩, .slice none 0 0, .slice none 0 0]) (by simp [results, Tryz.results24, go_sem, v0, v1, v2, v3, v4]) rfl hp
    have b110 : ((c.toNat : Int) == 110) = false := byte_ne (k := 110) h110
    by_cases h102 : c = 102
    · subst h102
      have HVL : Hold (valL (n + 1) (dl s i) = (wordL (⟨#[102, 97, 108, 115, 101]⟩ : ByteArray).data.toList (dl s j)).map fun r => (.mk 1 0 ⟨#[]⟩ [] [], r)) := ⟨by rw [HDL.out]; exact val_word HSK.out (by simp)⟩
      go_wp2_with fail
      refine (word_any b s ⟨#[102, 97, 108, 115, 101]⟩ 1 j w1 HR.out hs (by decide)).mono ?_
      rintro e w2 ⟨hb2, hm⟩
      have HV2 := Hold.mk (But.keep hb2 HV1.out (by omega))
      cases hwl : wordL (⟨#[102, 97, 108, 115, 101]⟩ : ByteArray).data.toList (dl s j) with
      | some r =>
        rw [hwl] at hm HVL
        obtain ⟨rfl, j2, hj2, hr2⟩ := hm
        have HP := Hold.mk (ret_post (R := valL (n + 1) (dl s i)) (.int .i64 1) (.int .i64 0) (.string ⟨#[]⟩) (.slice none 0 0) (.slice none 0 0) HV2.out (HBW.out.trans hb2) hbw w1.heap.size hw1 false j2 hr2 ⟨_, _, _, _, _, _, _, _, _, rfl⟩ (fun _ => ⟨_, by rw [HVL.out, hj2]; rfl, jat_leaf _ 1 0 ⟨#[]⟩ (by kernel_rfl) (by kernel_rfl) (by decide)⟩) (fun h => by simp at h))
        clear hwl hj2 hr2 hb2 HVL HL
        have hv2 := HV2.out
        obtain ⟨v0, v1, v2, v3, v4⟩ := cells5R hv2
        have g0 := freeR hv2 0
        have g1 := freeR hv2 1
        have g2 := freeR hv2 2
        have g3 := freeR hv2 3
        have g4 := freeR hv2 4
        go_wp2_with fail
        clear v0 v1 v2 v3 v4 g0 g1 g2 g3 g4
        obtain ⟨W2, hW2, hv3, hp⟩ := HP.out
        unfold set5R at hW2
        rw [← hW2]
        clear hW2
        obtain ⟨v0, v1, v2, v3, v4⟩ := cells5R hv3
        exact bodyPost_ret (v := .agg #[.int .i64 1, .int .i64 0, .string ⟨#[]⟩, .slice none 0 0, .slice none 0 0]) (by simp [results, Tryz.results24, go_sem, v0, v1, v2, v3, v4]) rfl hp
      | none =>
        rw [hwl] at hm HVL
        obtain ⟨rfl, j2, hr2⟩ := hm
        have HP := Hold.mk (ret_post (R := valL (n + 1) (dl s i)) (.int .i64 0) (.int .i64 0) (.string ⟨#[]⟩) (.slice none 0 0) (.slice none 0 0) HV2.out (HBW.out.trans hb2) hbw w1.heap.size hw1 true j2 hr2 shape_zero (fun h => by simp at h) (fun _ => by rw [HVL.out]; rfl))
        clear hwl hr2 hb2 HVL HL
        have hv2 := HV2.out
        obtain ⟨v0, v1, v2, v3, v4⟩ := cells5R hv2
        have g0 := freeR hv2 0
        have g1 := freeR hv2 1
        have g2 := freeR hv2 2
        have g3 := freeR hv2 3
        have g4 := freeR hv2 4
        go_wp2_with fail
        clear v0 v1 v2 v3 v4 g0 g1 g2 g3 g4
        obtain ⟨W2, hW2, hv3, hp⟩ := HP.out
        unfold set5R at hW2
        rw [← hW2]
        clear hW2
        obtain ⟨v0, v1, v2, v3, v4⟩ := cells5R hv3
        exact bodyPost_ret (v := .agg #[.int .i64 0, .int .i64 0, .string ⟨#[]⟩, .slice none 0 0, .slice none 0 0]) (by simp [results, Tryz.results24, go_sem, v0, v1, v2, v3, v4]) rfl hp
    have b102 : ((c.toNat : Int) == 102) = false := byte_ne (k := 102) h102
    by_cases h116 : c = 116
    · subst h116
      have HVL : Hold (valL (n + 1) (dl s i) = (wordL (⟨#[116, 114, 117, 101]⟩ : ByteArray).data.toList (dl s j)).map fun r => (.mk 2 0 ⟨#[]⟩ [] [], r)) := ⟨by rw [HDL.out]; exact val_word HSK.out (by simp)⟩
      go_wp2_with fail
      refine (word_any b s ⟨#[116, 114, 117, 101]⟩ 2 j w1 HR.out hs (by decide)).mono ?_
      rintro e w2 ⟨hb2, hm⟩
      have HV2 := Hold.mk (But.keep hb2 HV1.out (by omega))
      cases hwl : wordL (⟨#[116, 114, 117, 101]⟩ : ByteArray).data.toList (dl s j) with
      | some r =>
        rw [hwl] at hm HVL
        obtain ⟨rfl, j2, hj2, hr2⟩ := hm
        have HP := Hold.mk (ret_post (R := valL (n + 1) (dl s i)) (.int .i64 2) (.int .i64 0) (.string ⟨#[]⟩) (.slice none 0 0) (.slice none 0 0) HV2.out (HBW.out.trans hb2) hbw w1.heap.size hw1 false j2 hr2 ⟨_, _, _, _, _, _, _, _, _, rfl⟩ (fun _ => ⟨_, by rw [HVL.out, hj2]; rfl, jat_leaf _ 2 0 ⟨#[]⟩ (by kernel_rfl) (by kernel_rfl) (by decide)⟩) (fun h => by simp at h))
        clear hwl hj2 hr2 hb2 HVL HL
        have hv2 := HV2.out
        obtain ⟨v0, v1, v2, v3, v4⟩ := cells5R hv2
        have g0 := freeR hv2 0
        have g1 := freeR hv2 1
        have g2 := freeR hv2 2
        have g3 := freeR hv2 3
        have g4 := freeR hv2 4
        go_wp2_with fail
        clear v0 v1 v2 v3 v4 g0 g1 g2 g3 g4
        obtain ⟨W2, hW2, hv3, hp⟩ := HP.out
        unfold set5R at hW2
        rw [← hW2]
        clear hW2
        obtain ⟨v0, v1, v2, v3, v4⟩ := cells5R hv3
        exact bodyPost_ret (v := .agg #[.int .i64 2, .int .i64 0, .string ⟨#[]⟩, .slice none 0 0, .slice none 0 0]) (by simp [results, Tryz.results24, go_sem, v0, v1, v2, v3, v4]) rfl hp
      | none =>
        rw [hwl] at hm HVL
        obtain ⟨rfl, j2, hr2⟩ := hm
        have HP := Hold.mk (ret_post (R := valL (n + 1) (dl s i)) (.int .i64 0) (.int .i64 0) (.string ⟨#[]⟩) (.slice none 0 0) (.slice none 0 0) HV2.out (HBW.out.trans hb2) hbw w1.heap.size hw1 true j2 hr2 shape_zero (fun h => by simp at h) (fun _ => by rw [HVL.out]; rfl))
        clear hwl hr2 hb2 HVL HL
        have hv2 := HV2.out
        obtain ⟨v0, v1, v2, v3, v4⟩ := cells5R hv2
        have g0 := freeR hv2 0
        have g1 := freeR hv2 1
        have g2 := freeR hv2 2
        have g3 := freeR hv2 3
        have g4 := freeR hv2 4
        go_wp2_with fail
        clear v0 v1 v2 v3 v4 g0 g1 g2 g3 g4
        obtain ⟨W2, hW2, hv3, hp⟩ := HP.out
        unfold set5R at hW2
        rw [← hW2]
        clear hW2
        obtain ⟨v0, v1, v2, v3, v4⟩ := cells5R hv3
        exact bodyPost_ret (v := .agg #[.int .i64 0, .int .i64 0, .string ⟨#[]⟩, .slice none 0 0, .slice none 0 0]) (by simp [results, Tryz.results24, go_sem, v0, v1, v2, v3, v4]) rfl hp
    have b116 : ((c.toNat : Int) == 116) = false := byte_ne (k := 116) h116
    by_cases h34 : c = 34
    · subst h34
      have HVL : Hold (valL (n + 1) (dl s i) = (strL (dl s j)).map fun p => (.mk 4 0 p.1 [] [], p.2)) := ⟨by rw [HDL.out]; exact val_str HSK.out⟩
      clear h110 h102 h116 HL
      go_wp2_with fail
      refine (readQuoted_any b s j w1 HR.out hs ⟨_, HDL.out⟩ HE.out).mono ?_
      rintro e w2 ⟨hb2, bd, t, j2, rfl, hts, hr2, hf, ht⟩
      have HV2 := Hold.mk (But.keep hb2 HV1.out (by omega))
      have HP := Hold.mk (ret_post (R := valL (n + 1) (dl s i)) (.int .i64 4) (.int .i64 0) (.string t) (.slice none 0 0) (.slice none 0 0) HV2.out (HBW.out.trans hb2) hbw w1.heap.size hw1 bd j2 hr2 ⟨_, _, _, _, _, _, _, _, _, rfl⟩ (fun h => ⟨_, by rw [HVL.out, hf h]; rfl, jat_leaf _ 4 0 t (by kernel_rfl) (by kernel_rfl) (by omega)⟩) (fun h => by rw [HVL.out, ht h]; rfl))
      clear hr2 hb2 hf ht HVL hts
      have hv2 := HV2.out
      obtain ⟨v0, v1, v2, v3, v4⟩ := cells5R hv2
      have g0 := freeR hv2 0
      have g1 := freeR hv2 1
      have g2 := freeR hv2 2
      have g3 := freeR hv2 3
      have g4 := freeR hv2 4
      go_wp2_with fail
      clear v0 v1 v2 v3 v4 g0 g1 g2 g3 g4
      obtain ⟨W2, hW2, hv3, hp⟩ := HP.out
      unfold set5R at hW2
      rw [← hW2]
      clear hW2
      obtain ⟨v0, v1, v2, v3, v4⟩ := cells5R hv3
      exact bodyPost_ret (v := .agg #[.int .i64 4, .int .i64 0, .string t, .slice none 0 0, .slice none 0 0]) (by simp [results, Tryz.results24, go_sem, v0, v1, v2, v3, v4]) rfl hp
    have b34 : ((c.toNat : Int) == 34) = false := byte_ne (k := 34) h34
    by_cases hnum : c = 45 ∨ isD c = true
    · have HVL : Hold (valL (n + 1) (dl s i) = (numL (dl s j)).map fun p => (.mk 3 p.1 ⟨#[]⟩ [] [], p.2)) := ⟨by rw [HDL.out]; exact val_num HSK.out hnum⟩
      have hsj : s[j] = c := by have := HDL.out; rw [dl_cons hlt] at this; exact (List.cons.inj this).1
      have HN := Hold.mk (number_any b s j w1 HR.out hs hlt (by rw [hsj]; exact hnum) HE.out)
      have hways : c = 45 ∨ (((c.toNat : Int) == 45) = false ∧ 48 ≤ (c.toNat : Int) ∧ (c.toNat : Int) ≤ 57) := by
        by_cases h45 : c = 45
        · exact .inl h45
        · have h1 := of_decide_eq_true (hnum.elim (fun h => absurd h h45) id)
          exact .inr ⟨byte_ne (k := 45) h45, by omega, by omega⟩
      clear hnum hsj HL h110 h102 h116 h34
      rcases hways with rfl | ⟨h45, hd0, hd1⟩
      all_goals
        go_wp2_with fail
        refine HN.out.mono ?_
        rintro e w2 ⟨hb2, hm⟩
        have HV2 := Hold.mk (But.keep hb2 HV1.out (by omega))
        cases hwl : numL (dl s j) with
        | some p =>
          obtain ⟨v, r⟩ := p
          rw [hwl] at hm HVL
          obtain ⟨rfl, j2, hj2, hr2⟩ := hm
          have hvb : (Lit.int .i64 v).wf = true := num_wf hwl
          have HP := Hold.mk (ret_post (R := valL (n + 1) (dl s i)) (.int .i64 3) (.int .i64 v) (.string ⟨#[]⟩) (.slice none 0 0) (.slice none 0 0) HV2.out (HBW.out.trans hb2) hbw w1.heap.size hw1 false j2 hr2 ⟨_, _, _, _, _, _, _, _, _, rfl⟩ (fun _ => ⟨_, by rw [HVL.out, hj2]; rfl, jat_leaf _ 3 v ⟨#[]⟩ (by kernel_rfl) hvb (by decide)⟩) (fun h => by simp at h))
          clear hwl hj2 hr2 hb2 HVL HN hvb
          have hv2 := HV2.out
          obtain ⟨v0, v1, v2, v3, v4⟩ := cells5R hv2
          have g0 := freeR hv2 0
          have g1 := freeR hv2 1
          have g2 := freeR hv2 2
          have g3 := freeR hv2 3
          have g4 := freeR hv2 4
          go_wp2_with fail
          clear v0 v1 v2 v3 v4 g0 g1 g2 g3 g4
          obtain ⟨W2, hW2, hv3, hp⟩ := HP.out
          unfold set5R at hW2
          rw [← hW2]
          clear hW2
          obtain ⟨v0, v1, v2, v3, v4⟩ := cells5R hv3
          exact bodyPost_ret (v := .agg #[.int .i64 3, .int .i64 v, .string ⟨#[]⟩, .slice none 0 0, .slice none 0 0]) (by simp [results, Tryz.results24, go_sem, v0, v1, v2, v3, v4]) rfl hp
        | none =>
          rw [hwl] at hm HVL
          obtain ⟨rfl, j2, hr2⟩ := hm
          have HP := Hold.mk (ret_post (R := valL (n + 1) (dl s i)) (.int .i64 0) (.int .i64 0) (.string ⟨#[]⟩) (.slice none 0 0) (.slice none 0 0) HV2.out (HBW.out.trans hb2) hbw w1.heap.size hw1 true j2 hr2 shape_zero (fun h => by simp at h) (fun _ => by rw [HVL.out]; rfl))
          clear hwl hr2 hb2 HVL HN
          have hv2 := HV2.out
          obtain ⟨v0, v1, v2, v3, v4⟩ := cells5R hv2
          have g0 := freeR hv2 0
          have g1 := freeR hv2 1
          have g2 := freeR hv2 2
          have g3 := freeR hv2 3
          have g4 := freeR hv2 4
          go_wp2_with fail
          clear v0 v1 v2 v3 v4 g0 g1 g2 g3 g4
          obtain ⟨W2, hW2, hv3, hp⟩ := HP.out
          unfold set5R at hW2
          rw [← hW2]
          clear hW2
          obtain ⟨v0, v1, v2, v3, v4⟩ := cells5R hv3
          exact bodyPost_ret (v := .agg #[.int .i64 0, .int .i64 0, .string ⟨#[]⟩, .slice none 0 0, .slice none 0 0]) (by simp [results, Tryz.results24, go_sem, v0, v1, v2, v3, v4]) rfl hp
    by_cases h91 : c = 91
    · subst h91
      have HVL : Hold (valL (n + 1) (dl s i) = listL n 5 (dl s (j + 1))) := ⟨val_arr HSK.out⟩
      have HLI := Hold.mk ((HL.out ⟨5, _, by omega, HSK.out⟩).2 5 j w1 (by have := (HL.out ⟨5, _, by omega, HSK.out⟩).1; omega) (by omega) HR.out HE.out ⟨_, HDL.out⟩)
      clear HL hnum
      go_wp2_with fail
      refine HLI.out.mono ?_
      rintro e w2 ⟨hb2, bd, x, j2, rfl, ⟨xk, xn, xt, xna, xnl, xnc, xia, xil, xic, rfl⟩, hr2, hf, ht⟩
      have HV2 := Hold.mk (But.keep hb2 HV1.out (by omega))
      have HP := Hold.mk (ret_post (R := valL (n + 1) (dl s i)) (.int .i64 xk) (.int .i64 xn) (.string xt) (.slice xna xnl xnc) (.slice xia xil xic) HV2.out (HBW.out.trans hb2) hbw w1.heap.size hw1 bd j2 hr2 ⟨_, _, _, _, _, _, _, _, _, rfl⟩ (fun h => by
        obtain ⟨v, hv, hj⟩ := hf h
        exact ⟨v, HVL.out.trans hv, hj⟩) (fun h => HVL.out.trans (ht h)))
      clear hr2 hb2 hf ht HVL HLI
      have hv2 := HV2.out
      obtain ⟨v0, v1, v2, v3, v4⟩ := cells5R hv2
      have g0 := freeR hv2 0
      have g1 := freeR hv2 1
      have g2 := freeR hv2 2
      have g3 := freeR hv2 3
      have g4 := freeR hv2 4
      go_wp2_with fail
      clear v0 v1 v2 v3 v4 g0 g1 g2 g3 g4
      obtain ⟨W2, hW2, hv3, hp⟩ := HP.out
      unfold set5R at hW2
      rw [← hW2]
      clear hW2
      obtain ⟨v0, v1, v2, v3, v4⟩ := cells5R hv3
      exact bodyPost_ret (v := .agg #[.int .i64 xk, .int .i64 xn, .string xt, .slice xna xnl xnc, .slice xia xil xic]) (by simp [results, Tryz.results24, go_sem, v0, v1, v2, v3, v4]) rfl hp
    have b91 : ((c.toNat : Int) == 91) = false := byte_ne (k := 91) h91
    by_cases h123 : c = 123
    · subst h123
      have HVL : Hold (valL (n + 1) (dl s i) = listL n 6 (dl s (j + 1))) := ⟨val_obj HSK.out⟩
      have HLI := Hold.mk ((HL.out ⟨6, _, by omega, HSK.out⟩).2 6 j w1 (by have := (HL.out ⟨6, _, by omega, HSK.out⟩).1; omega) (by omega) HR.out HE.out ⟨_, HDL.out⟩)
      clear HL hnum
      go_wp2_with fail
      refine HLI.out.mono ?_
      rintro e w2 ⟨hb2, bd, x, j2, rfl, ⟨xk, xn, xt, xna, xnl, xnc, xia, xil, xic, rfl⟩, hr2, hf, ht⟩
      have HV2 := Hold.mk (But.keep hb2 HV1.out (by omega))
      have HP := Hold.mk (ret_post (R := valL (n + 1) (dl s i)) (.int .i64 xk) (.int .i64 xn) (.string xt) (.slice xna xnl xnc) (.slice xia xil xic) HV2.out (HBW.out.trans hb2) hbw w1.heap.size hw1 bd j2 hr2 ⟨_, _, _, _, _, _, _, _, _, rfl⟩ (fun h => by
        obtain ⟨v, hv, hj⟩ := hf h
        exact ⟨v, HVL.out.trans hv, hj⟩) (fun h => HVL.out.trans (ht h)))
      clear hr2 hb2 hf ht HVL HLI
      have hv2 := HV2.out
      obtain ⟨v0, v1, v2, v3, v4⟩ := cells5R hv2
      have g0 := freeR hv2 0
      have g1 := freeR hv2 1
      have g2 := freeR hv2 2
      have g3 := freeR hv2 3
      have g4 := freeR hv2 4
      go_wp2_with fail
      clear v0 v1 v2 v3 v4 g0 g1 g2 g3 g4
      obtain ⟨W2, hW2, hv3, hp⟩ := HP.out
      unfold set5R at hW2
      rw [← hW2]
      clear hW2
      obtain ⟨v0, v1, v2, v3, v4⟩ := cells5R hv3
      exact bodyPost_ret (v := .agg #[.int .i64 xk, .int .i64 xn, .string xt, .slice xna xnl xnc, .slice xia xil xic]) (by simp [results, Tryz.results24, go_sem, v0, v1, v2, v3, v4]) rfl hp
    have b123 : ((c.toNat : Int) == 123) = false := byte_ne (k := 123) h123
    have HVL : Hold (valL (n + 1) (dl s i) = none) := ⟨val_else HSK.out h110 h102 h116 h34 hnum h91 h123⟩
    have b45 : ((c.toNat : Int) == 45) = false := byte_ne (k := 45) (fun e => hnum (.inl e))
    have hways : (c.toNat : Int) < 48 ∨ 48 ≤ (c.toNat : Int) ∧ 57 < (c.toNat : Int) := by
      have h1 : ¬ (48 ≤ c.toNat ∧ c.toNat ≤ 57) := fun h => hnum (.inr (decide_eq_true h))
      omega
    clear HL hnum h110 h102 h116 h34 h91 h123
    rcases hways with hd0 | ⟨hd0, hd1⟩
    all_goals
      go_wp2_with fail
      refine (fail_any b s j false w1 HR.out).mono ?_
      rintro e w2 ⟨rfl, ⟨j2, hr2⟩, hb2⟩
      have HV2 := Hold.mk (But.keep hb2 HV1.out (by omega))
      have HP := Hold.mk (ret_post (R := valL (n + 1) (dl s i)) (.int .i64 0) (.int .i64 0) (.string ⟨#[]⟩) (.slice none 0 0) (.slice none 0 0) HV2.out (HBW.out.trans hb2) hbw w1.heap.size hw1 true j2 hr2 shape_zero (fun h => by simp at h) (fun _ => HVL.out))
      clear hr2 hb2 HVL
      have hv2 := HV2.out
      obtain ⟨v0, v1, v2, v3, v4⟩ := cells5R hv2
      have g0 := freeR hv2 0
      have g1 := freeR hv2 1
      have g2 := freeR hv2 2
      have g3 := freeR hv2 3
      have g4 := freeR hv2 4
      go_wp2_with fail
      clear v0 v1 v2 v3 v4 g0 g1 g2 g3 g4
      obtain ⟨W2, hW2, hv3, hp⟩ := HP.out
      unfold set5R at hW2
      rw [← hW2]
      clear hW2
      obtain ⟨v0, v1, v2, v3, v4⟩ := cells5R hv3
      exact bodyPost_ret (v := .agg #[.int .i64 0, .int .i64 0, .string ⟨#[]⟩, .slice none 0 0, .slice none 0 0]) (by simp [results, Tryz.results24, go_sem, v0, v1, v2, v3, v4]) rfl hp
  · obtain rfl : j = s.size := by omega
    have HVL : Hold (valL (n + 1) (dl s i) = none) := ⟨val_end (by rw [← HJ.out, dl_end])⟩
    rw [hereB_end]
    clear HL
    go_wp2_with fail
    refine (fail_any b s s.size false w1 HR.out).mono ?_
    rintro e w2 ⟨rfl, ⟨j2, hr2⟩, hb2⟩
    have HV2 := Hold.mk (But.keep hb2 HV1.out (by omega))
    have HP := Hold.mk (ret_post (R := valL (n + 1) (dl s i)) (.int .i64 0) (.int .i64 0) (.string ⟨#[]⟩) (.slice none 0 0) (.slice none 0 0) HV2.out (HBW.out.trans hb2) hbw w1.heap.size hw1 true j2 hr2 shape_zero (fun h => by simp at h) (fun _ => HVL.out))
    clear hr2 hb2 HVL
    have hv2 := HV2.out
    obtain ⟨v0, v1, v2, v3, v4⟩ := cells5R hv2
    have g0 := freeR hv2 0
    have g1 := freeR hv2 1
    have g2 := freeR hv2 2
    have g3 := freeR hv2 3
    have g4 := freeR hv2 4
    go_wp2_with fail
    clear v0 v1 v2 v3 v4 g0 g1 g2 g3 g4
    obtain ⟨W2, hW2, hv3, hp⟩ := HP.out
    unfold set5R at hW2
    rw [← hW2]
    clear hW2
    obtain ⟨v0, v1, v2, v3, v4⟩ := cells5R hv3
    exact bodyPost_ret (v := .agg #[.int .i64 0, .int .i64 0, .string ⟨#[]⟩, .slice none 0 0, .slice none 0 0]) (by simp [results, Tryz.results24, go_sem, v0, v1, v2, v3, v4]) rfl hp
end Go.Proofs.YticlnijkfclgcaaGreatDoor
