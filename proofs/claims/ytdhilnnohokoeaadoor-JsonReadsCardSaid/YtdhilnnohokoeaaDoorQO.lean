/- The reader of the reference: value. (printed by genXQO.py) -/
import Derived.Test.YtdhilnnohokoeaaDoorQN
import Derived.Deep.CutBlock
namespace Go.Proofs.YtdhilnnohokoeaaDoor
open Go.Shelf Go.RowKit

/-- behind the switch -/
def VMid (b : Nat) (s : ByteArray) (R : Option (JV × List UInt8)) (w : World) (X : Nat) (wx : World) : Prop :=
  But b w wx ∧ wx.heap[w.heap.size]? = some (.cells zero5R 26 (0, 0)) ∧ ∃ (bd : Bool) (j : Nat) (k n : Int) (t : ByteArray) (na : Option Addr) (nl nc : Nat) (ia : Option Addr) (il ic : Nat), RC b s j bd wx ∧ wx.heap[X]? = some (.cells #[.int .i64 k, .int .i64 n, .string t, .slice na nl nc, .slice ia il ic] 26 (0, 0)) ∧
    (bd = false → ∃ v, R = some (v, dl s j) ∧ JAt (cfF (X + 1) wx) v (.agg #[.int .i64 k, .int .i64 n, .string t, .slice na nl nc, .slice ia il ic])) ∧ (bd = true → R = none)
/-- what array and object do -/
def RListAt (b : Nat) (s : ByteArray) (n : Nat) : Prop := ∀ (i : Nat) (w : World), 2 * (s.size - i) ≤ n → RC b s i false w →
  ((∃ r, dl s i = 91 :: r) → Calls Tryd.prog 35 #[.pointer (some ⟨b, 0, none⟩)] w (RResPost b s (listL n 5 (dl s (i + 1))) w)) ∧
  ((∃ r, dl s i = 123 :: r) → Calls Tryd.prog 36 #[.pointer (some ⟨b, 0, none⟩)] w (RResPost b s (listL n 6 (dl s (i + 1))) w))
theorem vmid {b : Nat} {s : ByteArray} {R : Option (JV × List UInt8)} {w wx : World} {X : Nat} (hb : But b w wx) (hres : wx.heap[w.heap.size]? = some (.cells zero5R 26 (0, 0))) (bd : Bool) (j : Nat) (k n : Int) (t : ByteArray) (hr : RC b s j bd wx) (hx : wx.heap[X]? = some (.cells #[.int .i64 k, .int .i64 n, .string t, .slice none 0 0, .slice none 0 0] 26 (0, 0)))
    (hk : (Lit.int .i64 k).wf = true) (hn : (Lit.int .i64 n).wf = true) (ht : t.size ≤ 9223372036854775807) (h1 : bd = false → R = some (.mk k n t [] [], dl s j)) (h2 : bd = true → R = none) : VMid b s R w X wx :=
  ⟨hb, hres, bd, j, k, n, t, _, _, _, _, _, _, hr, hx, fun e => ⟨_, h1 e, jat_leaf _ k n t hk hn ht⟩, h2⟩
theorem RC.keep {b k : Nat} {s : ByteArray} {i : Nat} {no : Bool} {w w' : World} (h : RC b s i no w) (g : But k w w') (hne : b ≠ k) : RC b s i no w' := ⟨But.keep g h.box hne, h.le⟩


set_option maxHeartbeats 16000000 in
set_option maxRecDepth 100000 in
theorem rValue_step (b : Nat) (s : ByteArray) (n : Nat) (hs : s.size ≤ 1000000) (i : Nat) (w : World) (h : RC b s i false w)
    (hL : (∃ k r, (k = 5 ∨ k = 6) ∧ skipL (dl s i) = openK k :: r) → 2 * (s.size - i) ≤ n ∧ RListAt b s n) :
    Calls Tryd.prog 16 #[.pointer (some ⟨b, 0, none⟩)] w (RResPost b s ((valL (n + 1) (dl s i)).map skp) w) := by
  obtain ⟨W, hW⟩ : ∃ W, W = w.alloc (.cells zero5R 26) := ⟨_, rfl⟩
  have HB0 : Hold (Below w.heap.size w W) := ⟨by rw [hW]; exact (Below.refl _ w).alloc (Nat.le_refl _) _⟩
  have HV : Hold (W.heap[w.heap.size]? = some (.cells zero5R 26 (0, 0))) := ⟨by rw [hW]; exact heap_alloc_new w _⟩
  have hWs : w.heap.size < W.heap.size := by rw [hW]; simp
  have HR := Hold.mk (h.below HB0.out)
  have hbw := h.lt
  have HL := Hold.mk hL
  clear h hL
  go_enter Tryd.func16, Tryd.ntmps16
  go_upto_region 1 with (fail)
  rw [← hW]
  clear hW
  go_wp2_with fail
  refine (rBlanks_any b s i false W HR.out hs).mono ?_
  rintro e w1 ⟨rfl, j1, hj1, hij, hr1, hb1⟩
  have HSK : Hold (skipL (dl s i) = dl s j1) := ⟨hj1.symm⟩
  have HB1 : Hold (But b w w1) := ⟨(But.of_below HB0.out).trans hb1⟩
  have HV1 := Hold.mk (But.keep hb1 HV.out (by omega))
  have hw1 : w.heap.size < w1.heap.size := Nat.lt_of_lt_of_le hWs hb1.size
  obtain ⟨X, hX⟩ : ∃ X, X = w1.heap.size := ⟨_, rfl⟩
  obtain ⟨w2, hw2⟩ : ∃ w2, w2 = w1.alloc (.cells zero5R 26) := ⟨_, rfl⟩
  have hbel : Below w1.heap.size w1 w2 := by rw [hw2]; exact (Below.refl _ w1).alloc (Nat.le_refl _) _
  have HR2 := Hold.mk (hr1.below hbel)
  have HB2 := Hold.mk (HB1.out.trans (But.of_below hbel))
  have HV2 := Hold.mk (kept HV1.out hbel)
  have HX2 : Hold (w2.heap[X]? = some (.cells zero5R 26 (0, 0))) := ⟨by rw [hw2, hX]; exact heap_alloc_new w1 _⟩
  clear hj1 hr1 hb1 HR HB0 HV HB1 HV1 hbel
  go_upto_region 3 with (fail)
  rw [← hw2, ← hX]
  have hbX : b < X := by omega
  have hwX : w.heap.size < X := by omega
  clear hw2 hX
  go_wp2_with fail
  refine (rHere_any b s j1 false w2 HR2.out).mono ?_
  rintro e w3 ⟨rfl, hb3⟩
  have HR3 := Hold.mk (HR2.out.below hb3)
  have HB3 := Hold.mk (HB2.out.trans (But.of_below hb3))
  have HV3 := Hold.mk (kept HV2.out hb3)
  have HX3 := Hold.mk (kept HX2.out hb3)
  clear hb3 HR2 HB2 HV2 HX2
  obtain ⟨c, hc⟩ : ∃ c, c = hereB (dl s j1) := ⟨_, rfl⟩
  have HH : Hold (hereB (dl s j1) = c) := ⟨hc.symm⟩
  rw [HH.out]
  clear hc
  go_upto_block 0 with (fail)
  go_cut [] (fun wx => VMid b s (valL (n + 1) (dl s i)) w X wx)
  case first =>
    by_cases h110 : c = 110
    · subst h110
      obtain ⟨hjl, hdj⟩ := esc_char HH.out (by decide)
      have HDL2 := Hold.mk hdj
      have HDL : Hold (dl s j1 = 110 :: dl s (j1 + 1)) := ⟨hdj⟩
      replace HSK : Hold (skipL (dl s i) = 110 :: dl s (j1 + 1)) := ⟨HSK.out.trans hdj⟩
      clear hdj
      have HVL : Hold (valL (n + 1) (dl s i) = (wordL (⟨#[110, 117, 108, 108]⟩ : ByteArray).data.toList (dl s j1)).map fun r => (.mk 0 0 ⟨#[]⟩ [] [], r)) := ⟨by rw [HDL.out]; exact val_word HSK.out (by simp)⟩
      go_wp2_with fail
      refine (rWant_any b s ⟨#[110, 117, 108, 108]⟩ j1 false w3 HR3.out hs (by decide)).mono ?_
      rintro e w5 ⟨rfl, hb5, j5, no5, hr5, hf5, ht5⟩
      have HM := Hold.mk (vmid (R := valL (n + 1) (dl s i)) (X := X) (HB3.out.trans hb5) (But.keep hb5 HV3.out (by omega)) no5 j5 0 0 ⟨#[]⟩ hr5 (But.keep hb5 HX3.out (by omega)) (by kernel_rfl) (by kernel_rfl) (by decide) (fun e => by rw [HVL.out, (hf5 e).2]; rfl) (fun e => by rw [HVL.out, (ht5 e).elim (fun h => by cases h) id]; rfl))
      clear hb5 hr5 hf5 ht5
      go_wp2_with fail
      go_meet
      case rel => exact HM.out
    have b110 : ((c.toNat : Int) == 110) = false := byte_ne (k := 110) h110
    by_cases h102 : c = 102
    · subst h102
      obtain ⟨hjl, hdj⟩ := esc_char HH.out (by decide)
      have HDL2 := Hold.mk hdj
      have HDL : Hold (dl s j1 = 102 :: dl s (j1 + 1)) := ⟨hdj⟩
      replace HSK : Hold (skipL (dl s i) = 102 :: dl s (j1 + 1)) := ⟨HSK.out.trans hdj⟩
      clear hdj
      have HVL : Hold (valL (n + 1) (dl s i) = (wordL (⟨#[102, 97, 108, 115, 101]⟩ : ByteArray).data.toList (dl s j1)).map fun r => (.mk 1 0 ⟨#[]⟩ [] [], r)) := ⟨by rw [HDL.out]; exact val_word HSK.out (by simp)⟩
      have hx3 := HX3.out
      obtain ⟨y0, y1, y2, y3, y4⟩ := cells5R hx3
      have g0 := freeR hx3 0
      go_upto_region 9 with (fail)
      clear y0 y1 y2 y3 y4 g0 hx3
      obtain ⟨w4, hw4⟩ : ∃ w4, w4 = w3.setCell ⟨X, 0, none⟩ (.int .i64 1) := ⟨_, rfl⟩
      rw [← hw4]
      have HR4 : Hold (RC b s j1 false w4) := ⟨by rw [hw4]; exact HR3.out.keep (But.set _ _ _) (by omega)⟩
      have HB4 : Hold (But b w w4) := ⟨by rw [hw4]; exact But.own HB3.out (by omega) (But.set (b := X) _ _ _)⟩
      have HV4 : Hold (w4.heap[w.heap.size]? = some (.cells zero5R 26 (0, 0))) := ⟨by rw [hw4]; exact But.keep (But.set (b := X) _ _ _) HV3.out (by omega)⟩
      have HX4 : Hold (w4.heap[X]? = some (.cells #[.int .i64 1, .int .i64 0, .string ⟨#[]⟩, .slice none 0 0, .slice none 0 0] 26 (0, 0))) := ⟨by rw [hw4, set_at HX3.out]; rfl⟩
      clear hw4 HR3 HB3 HV3 HX3
      go_wp2_with fail
      refine (rWant_any b s ⟨#[102, 97, 108, 115, 101]⟩ j1 false w4 HR4.out hs (by decide)).mono ?_
      rintro e w5 ⟨rfl, hb5, j5, no5, hr5, hf5, ht5⟩
      have HM := Hold.mk (vmid (R := valL (n + 1) (dl s i)) (X := X) (HB4.out.trans hb5) (But.keep hb5 HV4.out (by omega)) no5 j5 1 0 ⟨#[]⟩ hr5 (But.keep hb5 HX4.out (by omega)) (by kernel_rfl) (by kernel_rfl) (by decide) (fun e => by rw [HVL.out, (hf5 e).2]; rfl) (fun e => by rw [HVL.out, (ht5 e).elim (fun h => by cases h) id]; rfl))
      clear hb5 hr5 hf5 ht5
      go_wp2_with fail
      go_meet
      case rel => exact HM.out
    have b102 : ((c.toNat : Int) == 102) = false := byte_ne (k := 102) h102
    by_cases h116 : c = 116
    · subst h116
      obtain ⟨hjl, hdj⟩ := esc_char HH.out (by decide)
      have HDL2 := Hold.mk hdj
      have HDL : Hold (dl s j1 = 116 :: dl s (j1 + 1)) := ⟨hdj⟩
      replace HSK : Hold (skipL (dl s i) = 116 :: dl s (j1 + 1)) := ⟨HSK.out.trans hdj⟩
      clear hdj
      have HVL : Hold (valL (n + 1) (dl s i) = (wordL (⟨#[116, 114, 117, 101]⟩ : ByteArray).data.toList (dl s j1)).map fun r => (.mk 2 0 ⟨#[]⟩ [] [], r)) := ⟨by rw [HDL.out]; exact val_word HSK.out (by simp)⟩
      have hx3 := HX3.out
      obtain ⟨y0, y1, y2, y3, y4⟩ := cells5R hx3
      have g0 := freeR hx3 0
      go_upto_region 12 with (fail)
      clear y0 y1 y2 y3 y4 g0 hx3
      obtain ⟨w4, hw4⟩ : ∃ w4, w4 = w3.setCell ⟨X, 0, none⟩ (.int .i64 2) := ⟨_, rfl⟩
      rw [← hw4]
      have HR4 : Hold (RC b s j1 false w4) := ⟨by rw [hw4]; exact HR3.out.keep (But.set _ _ _) (by omega)⟩
      have HB4 : Hold (But b w w4) := ⟨by rw [hw4]; exact But.own HB3.out (by omega) (But.set (b := X) _ _ _)⟩
      have HV4 : Hold (w4.heap[w.heap.size]? = some (.cells zero5R 26 (0, 0))) := ⟨by rw [hw4]; exact But.keep (But.set (b := X) _ _ _) HV3.out (by omega)⟩
      have HX4 : Hold (w4.heap[X]? = some (.cells #[.int .i64 2, .int .i64 0, .string ⟨#[]⟩, .slice none 0 0, .slice none 0 0] 26 (0, 0))) := ⟨by rw [hw4, set_at HX3.out]; rfl⟩
      clear hw4 HR3 HB3 HV3 HX3
      go_wp2_with fail
      refine (rWant_any b s ⟨#[116, 114, 117, 101]⟩ j1 false w4 HR4.out hs (by decide)).mono ?_
      rintro e w5 ⟨rfl, hb5, j5, no5, hr5, hf5, ht5⟩
      have HM := Hold.mk (vmid (R := valL (n + 1) (dl s i)) (X := X) (HB4.out.trans hb5) (But.keep hb5 HV4.out (by omega)) no5 j5 2 0 ⟨#[]⟩ hr5 (But.keep hb5 HX4.out (by omega)) (by kernel_rfl) (by kernel_rfl) (by decide) (fun e => by rw [HVL.out, (hf5 e).2]; rfl) (fun e => by rw [HVL.out, (ht5 e).elim (fun h => by cases h) id]; rfl))
      clear hb5 hr5 hf5 ht5
      go_wp2_with fail
      go_meet
      case rel => exact HM.out
    have b116 : ((c.toNat : Int) == 116) = false := byte_ne (k := 116) h116
    by_cases h34 : c = 34
    · subst h34
      obtain ⟨hjl, hdj⟩ := esc_char HH.out (by decide)
      have HDL2 := Hold.mk hdj
      have HDL : Hold (dl s j1 = 34 :: dl s (j1 + 1)) := ⟨hdj⟩
      replace HSK : Hold (skipL (dl s i) = 34 :: dl s (j1 + 1)) := ⟨HSK.out.trans hdj⟩
      clear hdj
      have hx3 := HX3.out
      obtain ⟨y0, y1, y2, y3, y4⟩ := cells5R hx3
      have g0 := freeR hx3 0
      go_upto_region 15 with (fail)
      clear y0 y1 y2 y3 y4 g0 hx3
      obtain ⟨w4, hw4⟩ : ∃ w4, w4 = w3.setCell ⟨X, 0, none⟩ (.int .i64 4) := ⟨_, rfl⟩
      rw [← hw4]
      have HR4 : Hold (RC b s j1 false w4) := ⟨by rw [hw4]; exact HR3.out.keep (But.set _ _ _) (by omega)⟩
      have HB4 : Hold (But b w w4) := ⟨by rw [hw4]; exact But.own HB3.out (by omega) (But.set (b := X) _ _ _)⟩
      have HV4 : Hold (w4.heap[w.heap.size]? = some (.cells zero5R 26 (0, 0))) := ⟨by rw [hw4]; exact But.keep (But.set (b := X) _ _ _) HV3.out (by omega)⟩
      have HX4 : Hold (w4.heap[X]? = some (.cells #[.int .i64 4, .int .i64 0, .string ⟨#[]⟩, .slice none 0 0, .slice none 0 0] 26 (0, 0))) := ⟨by rw [hw4, set_at HX3.out]; rfl⟩
      clear hw4 HR3 HB3 HV3 HX3
      have HVL : Hold (valL (n + 1) (dl s i) = (strL (dl s j1)).map fun p => (.mk 4 0 p.1 [] [], p.2)) := ⟨by rw [HDL.out]; exact val_str HSK.out⟩
      go_wp2_with fail
      refine (rReadQuoted_any b s j1 w4 HR4.out hs).mono ?_
      rintro e w5 ⟨hb5, t, j5, no5, rfl, hts, hr5, hf5, ht5⟩
      have hx5 := But.keep hb5 HX4.out (by omega)
      have HM : Hold (VMid b s (valL (n + 1) (dl s i)) w X (w5.setCell ⟨X, 2, none⟩ (.string t))) := ⟨vmid (But.own (HB4.out.trans hb5) (by omega) (But.set (b := X) _ _ _)) (But.keep (But.set (b := X) _ _ _) (But.keep hb5 HV4.out (by omega)) (by omega)) no5 j5 4 0 t (hr5.keep (But.set (b := X) _ _ _) (by omega)) (by rw [set_at hx5]; rfl) (by kernel_rfl) (by kernel_rfl) (by omega) (fun e => by rw [HVL.out, hf5 e]; rfl) (fun e => by rw [HVL.out, ht5 e]; rfl)⟩
      clear hb5 hr5 hf5 ht5
      obtain ⟨y0, y1, y2, y3, y4⟩ := cells5R hx5
      have g2 := freeR hx5 2
      clear hx5
      go_wp2_with fail
      clear y0 y1 y2 y3 y4 g2
      go_meet
      case rel => exact HM.out
    have b34 : ((c.toNat : Int) == 34) = false := byte_ne (k := 34) h34
    by_cases hnum : c = 45 ∨ isD c = true
    · obtain ⟨hjl, hdj⟩ := esc_char HH.out (by rintro rfl; exact absurd hnum (by decide))
      have HDL := Hold.mk hdj
      replace HSK : Hold (skipL (dl s i) = c :: dl s (j1 + 1)) := ⟨HSK.out.trans hdj⟩
      clear hdj
      have hways : c = 45 ∨ (((c.toNat : Int) == 45) = false ∧ isD c = true) := by
        by_cases h45 : c = 45
        · exact .inl h45
        · exact .inr ⟨byte_ne (k := 45) h45, hnum.elim (fun h => absurd h h45) id⟩
      rcases hways with rfl | ⟨h45, hdd⟩
      · skip
        have HVL : Hold (valL (n + 1) (dl s i) = (numL (dl s j1)).map fun p => (.mk 3 p.1 ⟨#[]⟩ [] [], p.2)) := ⟨by rw [HDL.out]; exact val_num HSK.out hnum⟩
        have hx3 := HX3.out
        obtain ⟨y0, y1, y2, y3, y4⟩ := cells5R hx3
        have g0 := freeR hx3 0
        go_upto_region 18 with (fail)
        clear y0 y1 y2 y3 y4 g0 hx3
        obtain ⟨w4, hw4⟩ : ∃ w4, w4 = w3.setCell ⟨X, 0, none⟩ (.int .i64 3) := ⟨_, rfl⟩
        rw [← hw4]
        have HR4 : Hold (RC b s j1 false w4) := ⟨by rw [hw4]; exact HR3.out.keep (But.set _ _ _) (by omega)⟩
        have HB4 : Hold (But b w w4) := ⟨by rw [hw4]; exact But.own HB3.out (by omega) (But.set (b := X) _ _ _)⟩
        have HV4 : Hold (w4.heap[w.heap.size]? = some (.cells zero5R 26 (0, 0))) := ⟨by rw [hw4]; exact But.keep (But.set (b := X) _ _ _) HV3.out (by omega)⟩
        have HX4 : Hold (w4.heap[X]? = some (.cells #[.int .i64 3, .int .i64 0, .string ⟨#[]⟩, .slice none 0 0, .slice none 0 0] 26 (0, 0))) := ⟨by rw [hw4, set_at HX3.out]; rfl⟩
        clear hw4 HR3 HB3 HV3 HX3
        go_wp2_with fail
        refine (rNumber_any b s j1 false w4 HR4.out hs).mono ?_
        rintro e w5 ⟨hb5, z, j5, no5, rfl, hwf, hr5, hf5, ht5⟩
        have hx5 := But.keep hb5 HX4.out (by omega)
        have HM : Hold (VMid b s (valL (n + 1) (dl s i)) w X (w5.setCell ⟨X, 1, none⟩ (.int .i64 z))) := ⟨vmid (But.own (HB4.out.trans hb5) (by omega) (But.set (b := X) _ _ _)) (But.keep (But.set (b := X) _ _ _) (But.keep hb5 HV4.out (by omega)) (by omega)) no5 j5 3 z ⟨#[]⟩ (hr5.keep (But.set (b := X) _ _ _) (by omega)) (by rw [set_at hx5]; rfl) (by kernel_rfl) hwf (by decide) (fun e => by rw [HVL.out, (hf5 e).2]; rfl) (fun e => by rw [HVL.out, (ht5 e).elim (fun h => by cases h) id]; rfl)⟩
        clear hb5 hr5 hf5 ht5 hwf
        obtain ⟨y0, y1, y2, y3, y4⟩ := cells5R hx5
        have g1 := freeR hx5 1
        clear hx5
        go_wp2_with fail
        clear y0 y1 y2 y3 y4 g1
        go_meet
        case rel => exact HM.out
      · have HD := Hold.mk (fun W => by have := rDigit_any c W; rw [hdd] at this; exact this)
        have HVL : Hold (valL (n + 1) (dl s i) = (numL (dl s j1)).map fun p => (.mk 3 p.1 ⟨#[]⟩ [] [], p.2)) := ⟨by rw [HDL.out]; exact val_num HSK.out hnum⟩
        have hx3 := HX3.out
        obtain ⟨y0, y1, y2, y3, y4⟩ := cells5R hx3
        have g0 := freeR hx3 0
        go_wp2_with fail
        refine (HD.out _).mono ?_
        rintro e w' ⟨rfl, hwe⟩
        rw [hwe]
        clear hwe
        go_upto_region 18 with (fail)
        clear y0 y1 y2 y3 y4 g0 hx3
        obtain ⟨w4, hw4⟩ : ∃ w4, w4 = w3.setCell ⟨X, 0, none⟩ (.int .i64 3) := ⟨_, rfl⟩
        rw [← hw4]
        have HR4 : Hold (RC b s j1 false w4) := ⟨by rw [hw4]; exact HR3.out.keep (But.set _ _ _) (by omega)⟩
        have HB4 : Hold (But b w w4) := ⟨by rw [hw4]; exact But.own HB3.out (by omega) (But.set (b := X) _ _ _)⟩
        have HV4 : Hold (w4.heap[w.heap.size]? = some (.cells zero5R 26 (0, 0))) := ⟨by rw [hw4]; exact But.keep (But.set (b := X) _ _ _) HV3.out (by omega)⟩
        have HX4 : Hold (w4.heap[X]? = some (.cells #[.int .i64 3, .int .i64 0, .string ⟨#[]⟩, .slice none 0 0, .slice none 0 0] 26 (0, 0))) := ⟨by rw [hw4, set_at HX3.out]; rfl⟩
        clear hw4 HR3 HB3 HV3 HX3
        go_wp2_with fail
        refine (rNumber_any b s j1 false w4 HR4.out hs).mono ?_
        rintro e w5 ⟨hb5, z, j5, no5, rfl, hwf, hr5, hf5, ht5⟩
        have hx5 := But.keep hb5 HX4.out (by omega)
        have HM : Hold (VMid b s (valL (n + 1) (dl s i)) w X (w5.setCell ⟨X, 1, none⟩ (.int .i64 z))) := ⟨vmid (But.own (HB4.out.trans hb5) (by omega) (But.set (b := X) _ _ _)) (But.keep (But.set (b := X) _ _ _) (But.keep hb5 HV4.out (by omega)) (by omega)) no5 j5 3 z ⟨#[]⟩ (hr5.keep (But.set (b := X) _ _ _) (by omega)) (by rw [set_at hx5]; rfl) (by kernel_rfl) hwf (by decide) (fun e => by rw [HVL.out, (hf5 e).2]; rfl) (fun e => by rw [HVL.out, (ht5 e).elim (fun h => by cases h) id]; rfl)⟩
        clear hb5 hr5 hf5 ht5 hwf
        obtain ⟨y0, y1, y2, y3, y4⟩ := cells5R hx5
        have g1 := freeR hx5 1
        clear hx5
        go_wp2_with fail
        clear y0 y1 y2 y3 y4 g1
        go_meet
        case rel => exact HM.out
    have b45 : ((c.toNat : Int) == 45) = false := byte_ne (k := 45) (fun e => hnum (.inl e))
    have HD := Hold.mk (fun W => by have := rDigit_any c W; rw [show isD c = false by cases h : isD c with | true => exact absurd (.inr h) hnum | false => rfl] at this; exact this)
    by_cases h91 : c = 91
    · subst h91
      obtain ⟨hjl, hdj⟩ := esc_char HH.out (by decide)
      have HDL2 := Hold.mk hdj
      clear hdj
      go_wp2_with fail
      refine (HD.out _).mono ?_
      rintro e w' ⟨rfl, hwe⟩
      rw [hwe]
      clear hwe
      have HVL : Hold (valL (n + 1) (dl s i) = listL n 5 (dl s (j1 + 1))) := ⟨val_arr (by rw [HSK.out]; exact HDL2.out)⟩
      have HLI := Hold.mk (((HL.out ⟨5, _, by omega, HSK.out.trans HDL2.out⟩).2 j1 w3 (by have := (HL.out ⟨5, _, by omega, HSK.out.trans HDL2.out⟩).1; omega) HR3.out).1 ⟨_, HDL2.out⟩)
      go_wp2_with fail
      refine HLI.out.mono ?_
      rintro e w5 ⟨hb5, bd, x, j5, rfl, ⟨xk, xn, xt, xna, xnl, xnc, xia, xil, xic, rfl⟩, hr5, hf5, ht5⟩
      have hx5 := But.keep hb5 HX3.out (by omega)
      have hX3 := ltR HX3.out
      have HM : Hold (VMid b s (valL (n + 1) (dl s i)) w X (set5R w5 X (.int .i64 xk) (.int .i64 xn) (.string xt) (.slice xna xnl xnc) (.slice xia xil xic))) := ⟨
        But.own (HB3.out.trans hb5) (by omega) (set5R_but _ _ _ _ _ _ _), But.keep (set5R_but _ _ _ _ _ _ _) (But.keep hb5 HV3.out (by omega)) (by omega), bd, j5, xk, xn, xt, xna, xnl, xnc, xia, xil, xic, hr5.keep (set5R_but _ _ _ _ _ _ _) (by omega), set5R_self hx5, fun e => by
          obtain ⟨v, e1, e2⟩ := hf5 e
          exact ⟨v, by rw [HVL.out, e1], (e2.mono (cfF_le _ (by omega))).mono (cfF_but (set5R_but _ _ _ _ _ _ _) (by omega))⟩, fun e => by rw [HVL.out, ht5 e]⟩
      clear hb5 hr5 hf5 ht5
      obtain ⟨y0, y1, y2, y3, y4⟩ := cells5R hx5
      have g0 := freeR hx5 0
      have g1 := freeR hx5 1
      have g2 := freeR hx5 2
      have g3 := freeR hx5 3
      have g4 := freeR hx5 4
      clear hx5
      go_wp2_with fail
      clear y0 y1 y2 y3 y4 g0 g1 g2 g3 g4
      go_meet
      case rel => exact HM.out
    have b91 : ((c.toNat : Int) == 91) = false := byte_ne (k := 91) h91
    by_cases h123 : c = 123
    · subst h123
      obtain ⟨hjl, hdj⟩ := esc_char HH.out (by decide)
      have HDL2 := Hold.mk hdj
      clear hdj
      go_wp2_with fail
      refine (HD.out _).mono ?_
      rintro e w' ⟨rfl, hwe⟩
      rw [hwe]
      clear hwe
      have HVL : Hold (valL (n + 1) (dl s i) = listL n 6 (dl s (j1 + 1))) := ⟨val_obj (by rw [HSK.out]; exact HDL2.out)⟩
      have HLI := Hold.mk (((HL.out ⟨6, _, by omega, HSK.out.trans HDL2.out⟩).2 j1 w3 (by have := (HL.out ⟨6, _, by omega, HSK.out.trans HDL2.out⟩).1; omega) HR3.out).2 ⟨_, HDL2.out⟩)
      go_wp2_with fail
      refine HLI.out.mono ?_
      rintro e w5 ⟨hb5, bd, x, j5, rfl, ⟨xk, xn, xt, xna, xnl, xnc, xia, xil, xic, rfl⟩, hr5, hf5, ht5⟩
      have hx5 := But.keep hb5 HX3.out (by omega)
      have hX3 := ltR HX3.out
      have HM : Hold (VMid b s (valL (n + 1) (dl s i)) w X (set5R w5 X (.int .i64 xk) (.int .i64 xn) (.string xt) (.slice xna xnl xnc) (.slice xia xil xic))) := ⟨
        But.own (HB3.out.trans hb5) (by omega) (set5R_but _ _ _ _ _ _ _), But.keep (set5R_but _ _ _ _ _ _ _) (But.keep hb5 HV3.out (by omega)) (by omega), bd, j5, xk, xn, xt, xna, xnl, xnc, xia, xil, xic, hr5.keep (set5R_but _ _ _ _ _ _ _) (by omega), set5R_self hx5, fun e => by
          obtain ⟨v, e1, e2⟩ := hf5 e
          exact ⟨v, by rw [HVL.out, e1], (e2.mono (cfF_le _ (by omega))).mono (cfF_but (set5R_but _ _ _ _ _ _ _) (by omega))⟩, fun e => by rw [HVL.out, ht5 e]⟩
      clear hb5 hr5 hf5 ht5
      obtain ⟨y0, y1, y2, y3, y4⟩ := cells5R hx5
      have g0 := freeR hx5 0
      have g1 := freeR hx5 1
      have g2 := freeR hx5 2
      have g3 := freeR hx5 3
      have g4 := freeR hx5 4
      clear hx5
      go_wp2_with fail
      clear y0 y1 y2 y3 y4 g0 g1 g2 g3 g4
      go_meet
      case rel => exact HM.out
    have b123 : ((c.toNat : Int) == 123) = false := byte_ne (k := 123) h123
    have HVL : Hold (valL (n + 1) (dl s i) = none) := ⟨by
      rcases Nat.lt_or_ge j1 s.size with hj | hj
      · have e : c = s[j1] := by rw [← HH.out]; exact hereB_at hj
        exact val_else (HSK.out.trans ((dl_cons hj).trans (by rw [← e]))) h110 h102 h116 h34 hnum h91 h123
      · exact val_end (HSK.out.trans (List.length_eq_zero_iff.1 (by rw [dl_len]; omega)))⟩
    have HM : Hold (VMid b s (valL (n + 1) (dl s i)) w X (w3.setCell ⟨b, 2, none⟩ (.bool true))) := ⟨vmid (HB3.out.trans (But.set _ _ _)) (But.keep (But.set (b := b) _ _ _) HV3.out (by omega)) true j1 0 0 ⟨#[]⟩ HR3.out.not (But.keep (But.set (b := b) _ _ _) HX3.out (by omega)) (by kernel_rfl) (by kernel_rfl) (by decide) (fun e => by cases e) (fun _ => HVL.out)⟩
    have x2 := HR3.out.c2
    have f2 := HR3.out.fz 2
    go_wp2_with fail
    refine (HD.out _).mono ?_
    rintro e w' ⟨rfl, hwe⟩
    rw [hwe]
    clear hwe
    go_wp2_with fail
    go_meet
    case rel => exact HM.out
  case rest =>
    obtain ⟨hb, hres, bd, j, k, nn, t, na, nl, nc, ia, il, ic, hr, hx, hf, ht⟩ := hcut
    generalize wc = wb at *
    clear HR3 HB3 HV3 HX3
    have HR := Hold.mk hr
    have HB := Hold.mk hb
    have HV := Hold.mk hres
    have HX := Hold.mk hx
    have HF := Hold.mk (And.intro hf ht)
    clear hb hres hr hx hf ht
    go_wp2_with fail
    refine (rBlanks_any b s j bd wb HR.out hs).mono ?_
    rintro e w9 ⟨rfl, j9, hj9, _, hr9, hb9⟩
    have hv8 := But.keep hb9 HX.out (by omega)
    have hv9 := But.keep hb9 HV.out (by omega)
    have HP : Hold (∃ W2, W2 = set5R w9 w.heap.size (.int .i64 k) (.int .i64 nn) (.string t) (.slice na nl nc) (.slice ia il ic) ∧ W2.heap[w.heap.size]? = some (.cells #[.int .i64 k, .int .i64 nn, .string t, .slice na nl nc, .slice ia il ic] 26 (0, 0)) ∧ RResPost b s ((valL (n + 1) (dl s i)).map skp) w (.returned (.agg #[.int .i64 k, .int .i64 nn, .string t, .slice na nl nc, .slice ia il ic])) W2) := ⟨
      _, rfl, set5R_self hv9, But.own (HB.out.trans hb9) (Nat.le_refl _) (set5R_but _ _ _ _ _ _ _), bd, _, j9, rfl, ⟨_, _, _, _, _, _, _, _, _, rfl⟩, hr9.keep (set5R_but _ _ _ _ _ _ _) (by omega), fun e => by
        obtain ⟨v, e1, e2⟩ := HF.out.1 e
        exact ⟨v, by rw [e1, hj9]; rfl, ((e2.mono (cfF_but hb9 (by omega))).mono (cfF_but (set5R_but _ _ _ _ _ _ _) (by omega))).mono (cfF_le _ (by omega))⟩, fun e => by rw [HF.out.2 e]; rfl⟩
    clear hr9 hb9 hj9
    obtain ⟨y0, y1, y2, y3, y4⟩ := cells5R hv8
    obtain ⟨v0, v1, v2, v3, v4⟩ := cells5R hv9
    have g0 := freeR hv9 0
    have g1 := freeR hv9 1
    have g2 := freeR hv9 2
    have g3 := freeR hv9 3
    have g4 := freeR hv9 4
    clear hv8 hv9
    go_wp2_with fail
    clear y0 y1 y2 y3 y4 v0 v1 v2 v3 v4 g0 g1 g2 g3 g4
    obtain ⟨W2, hW2, hv3, hp⟩ := HP.out
    unfold set5R at hW2
    rw [← hW2]
    clear hW2
    obtain ⟨v0, v1, v2, v3, v4⟩ := cells5R hv3
    exact bodyPost_ret (v := .agg #[.int .i64 k, .int .i64 nn, .string t, .slice na nl nc, .slice ia il ic]) (by simp [results, Tryd.results16, go_sem, v0, v1, v2, v3, v4]) rfl hp

theorem rList_all (b : Nat) (s : ByteArray) (hs : s.size ≤ 1000000) (n : Nat) : RListAt b s n := by
  induction n using Nat.strongRecOn with
  | _ n ih =>
    have hval : ∀ (m i : Nat) (w : World), m < n → 2 * (s.size - i) + 1 ≤ m → RC b s i false w → Calls Tryd.prog 16 #[.pointer (some ⟨b, 0, none⟩)] w (RResPost b s ((valL m (dl s i)).map skp) w) := fun m i w hm h1 hr => by
      obtain ⟨m', rfl⟩ : ∃ m', m = m' + 1 := ⟨m - 1, by omega⟩
      exact rValue_step b s m' hs i w hr (fun _ => ⟨by omega, ih m' (by omega)⟩)
    exact fun i w hn hr => ⟨fun ho => rArray_step b s n hs hval i w hn hr ho, fun ho => rObject_step b s n hs hval i w hn hr ho⟩
theorem rValue_any (b : Nat) (s : ByteArray) (hs : s.size ≤ 1000000) (w : World) (h : RC b s 0 false w) : Calls Tryd.prog 16 #[.pointer (some ⟨b, 0, none⟩)] w (RResPost b s ((valL (2 * s.size + 1) (dl s 0)).map skp) w) :=
  rValue_step b s (2 * s.size) hs 0 w h (fun _ => ⟨by omega, rList_all b s hs _⟩)

end Go.Proofs.YtdhilnnohokoeaaDoor
