/- The reader of the program: escape. -/
import Derived.Test.YtdhilnnohokoeaaDoorRH
namespace Go.Proofs.YtdhilnnohokoeaaDoor
open Go.Shelf Go.RowKit

def tabS (k : Nat) : UInt8 := ([34, 92, 47, 8, 12, 10, 13, 9] : List UInt8).getD k 0
theorem short_kind (c : UInt8) : (shortL c = none ∧ Lib.indexByte [34, 92, 47, 98, 102, 110, 114, 116] c = -1) ∨ (∃ k : Nat, k < 8 ∧ Lib.indexByte [34, 92, 47, 98, 102, 110, 114, 116] c = (k : Int) ∧ shortL c = some (tabS k)) := by
  have h : ∀ a : Fin 256, decide ((shortL (UInt8.ofNat a.val) = none ∧ Lib.indexByte [34, 92, 47, 98, 102, 110, 114, 116] (UInt8.ofNat a.val) = -1) ∨
    ((Lib.indexByte [34, 92, 47, 98, 102, 110, 114, 116] (UInt8.ofNat a.val)).toNat < 8 ∧ Lib.indexByte [34, 92, 47, 98, 102, 110, 114, 116] (UInt8.ofNat a.val) = ((Lib.indexByte [34, 92, 47, 98, 102, 110, 114, 116] (UInt8.ofNat a.val)).toNat : Int) ∧ shortL (UInt8.ofNat a.val) = some (tabS (Lib.indexByte [34, 92, 47, 98, 102, 110, 114, 116] (UInt8.ofNat a.val)).toNat))) = true := by decide +kernel
  obtain ⟨a, rfl⟩ := byte_fin c
  rcases of_decide_eq_true (h a) with h | h
  · exact .inl h
  · exact .inr ⟨_, h⟩
theorem index_short (c : UInt8) (w : World) :
    Calls Tryd.prog 28 #[.string ⟨#[34, 92, 47, 98, 102, 110, 114, 116]⟩, .int .u8 c.toNat] w fun e w' => e = .returned (.int .i64 (Lib.indexByte [34, 92, 47, 98, 102, 110, 114, 116] c)) ∧ w' = w := by
  have h : Calls Tryd.prog 28 #[.string ⟨#[34, 92, 47, 98, 102, 110, 114, 116]⟩, .int .u8 c.toNat] w fun e w' => e = .returned (.int .i64 (Lib.indexByte [34, 92, 47, 98, 102, 110, 114, 116] (c.toNat : Int).toNat.toUInt8)) ∧ w' = w :=
    Any.strings_IndexByte Tryd.laysIR ⟨#[34, 92, 47, 98, 102, 110, 114, 116]⟩ c.toNat w
  simpa using h
theorem tab_cut {q : Nat} (h : q < 8) : (⟨#[34, 92, 47, 8, 12, 10, 13, 9]⟩ : ByteArray).extract q (q + 1) = ⟨#[tabS q]⟩ := by
  have : ∀ q : Fin 8, (⟨#[34, 92, 47, 8, 12, 10, 13, 9]⟩ : ByteArray).extract q.val (q.val + 1) = ⟨#[tabS q.val]⟩ := by decide +kernel
  exact this ⟨q, h⟩
theorem run_tab {q : Nat} (h : q < 8) (w : World) : (Instr.slice 9 (.string ⟨#[34, 92, 47, 8, 12, 10, 13, 9]⟩) (some (.int .i64 (q : Int))) (some (.int .i64 ((q : Int) + 1))) none).run Tryd.prog w = .ok (.string ⟨#[tabS q]⟩) w := by
  rw [run_slice_string w 9 _ .i64 .i64 _ _ Tryd.underlying9 (by omega) (by omega) (by simp [ByteArray.size]; omega), ← tab_cut h]
  congr 3
/-- a rune as a string -/
theorem conv_any (z : Int) : ∃ u : ByteArray, u.size ≤ 4 ∧ (∀ n : Nat, z = (n : Int) → encL n = u.data.toList) ∧ ∀ W, (convert 21 9 (.int .i32 z)).run Tryd.prog W = .ok (.string u) W :=
  ⟨Utf8.encode z, encode_size_le z, fun n h => by rw [encL_eq, h], fun W => run_convert_int_string W _ _ _ z (by rw [Tryd.underlying21]; rfl) Tryd.underlying9⟩
/-- a rune's place, and whether it is bad -/
theorem HexR.flag {b : Nat} {s : ByteArray} {i : Nat} {bad : Bool} {w w' : World} {e : Ending} (h : HexR b s i bad w e w') : But b w w' ∧ ∃ (n j : Nat) (bd : Bool), n < 65536 ∧ e = .returned (.int .i32 (n : Int)) ∧ RB b s j bd w' ∧ (bd = false → bad = false ∧ hex4L (dl s i) = some (n, dl s j)) ∧ (bd = true → bad = true ∨ hex4L (dl s i) = none) := by
  obtain ⟨hb, n, hn, he, j, hm⟩ := h
  refine ⟨hb, n, j, ?_⟩
  cases hx : hex4L (dl s i) with
  | none =>
    rw [hx] at hm
    exact ⟨true, hn, he, hm, fun h => by simp at h, fun _ => .inr rfl⟩
  | some p =>
    obtain ⟨m, r⟩ := p
    rw [hx] at hm
    obtain ⟨rfl, rfl, hr⟩ := hm
    exact ⟨bad, hn, he, hr, fun h => ⟨h, rfl⟩, fun h => .inl h⟩

theorem uniL_no {l : List UInt8} (h : hex4L l = none) : uniL l = none := by unfold uniL; rw [h]
theorem uniL_sur {l r : List UInt8} {n : Nat} (h : hex4L l = some (n, r)) (hn : 55296 ≤ n ∧ n < 56320) (hp : [92, 117].isPrefixOf r = false) : uniL l = none := by
  unfold uniL; rw [h]; dsimp only; rw [if_pos hn, if_neg (by rw [hp]; simp)]
theorem uniL_sur2 {l r : List UInt8} {n : Nat} (h : hex4L l = some (n, r)) (hn : 55296 ≤ n ∧ n < 56320) (h2 : hex4L (r.drop 2) = none) : uniL l = none := by
  unfold uniL; rw [h]; dsimp only; rw [if_pos hn, h2]; split <;> rfl
theorem uniL_sur3 {l r r2 : List UInt8} {n m : Nat} (h : hex4L l = some (n, r)) (hn : 55296 ≤ n ∧ n < 56320) (h2 : hex4L (r.drop 2) = some (m, r2)) (hm : ¬ (56320 ≤ m ∧ m ≤ 57343)) : uniL l = none := by
  unfold uniL; rw [h]; dsimp only; rw [if_pos hn, h2]; dsimp only; rw [if_neg hm]; split <;> rfl
theorem uniL_sur4 {l r r2 : List UInt8} {n m : Nat} (h : hex4L l = some (n, r)) (hn : 55296 ≤ n ∧ n < 56320) (hp : [92, 117].isPrefixOf r = true) (h2 : hex4L (r.drop 2) = some (m, r2)) (hm : 56320 ≤ m ∧ m ≤ 57343) : uniL l = some (encL (65536 + (n - 55296) * 1024 + (m - 56320)), r2) := by
  unfold uniL; rw [h]; dsimp only; rw [if_pos hn, if_pos hp, h2]; dsimp only; rw [if_pos hm]
theorem uniL_low {l r : List UInt8} {n : Nat} (h : hex4L l = some (n, r)) (hn : ¬ (55296 ≤ n ∧ n < 56320)) (h2 : 56320 ≤ n ∧ n ≤ 57343) : uniL l = none := by
  unfold uniL; rw [h]; dsimp only; rw [if_neg hn, if_pos h2]
theorem uniL_plain {l r : List UInt8} {n : Nat} (h : hex4L l = some (n, r)) (hn : ¬ (55296 ≤ n ∧ n < 56320)) (h2 : ¬ (56320 ≤ n ∧ n ≤ 57343)) : uniL l = some (encL n, r) := by
  unfold uniL; rw [h]; dsimp only; rw [if_neg hn, if_neg h2]
/-- what stands behind a backslash -/
def EscPost (b : Nat) (s : ByteArray) (i : Nat) (w : World) (e : Ending) (w' : World) : Prop :=
  But b w w' ∧ ∃ (bd : Bool) (t : ByteArray) (j : Nat), e = .returned (.string t) ∧ t.size ≤ 4 ∧ RB b s j bd w' ∧ (bd = false → escL (dl s i) = some (t.data.toList, dl s j)) ∧ (bd = true → escL (dl s i) = none)

set_option maxHeartbeats 8000000 in
set_option maxRecDepth 100000 in
theorem escape_any (b : Nat) (s : ByteArray) (i : Nat) (w : World) (h : RB b s i false w) (hs : s.size ≤ 1000000) (hE : Errs b w) :
    Calls Tryd.prog 49 #[.pointer (some ⟨b, 0, none⟩)] w (EscPost b s i w) := by
  have HR := Hold.mk h
  have HE := Hold.mk hE
  have x0 := h.c0
  have x1 := h.c1
  have x2 := h.c2
  have f1 := h.fz 1
  have f2 := h.fz 2
  have hle := h.le
  clear h hE
  by_cases hi : i < s.size
  · obtain ⟨c, hc⟩ : ∃ c, s[i] = c := ⟨_, rfl⟩
    have HDL : Hold (dl s i = c :: dl s (i + 1)) := ⟨by rw [dl_cons hi, hc]⟩
    have hnz : ((i : Int) == (s.size : Int)) = false := by simp; omega
    rcases short_kind c with ⟨hsh, hix⟩ | ⟨k, hk, hix, hsh⟩
    · have HIX : Hold (∀ W, Calls Tryd.prog 28 #[.string ⟨#[34, 92, 47, 98, 102, 110, 114, 116]⟩, .int .u8 c.toNat] W fun e w' => e = .returned (.int .i64 (-1)) ∧ w' = W) := ⟨fun W => by have := index_short c W; rw [hix] at this; exact this⟩
      by_cases h117 : c = 117
      · subst h117
        have HL : Hold (escL (dl s i) = uniL (dl s (i + 1))) := ⟨by rw [HDL.out, escL, hsh]; rfl⟩
        clear hsh hix
        go_enter Tryd.func49, Tryd.ntmps49
        go_wp2_with fail
        go_quiet (fail)
        go_wp2_with fail
        go_quiet (fail)
        go_wp2_with (go_at_call 28; refine (HIX.out _).mono ?_; rintro e w' ⟨rfl, rfl⟩)
        refine (hex_any b s (i + 1) false _ ((HR.out.drewN _).to1 hi) hs (HE.out.but (((But.refl b w).drewN _).trans (But.set _ _ _)))).mono ?_
        rintro e w1 hx
        obtain ⟨hb, n, j, bd, hn, he, hr, hf, ht⟩ := hx.flag
        obtain ⟨z, hz⟩ : ∃ z : Int, z = (n : Int) := ⟨_, rfl⟩
        rw [← hz] at he
        subst he
        clear hx
        have HB : Hold (But b w w1) := ⟨(((But.refl b w).drewN _).trans (But.set _ _ _)).trans hb⟩
        have HF : Hold (bd = false → hex4L (dl s (i + 1)) = some (n, dl s j)) := ⟨fun h => (hf h).2⟩
        have HT : Hold (bd = true → hex4L (dl s (i + 1)) = none) := ⟨fun h => (ht h).elim (fun h => by simp at h) id⟩
        replace HR := Hold.mk hr
        replace HE := Hold.mk (HE.out.but HB.out)
        have hjs := hr.le
        clear hb hf ht hr x0 x1 x2 f1 f2 hc hnz HIX HDL
        by_cases hsur : 55296 ≤ n ∧ n < 56320
        · have k0 : (55296 : Int) ≤ z := by omega
          have k1 : z < 56320 := by omega
          have HZ := Hold.mk hz
          clear hz
          go_wp2_with fail
          obtain ⟨wd, hwd⟩ : ∃ wd, wd = w1.drew := ⟨_, rfl⟩
          refine wp_region_mixC (GrowC wd) 17 rfl (by kernel_rfl) ?_
          rw [← hwd]
          replace HR : Hold (RB b s j bd wd) := ⟨by rw [hwd]; exact HR.out.drew⟩
          replace HB : Hold (But b w wd) := ⟨by rw [hwd]; exact HB.out.drew⟩
          replace HE : Hold (Errs b wd) := ⟨by rw [hwd]; exact HE.out.but (But.refl b w1).drew⟩
          clear hwd
          have y0 := Grow.cell HR.out.c0
          have y1 := Grow.cell HR.out.c1
          refine mixl_seg (by kernel_rfl) (fun _ _ d _ _ h => by cases d <;> exact h) [0, 1, 2, 3, 4, 5, 6, 7, 8, 9, 10, 11, 12, 13, 14] [_, _, _, _, _, _, _, _, _, _, _, _, _, _, _] 2 17 rfl _ _ _ rfl (by kernel_rfl) (growC (Below.refl _ _)) ?_
          repeat (go_big_quiet_step (fail))
          refine wpQuiet_nil ?_
          have hcut : (s.extract j s.size).data.toList = dl s j := cut_at
          have HPF := Hold.mk (fun W => by have := prefix_any (s.extract j s.size) ⟨#[92, 117]⟩ W; rw [hcut] at this; exact this)
          clear hcut
          cases hpf : [92, 117].isPrefixOf (dl s j) with
          | false =>
            have HU : Hold (uniL (dl s (i + 1)) = none) := ⟨by
              cases bd with
              | false => exact uniL_sur (HF.out rfl) hsur hpf
              | true => exact uniL_no (HT.out rfl)⟩
            replace HPF : Hold (∀ W, Calls Tryd.prog 47 #[.string (s.extract j s.size), .string ⟨#[92, 117]⟩] W fun e w' => e = .returned (.bool false) ∧ w' = W) := ⟨fun W => by have := HPF.out W; rw [show Lib.hasPrefix (dl s j) [92, 117] = [92, 117].isPrefixOf (dl s j) from rfl, hpf] at this; exact this⟩
            clear hpf hsur
            refine mixl_act (i := 15) rfl (by kernel_rfl) (growC (Below.refl _ _)) rfl (fun K hK => ?_)
            go_wp2_with fail
            rw [show (min (j : Int) (s.size : Int)).toNat = j by omega]
            refine (HPF.out _).mono ?_
            rintro e w2 ⟨rfl, rfl⟩
            go_wp2_with fail
            refine mixl_seg (by kernel_rfl) (fun _ _ d _ _ h => by cases d <;> exact h) [16] [_] 0 1 rfl _ _ _ rfl (by kernel_rfl) (growC (Below.refl _ _)) ?_
            repeat (go_big_quiet_step (fail))
            refine wpQuiet_nil ?_
            refine mix_done (by kernel_rfl) (growC (Below.refl _ _)) ?_
            clear y0 y1
            have x2 := HR.out.c2
            have f2 := HR.out.fz 2
            go_wp2_with fail
            go_ret
            exact ⟨HB.out.trans (But.set _ _ _), true, ⟨#[]⟩, j, rfl, by decide, HR.out.worse, fun h => by simp at h, fun _ => HL.out.trans HU.out⟩
          | true =>
            have hj2 : j + 2 ≤ s.size := by
              obtain ⟨t, ht⟩ := List.isPrefixOf_iff_prefix.1 hpf
              have h1 := congrArg List.length ht
              rw [List.length_append, dl_len] at h1
              simp at h1; omega
            have HPT := Hold.mk hpf
            replace HPF : Hold (∀ W, Calls Tryd.prog 47 #[.string (s.extract j s.size), .string ⟨#[92, 117]⟩] W fun e w' => e = .returned (.bool true) ∧ w' = W) := ⟨fun W => by have := HPF.out W; rw [show Lib.hasPrefix (dl s j) [92, 117] = [92, 117].isPrefixOf (dl s j) from rfl, hpf] at this; exact this⟩
            have HSUR := Hold.mk hsur
            clear hpf hsur
            refine mixl_act (i := 15) rfl (by kernel_rfl) (growC (Below.refl _ _)) rfl (fun K hK => ?_)
            go_wp2_with fail
            rw [show (min (j : Int) (s.size : Int)).toNat = j by omega]
            refine (HPF.out _).mono ?_
            rintro e w2 ⟨rfl, rfl⟩
            go_wp2_with fail
            refine mixl_seg (by kernel_rfl) (fun _ _ d _ _ h => by cases d <;> exact h) [16] [_] 0 1 rfl _ _ _ rfl (by kernel_rfl) (growC (Below.refl _ _)) ?_
            repeat (go_big_quiet_step (fail))
            refine wpQuiet_nil ?_
            refine mix_done (by kernel_rfl) (growC (Below.refl _ _)) ?_
            clear y0 y1 HPF
            have x1 := HR.out.c1
            have f1 := HR.out.fz 1
            go_wp2_with fail
            have HR2 := HR.out.to hj2
            rw [show ((j + 2 : Nat) : Int) = (j : Int) + 2 by omega] at HR2
            refine (hex_any b s (j + 2) bd _ HR2 hs (HE.out.but (But.set _ _ _))).mono ?_
            clear HR2 x1 f1
            rintro e w3 hx
            obtain ⟨hb, m, j2, bd2, hm, he, hr, hf, ht⟩ := hx.flag
            obtain ⟨y, hy⟩ : ∃ y : Int, y = (m : Int) := ⟨_, rfl⟩
            rw [← hy] at he
            subst he
            have HB3 : Hold (But b w w3) := ⟨(HB.out.trans (But.set _ _ _)).trans hb⟩
            have HF2 : Hold (bd2 = false → bd = false ∧ hex4L ((dl s j).drop 2) = some (m, dl s j2)) := ⟨fun h => by rw [dl_drop]; exact hf h⟩
            have HT2 : Hold (bd2 = true → bd = true ∨ hex4L ((dl s j).drop 2) = none) := ⟨fun h => by rw [dl_drop]; exact ht h⟩
            have HR3 := Hold.mk hr
            clear hb hx hf ht hr HB HE
            have x2 := HR3.out.c2
            have f2 := HR3.out.fz 2
            have hz0 : z = (n : Int) := HZ.out
            by_cases hlow : 56320 ≤ m ∧ m ≤ 57343
            · have k3 : ¬ y < 56320 := by omega
              have k4 : ¬ 57343 < y := by omega
              have k5 : y ≤ 57343 := by omega
              have k6 : 56320 ≤ y := by omega
              have k7 : z ≤ 56319 := by omega
              have HU : Hold ((bd2 = false → uniL (dl s (i + 1)) = some (encL (65536 + (n - 55296) * 1024 + (m - 56320)), dl s j2)) ∧ (bd2 = true → uniL (dl s (i + 1)) = none)) := ⟨fun h => uniL_sur4 (HF.out (HF2.out h).1) HSUR.out HPT.out (HF2.out h).2 hlow, fun h => by
                cases bd with
                | true => exact uniL_no (HT.out rfl)
                | false => exact uniL_sur2 (HF.out rfl) HSUR.out ((HT2.out h).elim (fun h => by simp at h) id)⟩
              have hval : 65536 + (z - 55296) * 1024 + y - 56320 = ((65536 + (n - 55296) * 1024 + (m - 56320) : Nat) : Int) := by
                have := HSUR.out; omega
              obtain ⟨u, hsz, hen, hcv⟩ := conv_any (65536 + (z - 55296) * 1024 + y - 56320)
              have HEN := Hold.mk (hen _ hval)
              have HSZ := Hold.mk hsz
              clear hen hsz hval hy hz0 hlow HZ
              go_wp2_with fail
              go_ret
              exact ⟨HB3.out, bd2, u, j2, rfl, HSZ.out, HR3.out, fun h => HL.out.trans ((HU.out.1 h).trans (by rw [HEN.out])), fun h => HL.out.trans (HU.out.2 h)⟩
            · have HU : Hold (uniL (dl s (i + 1)) = none) := ⟨by
                cases bd with
                | true => exact uniL_no (HT.out rfl)
                | false =>
                  cases bd2 with
                  | true => exact uniL_sur2 (HF.out rfl) HSUR.out ((HT2.out rfl).elim (fun h => by simp at h) id)
                  | false => exact uniL_sur3 (HF.out rfl) HSUR.out (HF2.out rfl).2 hlow⟩
              have k5 : y < 65536 := by omega
              have k6 : 0 ≤ y := by omega
              have k7 : z ≤ 56319 := by omega
              obtain ⟨u, hsz, _, hcv⟩ := conv_any (65536 + (z - 55296) * 1024 + y - 56320)
              have HSZ := Hold.mk hsz
              have hways : y < 56320 ∨ 57343 < y := by omega
              clear hsz hy hz0 hlow HZ
              rcases hways with k3 | k3
              · go_wp2_with fail
                go_ret
                exact ⟨HB3.out.trans (But.set _ _ _), true, u, j2, rfl, HSZ.out, HR3.out.worse, fun h => by simp at h, fun _ => HL.out.trans HU.out⟩
              · have k4 : ¬ y < 56320 := by omega
                go_wp2_with fail
                go_ret
                exact ⟨HB3.out.trans (But.set _ _ _), true, u, j2, rfl, HSZ.out, HR3.out.worse, fun h => by simp at h, fun _ => HL.out.trans HU.out⟩
        · have hns : ¬ ((55296 : Int) ≤ z ∧ z < 56320) := by omega
          by_cases hlow : 56320 ≤ n ∧ n ≤ 57343
          · have HU : Hold (uniL (dl s (i + 1)) = none) := ⟨by
              cases bd with
              | false => exact uniL_low (HF.out rfl) hsur hlow
              | true => exact uniL_no (HT.out rfl)⟩
            have k0 : (55296 : Int) ≤ z := by omega
            have k1 : ¬ z < 56320 := by omega
            have k2 : (56320 : Int) ≤ z := by omega
            have k3 : z ≤ 57343 := by omega
            have x2 := HR.out.c2
            have f2 := HR.out.fz 2
            clear hsur hlow hns
            obtain ⟨u, hsz, hen, hcv⟩ := conv_any z
            have HSZ := Hold.mk hsz
            clear hen hsz
            clear hz
            go_wp2_with fail
            go_ret
            exact ⟨HB.out.trans (But.set _ _ _), true, u, j, rfl, HSZ.out, HR.out.worse, fun h => by simp at h, fun _ => HL.out.trans HU.out⟩
          · have HU : Hold ((bd = false → uniL (dl s (i + 1)) = some (encL n, dl s j)) ∧ (bd = true → uniL (dl s (i + 1)) = none)) := ⟨fun h => uniL_plain (HF.out h) hsur hlow, fun h => uniL_no (HT.out h)⟩
            have hways : n < 55296 ∨ 57343 < n := by omega
            rcases hways with hw | hw
            · have k0 : ¬ (55296 : Int) ≤ z := by omega
              have k2 : ¬ (56320 : Int) ≤ z := by omega
              clear hsur hlow hns hw
              obtain ⟨u, hsz, hen, hcv⟩ := conv_any z
              have HEN := Hold.mk (hen n hz)
              have HSZ := Hold.mk hsz
              clear hen hsz
              clear hz
              go_wp2_with fail
              go_ret
              exact ⟨HB.out, bd, u, j, rfl, HSZ.out, HR.out, fun h => HL.out.trans ((HU.out.1 h).trans (by rw [HEN.out])), fun h => HL.out.trans (HU.out.2 h)⟩
            · have k0 : (55296 : Int) ≤ z := by omega
              have k1 : ¬ z < 56320 := by omega
              have k2 : (56320 : Int) ≤ z := by omega
              have k3 : ¬ z ≤ 57343 := by omega
              clear hsur hlow hns hw
              obtain ⟨u, hsz, hen, hcv⟩ := conv_any z
              have HEN := Hold.mk (hen n hz)
              have HSZ := Hold.mk hsz
              clear hen hsz
              clear hz
              go_wp2_with fail
              go_ret
              exact ⟨HB.out, bd, u, j, rfl, HSZ.out, HR.out, fun h => HL.out.trans ((HU.out.1 h).trans (by rw [HEN.out])), fun h => HL.out.trans (HU.out.2 h)⟩
      · have HL : Hold (escL (dl s i) = none) := ⟨by rw [HDL.out, escL, hsh, if_neg h117]⟩
        have b117 : ((c.toNat : Int) != 117) = true := by rw [bne_iff_ne]; exact fun e => h117 (byte_eqR (k := 117) e)
        clear hsh hix h117
        go_enter Tryd.func49, Tryd.ntmps49
        go_wp2_with fail
        go_quiet (fail)
        go_wp2_with fail
        go_quiet (fail)
        go_wp2_with (go_at_call 28; refine (HIX.out _).mono ?_; rintro e w' ⟨rfl, rfl⟩)
        go_ret
        exact ⟨(((But.refl b w).drewN _).trans (But.set _ _ _)).trans (But.set _ _ _), true, ⟨#[]⟩, i + 1, rfl, by decide, ((HR.out.drewN _).to1 hi).worse, fun h => by simp at h, fun _ => HL.out⟩
    · have HIX : Hold (∀ W, Calls Tryd.prog 28 #[.string ⟨#[34, 92, 47, 98, 102, 110, 114, 116]⟩, .int .u8 c.toNat] W fun e w' => e = .returned (.int .i64 (k : Int)) ∧ w' = W) := ⟨fun W => by have := index_short c W; rw [hix] at this; exact this⟩
      have HL : Hold (escL (dl s i) = some ([tabS k], dl s (i + 1))) := ⟨by rw [HDL.out, escL, hsh]⟩
      have s1 := run_tab hk
      have e1 := IntWalk.i64_in ((k : Int) + 1) (by omega)
      clear hsh hix
      go_enter Tryd.func49, Tryd.ntmps49
      go_wp2_with fail
      go_quiet (fail)
      go_wp2_with fail
      go_quiet (fail)
      go_wp2_with (go_at_call 28; refine (HIX.out _).mono ?_; rintro e w' ⟨rfl, rfl⟩)
      go_ret
      exact ⟨((But.refl b w).drewN _).trans (But.set _ _ _), false, ⟨#[tabS k]⟩, i + 1, rfl, by simp [ByteArray.size], (HR.out.drewN _).to1 hi, fun _ => HL.out, fun h => by simp at h⟩
  · obtain rfl : i = s.size := by omega
    have HL : Hold (escL (dl s s.size) = none) := ⟨by rw [dl_end]; rfl⟩
    clear hi hle
    go_enter Tryd.func49, Tryd.ntmps49
    go_wp2_with fail
    go_quiet (fail)
    go_wp2_with fail
    go_ret
    exact ⟨((But.refl b w).drewN nq).trans (But.set _ _ _), true, ⟨#[]⟩, s.size, rfl, by decide, (HR.out.drewN nq).worse, fun h => by simp at h, fun _ => HL.out⟩

end Go.Proofs.YtdhilnnohokoeaaDoor
