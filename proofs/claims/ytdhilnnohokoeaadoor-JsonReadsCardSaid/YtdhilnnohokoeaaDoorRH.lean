/- The reader of the program: hex. -/
import Derived.Test.YtdhilnnohokoeaaDoorRF
namespace Go.Proofs.YtdhilnnohokoeaaDoor
open Go.Shelf Go.RowKit

def UintPost (l : List UInt8) (w : World) (e : Ending) (w' : World) : Prop :=
  Below w.heap.size w w' ∧ match hexS 0 l with
    | some n => e = .returned (.tuple #[.int .u64 (n : Int), .nilIface])
    | none => ∃ t p, e = .returned (.tuple #[.int .u64 0, .iface t p])
set_option maxHeartbeats 4000000 in
set_option maxRecDepth 100000 in
theorem parseUint_any (s : ByteArray) (b : Nat) (w : World) (hs : s.size = 4) (hE : Errs b w) :
    Calls Tryd.prog 79 #[.string s, .int .i64 16, .int .i64 16] w (UintPost s.data.toList w) := by
  have HX := Hold.mk (hexIn_any s w hs)
  have HE := Hold.mk hE
  have hsz : s.size ≤ 281474976710656 := by omega
  clear hE hs
  cases hx : hexS 0 s.data.toList with
  | some n =>
    have HN := Hold.mk hx
    go_enter Tryd.func79, Tryd.ntmps79
    go_wp2_with fail
    refine HX.out.mono ?_
    rintro e w1 ⟨hb, he⟩
    rw [HN.out] at he
    dsimp only at he
    subst he
    have HB := Hold.mk hb
    clear hb HX hx
    go_wp2_with fail
    go_ret2
    exact ⟨HB.out, by rw [HN.out]; rfl⟩
  | none =>
    have HN := Hold.mk hx
    go_enter Tryd.func79, Tryd.ntmps79
    go_wp2_with fail
    refine HX.out.mono ?_
    rintro e w1 ⟨hb, he⟩
    rw [HN.out] at he
    dsimp only at he
    subst he
    have HB := Hold.mk hb
    obtain ⟨t, p, hc⟩ := (HE.out.below hb).syn
    have HC := Hold.mk hc
    clear hb HX hx hc
    go_wp2_with fail
    refine (Any.strconv_toError_syntax { Tryd.laysPI with } ⟨#[80, 97, 114, 115, 101, 85, 105, 110, 116]⟩ s 16 16 _ w1 hsz HC.out (.inr ⟨t, p, rfl⟩)).mono ?_
    rintro e w2 ⟨N, rfl, _, _, hb2⟩
    replace HB := Hold.mk (HB.out.trans (hb2.mono HB.out.size))
    clear hb2
    go_wp2_with fail
    go_ret2
    exact ⟨HB.out, by rw [HN.out]; exact ⟨_, _, rfl⟩⟩

/-- four digits from the place on, as a rune; or it is bad -/
def HexR (b : Nat) (s : ByteArray) (i : Nat) (bad : Bool) (w : World) (e : Ending) (w' : World) : Prop :=
  But b w w' ∧ ∃ n : Nat, n < 65536 ∧ e = .returned (.int .i32 (n : Int)) ∧ ∃ j, match hex4L (dl s i) with
    | some (m, r) => n = m ∧ dl s j = r ∧ RB b s j bad w'
    | none => RB b s j true w'
theorem hexV_lt {c : UInt8} {d : Nat} (h : hexV c = some d) : d < 16 := by
  unfold hexV at h
  split at h
  · cases h; omega
  · split at h
    · cases h; omega
    · split at h
      · cases h; omega
      · cases h
theorem hexS_lt : ∀ (l : List UInt8) (a n k : Nat), hexS a l = some n → a < 16 ^ k → n < 16 ^ (k + l.length)
  | [], a, n, k, h, ha => by rw [hexS] at h; cases h; exact ha
  | c :: l, a, n, k, h, ha => by
    rw [hexS] at h
    split at h
    · rename_i d hd
      have := hexV_lt hd
      have h1 : 16 ^ (k + 1) = 16 ^ k * 16 := Nat.pow_succ 16 k
      have h2 := hexS_lt l (a * 16 + d) n (k + 1) h (by omega)
      rw [List.length_cons, show k + (l.length + 1) = k + 1 + l.length by omega]; exact h2
    · cases h
theorem hex_wrap {n : Nat} (h : n < 65536) : IntKind.i32.wrap (n : Int) = (n : Int) := by
  simp [IntKind.wrap, IntKind.bits, IntKind.signed]; omega

set_option maxHeartbeats 4000000 in
set_option maxRecDepth 100000 in
theorem hex_any (b : Nat) (s : ByteArray) (i : Nat) (bad : Bool) (w : World) (h : RB b s i bad w) (hs : s.size ≤ 1000000) (hE : Errs b w) :
    Calls Tryd.prog 63 #[.pointer (some ⟨b, 0, none⟩)] w (HexR b s i bad w) := by
  have HR := Hold.mk h
  have HE := Hold.mk hE
  have hle := h.le
  have x0 := h.c0
  have x1 := h.c1
  have hw1 : IntKind.i64.wrap ((i : Int) + 4) = (i : Int) + 4 := by rw [IntKind.wrap_i64]; omega
  by_cases h4 : s.size < i + 4
  · have x2 := h.c2
    have f2 := h.fz 2
    have hgt : (s.size : Int) < (i : Int) + 4 := by omega
    have HL : Hold (hex4L (dl s i) = none) := ⟨by unfold hex4L; rw [if_pos (by rw [dl_len]; omega)]⟩
    clear h hE
    go_enter Tryd.func63, Tryd.ntmps63
    go_wp2_with fail
    go_quiet (fail)
    go_wp2_with fail
    go_ret
    exact ⟨((But.refl b w).drewN nq).trans (But.set _ _ _), 0, by omega, rfl, i, by rw [HL.out]; exact (HR.out.drewN nq).worse⟩
  · have hge : ¬ (s.size : Int) < (i : Int) + 4 := by omega
    have hxs : (s.extract i (i + 4)).size = 4 := by rw [ByteArray.size_extract]; omega
    have hxl : (s.extract i (i + 4)).data.toList = (dl s i).take 4 := by rw [dl_take, show i + 4 - i = 4 by omega]
    have hlen : ¬ (dl s i).length < 4 := by rw [dl_len]; omega
    have hn4 : ((i : Int) + 4).toNat = i + 4 := by omega
    have hi4 : 0 ≤ (i : Int) + 4 := by omega
    have HX : Hold (∀ W, Errs b W → Calls Tryd.prog 79 #[.string (s.extract i (i + 4)), .int .i64 16, .int .i64 16] W (UintPost ((dl s i).take 4) W)) := ⟨fun W hW => by
      have := parseUint_any (s.extract i (i + 4)) b W hxs hW
      rw [hxl] at this; exact this⟩
    have HDR : Hold (dl s (i + 4) = (dl s i).drop 4) := ⟨(dl_drop s i 4).symm⟩
    have h4s : i + 4 ≤ s.size := by omega
    have hle4 : (i : Int) ≤ (i : Int) + 4 := by omega
    clear h hE hxs hxl
    go_enter Tryd.func63, Tryd.ntmps63
    go_wp2_with fail
    go_quiet (fail)
    go_wp2_with fail
    obtain ⟨wd, hwd⟩ : ∃ wd, wd = (w.drewN nq).drew := ⟨_, rfl⟩
    refine wp_region_mixC (GrowC wd) 20 rfl (by kernel_rfl) ?_
    rw [← hwd]
    have HR2 : Hold (RB b s i bad wd) := ⟨by rw [hwd]; exact (HR.out.drewN nq).drew⟩
    have HB : Hold (But b w wd) := ⟨by rw [hwd]; exact ((But.refl b w).drewN nq).drew⟩
    have HE2 := Hold.mk (HE.out.but HB.out)
    clear hwd HR HE x0 x1
    have y0 := Grow.cell HR2.out.c0
    have y1 := Grow.cell HR2.out.c1
    refine mixl_seg (by kernel_rfl) (fun _ _ d _ _ h => by cases d <;> exact h) [0, 1, 2, 3, 4, 5, 6, 7, 8, 9, 10, 11, 12, 13] [_, _, _, _, _, _, _, _, _, _, _, _, _, _] 6 20 rfl _ _ _ rfl (by kernel_rfl) (growC (Below.refl _ _)) ?_
    repeat (go_big_quiet_step (fail))
    refine wpQuiet_nil ?_
    refine mixl_act (i := 14) rfl (by kernel_rfl) (growC (Below.refl _ _)) rfl (fun K hK => ?_)
    go_wp2_with fail
    refine (HX.out wd HE2.out).mono ?_
    rintro e w1 ⟨hb1, he⟩
    replace HB := Hold.mk (HB.out.trans (But.of_below hb1))
    replace HR2 := Hold.mk (HR2.out.below hb1)
    have HB1 := Hold.mk hb1
    clear hb1 y0 y1
    have x1 := HR2.out.c1
    have f1 := HR2.out.fz 1
    have x2 := HR2.out.c2
    have f2 := HR2.out.fz 2
    cases hx : hexS 0 ((dl s i).take 4) with
    | some n =>
      rw [hx] at he
      dsimp only at he
      subst he
      have hn : n < 65536 := by
        have h1 := hexS_lt _ 0 n 0 hx (by decide)
        have h2 : ((dl s i).take 4).length = 4 := by rw [List.length_take]; omega
        rw [h2] at h1; exact h1
      have HL : Hold (hex4L (dl s i) = some (n, dl s (i + 4))) := ⟨by unfold hex4L; rw [if_neg hlen, hx, HDR.out]; rfl⟩
      have hwn := hex_wrap hn
      have HN := Hold.mk hn
      clear hx hlen hn
      go_wp2_with fail
      refine mixl_seg (by kernel_rfl) (fun _ _ d _ _ h => by cases d <;> exact h) [15, 16, 17, 18, 19] [_, _, _, _, _] 0 5 rfl _ _ _ rfl (by kernel_rfl) (growC HB1.out) ?_
      repeat (go_big_quiet_step (fail))
      refine wpQuiet_nil ?_
      refine mix_done (by kernel_rfl) (growC HB1.out) ?_
      go_wp2_with fail
      go_ret
      exact ⟨HB.out.trans (But.set _ _ _), n, HN.out, rfl, i + 4, by rw [HL.out]; exact ⟨rfl, rfl, HR2.out.to h4s⟩⟩
    | none =>
      rw [hx] at he
      dsimp only at he
      obtain ⟨tt, pp, rfl⟩ := he
      have HL : Hold (hex4L (dl s i) = none) := ⟨by unfold hex4L; rw [if_neg hlen, hx]; rfl⟩
      clear hx hlen
      go_wp2_with fail
      refine mixl_seg (by kernel_rfl) (fun _ _ d _ _ h => by cases d <;> exact h) [15, 16, 17, 18, 19] [_, _, _, _, _] 0 5 rfl _ _ _ rfl (by kernel_rfl) (growC HB1.out) ?_
      repeat (go_big_quiet_step (fail))
      refine wpQuiet_nil ?_
      refine mix_done (by kernel_rfl) (growC HB1.out) ?_
      go_wp2_with fail
      go_ret
      exact ⟨(HB.out.trans (But.set _ _ _)).trans (But.set _ _ _), 0, by omega, rfl, i + 4, by rw [HL.out]; exact (HR2.out.worse).to h4s⟩

end Go.Proofs.YtdhilnnohokoeaaDoor
