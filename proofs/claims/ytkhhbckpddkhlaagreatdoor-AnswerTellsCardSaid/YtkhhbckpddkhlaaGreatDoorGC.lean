/- Filters: passes of the reference. Filters: one, Plain and Holds of the reference. -/
import Derived.Test.YtkhhbckpddkhlaaGreatDoorGA
import Derived.Test.YtkhhbckpddkhlaaGreatDoorFF
import Derived.Test.YtkhhbckpddkhlaaGreatDoorFS
namespace Go.Proofs.YtkhhbckpddkhlaaGreatDoor
open Go.RowKit

set_option maxRecDepth 100000 in
set_option maxHeartbeats 8000000 in
theorem rpasses_none (s : ByteArray) (v : JV) (x : Value) (c0 c1 c2 c3 c4 : Value) (w : World) (hx : JAt (cf w) v x) :
    Calls Tryz.prog 151 #[.string s, x, .agg #[c0, c1, c2, c3, c4], .bool false] w fun e w' => e = .returned (.bool (passR s v none)) ∧ Below w.heap.size w w' := by
  obtain ⟨k, n, t, nm, it, na, ncap, ia, icap, rfl, rfl, _⟩ := hx.open
  have H2 := Hold.mk (Two.refl w #[.int .i64 k, .int .i64 n, .string t, .slice na nm.length ncap, .slice ia it.length icap] #[c0, c1, c2, c3, c4])
  clear hx
  by_cases h1 : s.toList = [36, 104, 97, 115]
  · have HR0 : Hold (passR s (.mk k n t nm it) none = decide (k = 1)) := ⟨by unfold passR; rw [if_pos (isN_yes h1)]; rfl⟩
    by_cases hk : k = 1
    · have HR : Hold (passR s (.mk k n t nm it) none = true) := ⟨by rw [HR0.out, hk]; rfl⟩
      subst hk
      go_enter Tryz.func151, Tryz.ntmps151
      go_wp2_with fail
      go_ret
      exact ⟨by rw [HR.out]; rfl, H2.out.bel⟩
    · have HR : Hold (passR s (.mk k n t nm it) none = false) := ⟨by rw [HR0.out]; simp [hk]⟩
      have bk : (k == 1) = false := by simpa using hk
      clear hk
      go_enter Tryz.func151, Tryz.ntmps151
      go_wp2_with fail
      go_ret
      exact ⟨by rw [HR.out]; rfl, H2.out.bel⟩
  have b1 : (s.toList == [36, 104, 97, 115]) = false := isN_no h1
  have HR : Hold (passR s (.mk k n t nm it) none = (s.toList == [36, 110, 101])) := ⟨by unfold passR; rw [if_neg (by rw [isN_no h1]; simp)]; rfl⟩
  clear h1
  generalize hr : (s.toList == [36, 110, 101]) = r at HR
  go_enter Tryz.func151, Tryz.ntmps151
  go_wp2_with fail
  go_ret
  exact ⟨by rw [HR.out]; rfl, H2.out.bel⟩

set_option maxRecDepth 100000 in
set_option maxHeartbeats 16000000 in
theorem rpasses_some (s : ByteArray) (v u : JV) (x y : Value) (w : World) (hx : JAt (cf w) v x) (hy : JAt (cf w) u y) (hf : formedF 6 v = true) (hg : formedF 6 u = true) :
    Calls Tryz.prog 151 #[.string s, x, y, .bool true] w fun e w' => e = .returned (.bool (passR s v (some u))) ∧ Below w.heap.size w w' := by
  obtain ⟨k, n, t, nm, it, na, ncap, ia, icap, hve, rfl, _, _, _, _, hit⟩ := hx.open
  obtain ⟨q, m, t2, nu, ju, ma, mcap, ja, jcap, hue, rfl, _⟩ := hy.open
  have H2 := Hold.mk (Two.refl w #[.int .i64 k, .int .i64 n, .string t, .slice na nm.length ncap, .slice ia it.length icap] #[.int .i64 q, .int .i64 m, .string t2, .slice ma nu.length mcap, .slice ja ju.length jcap])
  have HJ := Hold.mk hx
  have HK := Hold.mk hy
  have HF := Hold.mk hf
  have HG := Hold.mk hg
  have hki : v.kind = k ∧ v.items = it := by rw [hve]; exact ⟨rfl, rfl⟩
  have HKI := Hold.mk hki
  have HFK : Hold (∀ z ∈ it, formedF 6 z = true) := ⟨fun z hz => formed_mono 5 z (formed_kids hf (by rw [hki.2]; exact hz))⟩
  obtain ⟨ia', icap', e, hilen, his⟩ := hit
  cases e
  have HI := Hold.mk his
  clear hx hy hf hg hve hue hki his
  by_cases h1 : s.toList = [36, 104, 97, 115]
  · have HR0 : Hold (passR s v (some u) = decide (k = 2)) := ⟨by unfold passR; rw [if_pos (isN_yes h1), HKI.out.1]; simp⟩
    by_cases hk : k = 2
    · have HR : Hold (passR s v (some u) = true) := ⟨by rw [HR0.out, hk]; rfl⟩
      subst hk
      go_enter Tryz.func151, Tryz.ntmps151
      go_wp2_with fail
      go_ret
      exact ⟨by rw [HR.out]; rfl, H2.out.bel⟩
    · have HR : Hold (passR s v (some u) = false) := ⟨by rw [HR0.out]; simp [hk]⟩
      have bk : (k == 2) = false := by simpa using hk
      clear hk
      go_enter Tryz.func151, Tryz.ntmps151
      go_wp2_with fail
      go_ret
      exact ⟨by rw [HR.out]; rfl, H2.out.bel⟩
  have b1 : (s.toList == [36, 104, 97, 115]) = false := isN_no h1
  have HR0 : Hold (passR s v (some u) = byName s (cmpF 6 u v) (if isN s sGe then decide (0 ≤ cmpF 6 u v) else it.any fun y => decide (cmpF 6 u y = 0))) := ⟨by unfold passR; rw [if_neg (by rw [isN_no h1]; simp)]; simp only; rw [HKI.out.2]⟩
  clear h1 HKI
  have HX := Hold.mk (plain_any 6 u v _ _ _ HG.out HF.out (HK.out.mono (cle_below H2.out.bel)) (HJ.out.mono (cle_below H2.out.bel)))
  generalize cmpF 6 u v = c at HX HR0
  unfold byName at HR0
  by_cases g0 : s.toList = [36, 101, 113]
  · have HR : Hold (passR s v (some u) = decide (c = 0)) := ⟨by rw [HR0.out, if_pos (isN_yes g0)]⟩
    clear HR0
    by_cases hc : c = 0
    · subst hc
      go_enter Tryz.func151, Tryz.ntmps151
      go_wp2_with fail
      refine HX.out.mono ?_
      rintro e w1 ⟨rfl, hb1⟩
      replace H2 := Hold.mk (H2.out.next hb1)
      clear hb1 HX
      go_wp2_with fail
      go_ret
      exact ⟨by rw [HR.out]; first | rfl | (simp; done) | (simp; omega), H2.out.bel⟩
    · have hcb : (c == 0) = false := by simpa using hc
      have hcn : (c != 0) = true := by simpa using hc
      replace HR : Hold (passR s v (some u) = false) := ⟨by rw [HR.out]; simp [hc]⟩
      clear hc
      go_enter Tryz.func151, Tryz.ntmps151
      go_wp2_with fail
      refine HX.out.mono ?_
      rintro e w1 ⟨rfl, hb1⟩
      replace H2 := Hold.mk (H2.out.next hb1)
      clear hb1 HX
      go_wp2_with fail
      go_ret
      exact ⟨by rw [HR.out]; first | rfl | (simp; done) | (simp; omega), H2.out.bel⟩
  have c0 : (s.toList == [36, 101, 113]) = false := isN_no g0
  rw [if_neg (show ¬ isN s sEq = true by rw [isN_no g0]; simp)] at HR0
  clear g0
  by_cases g1 : s.toList = [36, 110, 101]
  · have HR : Hold (passR s v (some u) = decide (c ≠ 0)) := ⟨by rw [HR0.out, if_pos (isN_yes g1)]⟩
    clear HR0
    by_cases hc : c = 0
    · subst hc
      go_enter Tryz.func151, Tryz.ntmps151
      go_wp2_with fail
      refine HX.out.mono ?_
      rintro e w1 ⟨rfl, hb1⟩
      replace H2 := Hold.mk (H2.out.next hb1)
      clear hb1 HX
      go_wp2_with fail
      go_ret
      exact ⟨by rw [HR.out]; first | rfl | (simp; done) | (simp; omega), H2.out.bel⟩
    · have hcb : (c == 0) = false := by simpa using hc
      have hcn : (c != 0) = true := by simpa using hc
      replace HR : Hold (passR s v (some u) = true) := ⟨by rw [HR.out]; simp [hc]⟩
      clear hc
      go_enter Tryz.func151, Tryz.ntmps151
      go_wp2_with fail
      refine HX.out.mono ?_
      rintro e w1 ⟨rfl, hb1⟩
      replace H2 := Hold.mk (H2.out.next hb1)
      clear hb1 HX
      go_wp2_with fail
      go_ret
      exact ⟨by rw [HR.out]; first | rfl | (simp; done) | (simp; omega), H2.out.bel⟩
  have c1 : (s.toList == [36, 110, 101]) = false := isN_no g1
  rw [if_neg (show ¬ isN s sNe = true by rw [isN_no g1]; simp)] at HR0
  clear g1
  by_cases g2 : s.toList = [36, 108, 116]
  · have HR : Hold (passR s v (some u) = decide (c < 0)) := ⟨by rw [HR0.out, if_pos (isN_yes g2)]⟩
    clear HR0
    by_cases hc : c < 0
    · replace HR : Hold (passR s v (some u) = true) := ⟨by rw [HR.out]; simp [hc]⟩
      go_enter Tryz.func151, Tryz.ntmps151
      go_wp2_with fail
      refine HX.out.mono ?_
      rintro e w1 ⟨rfl, hb1⟩
      replace H2 := Hold.mk (H2.out.next hb1)
      clear hb1 HX
      go_wp2_with fail
      go_ret
      exact ⟨by rw [HR.out]; first | rfl | (simp; done) | (simp; omega), H2.out.bel⟩
    · replace HR : Hold (passR s v (some u) = false) := ⟨by rw [HR.out]; simp; omega⟩
      go_enter Tryz.func151, Tryz.ntmps151
      go_wp2_with fail
      refine HX.out.mono ?_
      rintro e w1 ⟨rfl, hb1⟩
      replace H2 := Hold.mk (H2.out.next hb1)
      clear hb1 HX
      go_wp2_with fail
      go_ret
      exact ⟨by rw [HR.out]; first | rfl | (simp; done) | (simp; omega), H2.out.bel⟩
  have c2 : (s.toList == [36, 108, 116]) = false := isN_no g2
  rw [if_neg (show ¬ isN s sLt = true by rw [isN_no g2]; simp)] at HR0
  clear g2
  by_cases g3 : s.toList = [36, 108, 101]
  · have HR : Hold (passR s v (some u) = decide (c ≤ 0)) := ⟨by rw [HR0.out, if_pos (isN_yes g3)]⟩
    clear HR0
    by_cases hc : c ≤ 0
    · replace HR : Hold (passR s v (some u) = true) := ⟨by rw [HR.out]; simp [hc]⟩
      go_enter Tryz.func151, Tryz.ntmps151
      go_wp2_with fail
      refine HX.out.mono ?_
      rintro e w1 ⟨rfl, hb1⟩
      replace H2 := Hold.mk (H2.out.next hb1)
      clear hb1 HX
      go_wp2_with fail
      go_ret
      exact ⟨by rw [HR.out]; first | rfl | (simp; done) | (simp; omega), H2.out.bel⟩
    · replace HR : Hold (passR s v (some u) = false) := ⟨by rw [HR.out]; simp; omega⟩
      go_enter Tryz.func151, Tryz.ntmps151
      go_wp2_with fail
      refine HX.out.mono ?_
      rintro e w1 ⟨rfl, hb1⟩
      replace H2 := Hold.mk (H2.out.next hb1)
      clear hb1 HX
      go_wp2_with fail
      go_ret
      exact ⟨by rw [HR.out]; first | rfl | (simp; done) | (simp; omega), H2.out.bel⟩
  have c3 : (s.toList == [36, 108, 101]) = false := isN_no g3
  rw [if_neg (show ¬ isN s sLe = true by rw [isN_no g3]; simp)] at HR0
  clear g3
  by_cases g4 : s.toList = [36, 103, 116]
  · have HR : Hold (passR s v (some u) = decide (0 < c)) := ⟨by rw [HR0.out, if_pos (isN_yes g4)]⟩
    clear HR0
    by_cases hc : 0 < c
    · replace HR : Hold (passR s v (some u) = true) := ⟨by rw [HR.out]; simp [hc]⟩
      go_enter Tryz.func151, Tryz.ntmps151
      go_wp2_with fail
      refine HX.out.mono ?_
      rintro e w1 ⟨rfl, hb1⟩
      replace H2 := Hold.mk (H2.out.next hb1)
      clear hb1 HX
      go_wp2_with fail
      go_ret
      exact ⟨by rw [HR.out]; first | rfl | (simp; done) | (simp; omega), H2.out.bel⟩
    · replace HR : Hold (passR s v (some u) = false) := ⟨by rw [HR.out]; simp; omega⟩
      go_enter Tryz.func151, Tryz.ntmps151
      go_wp2_with fail
      refine HX.out.mono ?_
      rintro e w1 ⟨rfl, hb1⟩
      replace H2 := Hold.mk (H2.out.next hb1)
      clear hb1 HX
      go_wp2_with fail
      go_ret
      exact ⟨by rw [HR.out]; first | rfl | (simp; done) | (simp; omega), H2.out.bel⟩
  have c4 : (s.toList == [36, 103, 116]) = false := isN_no g4
  rw [if_neg (show ¬ isN s sGt = true by rw [isN_no g4]; simp)] at HR0
  clear g4
  by_cases g5 : s.toList = [36, 103, 101]
  · have HR : Hold (passR s v (some u) = decide (0 ≤ c)) := ⟨by rw [HR0.out, if_pos (isN_yes g5)]⟩
    clear HR0
    by_cases hc : 0 ≤ c
    · replace HR : Hold (passR s v (some u) = true) := ⟨by rw [HR.out]; simp [hc]⟩
      go_enter Tryz.func151, Tryz.ntmps151
      go_wp2_with fail
      refine HX.out.mono ?_
      rintro e w1 ⟨rfl, hb1⟩
      replace H2 := Hold.mk (H2.out.next hb1)
      clear hb1 HX
      go_wp2_with fail
      go_ret
      exact ⟨by rw [HR.out]; first | rfl | (simp; done) | (simp; omega), H2.out.bel⟩
    · replace HR : Hold (passR s v (some u) = false) := ⟨by rw [HR.out]; simp; omega⟩
      go_enter Tryz.func151, Tryz.ntmps151
      go_wp2_with fail
      refine HX.out.mono ?_
      rintro e w1 ⟨rfl, hb1⟩
      replace H2 := Hold.mk (H2.out.next hb1)
      clear hb1 HX
      go_wp2_with fail
      go_ret
      exact ⟨by rw [HR.out]; first | rfl | (simp; done) | (simp; omega), H2.out.bel⟩
  have c5 : (s.toList == [36, 103, 101]) = false := isN_no g5
  rw [if_neg (show ¬ isN s sGe = true by rw [isN_no g5]; simp)] at HR0
  clear g5
  go_enter Tryz.func151, Tryz.ntmps151
  go_wp2_with fail
  refine HX.out.mono ?_
  rintro e w1 ⟨rfl, hb1⟩
  replace H2 := Hold.mk (H2.out.next hb1)
  clear hb1 HX
  go_wp2_with fail
  go_loopw [10] (fun i wr => ∃ j : Nat, i = .int .i64 j ∧ j ≤ it.length ∧ NoneTo it (fun y => decide (cmpF 6 u y = 0)) j ∧ Two w wr #[.int .i64 k, .int .i64 n, .string t, .slice na nm.length ncap, .slice ia it.length icap] #[.int .i64 q, .int .i64 m, .string t2, .slice ma nu.length mcap, .slice ja ju.length jcap]) (fun i _ => it.length - (intOf i).toNat)
  case atStart => exact ⟨0, rfl, Nat.zero_le _, fun q x h => by omega, H2.out⟩
  case round =>
    obtain ⟨j, rfl, hj, hno, h2⟩ := hrel
    clear H2
    have HNO := Hold.mk hno
    have H2 := Hold.mk h2
    clear hno h2
    obtain ⟨y0, y1, y2, y3, y4⟩ := cells_five H2.out.one
    by_cases hlt : j < it.length
    · obtain ⟨z, hz⟩ : ∃ x, it[j]? = some x := ⟨it[j], List.getElem?_eq_getElem hlt⟩
      obtain ⟨b, off, k3, n3, t3, nm3, it3, na3, ncap3, ia3, icap3, rfl, hxe, x0, x1, x2, x3, x4, hxj⟩ := HI.out j z hz
      have hcl := cle_below H2.out.bel
      have g0 := Grow.cell (hcl _ _ _ x0)
      have g1 := Grow.cell (hcl _ _ _ x1)
      have g2 := Grow.cell (hcl _ _ _ x2)
      have g3 := Grow.cell (hcl _ _ _ x3)
      have g4 := Grow.cell (hcl _ _ _ x4)
      have g5 := Grow.cell y4
      obtain ⟨v0, v1, v2, v3, v4⟩ := cells_five H2.out.two
      have u0 := Grow.cell v0
      have u1 := Grow.cell v1
      have u2 := Grow.cell v2
      have u3 := Grow.cell v3
      have u4 := Grow.cell v4
      have HC := Hold.mk (Calls.grow (fun e : Grow wr => plain_any 6 u z _ _ e.val HG.out (HFK.out z (List.mem_of_getElem? hz)) ((HK.out.mono hcl).mono (cle_below e.property)) ((hxj.mono hcl).mono (cle_below e.property))))
      have HZ := Hold.mk hz
      clear x0 x1 x2 x3 x4 hcl hz hxe hxj v0 v1 v2 v3 v4
      by_cases hr : cmpF 6 u z = 0
      · rw [hr] at HC
        have HR : Hold (passR s v (some u) = true) := ⟨by rw [HR0.out]; exact any_true HZ.out (by simp [hr])⟩
        clear hr
        go_wp2_with fail
        clear y0 y1 y2 y3 y4
        refine wp_region_grow (by kernel_rfl) (by kernel_rfl) ?_
        repeat (go_big_quiet_step (exact HC.out _))
        refine wpQuiet_nil ?_
        rintro ⟨w3, hb3⟩
        replace H2 := Hold.mk (H2.out.next hb3)
        simp only
        clear hb3 g0 g1 g2 g3 g4 g5 u0 u1 u2 u3 u4 HC
        go_wp2_with fail
        go_ret
        exact ⟨by rw [HR.out]; rfl, H2.out.bel⟩
      · have HNX := Hold.mk (HNO.out.next HZ.out (by simp [hr]))
        have hrb : (cmpF 6 u z == 0) = false := by simpa using hr
        clear hr
        generalize cmpF 6 u z = r at HC hrb
        go_wp2_with fail
        clear y0 y1 y2 y3 y4
        refine wp_region_grow (by kernel_rfl) (by kernel_rfl) ?_
        repeat (go_big_quiet_step (exact HC.out _))
        refine wpQuiet_nil ?_
        rintro ⟨w3, hb3⟩
        replace H2 := Hold.mk (H2.out.next hb3)
        simp only
        clear hb3 g0 g1 g2 g3 g4 g5 u0 u1 u2 u3 u4 HC
        go_wp2_with fail
        exact ⟨⟨j + 1, by go_num, hlt, HNX.out, H2.out⟩, by simp [intOf]; omega⟩
    · have HR : Hold (passR s v (some u) = false) := ⟨by rw [HR0.out]; exact HNO.out.any (by omega)⟩
      go_wp2_with fail
      go_ret
      exact ⟨by rw [HR.out]; rfl, H2.out.bel⟩

end Go.Proofs.YtkhhbckpddkhlaaGreatDoor

namespace Go.Proofs.YtkhhbckpddkhlaaGreatDoor
open Go.RowKit

/-- what Plain of the reference's filters is known to answer, going down d -/
def RHoldsAt (d : Nat) : Prop := ∀ (f doc : JV) (x y : Value) (w : World), formedF d f = true → formedF 6 doc = true → JAt (cf w) f x → JAt (cf w) doc y →
  Calls Tryz.prog 49 #[x, y] w fun e w' => e = .returned (.bool (holdsF passR eqR d f doc)) ∧ Below w.heap.size w w'
def ROneAt (d : Nat) : Prop := ∀ (s : ByteArray) (v doc : JV) (x y : Value) (w : World), s.size ≤ 1000000 → formedF d v = true → formedF 6 doc = true → JAt (cf w) v x → JAt (cf w) doc y →
  Calls Tryz.prog 95 #[.string s, x, y] w fun e w' => e = .returned (.bool (oneFF passR eqR (fun g => holdsF passR eqR d g doc) s v doc)) ∧ Below w.heap.size w w'

set_option maxRecDepth 100000 in
set_option maxHeartbeats 8000000 in
theorem rholds_step (d : Nat) (H : ROneAt d) : RHoldsAt (d + 1) := by
  intro f doc x y w hf hg hx hy
  have HL := Hold.mk (formed_lens hf)
  have HFK := Hold.mk (fun z (hz : z ∈ f.items) => formed_kids hf hz)
  have HNS : Hold (∀ s ∈ f.names, s.size ≤ 1000000) := ⟨fun s hs => by
    obtain ⟨k, n, t, nm, it⟩ := f
    by_cases h5 : k < 5
    · rw [formedF, if_pos h5, Bool.and_eq_true] at hf
      rw [List.length_eq_zero_iff.1 (of_decide_eq_true hf.2).2] at hs; cases hs
    · exact Nat.le_trans (text_size ((formed_body hf h5).2.2.1 s hs)) (by decide)⟩
  obtain ⟨k, n, t, nm, it, na, ncap, ia, icap, rfl, rfl, _, _, _, hst, hit⟩ := hx.open
  obtain ⟨q, m, t2, nu, ju, ma, mcap, ja, jcap, hde, rfl, _⟩ := hy.open
  have H2 := Hold.mk (Two.refl w #[.int .i64 k, .int .i64 n, .string t, .slice na nm.length ncap, .slice ia it.length icap] #[.int .i64 q, .int .i64 m, .string t2, .slice ma nu.length mcap, .slice ja ju.length jcap])
  have HE : Hold (holdsF passR eqR (d + 1) (.mk k n t nm it) doc = (nm.zip it).all (fun p => oneFF passR eqR (fun g => holdsF passR eqR d g doc) p.1 p.2 doc)) := ⟨by rw [holdsF]; rfl⟩
  have HK := Hold.mk hy
  have HG := Hold.mk hg
  have HH := Hold.mk H
  obtain ⟨na', ncap', e, hnlen, hns⟩ := hst
  cases e
  obtain ⟨ia', icap', e, hilen, his⟩ := hit
  cases e
  have HN := Hold.mk hns
  have HI := Hold.mk his
  clear hx hy hf hg H hde hns his
  go_enter Tryz.func49, Tryz.ntmps49
  go_wp2_with fail
  go_loopw [5] (fun i wr => ∃ j : Nat, i = .int .i64 j ∧ j ≤ nm.length ∧ AllTo (nm.zip it) (fun p => oneFF passR eqR (fun g => holdsF passR eqR d g doc) p.1 p.2 doc) j ∧ Two w wr #[.int .i64 k, .int .i64 n, .string t, .slice na nm.length ncap, .slice ia it.length icap] #[.int .i64 q, .int .i64 m, .string t2, .slice ma nu.length mcap, .slice ja ju.length jcap]) (fun i _ => nm.length - (intOf i).toNat)
  case atStart => exact ⟨0, rfl, Nat.zero_le _, fun q x h => by omega, H2.out⟩
  case round =>
    obtain ⟨j, rfl, hj, hall, h2⟩ := hrel
    clear H2
    have HA := Hold.mk hall
    have H2 := Hold.mk h2
    clear hall h2
    obtain ⟨y0, y1, y2, y3, y4⟩ := cells_five H2.out.one
    by_cases hlt : j < nm.length
    · have hlt2 : j < it.length := by have h2 : nm.length ≤ it.length := HL.out.2; omega
      obtain ⟨s, hs⟩ : ∃ s, nm[j]? = some s := ⟨nm[j], List.getElem?_eq_getElem hlt⟩
      obtain ⟨x, hx⟩ : ∃ x, it[j]? = some x := ⟨it[j], List.getElem?_eq_getElem hlt2⟩
      obtain ⟨_, sb, so, rfl, hsc⟩ := HN.out j s hs
      obtain ⟨b, off, k2, n2, t3, nm2, it2, na2, ncap2, ia2, icap2, rfl, hxe, x0, x1, x2, x3, x4, hxj⟩ := HI.out j x hx
      have hcl := cle_below H2.out.bel
      have g6 := Grow.cell (hcl _ _ _ hsc)
      have g7 := Grow.cell y3
      have g0 := Grow.cell (hcl _ _ _ x0)
      have g1 := Grow.cell (hcl _ _ _ x1)
      have g2 := Grow.cell (hcl _ _ _ x2)
      have g3 := Grow.cell (hcl _ _ _ x3)
      have g4 := Grow.cell (hcl _ _ _ x4)
      obtain ⟨v0, v1, v2, v3, v4⟩ := cells_five H2.out.two
      have g5 := Grow.cell y4
      have u0 := Grow.cell v0
      have u1 := Grow.cell v1
      have u2 := Grow.cell v2
      have u3 := Grow.cell v3
      have u4 := Grow.cell v4
      have HC := Hold.mk (Calls.grow (fun e : Grow wr => HH.out s x doc _ _ e.val (HNS.out s (List.mem_of_getElem? hs)) (HFK.out x (List.mem_of_getElem? hx)) HG.out ((hxj.mono hcl).mono (cle_below e.property)) ((HK.out.mono hcl).mono (cle_below e.property))))
      have HZ := Hold.mk (zip_at hs hx)
      clear x0 x1 x2 x3 x4 hcl hx hxe hxj hsc hs v0 v1 v2 v3 v4
      cases hr : oneFF passR eqR (fun g => holdsF passR eqR d g doc) s x doc with
      | false =>
        rw [hr] at HC
        have HR : Hold (holdsF passR eqR (d + 1) (.mk k n t nm it) doc = false) := ⟨by rw [HE.out]; exact all_false HZ.out hr⟩
        clear hr
        go_wp2_with fail
        clear y0 y1 y2 y3 y4
        refine wp_region_grow (by kernel_rfl) (by kernel_rfl) ?_
        repeat (go_big_quiet_step (exact HC.out _))
        refine wpQuiet_nil ?_
        rintro ⟨w5, hb5⟩
        replace H2 := Hold.mk (H2.out.next hb5)
        simp only
        clear hb5 g0 g1 g2 g3 g4 g5 g6 g7 u0 u1 u2 u3 u4 HC
        go_wp2_with fail
        go_ret
        exact ⟨by rw [HR.out]; rfl, H2.out.bel⟩
      | true =>
        rw [hr] at HC
        have HNX := Hold.mk (HA.out.next HZ.out hr)
        clear hr
        go_wp2_with fail
        clear y0 y1 y2 y3 y4
        refine wp_region_grow (by kernel_rfl) (by kernel_rfl) ?_
        repeat (go_big_quiet_step (exact HC.out _))
        refine wpQuiet_nil ?_
        rintro ⟨w5, hb5⟩
        replace H2 := Hold.mk (H2.out.next hb5)
        simp only
        clear hb5 g0 g1 g2 g3 g4 g5 g6 g7 u0 u1 u2 u3 u4 HC
        go_wp2_with fail
        exact ⟨⟨j + 1, by go_num, hlt, HNX.out, H2.out⟩, by simp [intOf]; omega⟩
    · have HR : Hold (holdsF passR eqR (d + 1) (.mk k n t nm it) doc = true) := ⟨by rw [HE.out]; exact HA.out.all (by rw [List.length_zip]; omega)⟩
      go_wp2_with fail
      go_ret
      exact ⟨by rw [HR.out]; rfl, H2.out.bel⟩

set_option maxRecDepth 100000 in
set_option maxHeartbeats 8000000 in
theorem rone_and (d : Nat) (H : RHoldsAt d) (s : ByteArray) (h1 : s.toList = sAnd) (v doc : JV) (x y : Value) (w : World) (hf : formedF d v = true) (hg : formedF 6 doc = true) (hx : JAt (cf w) v x) (hy : JAt (cf w) doc y) :
    Calls Tryz.prog 95 #[.string s, x, y] w fun e w' => e = .returned (.bool (oneFF passR eqR (fun g => holdsF passR eqR d g doc) s v doc)) ∧ Below w.heap.size w w' := by
  have HFK : Hold (∀ z ∈ v.items, formedF d z = true) := ⟨fun z hz => by
    cases d with
    | zero => simp [formedF] at hf
    | succ d => exact formed_mono d z (formed_kids hf hz)⟩
  obtain ⟨k, n, t, nm, it, na, ncap, ia, icap, hve, rfl, _, _, _, _, hit⟩ := hx.open
  obtain ⟨q, m, t2, nu, ju, ma, mcap, ja, jcap, hde, rfl, _⟩ := hy.open
  have H2 := Hold.mk (Two.refl w #[.int .i64 k, .int .i64 n, .string t, .slice na nm.length ncap, .slice ia it.length icap] #[.int .i64 q, .int .i64 m, .string t2, .slice ma nu.length mcap, .slice ja ju.length jcap])
  have HIE : Hold (v.items = it) := ⟨by rw [hve]; rfl⟩
  have HR0 : Hold (oneFF passR eqR (fun g => holdsF passR eqR d g doc) s v doc = it.all fun g => holdsF passR eqR d g doc) := ⟨by rw [on_and h1, HIE.out]⟩
  have HK := Hold.mk hy
  have HG := Hold.mk hg
  have HH := Hold.mk H
  obtain ⟨ia', icap', e, hilen, his⟩ := hit
  cases e
  have HI := Hold.mk his
  have b1 : s.toList = [36, 97, 110, 100] := h1
  clear hx hy hf hg H hve hde his h1
  go_enter Tryz.func95, Tryz.ntmps95
  go_wp2_with fail
  go_loopw [7] (fun i wr => ∃ j : Nat, i = .int .i64 j ∧ j ≤ it.length ∧ AllTo it (fun g => holdsF passR eqR d g doc) j ∧ Two w wr #[.int .i64 k, .int .i64 n, .string t, .slice na nm.length ncap, .slice ia it.length icap] #[.int .i64 q, .int .i64 m, .string t2, .slice ma nu.length mcap, .slice ja ju.length jcap]) (fun i _ => it.length - (intOf i).toNat)
  case atStart => exact ⟨0, rfl, Nat.zero_le _, fun q x h => by omega, H2.out⟩
  case round =>
    obtain ⟨j, rfl, hj, hno, h2⟩ := hrel
    clear H2
    have HNO := Hold.mk hno
    have H2 := Hold.mk h2
    clear hno h2
    obtain ⟨y0, y1, y2, y3, y4⟩ := cells_five H2.out.one
    by_cases hlt : j < it.length
    · obtain ⟨z, hz⟩ : ∃ x, it[j]? = some x := ⟨it[j], List.getElem?_eq_getElem hlt⟩
      obtain ⟨b, off, k3, n3, t3, nm3, it3, na3, ncap3, ia3, icap3, rfl, hxe, x0, x1, x2, x3, x4, hxj⟩ := HI.out j z hz
      have hcl := cle_below H2.out.bel
      have g0 := Grow.cell (hcl _ _ _ x0)
      have g1 := Grow.cell (hcl _ _ _ x1)
      have g2 := Grow.cell (hcl _ _ _ x2)
      have g3 := Grow.cell (hcl _ _ _ x3)
      have g4 := Grow.cell (hcl _ _ _ x4)
      have g5 := Grow.cell y4
      obtain ⟨v0, v1, v2, v3, v4⟩ := cells_five H2.out.two
      have u0 := Grow.cell v0
      have u1 := Grow.cell v1
      have u2 := Grow.cell v2
      have u3 := Grow.cell v3
      have u4 := Grow.cell v4
      have HC := Hold.mk (Calls.grow (fun e : Grow wr => HH.out z doc _ _ e.val (HFK.out z (by rw [HIE.out]; exact List.mem_of_getElem? hz)) HG.out ((hxj.mono hcl).mono (cle_below e.property)) ((HK.out.mono hcl).mono (cle_below e.property))))
      have HZ := Hold.mk hz
      clear x0 x1 x2 x3 x4 hcl hz hxe hxj v0 v1 v2 v3 v4
      cases hr : holdsF passR eqR d z doc with
      | false =>
        rw [hr] at HC
        have HR : Hold (oneFF passR eqR (fun g => holdsF passR eqR d g doc) s v doc = false) := ⟨by rw [HR0.out]; exact all_false HZ.out hr⟩
        clear hr
        go_wp2_with fail
        clear y0 y1 y2 y3 y4
        refine wp_region_grow (by kernel_rfl) (by kernel_rfl) ?_
        repeat (go_big_quiet_step (exact HC.out _))
        refine wpQuiet_nil ?_
        rintro ⟨w5, hb5⟩
        replace H2 := Hold.mk (H2.out.next hb5)
        simp only
        clear hb5 g0 g1 g2 g3 g4 g5 u0 u1 u2 u3 u4 HC
        go_wp2_with fail
        go_ret
        exact ⟨by rw [HR.out]; rfl, H2.out.bel⟩
      | true =>
        rw [hr] at HC
        have HNX := Hold.mk (HNO.out.next HZ.out hr)
        clear hr
        go_wp2_with fail
        clear y0 y1 y2 y3 y4
        refine wp_region_grow (by kernel_rfl) (by kernel_rfl) ?_
        repeat (go_big_quiet_step (exact HC.out _))
        refine wpQuiet_nil ?_
        rintro ⟨w5, hb5⟩
        replace H2 := Hold.mk (H2.out.next hb5)
        simp only
        clear hb5 g0 g1 g2 g3 g4 g5 u0 u1 u2 u3 u4 HC
        go_wp2_with fail
        exact ⟨⟨j + 1, by go_num, hlt, HNX.out, H2.out⟩, by simp [intOf]; omega⟩
    · have HR : Hold (oneFF passR eqR (fun g => holdsF passR eqR d g doc) s v doc = true) := ⟨by rw [HR0.out]; exact HNO.out.all (by omega)⟩
      go_wp2_with fail
      go_ret
      exact ⟨by rw [HR.out]; rfl, H2.out.bel⟩

set_option maxRecDepth 100000 in
set_option maxHeartbeats 8000000 in
theorem rone_or (d : Nat) (H : RHoldsAt d) (s : ByteArray) (h1 : s.toList = sOr) (v doc : JV) (x y : Value) (w : World) (hf : formedF d v = true) (hg : formedF 6 doc = true) (hx : JAt (cf w) v x) (hy : JAt (cf w) doc y) :
    Calls Tryz.prog 95 #[.string s, x, y] w fun e w' => e = .returned (.bool (oneFF passR eqR (fun g => holdsF passR eqR d g doc) s v doc)) ∧ Below w.heap.size w w' := by
  have HFK : Hold (∀ z ∈ v.items, formedF d z = true) := ⟨fun z hz => by
    cases d with
    | zero => simp [formedF] at hf
    | succ d => exact formed_mono d z (formed_kids hf hz)⟩
  obtain ⟨k, n, t, nm, it, na, ncap, ia, icap, hve, rfl, _, _, _, _, hit⟩ := hx.open
  obtain ⟨q, m, t2, nu, ju, ma, mcap, ja, jcap, hde, rfl, _⟩ := hy.open
  have H2 := Hold.mk (Two.refl w #[.int .i64 k, .int .i64 n, .string t, .slice na nm.length ncap, .slice ia it.length icap] #[.int .i64 q, .int .i64 m, .string t2, .slice ma nu.length mcap, .slice ja ju.length jcap])
  have HIE : Hold (v.items = it) := ⟨by rw [hve]; rfl⟩
  have HR0 : Hold (oneFF passR eqR (fun g => holdsF passR eqR d g doc) s v doc = it.any fun g => holdsF passR eqR d g doc) := ⟨by rw [on_or h1, HIE.out]⟩
  have HK := Hold.mk hy
  have HG := Hold.mk hg
  have HH := Hold.mk H
  obtain ⟨ia', icap', e, hilen, his⟩ := hit
  cases e
  have HI := Hold.mk his
  have b1 : (s.toList == [36, 97, 110, 100]) = false := by rw [h1]; rfl
  have b2 : s.toList = [36, 111, 114] := h1
  clear hx hy hf hg H hve hde his h1
  go_enter Tryz.func95, Tryz.ntmps95
  go_wp2_with fail
  go_loopw [8] (fun i wr => ∃ j : Nat, i = .int .i64 j ∧ j ≤ it.length ∧ NoneTo it (fun g => holdsF passR eqR d g doc) j ∧ Two w wr #[.int .i64 k, .int .i64 n, .string t, .slice na nm.length ncap, .slice ia it.length icap] #[.int .i64 q, .int .i64 m, .string t2, .slice ma nu.length mcap, .slice ja ju.length jcap]) (fun i _ => it.length - (intOf i).toNat)
  case atStart => exact ⟨0, rfl, Nat.zero_le _, fun q x h => by omega, H2.out⟩
  case round =>
    obtain ⟨j, rfl, hj, hno, h2⟩ := hrel
    clear H2
    have HNO := Hold.mk hno
    have H2 := Hold.mk h2
    clear hno h2
    obtain ⟨y0, y1, y2, y3, y4⟩ := cells_five H2.out.one
    by_cases hlt : j < it.length
    · obtain ⟨z, hz⟩ : ∃ x, it[j]? = some x := ⟨it[j], List.getElem?_eq_getElem hlt⟩
      obtain ⟨b, off, k3, n3, t3, nm3, it3, na3, ncap3, ia3, icap3, rfl, hxe, x0, x1, x2, x3, x4, hxj⟩ := HI.out j z hz
      have hcl := cle_below H2.out.bel
      have g0 := Grow.cell (hcl _ _ _ x0)
      have g1 := Grow.cell (hcl _ _ _ x1)
      have g2 := Grow.cell (hcl _ _ _ x2)
      have g3 := Grow.cell (hcl _ _ _ x3)
      have g4 := Grow.cell (hcl _ _ _ x4)
      have g5 := Grow.cell y4
      obtain ⟨v0, v1, v2, v3, v4⟩ := cells_five H2.out.two
      have u0 := Grow.cell v0
      have u1 := Grow.cell v1
      have u2 := Grow.cell v2
      have u3 := Grow.cell v3
      have u4 := Grow.cell v4
      have HC := Hold.mk (Calls.grow (fun e : Grow wr => HH.out z doc _ _ e.val (HFK.out z (by rw [HIE.out]; exact List.mem_of_getElem? hz)) HG.out ((hxj.mono hcl).mono (cle_below e.property)) ((HK.out.mono hcl).mono (cle_below e.property))))
      have HZ := Hold.mk hz
      clear x0 x1 x2 x3 x4 hcl hz hxe hxj v0 v1 v2 v3 v4
      cases hr : holdsF passR eqR d z doc with
      | true =>
        rw [hr] at HC
        have HR : Hold (oneFF passR eqR (fun g => holdsF passR eqR d g doc) s v doc = true) := ⟨by rw [HR0.out]; exact any_true HZ.out hr⟩
        clear hr
        go_wp2_with fail
        clear y0 y1 y2 y3 y4
        refine wp_region_grow (by kernel_rfl) (by kernel_rfl) ?_
        repeat (go_big_quiet_step (exact HC.out _))
        refine wpQuiet_nil ?_
        rintro ⟨w5, hb5⟩
        replace H2 := Hold.mk (H2.out.next hb5)
        simp only
        clear hb5 g0 g1 g2 g3 g4 g5 u0 u1 u2 u3 u4 HC
        go_wp2_with fail
        go_ret
        exact ⟨by rw [HR.out]; rfl, H2.out.bel⟩
      | false =>
        rw [hr] at HC
        have HNX := Hold.mk (HNO.out.next HZ.out hr)
        clear hr
        go_wp2_with fail
        clear y0 y1 y2 y3 y4
        refine wp_region_grow (by kernel_rfl) (by kernel_rfl) ?_
        repeat (go_big_quiet_step (exact HC.out _))
        refine wpQuiet_nil ?_
        rintro ⟨w5, hb5⟩
        replace H2 := Hold.mk (H2.out.next hb5)
        simp only
        clear hb5 g0 g1 g2 g3 g4 g5 u0 u1 u2 u3 u4 HC
        go_wp2_with fail
        exact ⟨⟨j + 1, by go_num, hlt, HNX.out, H2.out⟩, by simp [intOf]; omega⟩
    · have HR : Hold (oneFF passR eqR (fun g => holdsF passR eqR d g doc) s v doc = false) := ⟨by rw [HR0.out]; exact HNO.out.any (by omega)⟩
      go_wp2_with fail
      go_ret
      exact ⟨by rw [HR.out]; rfl, H2.out.bel⟩

set_option maxRecDepth 100000 in
set_option maxHeartbeats 8000000 in
theorem rone_not (d : Nat) (H : RHoldsAt d) (s : ByteArray) (h1 : s.toList = sNot) (v doc : JV) (x y : Value) (w : World) (hf : formedF d v = true) (hg : formedF 6 doc = true) (hx : JAt (cf w) v x) (hy : JAt (cf w) doc y) :
    Calls Tryz.prog 95 #[.string s, x, y] w fun e w' => e = .returned (.bool (oneFF passR eqR (fun g => holdsF passR eqR d g doc) s v doc)) ∧ Below w.heap.size w w' := by
  obtain ⟨k, n, t, nm, it, na, ncap, ia, icap, hve, rfl, _⟩ := hx.open
  obtain ⟨q, m, t2, nu, ju, ma, mcap, ja, jcap, hde, rfl, _⟩ := hy.open
  have H2 := Hold.mk (Two.refl w #[.int .i64 k, .int .i64 n, .string t, .slice na nm.length ncap, .slice ia it.length icap] #[.int .i64 q, .int .i64 m, .string t2, .slice ma nu.length mcap, .slice ja ju.length jcap])
  have HR : Hold (oneFF passR eqR (fun g => holdsF passR eqR d g doc) s v doc = !holdsF passR eqR d v doc) := ⟨on_not h1⟩
  have HX := Hold.mk (H v doc _ _ _ hf hg (hx.mono (cle_below H2.out.bel)) (hy.mono (cle_below H2.out.bel)))
  generalize holdsF passR eqR d v doc = r at HX HR
  have b1 : (s.toList == [36, 97, 110, 100]) = false := by rw [h1]; rfl
  have b2 : (s.toList == [36, 111, 114]) = false := by rw [h1]; rfl
  have b3 : s.toList = [36, 110, 111, 116] := h1
  clear hx hy hf hg H hve hde h1
  go_enter Tryz.func95, Tryz.ntmps95
  go_wp2_with fail
  refine HX.out.mono ?_
  rintro e w1 ⟨rfl, hb1⟩
  replace H2 := Hold.mk (H2.out.next hb1)
  clear hb1 HX
  go_wp2_with fail
  go_ret
  exact ⟨by rw [HR.out]; rfl, H2.out.bel⟩

set_option maxRecDepth 100000 in
set_option maxHeartbeats 8000000 in
theorem rone_none (d : Nat) (s : ByteArray) (hsz : s.size ≤ 1000000) (h1 : ¬ s.toList = sAnd) (h2 : ¬ s.toList = sOr) (h3 : ¬ s.toList = sNot) (v doc : JV) (hu : getJ doc s = none) (x y : Value) (w : World) (hf : formedF d v = true) (hx : JAt (cf w) v x) (hy : JAt (cf w) doc y) :
    Calls Tryz.prog 95 #[.string s, x, y] w fun e w' => e = .returned (.bool (oneFF passR eqR (fun g => holdsF passR eqR d g doc) s v doc)) ∧ Below w.heap.size w w' := by
  have HI1 := Hold.mk h1
  have HI2 := Hold.mk h2
  have HI3 := Hold.mk h3
  have b1 : (s.toList == [36, 97, 110, 100]) = false := isN_no h1
  have b2 : (s.toList == [36, 111, 114]) = false := isN_no h2
  have b3 : (s.toList == [36, 110, 111, 116]) = false := isN_no h3
  have HLEN := Hold.mk (formed_lens hf).2
  obtain ⟨k, n, t, nm, it, na, ncap, ia, icap, rfl, rfl, _, _, _, hst, hit⟩ := hx.open
  obtain ⟨q, m, t2, nu, ju, ma, mcap, ja, jcap, hde, rfl, _⟩ := hy.open
  have H2 := Hold.mk (Two.refl w #[.int .i64 k, .int .i64 n, .string t, .slice na nm.length ncap, .slice ia it.length icap] #[.int .i64 q, .int .i64 m, .string t2, .slice ma nu.length mcap, .slice ja ju.length jcap])
  have HST := Hold.mk hst
  have HIT := Hold.mk hit
  have HJ := Hold.mk hx
  have HU := Hold.mk hu
  have HGET := Hold.mk (rGet_any doc _ s _ (hy.mono (cle_below H2.out.bel)) hsz)
  clear hx hy hf hde hst hit hu h1 h2 h3
  go_enter Tryz.func95, Tryz.ntmps95
  go_wp2_with fail
  refine HGET.out.mono ?_
  rintro e w2 ⟨hget, hb2⟩
  replace H2 := Hold.mk (H2.out.next hb2)
  rw [HU.out] at hget
  simp only at hget
  subst hget
  clear hb2 HGET
  obtain ⟨y0, y1, y2, y3, y4⟩ := cells_five H2.out.one
  have hl2 := heap_lt H2.out.one
  have HB3 := Hold.mk ((Below.refl _ w2).alloc (Nat.le_refl _) (.cells #[.int .i64 0, .int .i64 0, .string ⟨#[]⟩, .slice none 0 0, .slice none 0 0] 25))
  have HXB : Hold ((w2.alloc (.cells #[.int .i64 0, .int .i64 0, .string ⟨#[]⟩, .slice none 0 0, .slice none 0 0] 25)).heap[w2.heap.size]? = some (.cells #[.int .i64 0, .int .i64 0, .string ⟨#[]⟩, .slice none 0 0, .slice none 0 0] 25 (0, 0))) := ⟨heap_alloc_new w2 _⟩
  have HX := Hold.mk (rTests_any (.mk k n t nm it) _ (w2.alloc (.cells #[.int .i64 0, .int .i64 0, .string ⟨#[]⟩, .slice none 0 0, .slice none 0 0] 25)) (HJ.out.mono ((cle_below H2.out.bel).trans (cle_below HB3.out))))
  replace H2 := Hold.mk (H2.out.next HB3.out)
  clear HB3
  cases htt : testsF (.mk k n t nm it) with
  | false =>
    rw [htt] at HX
    have HR := Hold.mk (on_none (pass := passR) (eq := eqR) (h := fun g => holdsF passR eqR d g doc) HI1.out HI2.out HI3.out htt HU.out)
    clear htt
    go_wp2_with fail
    refine HX.out.mono ?_
    rintro e w4 ⟨rfl, hb4⟩
    replace H2 := Hold.mk (H2.out.next hb4)
    replace HXB := Hold.mk (kept HXB.out hb4)
    clear hb4 HX y0 y1 y2 y3 y4
    go_wp2_with fail
    go_ret
    exact ⟨by rw [HR.out]; rfl, H2.out.bel⟩
  | true =>
    rw [htt] at HX
    have HC0 := Hold.mk (on_tests (pass := passR) (eq := eqR) (h := fun g => holdsF passR eqR d g doc) (doc := doc) HI1.out HI2.out HI3.out htt)
    rw [HU.out] at HC0
    clear htt
    obtain ⟨na', ncap', e, hnlen, hns⟩ := HST.out
    cases e
    obtain ⟨ia', icap', e, hilen, his⟩ := HIT.out
    cases e
    have HN := Hold.mk hns
    have HI := Hold.mk his
    clear hns his HST HIT
    go_wp2_with fail
    refine HX.out.mono ?_
    rintro e w4 ⟨rfl, hb4⟩
    replace H2 := Hold.mk (H2.out.next hb4)
    replace HXB := Hold.mk (kept HXB.out hb4)
    clear hb4 HX y0 y1 y2 y3 y4
    go_wp2_with fail
    go_loopw [11] (fun i wr => ∃ j : Nat, i = .int .i64 j ∧ j ≤ nm.length ∧ AllTo (nm.zip it) (fun p => passR p.1 p.2 (none)) j ∧ Two w wr #[.int .i64 k, .int .i64 n, .string t, .slice na nm.length ncap, .slice ia it.length icap] #[.int .i64 q, .int .i64 m, .string t2, .slice ma nu.length mcap, .slice ja ju.length jcap] ∧ wr.heap[w2.heap.size]? = some (.cells #[.int .i64 0, .int .i64 0, .string ⟨#[]⟩, .slice none 0 0, .slice none 0 0] 25 (0, 0))) (fun i _ => nm.length - (intOf i).toNat)
    case atStart => exact ⟨0, rfl, Nat.zero_le _, fun q x h => by omega, H2.out, HXB.out⟩
    case round =>
      obtain ⟨j, rfl, hj, hall, h2, hxb⟩ := hrel
      clear H2 HXB
      have HA := Hold.mk hall
      have H2 := Hold.mk h2
      have HXB := Hold.mk hxb
      clear hall h2 hxb
      obtain ⟨y0, y1, y2, y3, y4⟩ := cells_five H2.out.one
      by_cases hlt : j < nm.length
      · have hlt2 : j < it.length := by have h2 : nm.length ≤ it.length := HLEN.out; omega
        obtain ⟨s2, hs2⟩ : ∃ s, nm[j]? = some s := ⟨nm[j], List.getElem?_eq_getElem hlt⟩
        obtain ⟨x2, hx2⟩ : ∃ x, it[j]? = some x := ⟨it[j], List.getElem?_eq_getElem hlt2⟩
        obtain ⟨_, sb, so, rfl, hsc⟩ := HN.out j s2 hs2
        obtain ⟨b, off, k3, n3, t3, nm3, it3, na3, ncap3, ia3, icap3, rfl, hxe, x0, x1, x2c, x3, x4, hxj⟩ := HI.out j x2 hx2
        have hcl := cle_below H2.out.bel
        have g6 := Grow.cell (hcl _ _ _ hsc)
        have g7 := Grow.cell y3
        have g0 := Grow.cell (hcl _ _ _ x0)
        have g1 := Grow.cell (hcl _ _ _ x1)
        have g2 := Grow.cell (hcl _ _ _ x2c)
        have g3 := Grow.cell (hcl _ _ _ x3)
        have g4 := Grow.cell (hcl _ _ _ x4)
        obtain ⟨v0, v1, v2, v3, v4⟩ := cells_five HXB.out
        have g5 := Grow.cell y4
        have u0 := Grow.cell v0
        have u1 := Grow.cell v1
        have u2 := Grow.cell v2
        have u3 := Grow.cell v3
        have u4 := Grow.cell v4
        have HC := Hold.mk (Calls.grow (fun e : Grow wr => rpasses_none s2 x2 _ (.int .i64 0) (.int .i64 0) (.string ⟨#[]⟩) (.slice none 0 0) (.slice none 0 0) e.val ((hxj.mono hcl).mono (cle_below e.property))))
        have HZ := Hold.mk (zip_at hs2 hx2)
        clear x0 x1 x2c x3 x4 hcl hx2 hxe hxj hsc hs2 v0 v1 v2 v3 v4
        cases hr : passR s2 x2 (none) with
        | false =>
          rw [hr] at HC
          have HR : Hold (oneFF passR eqR (fun g => holdsF passR eqR d g doc) s (.mk k n t nm it) doc = false) := ⟨by rw [HC0.out]; exact all_false (l := nm.zip it) HZ.out hr⟩
          clear hr
          go_wp2_with fail
          clear y0 y1 y2 y3 y4
          refine wp_region_grow (by kernel_rfl) (by kernel_rfl) ?_
          repeat (go_big_quiet_step (exact HC.out _))
          refine wpQuiet_nil ?_
          rintro ⟨w5, hb5⟩
          replace H2 := Hold.mk (H2.out.next hb5)
          simp only
          clear hb5 g0 g1 g2 g3 g4 g5 g6 g7 u0 u1 u2 u3 u4 HC
          go_wp2_with fail
          go_ret
          exact ⟨by rw [HR.out]; rfl, H2.out.bel⟩
        | true =>
          rw [hr] at HC
          have HNX := Hold.mk (HA.out.next HZ.out hr)
          clear hr
          go_wp2_with fail
          clear y0 y1 y2 y3 y4
          refine wp_region_grow (by kernel_rfl) (by kernel_rfl) ?_
          repeat (go_big_quiet_step (exact HC.out _))
          refine wpQuiet_nil ?_
          rintro ⟨w5, hb5⟩
          replace H2 := Hold.mk (H2.out.next hb5)
          replace HXB := Hold.mk (kept HXB.out hb5)
          simp only
          clear hb5 g0 g1 g2 g3 g4 g5 g6 g7 u0 u1 u2 u3 u4 HC
          go_wp2_with fail
          exact ⟨⟨j + 1, by go_num, hlt, HNX.out, H2.out, HXB.out⟩, by simp [intOf]; omega⟩
      · have HR : Hold (oneFF passR eqR (fun g => holdsF passR eqR d g doc) s (.mk k n t nm it) doc = true) := ⟨by rw [HC0.out]; exact HA.out.all (l := nm.zip it) (by rw [List.length_zip]; omega)⟩
        go_wp2_with fail
        go_ret
        exact ⟨by rw [HR.out]; rfl, H2.out.bel⟩

set_option maxRecDepth 100000 in
set_option maxHeartbeats 8000000 in
theorem rone_some (d : Nat) (hd6 : d ≤ 6) (s : ByteArray) (hsz : s.size ≤ 1000000) (h1 : ¬ s.toList = sAnd) (h2 : ¬ s.toList = sOr) (h3 : ¬ s.toList = sNot) (v doc : JV) (u : JV) (hu : getJ doc s = some u) (x y : Value) (w : World) (hf : formedF d v = true) (hx : JAt (cf w) v x) (hy : JAt (cf w) doc y) :
    Calls Tryz.prog 95 #[.string s, x, y] w fun e w' => e = .returned (.bool (oneFF passR eqR (fun g => holdsF passR eqR d g doc) s v doc)) ∧ Below w.heap.size w w' := by
  have HI1 := Hold.mk h1
  have HI2 := Hold.mk h2
  have HI3 := Hold.mk h3
  have b1 : (s.toList == [36, 97, 110, 100]) = false := isN_no h1
  have b2 : (s.toList == [36, 111, 114]) = false := isN_no h2
  have b3 : (s.toList == [36, 110, 111, 116]) = false := isN_no h3
  have HF6 := Hold.mk (formed_up hf hd6)
  have HFK : Hold (∀ z ∈ v.items, formedF 6 z = true) := ⟨fun z hz => by
    cases d with
    | zero => simp [formedF] at hf
    | succ d => exact formed_up (formed_kids hf hz) (by omega)⟩
  have HLEN := Hold.mk (formed_lens hf).2
  obtain ⟨k, n, t, nm, it, na, ncap, ia, icap, rfl, rfl, _, _, _, hst, hit⟩ := hx.open
  obtain ⟨q, m, t2, nu, ju, ma, mcap, ja, jcap, hde, rfl, _⟩ := hy.open
  have H2 := Hold.mk (Two.refl w #[.int .i64 k, .int .i64 n, .string t, .slice na nm.length ncap, .slice ia it.length icap] #[.int .i64 q, .int .i64 m, .string t2, .slice ma nu.length mcap, .slice ja ju.length jcap])
  have HST := Hold.mk hst
  have HIT := Hold.mk hit
  have HJ := Hold.mk hx
  have HU := Hold.mk hu
  have HGET := Hold.mk (rGet_any doc _ s _ (hy.mono (cle_below H2.out.bel)) hsz)
  clear hx hy hf hde hst hit hu h1 h2 h3
  go_enter Tryz.func95, Tryz.ntmps95
  go_wp2_with fail
  refine HGET.out.mono ?_
  rintro e w2 ⟨hget, hb2⟩
  replace H2 := Hold.mk (H2.out.next hb2)
  rw [HU.out] at hget
  simp only at hget
  obtain ⟨xv, rfl, hxv⟩ := hget
  have hxv2 := hxv.mono (cfU_keep hb2)
  obtain ⟨k9, n9, t9, nm9, it9, na9, ncap9, ia9, icap9, hue, rfl, _⟩ := hxv2.open
  have HXV := Hold.mk hxv2
  have HFU := Hold.mk (get_formed HU.out)
  clear hxv hxv2 hue
  clear hb2 HGET
  obtain ⟨y0, y1, y2, y3, y4⟩ := cells_five H2.out.one
  have hl2 := heap_lt H2.out.one
  have HB3 := Hold.mk ((Below.refl _ w2).alloc (Nat.le_refl _) (.cells #[.int .i64 k9, .int .i64 n9, .string t9, .slice na9 nm9.length ncap9, .slice ia9 it9.length icap9] 25))
  have HXB : Hold ((w2.alloc (.cells #[.int .i64 k9, .int .i64 n9, .string t9, .slice na9 nm9.length ncap9, .slice ia9 it9.length icap9] 25)).heap[w2.heap.size]? = some (.cells #[.int .i64 k9, .int .i64 n9, .string t9, .slice na9 nm9.length ncap9, .slice ia9 it9.length icap9] 25 (0, 0))) := ⟨heap_alloc_new w2 _⟩
  have HX := Hold.mk (rTests_any (.mk k n t nm it) _ (w2.alloc (.cells #[.int .i64 k9, .int .i64 n9, .string t9, .slice na9 nm9.length ncap9, .slice ia9 it9.length icap9] 25)) (HJ.out.mono ((cle_below H2.out.bel).trans (cle_below HB3.out))))
  replace H2 := Hold.mk (H2.out.next HB3.out)
  replace HXV := Hold.mk (HXV.out.mono (cle_below HB3.out))
  clear HB3
  cases htt : testsF (.mk k n t nm it) with
  | false =>
    rw [htt] at HX
    have HR := Hold.mk (on_some (pass := passR) (eq := eqR) (h := fun g => holdsF passR eqR d g doc) HI1.out HI2.out HI3.out htt HU.out)
    clear htt
    go_wp2_with fail
    refine HX.out.mono ?_
    rintro e w4 ⟨rfl, hb4⟩
    replace H2 := Hold.mk (H2.out.next hb4)
    replace HXB := Hold.mk (kept HXB.out hb4)
    replace HXV := Hold.mk (HXV.out.mono (cle_below hb4))
    clear hb4 HX y0 y1 y2 y3 y4
    obtain ⟨y0, y1, y2, y3, y4⟩ := cells_five H2.out.one
    obtain ⟨z0, z1, z2, z3, z4⟩ := cells_five HXB.out
    go_wp2_with fail
    refine (plain_any 6 u (.mk k n t nm it) _ _ _ HFU.out HF6.out HXV.out (HJ.out.mono (cle_below H2.out.bel))).mono ?_
    rintro e w5 ⟨rfl, hb5⟩
    replace H2 := Hold.mk (H2.out.next hb5)
    clear hb5 y0 y1 y2 y3 y4 z0 z1 z2 z3 z4
    rw [show eqR u (.mk k n t nm it) = decide (cmpF 6 u (.mk k n t nm it) = 0) from rfl] at HR
    generalize cmpF 6 u (.mk k n t nm it) = c at HR ⊢
    by_cases hc : c = 0
    · subst hc
      go_wp2_with fail
      go_ret
      exact ⟨by rw [HR.out]; rfl, H2.out.bel⟩
    · have hcb : (c == 0) = false := by simpa using hc
      rw [decide_eq_false hc] at HR
      clear hc
      go_wp2_with fail
      go_ret
      exact ⟨by rw [HR.out]; rfl, H2.out.bel⟩
  | true =>
    rw [htt] at HX
    have HC0 := Hold.mk (on_tests (pass := passR) (eq := eqR) (h := fun g => holdsF passR eqR d g doc) (doc := doc) HI1.out HI2.out HI3.out htt)
    rw [HU.out] at HC0
    clear htt
    obtain ⟨na', ncap', e, hnlen, hns⟩ := HST.out
    cases e
    obtain ⟨ia', icap', e, hilen, his⟩ := HIT.out
    cases e
    have HN := Hold.mk hns
    have HI := Hold.mk his
    clear hns his HST HIT
    go_wp2_with fail
    refine HX.out.mono ?_
    rintro e w4 ⟨rfl, hb4⟩
    replace H2 := Hold.mk (H2.out.next hb4)
    replace HXB := Hold.mk (kept HXB.out hb4)
    replace HXV := Hold.mk (HXV.out.mono (cle_below hb4))
    clear hb4 HX y0 y1 y2 y3 y4
    go_wp2_with fail
    go_loopw [11] (fun i wr => ∃ j : Nat, i = .int .i64 j ∧ j ≤ nm.length ∧ AllTo (nm.zip it) (fun p => passR p.1 p.2 (some u)) j ∧ Two w wr #[.int .i64 k, .int .i64 n, .string t, .slice na nm.length ncap, .slice ia it.length icap] #[.int .i64 q, .int .i64 m, .string t2, .slice ma nu.length mcap, .slice ja ju.length jcap] ∧ wr.heap[w2.heap.size]? = some (.cells #[.int .i64 k9, .int .i64 n9, .string t9, .slice na9 nm9.length ncap9, .slice ia9 it9.length icap9] 25 (0, 0)) ∧ JAt (cf wr) u (.agg #[.int .i64 k9, .int .i64 n9, .string t9, .slice na9 nm9.length ncap9, .slice ia9 it9.length icap9])) (fun i _ => nm.length - (intOf i).toNat)
    case atStart => exact ⟨0, rfl, Nat.zero_le _, fun q x h => by omega, H2.out, HXB.out, HXV.out⟩
    case round =>
      obtain ⟨j, rfl, hj, hall, h2, hxb, hxv⟩ := hrel
      clear H2 HXB HXV
      have HA := Hold.mk hall
      have H2 := Hold.mk h2
      have HXB := Hold.mk hxb
      have HXV := Hold.mk hxv
      clear hxv
      clear hall h2 hxb
      obtain ⟨y0, y1, y2, y3, y4⟩ := cells_five H2.out.one
      by_cases hlt : j < nm.length
      · have hlt2 : j < it.length := by have h2 : nm.length ≤ it.length := HLEN.out; omega
        obtain ⟨s2, hs2⟩ : ∃ s, nm[j]? = some s := ⟨nm[j], List.getElem?_eq_getElem hlt⟩
        obtain ⟨x2, hx2⟩ : ∃ x, it[j]? = some x := ⟨it[j], List.getElem?_eq_getElem hlt2⟩
        obtain ⟨_, sb, so, rfl, hsc⟩ := HN.out j s2 hs2
        obtain ⟨b, off, k3, n3, t3, nm3, it3, na3, ncap3, ia3, icap3, rfl, hxe, x0, x1, x2c, x3, x4, hxj⟩ := HI.out j x2 hx2
        have hcl := cle_below H2.out.bel
        have g6 := Grow.cell (hcl _ _ _ hsc)
        have g7 := Grow.cell y3
        have g0 := Grow.cell (hcl _ _ _ x0)
        have g1 := Grow.cell (hcl _ _ _ x1)
        have g2 := Grow.cell (hcl _ _ _ x2c)
        have g3 := Grow.cell (hcl _ _ _ x3)
        have g4 := Grow.cell (hcl _ _ _ x4)
        obtain ⟨v0, v1, v2, v3, v4⟩ := cells_five HXB.out
        have g5 := Grow.cell y4
        have u0 := Grow.cell v0
        have u1 := Grow.cell v1
        have u2 := Grow.cell v2
        have u3 := Grow.cell v3
        have u4 := Grow.cell v4
        have HC := Hold.mk (Calls.grow (fun e : Grow wr => rpasses_some s2 x2 u _ _ e.val ((hxj.mono hcl).mono (cle_below e.property)) (HXV.out.mono (cle_below e.property)) (HFK.out x2 (List.mem_of_getElem? hx2)) HFU.out))
        have HZ := Hold.mk (zip_at hs2 hx2)
        clear x0 x1 x2c x3 x4 hcl hx2 hxe hxj hsc hs2 v0 v1 v2 v3 v4
        cases hr : passR s2 x2 (some u) with
        | false =>
          rw [hr] at HC
          have HR : Hold (oneFF passR eqR (fun g => holdsF passR eqR d g doc) s (.mk k n t nm it) doc = false) := ⟨by rw [HC0.out]; exact all_false (l := nm.zip it) HZ.out hr⟩
          clear hr
          go_wp2_with fail
          clear y0 y1 y2 y3 y4
          refine wp_region_grow (by kernel_rfl) (by kernel_rfl) ?_
          repeat (go_big_quiet_step (exact HC.out _))
          refine wpQuiet_nil ?_
          rintro ⟨w5, hb5⟩
          replace H2 := Hold.mk (H2.out.next hb5)
          simp only
          clear hb5 g0 g1 g2 g3 g4 g5 g6 g7 u0 u1 u2 u3 u4 HC
          go_wp2_with fail
          go_ret
          exact ⟨by rw [HR.out]; rfl, H2.out.bel⟩
        | true =>
          rw [hr] at HC
          have HNX := Hold.mk (HA.out.next HZ.out hr)
          clear hr
          go_wp2_with fail
          clear y0 y1 y2 y3 y4
          refine wp_region_grow (by kernel_rfl) (by kernel_rfl) ?_
          repeat (go_big_quiet_step (exact HC.out _))
          refine wpQuiet_nil ?_
          rintro ⟨w5, hb5⟩
          replace H2 := Hold.mk (H2.out.next hb5)
          replace HXB := Hold.mk (kept HXB.out hb5)
          simp only
          replace HXV := Hold.mk (HXV.out.mono (cle_below hb5))
          clear hb5 g0 g1 g2 g3 g4 g5 g6 g7 u0 u1 u2 u3 u4 HC
          go_wp2_with fail
          exact ⟨⟨j + 1, by go_num, hlt, HNX.out, H2.out, HXB.out, HXV.out⟩, by simp [intOf]; omega⟩
      · have HR : Hold (oneFF passR eqR (fun g => holdsF passR eqR d g doc) s (.mk k n t nm it) doc = true) := ⟨by rw [HC0.out]; exact HA.out.all (l := nm.zip it) (by rw [List.length_zip]; omega)⟩
        go_wp2_with fail
        go_ret
        exact ⟨by rw [HR.out]; rfl, H2.out.bel⟩

theorem rone_any (d : Nat) (hd : d ≤ 6) (H : RHoldsAt d) : ROneAt d := by
  intro s v doc x y w hs hf hg hx hy
  by_cases h1 : s.toList = sAnd
  · exact rone_and d H s h1 v doc x y w hf hg hx hy
  by_cases h2 : s.toList = sOr
  · exact rone_or d H s h2 v doc x y w hf hg hx hy
  by_cases h3 : s.toList = sNot
  · exact rone_not d H s h3 v doc x y w hf hg hx hy
  cases hu : getJ doc s with
  | none => exact rone_none d s hs h1 h2 h3 v doc hu x y w hf hx hy
  | some u => exact rone_some d hd s hs h1 h2 h3 v doc u hu x y w hf hx hy
theorem rholds_any : ∀ d, d ≤ 6 → RHoldsAt d
  | 0, _ => fun f doc x y w hf => by simp [formedF] at hf
  | d + 1, hd => rholds_step d (rone_any d (by omega) (rholds_any d (by omega)))

end Go.Proofs.YtkhhbckpddkhlaaGreatDoor
