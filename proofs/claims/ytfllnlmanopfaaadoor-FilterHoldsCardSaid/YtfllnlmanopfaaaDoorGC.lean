/- Filters: passes of the reference. -/
import Derived.Test.YtfllnlmanopfaaaDoorGB
import Derived.Test.YtfllnlmanopfaaaDoorFF
namespace Go.Proofs.YtfllnlmanopfaaaDoor
open Go.RowKit

set_option maxRecDepth 100000 in
set_option maxHeartbeats 8000000 in
theorem rpasses_none (s : ByteArray) (v : JV) (x : Value) (c0 c1 c2 c3 c4 : Value) (w : World) (hx : JAt (cf w) v x) :
    Calls Tryd.prog 119 #[.string s, x, .agg #[c0, c1, c2, c3, c4], .bool false] w fun e w' => e = .returned (.bool (passR s v none)) ∧ Below w.heap.size w w' := by
  obtain ⟨k, n, t, nm, it, na, ncap, ia, icap, rfl, rfl, _⟩ := hx.open
  have H2 := Hold.mk (Two.refl w #[.int .i64 k, .int .i64 n, .string t, .slice na nm.length ncap, .slice ia it.length icap] #[c0, c1, c2, c3, c4])
  clear hx
  by_cases h1 : s.toList = [36, 104, 97, 115]
  · have HR0 : Hold (passR s (.mk k n t nm it) none = decide (k = 1)) := ⟨by unfold passR; rw [if_pos (isN_yes h1)]; rfl⟩
    by_cases hk : k = 1
    · have HR : Hold (passR s (.mk k n t nm it) none = true) := ⟨by rw [HR0.out, hk]; rfl⟩
      subst hk
      go_enter Tryd.func119, Tryd.ntmps119
      go_wp2_with fail
      go_ret
      exact ⟨by rw [HR.out]; rfl, H2.out.bel⟩
    · have HR : Hold (passR s (.mk k n t nm it) none = false) := ⟨by rw [HR0.out]; simp [hk]⟩
      have bk : (k == 1) = false := by simpa using hk
      clear hk
      go_enter Tryd.func119, Tryd.ntmps119
      go_wp2_with fail
      go_ret
      exact ⟨by rw [HR.out]; rfl, H2.out.bel⟩
  have b1 : (s.toList == [36, 104, 97, 115]) = false := isN_no h1
  have HR : Hold (passR s (.mk k n t nm it) none = (s.toList == [36, 110, 101])) := ⟨by unfold passR; rw [if_neg (by rw [isN_no h1]; simp)]; rfl⟩
  clear h1
  generalize hr : (s.toList == [36, 110, 101]) = r at HR
  go_enter Tryd.func119, Tryd.ntmps119
  go_wp2_with fail
  go_ret
  exact ⟨by rw [HR.out]; rfl, H2.out.bel⟩

set_option maxRecDepth 100000 in
set_option maxHeartbeats 16000000 in
theorem rpasses_some (s : ByteArray) (v u : JV) (x y : Value) (w : World) (hx : JAt (cf w) v x) (hy : JAt (cf w) u y) (hf : formedF 6 v = true) (hg : formedF 6 u = true) :
    Calls Tryd.prog 119 #[.string s, x, y, .bool true] w fun e w' => e = .returned (.bool (passR s v (some u))) ∧ Below w.heap.size w w' := by
  obtain ⟨k, n, t, nm, it, na, ncap, ia, icap, hve, rfl, _, _, _, _, hit⟩ := hx.open
  obtain ⟨q, m, t2, nu, ju, ma, mcap, ja, jcap, hue, rfl, _⟩ := hy.open
  have H2 := Hold.mk (Two.refl w #[.int .i64 k, .int .i64 n, .string t, .slice na nm.length ncap, .slice ia it.length icap] #[.int .i64 q, .int .i64 m, .string t2, .slice ma nu.length mcap, .slice ja ju.length jcap])
  have HJ := Hold.mk hx
  have HK := Hold.mk hy
  have HF := Hold.mk hf
  have HG := Hold.mk hg
  have hki : v.kind = k ∧ v.items = it := by rw [hve]; exact ⟨rfl, rfl⟩
  have HKI := Hold.mk hki
  have HFK : Hold (∀ z ∈ it, formedF 6 z = true) := ⟨fun z hz => formed_mono 5 z (formed_kids hf (by rw [hki.2]; exact hz))⟩
  obtain ⟨ia', icap', e, hilen, his⟩ := hit
  cases e
  have HI := Hold.mk his
  clear hx hy hf hg hve hue hki his
  by_cases h1 : s.toList = [36, 104, 97, 115]
  · have HR0 : Hold (passR s v (some u) = decide (k = 2)) := ⟨by unfold passR; rw [if_pos (isN_yes h1), HKI.out.1]; simp⟩
    by_cases hk : k = 2
    · have HR : Hold (passR s v (some u) = true) := ⟨by rw [HR0.out, hk]; rfl⟩
      subst hk
      go_enter Tryd.func119, Tryd.ntmps119
      go_wp2_with fail
      go_ret
      exact ⟨by rw [HR.out]; rfl, H2.out.bel⟩
    · have HR : Hold (passR s v (some u) = false) := ⟨by rw [HR0.out]; simp [hk]⟩
      have bk : (k == 2) = false := by simpa using hk
      clear hk
      go_enter Tryd.func119, Tryd.ntmps119
      go_wp2_with fail
      go_ret
      exact ⟨by rw [HR.out]; rfl, H2.out.bel⟩
  have b1 : (s.toList == [36, 104, 97, 115]) = false := isN_no h1
  have HR0 : Hold (passR s v (some u) = byName s (cmpF 6 u v) (if isN s sGe then decide (0 ≤ cmpF 6 u v) else it.any fun y => decide (cmpF 6 u y = 0))) := ⟨by unfold passR; rw [if_neg (by rw [isN_no h1]; simp)]; simp only; rw [HKI.out.2]⟩
  clear h1 HKI
  have HX := Hold.mk (plain_any 6 u v _ _ _ HG.out HF.out (HK.out.mono (cle_below H2.out.bel)) (HJ.out.mono (cle_below H2.out.bel)))
  generalize cmpF 6 u v = c at HX HR0
  unfold byName at HR0
  by_cases g0 : s.toList = [36, 101, 113]
  · have HR : Hold (passR s v (some u) = decide (c = 0)) := ⟨by rw [HR0.out, if_pos (isN_yes g0)]⟩
    clear HR0
    by_cases hc : c = 0
    · subst hc
      go_enter Tryd.func119, Tryd.ntmps119
      go_wp2_with fail
      refine HX.out.mono ?_
      rintro e w1 ⟨rfl, hb1⟩
      replace H2 := Hold.mk (H2.out.next hb1)
      clear hb1 HX
      go_wp2_with fail
      go_ret
      exact ⟨by rw [HR.out]; first | rfl | (simp; done) | (simp; omega), H2.out.bel⟩
    · have hcb : (c == 0) = false := by simpa using hc
      have hcn : (c != 0) = true := by simpa using hc
      replace HR : Hold (passR s v (some u) = false) := ⟨by rw [HR.out]; simp [hc]⟩
      clear hc
      go_enter Tryd.func119, Tryd.ntmps119
      go_wp2_with fail
      refine HX.out.mono ?_
      rintro e w1 ⟨rfl, hb1⟩
      replace H2 := Hold.mk (H2.out.next hb1)
      clear hb1 HX
      go_wp2_with fail
      go_ret
      exact ⟨by rw [HR.out]; first | rfl | (simp; done) | (simp; omega), H2.out.bel⟩
  have c0 : (s.toList == [36, 101, 113]) = false := isN_no g0
  rw [if_neg (show ¬ isN s sEq = true by rw [isN_no g0]; simp)] at HR0
  clear g0
  by_cases g1 : s.toList = [36, 110, 101]
  · have HR : Hold (passR s v (some u) = decide (c ≠ 0)) := ⟨by rw [HR0.out, if_pos (isN_yes g1)]⟩
    clear HR0
    by_cases hc : c = 0
    · subst hc
      go_enter Tryd.func119, Tryd.ntmps119
      go_wp2_with fail
      refine HX.out.mono ?_
      rintro e w1 ⟨rfl, hb1⟩
      replace H2 := Hold.mk (H2.out.next hb1)
      clear hb1 HX
      go_wp2_with fail
      go_ret
      exact ⟨by rw [HR.out]; first | rfl | (simp; done) | (simp; omega), H2.out.bel⟩
    · have hcb : (c == 0) = false := by simpa using hc
      have hcn : (c != 0) = true := by simpa using hc
      replace HR : Hold (passR s v (some u) = true) := ⟨by rw [HR.out]; simp [hc]⟩
      clear hc
      go_enter Tryd.func119, Tryd.ntmps119
      go_wp2_with fail
      refine HX.out.mono ?_
      rintro e w1 ⟨rfl, hb1⟩
      replace H2 := Hold.mk (H2.out.next hb1)
      clear hb1 HX
      go_wp2_with fail
      go_ret
      exact ⟨by rw [HR.out]; first | rfl | (simp; done) | (simp; omega), H2.out.bel⟩
  have c1 : (s.toList == [36, 110, 101]) = false := isN_no g1
  rw [if_neg (show ¬ isN s sNe = true by rw [isN_no g1]; simp)] at HR0
  clear g1
  by_cases g2 : s.toList = [36, 108, 116]
  · have HR : Hold (passR s v (some u) = decide (c < 0)) := ⟨by rw [HR0.out, if_pos (isN_yes g2)]⟩
    clear HR0
    by_cases hc : c < 0
    · replace HR : Hold (passR s v (some u) = true) := ⟨by rw [HR.out]; simp [hc]⟩
      go_enter Tryd.func119, Tryd.ntmps119
      go_wp2_with fail
      refine HX.out.mono ?_
      rintro e w1 ⟨rfl, hb1⟩
      replace H2 := Hold.mk (H2.out.next hb1)
      clear hb1 HX
      go_wp2_with fail
      go_ret
      exact ⟨by rw [HR.out]; first | rfl | (simp; done) | (simp; omega), H2.out.bel⟩
    · replace HR : Hold (passR s v (some u) = false) := ⟨by rw [HR.out]; simp; omega⟩
      go_enter Tryd.func119, Tryd.ntmps119
      go_wp2_with fail
      refine HX.out.mono ?_
      rintro e w1 ⟨rfl, hb1⟩
      replace H2 := Hold.mk (H2.out.next hb1)
      clear hb1 HX
      go_wp2_with fail
      go_ret
      exact ⟨by rw [HR.out]; first | rfl | (simp; done) | (simp; omega), H2.out.bel⟩
  have c2 : (s.toList == [36, 108, 116]) = false := isN_no g2
  rw [if_neg (show ¬ isN s sLt = true by rw [isN_no g2]; simp)] at HR0
  clear g2
  by_cases g3 : s.toList = [36, 108, 101]
  · have HR : Hold (passR s v (some u) = decide (c ≤ 0)) := ⟨by rw [HR0.out, if_pos (isN_yes g3)]⟩
    clear HR0
    by_cases hc : c ≤ 0
    · replace HR : Hold (passR s v (some u) = true) := ⟨by rw [HR.out]; simp [hc]⟩
      go_enter Tryd.func119, Tryd.ntmps119
      go_wp2_with fail
      refine HX.out.mono ?_
      rintro e w1 ⟨rfl, hb1⟩
      replace H2 := Hold.mk (H2.out.next hb1)
      clear hb1 HX
      go_wp2_with fail
      go_ret
      exact ⟨by rw [HR.out]; first | rfl | (simp; done) | (simp; omega), H2.out.bel⟩
    · replace HR : Hold (passR s v (some u) = false) := ⟨by rw [HR.out]; simp; omega⟩
      go_enter Tryd.func119, Tryd.ntmps119
      go_wp2_with fail
      refine HX.out.mono ?_
      rintro e w1 ⟨rfl, hb1⟩
      replace H2 := Hold.mk (H2.out.next hb1)
      clear hb1 HX
      go_wp2_with fail
      go_ret
      exact ⟨by rw [HR.out]; first | rfl | (simp; done) | (simp; omega), H2.out.bel⟩
  have c3 : (s.toList == [36, 108, 101]) = false := isN_no g3
  rw [if_neg (show ¬ isN s sLe = true by rw [isN_no g3]; simp)] at HR0
  clear g3
  by_cases g4 : s.toList = [36, 103, 116]
  · have HR : Hold (passR s v (some u) = decide (0 < c)) := ⟨by rw [HR0.out, if_pos (isN_yes g4)]⟩
    clear HR0
    by_cases hc : 0 < c
    · replace HR : Hold (passR s v (some u) = true) := ⟨by rw [HR.out]; simp [hc]⟩
      go_enter Tryd.func119, Tryd.ntmps119
      go_wp2_with fail
      refine HX.out.mono ?_
      rintro e w1 ⟨rfl, hb1⟩
      replace H2 := Hold.mk (H2.out.next hb1)
      clear hb1 HX
      go_wp2_with fail
      go_ret
      exact ⟨by rw [HR.out]; first | rfl | (simp; done) | (simp; omega), H2.out.bel⟩
    · replace HR : Hold (passR s v (some u) = false) := ⟨by rw [HR.out]; simp; omega⟩
      go_enter Tryd.func119, Tryd.ntmps119
      go_wp2_with fail
      refine HX.out.mono ?_
      rintro e w1 ⟨rfl, hb1⟩
      replace H2 := Hold.mk (H2.out.next hb1)
      clear hb1 HX
      go_wp2_with fail
      go_ret
      exact ⟨by rw [HR.out]; first | rfl | (simp; done) | (simp; omega), H2.out.bel⟩
  have c4 : (s.toList == [36, 103, 116]) = false := isN_no g4
  rw [if_neg (show ¬ isN s sGt = true by rw [isN_no g4]; simp)] at HR0
  clear g4
  by_cases g5 : s.toList = [36, 103, 101]
  · have HR : Hold (passR s v (some u) = decide (0 ≤ c)) := ⟨by rw [HR0.out, if_pos (isN_yes g5)]⟩
    clear HR0
    by_cases hc : 0 ≤ c
    · replace HR : Hold (passR s v (some u) = true) := ⟨by rw [HR.out]; simp [hc]⟩
      go_enter Tryd.func119, Tryd.ntmps119
      go_wp2_with fail
      refine HX.out.mono ?_
      rintro e w1 ⟨rfl, hb1⟩
      replace H2 := Hold.mk (H2.out.next hb1)
      clear hb1 HX
      go_wp2_with fail
      go_ret
      exact ⟨by rw [HR.out]; first | rfl | (simp; done) | (simp; omega), H2.out.bel⟩
    · replace HR : Hold (passR s v (some u) = false) := ⟨by rw [HR.out]; simp; omega⟩
      go_enter Tryd.func119, Tryd.ntmps119
      go_wp2_with fail
      refine HX.out.mono ?_
      rintro e w1 ⟨rfl, hb1⟩
      replace H2 := Hold.mk (H2.out.next hb1)
      clear hb1 HX
      go_wp2_with fail
      go_ret
      exact ⟨by rw [HR.out]; first | rfl | (simp; done) | (simp; omega), H2.out.bel⟩
  have c5 : (s.toList == [36, 103, 101]) = false := isN_no g5
  rw [if_neg (show ¬ isN s sGe = true by rw [isN_no g5]; simp)] at HR0
  clear g5
  go_enter Tryd.func119, Tryd.ntmps119
  go_wp2_with fail
  refine HX.out.mono ?_
  rintro e w1 ⟨rfl, hb1⟩
  replace H2 := Hold.mk (H2.out.next hb1)
  clear hb1 HX
  go_wp2_with fail
  go_loopw [10] (fun i wr => ∃ j : Nat, i = .int .i64 j ∧ j ≤ it.length ∧ NoneTo it (fun y => decide (cmpF 6 u y = 0)) j ∧ Two w wr #[.int .i64 k, .int .i64 n, .string t, .slice na nm.length ncap, .slice ia it.length icap] #[.int .i64 q, .int .i64 m, .string t2, .slice ma nu.length mcap, .slice ja ju.length jcap]) (fun i _ => it.length - (intOf i).toNat)
  case atStart => exact ⟨0, rfl, Nat.zero_le _, fun q x h => by omega, H2.out⟩
  case round =>
    obtain ⟨j, rfl, hj, hno, h2⟩ := hrel
    clear H2
    have HNO := Hold.mk hno
    have H2 := Hold.mk h2
    clear hno h2
    obtain ⟨y0, y1, y2, y3, y4⟩ := cells_five H2.out.one
    by_cases hlt : j < it.length
    · obtain ⟨z, hz⟩ : ∃ x, it[j]? = some x := ⟨it[j], List.getElem?_eq_getElem hlt⟩
      obtain ⟨b, off, k3, n3, t3, nm3, it3, na3, ncap3, ia3, icap3, rfl, hxe, x0, x1, x2, x3, x4, hxj⟩ := HI.out j z hz
      have hcl := cle_below H2.out.bel
      have g0 := Grow.cell (hcl _ _ _ x0)
      have g1 := Grow.cell (hcl _ _ _ x1)
      have g2 := Grow.cell (hcl _ _ _ x2)
      have g3 := Grow.cell (hcl _ _ _ x3)
      have g4 := Grow.cell (hcl _ _ _ x4)
      have g5 := Grow.cell y4
      obtain ⟨v0, v1, v2, v3, v4⟩ := cells_five H2.out.two
      have u0 := Grow.cell v0
      have u1 := Grow.cell v1
      have u2 := Grow.cell v2
      have u3 := Grow.cell v3
      have u4 := Grow.cell v4
      have HC := Hold.mk (Calls.grow (fun e : Grow wr => plain_any 6 u z _ _ e.val HG.out (HFK.out z (List.mem_of_getElem? hz)) ((HK.out.mono hcl).mono (cle_below e.property)) ((hxj.mono hcl).mono (cle_below e.property))))
      have HZ := Hold.mk hz
      clear x0 x1 x2 x3 x4 hcl hz hxe hxj v0 v1 v2 v3 v4
      by_cases hr : cmpF 6 u z = 0
      · rw [hr] at HC
        have HR : Hold (passR s v (some u) = true) := ⟨by rw [HR0.out]; exact any_true HZ.out (by simp [hr])⟩
        clear hr
        go_wp2_with fail
        clear y0 y1 y2 y3 y4
        refine wp_region_grow (by kernel_rfl) (by kernel_rfl) ?_
        repeat (go_big_quiet_step (exact HC.out _))
        refine wpQuiet_nil ?_
        rintro ⟨w3, hb3⟩
        replace H2 := Hold.mk (H2.out.next hb3)
        simp only
        clear hb3 g0 g1 g2 g3 g4 g5 u0 u1 u2 u3 u4 HC
        go_wp2_with fail
        go_ret
        exact ⟨by rw [HR.out]; rfl, H2.out.bel⟩
      · have HNX := Hold.mk (HNO.out.next HZ.out (by simp [hr]))
        have hrb : (cmpF 6 u z == 0) = false := by simpa using hr
        clear hr
        generalize cmpF 6 u z = r at HC hrb
        go_wp2_with fail
        clear y0 y1 y2 y3 y4
        refine wp_region_grow (by kernel_rfl) (by kernel_rfl) ?_
        repeat (go_big_quiet_step (exact HC.out _))
        refine wpQuiet_nil ?_
        rintro ⟨w3, hb3⟩
        replace H2 := Hold.mk (H2.out.next hb3)
        simp only
        clear hb3 g0 g1 g2 g3 g4 g5 u0 u1 u2 u3 u4 HC
        go_wp2_with fail
        exact ⟨⟨j + 1, by go_num, hlt, HNX.out, H2.out⟩, by simp [intOf]; omega⟩
    · have HR : Hold (passR s v (some u) = false) := ⟨by rw [HR0.out]; exact HNO.out.any (by omega)⟩
      go_wp2_with fail
      go_ret
      exact ⟨by rw [HR.out]; rfl, H2.out.bel⟩

end Go.Proofs.YtfllnlmanopfaaaDoor
