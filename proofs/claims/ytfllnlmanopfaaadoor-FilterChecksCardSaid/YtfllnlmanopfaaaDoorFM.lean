/- Filters: Compare and passes of the program. -/
import Derived.Test.YtfllnlmanopfaaaDoorFL
namespace Go.Proofs.YtfllnlmanopfaaaDoor
open Go.RowKit

set_option maxHeartbeats 4000000 in
theorem Compare_any (a b : JV) (x y : Value) (w : World) (ha : formedF 6 a = true) (hb : formedF 6 b = true) (hx : JAt (cf w) a x) (hy : JAt (cf w) b y) (hT : Tabs w) :
    Calls Tryd.prog 44 #[x, y] w fun e w' => e = .returned (.int .i64 (cmpF 6 a b)) ∧ Below w.heap.size w w' := by
  obtain ⟨k, n, t, nm, it, na, ncap, ia, icap, hae, rfl, _⟩ := hx.open
  obtain ⟨q, m, u, nu, ju, ma, mcap, ja, jcap, hbe, rfl, _⟩ := hy.open
  have HJ := Hold.mk hx
  have HK := Hold.mk hy
  have HT := Hold.mk hT
  have HA := Hold.mk ha
  have HB := Hold.mk hb
  have H2 := Hold.mk (Two.refl w #[.int .i64 k, .int .i64 n, .string t, .slice na nm.length ncap, .slice ia it.length icap] #[.int .i64 q, .int .i64 m, .string u, .slice ma nu.length mcap, .slice ja ju.length jcap])
  have HX := Hold.mk (Formed_any a _ _ (hx.mono (cle_below H2.out.bel)) (hT.below H2.out.bel))
  rw [ha] at HX
  clear hx hy hT ha hb hae hbe
  go_enter Tryd.func44, Tryd.ntmps44
  go_wp2_with fail
  refine HX.out.mono ?_
  rintro e w1 ⟨rfl, hb1⟩
  replace H2 := Hold.mk (H2.out.next hb1)
  clear hb1 HX
  obtain ⟨y0, y1, y2, y3, y4⟩ := cells_five H2.out.one
  obtain ⟨z0, z1, z2, z3, z4⟩ := cells_five H2.out.two
  have HX := Hold.mk (Formed_any b _ w1 (HK.out.mono (cle_below H2.out.bel)) (HT.out.below H2.out.bel))
  rw [HB.out] at HX
  go_wp2_with fail
  refine HX.out.mono ?_
  rintro e w2 ⟨rfl, hb2⟩
  replace H2 := Hold.mk (H2.out.next hb2)
  clear hb2 HX y0 y1 y2 y3 y4 z0 z1 z2 z3 z4
  obtain ⟨y0, y1, y2, y3, y4⟩ := cells_five H2.out.one
  obtain ⟨z0, z1, z2, z3, z4⟩ := cells_five H2.out.two
  go_wp2_with fail
  refine (compare_any 6 a b _ _ _ HA.out HB.out (HJ.out.mono (cle_below H2.out.bel)) (HK.out.mono (cle_below H2.out.bel))).mono ?_
  rintro e w3 ⟨rfl, hb3⟩
  replace H2 := Hold.mk (H2.out.next hb3)
  clear hb3 y0 y1 y2 y3 y4 z0 z1 z2 z3 z4
  go_wp2_with fail
  go_ret
  exact ⟨rfl, H2.out.bel⟩

set_option maxHeartbeats 4000000 in
theorem passes1_any (x y : JV) (xb : Nat) (c0 c1 c2 c3 c4 : Value) (yv : Value) (w : World) (hc : w.heap[xb]? = some (.cells #[c0, c1, c2, c3, c4] 25 (0, 0))) (hx : JAt (cf w) x (.agg #[c0, c1, c2, c3, c4])) (hy : JAt (cf w) y yv) :
    Calls Tryd.prog 158 #[yv, .pointer (some ⟨xb, 0, none⟩)] w fun e w' => e = .returned (.bool (sameB x y)) ∧ Below w.heap.size w w' := by
  obtain ⟨q, m, u, nu, ju, ma, mcap, ja, jcap, hbe, rfl, _⟩ := hy.open
  have hlt := heap_lt hc
  obtain ⟨y0, y1, y2, y3, y4⟩ := cells_five hc
  have HB := Hold.mk (Boxed.refl w (.cells #[.int .i64 q, .int .i64 m, .string u, .slice ma nu.length mcap, .slice ja ju.length jcap] 25))
  have HX := Hold.mk (Same_any x y _ _ _ (hx.mono (cle_below HB.out.below)) (hy.mono (cle_below HB.out.below)))
  clear hx hy hbe hc
  go_enter Tryd.func158, Tryd.ntmps158
  go_wp2_with fail
  refine HX.out.mono ?_
  rintro e w1 ⟨rfl, hb1⟩
  replace HB := Hold.mk (HB.out.next hb1)
  clear hb1 HX
  go_wp2_with fail
  go_ret
  exact ⟨rfl, HB.out.below⟩

theorem enters_passes1 (args : Array Value) (w : World) : (callFunc 158 args).run Tryd.prog w = .ok (.enter 158 args) w := enters_of Tryd.func158 (by kernel_rfl) rfl args w

set_option maxRecDepth 100000 in
set_option maxHeartbeats 8000000 in
theorem passes_none (s : ByteArray) (v : JV) (x : Value) (c0 c1 c2 c3 c4 : Value) (w : World) (hx : JAt (cf w) v x) :
    Calls Tryd.prog 114 #[.string s, x, .agg #[c0, c1, c2, c3, c4], .bool false] w fun e w' => e = .returned (.bool (passP s v none)) ∧ Below w.heap.size w w' := by
  obtain ⟨k, n, t, nm, it, na, ncap, ia, icap, rfl, rfl, _⟩ := hx.open
  have H2 := Hold.mk (Two.refl w #[.int .i64 k, .int .i64 n, .string t, .slice na nm.length ncap, .slice ia it.length icap] #[c0, c1, c2, c3, c4])
  clear hx
  by_cases h1 : s.toList = [36, 104, 97, 115]
  · have HR0 : Hold (passP s (.mk k n t nm it) none = (false == decide (k = 2))) := ⟨by unfold passP; rw [if_pos (isN_yes h1)]; rfl⟩
    by_cases hk : k = 2
    · have HR : Hold (passP s (.mk k n t nm it) none = false) := ⟨by rw [HR0.out, hk]; rfl⟩
      subst hk
      go_enter Tryd.func114, Tryd.ntmps114
      go_wp2_with fail
      go_ret
      exact ⟨by rw [HR.out]; rfl, H2.out.bel⟩
    · have HR : Hold (passP s (.mk k n t nm it) none = true) := ⟨by rw [HR0.out]; simp [hk]⟩
      have bk : (k == 2) = false := by simpa using hk
      clear hk
      go_enter Tryd.func114, Tryd.ntmps114
      go_wp2_with fail
      go_ret
      exact ⟨by rw [HR.out]; rfl, H2.out.bel⟩
  have b1 : (s.toList == [36, 104, 97, 115]) = false := isN_no h1
  have HR : Hold (passP s (.mk k n t nm it) none = (s.toList == [36, 110, 101])) := ⟨by unfold passP; rw [if_neg (by rw [isN_no h1]; simp)]; rfl⟩
  clear h1
  generalize hr : (s.toList == [36, 110, 101]) = r at HR
  go_enter Tryd.func114, Tryd.ntmps114
  go_wp2_with fail
  go_ret
  exact ⟨by rw [HR.out]; rfl, H2.out.bel⟩

set_option maxRecDepth 100000 in
set_option maxHeartbeats 8000000 in
theorem passes_some (s : ByteArray) (v u : JV) (x y : Value) (w : World) (hx : JAt (cf w) v x) (hy : JAt (cf w) u y) (hf : formedF 6 v = true) (hg : formedF 6 u = true) (hT : Tabs w) :
    Calls Tryd.prog 114 #[.string s, x, y, .bool true] w fun e w' => e = .returned (.bool (passP s v (some u))) ∧ Below w.heap.size w w' := by
  obtain ⟨k, n, t, nm, it, na, ncap, ia, icap, hve, rfl, _, _, _, _, hit⟩ := hx.open
  obtain ⟨q, m, t2, nu, ju, ma, mcap, ja, jcap, hue, rfl, _⟩ := hy.open
  have H2 := Hold.mk (Two.refl w #[.int .i64 k, .int .i64 n, .string t, .slice na nm.length ncap, .slice ia it.length icap] #[.int .i64 q, .int .i64 m, .string t2, .slice ma nu.length mcap, .slice ja ju.length jcap])
  have HJ := Hold.mk hx
  have HK := Hold.mk hy
  have HF := Hold.mk hf
  have HG := Hold.mk hg
  have HT := Hold.mk hT
  have hki : v.kind = k ∧ v.items = it := by rw [hve]; exact ⟨rfl, rfl⟩
  have HKI := Hold.mk hki
  have HIT := Hold.mk hit
  clear hx hy hf hg hT hve hue hki hit
  by_cases h1 : s.toList = [36, 104, 97, 115]
  · have HR0 : Hold (passP s v (some u) = (true == decide (k = 2))) := ⟨by unfold passP; rw [if_pos (isN_yes h1), HKI.out.1]; rfl⟩
    by_cases hk : k = 2
    · have HR : Hold (passP s v (some u) = true) := ⟨by rw [HR0.out, hk]; rfl⟩
      subst hk
      go_enter Tryd.func114, Tryd.ntmps114
      go_wp2_with fail
      go_ret
      exact ⟨by rw [HR.out]; rfl, H2.out.bel⟩
    · have HR : Hold (passP s v (some u) = false) := ⟨by rw [HR0.out]; simp [hk]⟩
      have bk : (k == 2) = false := by simpa using hk
      clear hk
      go_enter Tryd.func114, Tryd.ntmps114
      go_wp2_with fail
      go_ret
      exact ⟨by rw [HR.out]; rfl, H2.out.bel⟩
  have b1 : (s.toList == [36, 104, 97, 115]) = false := isN_no h1
  by_cases h2 : s.toList = [36, 105, 110]
  · have HR : Hold (passP s v (some u) = it.any (sameB u)) := ⟨by unfold passP; rw [if_neg (by rw [isN_no h1]; simp)]; simp only; rw [if_pos (isN_yes h2), HKI.out.2]⟩
    have HX := Hold.mk (itemsAny_any 158 enters_passes1 ⟨w.heap.size + 1, 0, none⟩ (sameB u) _ it _ (HIT.out.mono (cle_below H2.out.bel)) (fun z hz zv wr hb hzv =>
      passes1_any u z (w.heap.size + 1) _ _ _ _ _ zv wr (kept H2.out.two hb) (HK.out.mono ((cle_below H2.out.bel).trans (cle_below hb))) hzv))
    clear h1 b1
    go_enter Tryd.func114, Tryd.ntmps114
    go_wp2_with fail
    refine HX.out.mono ?_
    rintro e w1 ⟨rfl, hb1⟩
    replace H2 := Hold.mk (H2.out.next hb1)
    clear hb1 HX
    go_wp2_with fail
    go_ret
    exact ⟨by rw [HR.out]; rfl, H2.out.bel⟩
  have b2 : (s.toList == [36, 105, 110]) = false := isN_no h2
  have HR0 : Hold (passP s v (some u) = byName s (cmpF 6 u v) (decide (0 ≤ cmpF 6 u v))) := ⟨by unfold passP; rw [if_neg (by rw [isN_no h1]; simp)]; simp only; rw [if_neg (by rw [isN_no h2]; simp)]⟩
  clear h1 h2 HKI HIT
  have HX := Hold.mk (Compare_any u v _ _ _ HG.out HF.out (HK.out.mono (cle_below H2.out.bel)) (HJ.out.mono (cle_below H2.out.bel)) (HT.out.below H2.out.bel))
  generalize cmpF 6 u v = c at HX HR0
  unfold byName at HR0
  by_cases g0 : s.toList = [36, 101, 113]
  · have HR : Hold (passP s v (some u) = decide (c = 0)) := ⟨by rw [HR0.out, if_pos (isN_yes g0)]⟩
    clear HR0
    by_cases hc : c = 0
    · subst hc
      go_enter Tryd.func114, Tryd.ntmps114
      go_wp2_with fail
      refine HX.out.mono ?_
      rintro e w1 ⟨rfl, hb1⟩
      replace H2 := Hold.mk (H2.out.next hb1)
      clear hb1 HX
      go_wp2_with fail
      go_ret
      exact ⟨by rw [HR.out]; first | rfl | (simp; done) | (simp; omega), H2.out.bel⟩
    · have hcb : (c == 0) = false := by simpa using hc
      have hcn : (c != 0) = true := by simpa using hc
      replace HR : Hold (passP s v (some u) = false) := ⟨by rw [HR.out]; simp [hc]⟩
      clear hc
      go_enter Tryd.func114, Tryd.ntmps114
      go_wp2_with fail
      refine HX.out.mono ?_
      rintro e w1 ⟨rfl, hb1⟩
      replace H2 := Hold.mk (H2.out.next hb1)
      clear hb1 HX
      go_wp2_with fail
      go_ret
      exact ⟨by rw [HR.out]; first | rfl | (simp; done) | (simp; omega), H2.out.bel⟩
  have c0 : (s.toList == [36, 101, 113]) = false := isN_no g0
  rw [if_neg (show ¬ isN s sEq = true by rw [isN_no g0]; simp)] at HR0
  clear g0
  by_cases g1 : s.toList = [36, 110, 101]
  · have HR : Hold (passP s v (some u) = decide (c ≠ 0)) := ⟨by rw [HR0.out, if_pos (isN_yes g1)]⟩
    clear HR0
    by_cases hc : c = 0
    · subst hc
      go_enter Tryd.func114, Tryd.ntmps114
      go_wp2_with fail
      refine HX.out.mono ?_
      rintro e w1 ⟨rfl, hb1⟩
      replace H2 := Hold.mk (H2.out.next hb1)
      clear hb1 HX
      go_wp2_with fail
      go_ret
      exact ⟨by rw [HR.out]; first | rfl | (simp; done) | (simp; omega), H2.out.bel⟩
    · have hcb : (c == 0) = false := by simpa using hc
      have hcn : (c != 0) = true := by simpa using hc
      replace HR : Hold (passP s v (some u) = true) := ⟨by rw [HR.out]; simp [hc]⟩
      clear hc
      go_enter Tryd.func114, Tryd.ntmps114
      go_wp2_with fail
      refine HX.out.mono ?_
      rintro e w1 ⟨rfl, hb1⟩
      replace H2 := Hold.mk (H2.out.next hb1)
      clear hb1 HX
      go_wp2_with fail
      go_ret
      exact ⟨by rw [HR.out]; first | rfl | (simp; done) | (simp; omega), H2.out.bel⟩
  have c1 : (s.toList == [36, 110, 101]) = false := isN_no g1
  rw [if_neg (show ¬ isN s sNe = true by rw [isN_no g1]; simp)] at HR0
  clear g1
  by_cases g2 : s.toList = [36, 108, 116]
  · have HR : Hold (passP s v (some u) = decide (c < 0)) := ⟨by rw [HR0.out, if_pos (isN_yes g2)]⟩
    clear HR0
    by_cases hc : c < 0
    · replace HR : Hold (passP s v (some u) = true) := ⟨by rw [HR.out]; simp [hc]⟩
      go_enter Tryd.func114, Tryd.ntmps114
      go_wp2_with fail
      refine HX.out.mono ?_
      rintro e w1 ⟨rfl, hb1⟩
      replace H2 := Hold.mk (H2.out.next hb1)
      clear hb1 HX
      go_wp2_with fail
      go_ret
      exact ⟨by rw [HR.out]; first | rfl | (simp; done) | (simp; omega), H2.out.bel⟩
    · replace HR : Hold (passP s v (some u) = false) := ⟨by rw [HR.out]; simp; omega⟩
      go_enter Tryd.func114, Tryd.ntmps114
      go_wp2_with fail
      refine HX.out.mono ?_
      rintro e w1 ⟨rfl, hb1⟩
      replace H2 := Hold.mk (H2.out.next hb1)
      clear hb1 HX
      go_wp2_with fail
      go_ret
      exact ⟨by rw [HR.out]; first | rfl | (simp; done) | (simp; omega), H2.out.bel⟩
  have c2 : (s.toList == [36, 108, 116]) = false := isN_no g2
  rw [if_neg (show ¬ isN s sLt = true by rw [isN_no g2]; simp)] at HR0
  clear g2
  by_cases g3 : s.toList = [36, 108, 101]
  · have HR : Hold (passP s v (some u) = decide (c ≤ 0)) := ⟨by rw [HR0.out, if_pos (isN_yes g3)]⟩
    clear HR0
    by_cases hc : c ≤ 0
    · replace HR : Hold (passP s v (some u) = true) := ⟨by rw [HR.out]; simp [hc]⟩
      go_enter Tryd.func114, Tryd.ntmps114
      go_wp2_with fail
      refine HX.out.mono ?_
      rintro e w1 ⟨rfl, hb1⟩
      replace H2 := Hold.mk (H2.out.next hb1)
      clear hb1 HX
      go_wp2_with fail
      go_ret
      exact ⟨by rw [HR.out]; first | rfl | (simp; done) | (simp; omega), H2.out.bel⟩
    · replace HR : Hold (passP s v (some u) = false) := ⟨by rw [HR.out]; simp; omega⟩
      go_enter Tryd.func114, Tryd.ntmps114
      go_wp2_with fail
      refine HX.out.mono ?_
      rintro e w1 ⟨rfl, hb1⟩
      replace H2 := Hold.mk (H2.out.next hb1)
      clear hb1 HX
      go_wp2_with fail
      go_ret
      exact ⟨by rw [HR.out]; first | rfl | (simp; done) | (simp; omega), H2.out.bel⟩
  have c3 : (s.toList == [36, 108, 101]) = false := isN_no g3
  rw [if_neg (show ¬ isN s sLe = true by rw [isN_no g3]; simp)] at HR0
  clear g3
  by_cases g4 : s.toList = [36, 103, 116]
  · have HR : Hold (passP s v (some u) = decide (0 < c)) := ⟨by rw [HR0.out, if_pos (isN_yes g4)]⟩
    clear HR0
    by_cases hc : 0 < c
    · replace HR : Hold (passP s v (some u) = true) := ⟨by rw [HR.out]; simp [hc]⟩
      go_enter Tryd.func114, Tryd.ntmps114
      go_wp2_with fail
      refine HX.out.mono ?_
      rintro e w1 ⟨rfl, hb1⟩
      replace H2 := Hold.mk (H2.out.next hb1)
      clear hb1 HX
      go_wp2_with fail
      go_ret
      exact ⟨by rw [HR.out]; first | rfl | (simp; done) | (simp; omega), H2.out.bel⟩
    · replace HR : Hold (passP s v (some u) = false) := ⟨by rw [HR.out]; simp; omega⟩
      go_enter Tryd.func114, Tryd.ntmps114
      go_wp2_with fail
      refine HX.out.mono ?_
      rintro e w1 ⟨rfl, hb1⟩
      replace H2 := Hold.mk (H2.out.next hb1)
      clear hb1 HX
      go_wp2_with fail
      go_ret
      exact ⟨by rw [HR.out]; first | rfl | (simp; done) | (simp; omega), H2.out.bel⟩
  have c4 : (s.toList == [36, 103, 116]) = false := isN_no g4
  rw [if_neg (show ¬ isN s sGt = true by rw [isN_no g4]; simp)] at HR0
  clear g4
  by_cases hc : 0 ≤ c
  · have HR : Hold (passP s v (some u) = true) := ⟨by rw [HR0.out]; simp [hc]⟩
    go_enter Tryd.func114, Tryd.ntmps114
    go_wp2_with fail
    refine HX.out.mono ?_
    rintro e w1 ⟨rfl, hb1⟩
    replace H2 := Hold.mk (H2.out.next hb1)
    clear hb1 HX
    go_wp2_with fail
    go_ret
    exact ⟨by rw [HR.out]; first | rfl | (simp; done) | (simp; omega), H2.out.bel⟩
  · have HR : Hold (passP s v (some u) = false) := ⟨by rw [HR0.out]; simp; omega⟩
    go_enter Tryd.func114, Tryd.ntmps114
    go_wp2_with fail
    refine HX.out.mono ?_
    rintro e w1 ⟨rfl, hb1⟩
    replace H2 := Hold.mk (H2.out.next hb1)
    clear hb1 HX
    go_wp2_with fail
    go_ret
    exact ⟨by rw [HR.out]; first | rfl | (simp; done) | (simp; omega), H2.out.bel⟩

end Go.Proofs.YtfllnlmanopfaaaDoor
