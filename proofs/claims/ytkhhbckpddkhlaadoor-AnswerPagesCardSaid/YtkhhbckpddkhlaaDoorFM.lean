/- Filters: Compare and passes of the program. Filters: one, holds, Holds of the program. Filters: one and Holds of the program. Filters: Holds of the program. -/
import Derived.Test.YtkhhbckpddkhlaaDoorFG
namespace Go.Proofs.YtkhhbckpddkhlaaDoor
open Go.RowKit

set_option maxHeartbeats 4000000 in
theorem Compare_any (a b : JV) (x y : Value) (w : World) (ha : formedF 6 a = true) (hb : formedF 6 b = true) (hx : JAt (cf w) a x) (hy : JAt (cf w) b y) (hT : Tabs w) :
    Calls Tryd.prog 55 #[x, y] w fun e w' => e = .returned (.int .i64 (cmpF 6 a b)) ∧ Below w.heap.size w w' := by
  obtain ⟨k, n, t, nm, it, na, ncap, ia, icap, hae, rfl, _⟩ := hx.open
  obtain ⟨q, m, u, nu, ju, ma, mcap, ja, jcap, hbe, rfl, _⟩ := hy.open
  have HJ := Hold.mk hx
  have HK := Hold.mk hy
  have HT := Hold.mk hT
  have HA := Hold.mk ha
  have HB := Hold.mk hb
  have H2 := Hold.mk (Two.refl w #[.int .i64 k, .int .i64 n, .string t, .slice na nm.length ncap, .slice ia it.length icap] #[.int .i64 q, .int .i64 m, .string u, .slice ma nu.length mcap, .slice ja ju.length jcap])
  have HX := Hold.mk (Formed_any a _ _ (hx.mono (cle_below H2.out.bel)) (hT.below H2.out.bel))
  rw [ha] at HX
  clear hx hy hT ha hb hae hbe
  go_enter Tryd.func55, Tryd.ntmps55
  go_wp2_with fail
  refine HX.out.mono ?_
  rintro e w1 ⟨rfl, hb1⟩
  replace H2 := Hold.mk (H2.out.next hb1)
  clear hb1 HX
  obtain ⟨y0, y1, y2, y3, y4⟩ := cells_five H2.out.one
  obtain ⟨z0, z1, z2, z3, z4⟩ := cells_five H2.out.two
  have HX := Hold.mk (Formed_any b _ w1 (HK.out.mono (cle_below H2.out.bel)) (HT.out.below H2.out.bel))
  rw [HB.out] at HX
  go_wp2_with fail
  refine HX.out.mono ?_
  rintro e w2 ⟨rfl, hb2⟩
  replace H2 := Hold.mk (H2.out.next hb2)
  clear hb2 HX y0 y1 y2 y3 y4 z0 z1 z2 z3 z4
  obtain ⟨y0, y1, y2, y3, y4⟩ := cells_five H2.out.one
  obtain ⟨z0, z1, z2, z3, z4⟩ := cells_five H2.out.two
  go_wp2_with fail
  refine (compare_any 6 a b _ _ _ HA.out HB.out (HJ.out.mono (cle_below H2.out.bel)) (HK.out.mono (cle_below H2.out.bel))).mono ?_
  rintro e w3 ⟨rfl, hb3⟩
  replace H2 := Hold.mk (H2.out.next hb3)
  clear hb3 y0 y1 y2 y3 y4 z0 z1 z2 z3 z4
  go_wp2_with fail
  go_ret
  exact ⟨rfl, H2.out.bel⟩

set_option maxHeartbeats 4000000 in
theorem passes1_any (x y : JV) (xb : Nat) (c0 c1 c2 c3 c4 : Value) (yv : Value) (w : World) (hc : w.heap[xb]? = some (.cells #[c0, c1, c2, c3, c4] 25 (0, 0))) (hx : JAt (cf w) x (.agg #[c0, c1, c2, c3, c4])) (hy : JAt (cf w) y yv) :
    Calls Tryd.prog 92 #[yv, .pointer (some ⟨xb, 0, none⟩)] w fun e w' => e = .returned (.bool (sameB x y)) ∧ Below w.heap.size w w' := by
  obtain ⟨q, m, u, nu, ju, ma, mcap, ja, jcap, hbe, rfl, _⟩ := hy.open
  have hlt := heap_lt hc
  obtain ⟨y0, y1, y2, y3, y4⟩ := cells_five hc
  have HB := Hold.mk (Boxed.refl w (.cells #[.int .i64 q, .int .i64 m, .string u, .slice ma nu.length mcap, .slice ja ju.length jcap] 25))
  have HX := Hold.mk (Same_any x y _ _ _ (hx.mono (cle_below HB.out.below)) (hy.mono (cle_below HB.out.below)))
  clear hx hy hbe hc
  go_enter Tryd.func92, Tryd.ntmps92
  go_wp2_with fail
  refine HX.out.mono ?_
  rintro e w1 ⟨rfl, hb1⟩
  replace HB := Hold.mk (HB.out.next hb1)
  clear hb1 HX
  go_wp2_with fail
  go_ret
  exact ⟨rfl, HB.out.below⟩

theorem enters_passes1 (args : Array Value) (w : World) : (callFunc 92 args).run Tryd.prog w = .ok (.enter 92 args) w := enters_of Tryd.func92 (by kernel_rfl) rfl args w

set_option maxRecDepth 100000 in
set_option maxHeartbeats 8000000 in
theorem passes_none (s : ByteArray) (v : JV) (x : Value) (c0 c1 c2 c3 c4 : Value) (w : World) (hx : JAt (cf w) v x) :
    Calls Tryd.prog 71 #[.string s, x, .agg #[c0, c1, c2, c3, c4], .bool false] w fun e w' => e = .returned (.bool (passP s v none)) ∧ Below w.heap.size w w' := by
  obtain ⟨k, n, t, nm, it, na, ncap, ia, icap, rfl, rfl, _⟩ := hx.open
  have H2 := Hold.mk (Two.refl w #[.int .i64 k, .int .i64 n, .string t, .slice na nm.length ncap, .slice ia it.length icap] #[c0, c1, c2, c3, c4])
  clear hx
  by_cases h1 : s.toList = [36, 104, 97, 115]
  · have HR0 : Hold (passP s (.mk k n t nm it) none = (false == decide (k = 2))) := ⟨by unfold passP; rw [if_pos (isN_yes h1)]; rfl⟩
    by_cases hk : k = 2
    · have HR : Hold (passP s (.mk k n t nm it) none = false) := ⟨by rw [HR0.out, hk]; rfl⟩
      subst hk
      go_enter Tryd.func71, Tryd.ntmps71
      go_wp2_with fail
      go_ret
      exact ⟨by rw [HR.out]; rfl, H2.out.bel⟩
    · have HR : Hold (passP s (.mk k n t nm it) none = true) := ⟨by rw [HR0.out]; simp [hk]⟩
      have bk : (k == 2) = false := by simpa using hk
      clear hk
      go_enter Tryd.func71, Tryd.ntmps71
      go_wp2_with fail
      go_ret
      exact ⟨by rw [HR.out]; rfl, H2.out.bel⟩
  have b1 : (s.toList == [36, 104, 97, 115]) = false := isN_no h1
  have HR : Hold (passP s (.mk k n t nm it) none = (s.toList == [36, 110, 101])) := ⟨by unfold passP; rw [if_neg (by rw [isN_no h1]; simp)]; rfl⟩
  clear h1
  generalize hr : (s.toList == [36, 110, 101]) = r at HR
  go_enter Tryd.func71, Tryd.ntmps71
  go_wp2_with fail
  go_ret
  exact ⟨by rw [HR.out]; rfl, H2.out.bel⟩

set_option maxRecDepth 100000 in
set_option maxHeartbeats 8000000 in
theorem passes_some (s : ByteArray) (v u : JV) (x y : Value) (w : World) (hx : JAt (cf w) v x) (hy : JAt (cf w) u y) (hf : formedF 6 v = true) (hg : formedF 6 u = true) (hT : Tabs w) :
    Calls Tryd.prog 71 #[.string s, x, y, .bool true] w fun e w' => e = .returned (.bool (passP s v (some u))) ∧ Below w.heap.size w w' := by
  obtain ⟨k, n, t, nm, it, na, ncap, ia, icap, hve, rfl, _, _, _, _, hit⟩ := hx.open
  obtain ⟨q, m, t2, nu, ju, ma, mcap, ja, jcap, hue, rfl, _⟩ := hy.open
  have H2 := Hold.mk (Two.refl w #[.int .i64 k, .int .i64 n, .string t, .slice na nm.length ncap, .slice ia it.length icap] #[.int .i64 q, .int .i64 m, .string t2, .slice ma nu.length mcap, .slice ja ju.length jcap])
  have HJ := Hold.mk hx
  have HK := Hold.mk hy
  have HF := Hold.mk hf
  have HG := Hold.mk hg
  have HT := Hold.mk hT
  have hki : v.kind = k ∧ v.items = it := by rw [hve]; exact ⟨rfl, rfl⟩
  have HKI := Hold.mk hki
  have HIT := Hold.mk hit
  clear hx hy hf hg hT hve hue hki hit
  by_cases h1 : s.toList = [36, 104, 97, 115]
  · have HR0 : Hold (passP s v (some u) = (true == decide (k = 2))) := ⟨by unfold passP; rw [if_pos (isN_yes h1), HKI.out.1]; rfl⟩
    by_cases hk : k = 2
    · have HR : Hold (passP s v (some u) = true) := ⟨by rw [HR0.out, hk]; rfl⟩
      subst hk
      go_enter Tryd.func71, Tryd.ntmps71
      go_wp2_with fail
      go_ret
      exact ⟨by rw [HR.out]; rfl, H2.out.bel⟩
    · have HR : Hold (passP s v (some u) = false) := ⟨by rw [HR0.out]; simp [hk]⟩
      have bk : (k == 2) = false := by simpa using hk
      clear hk
      go_enter Tryd.func71, Tryd.ntmps71
      go_wp2_with fail
      go_ret
      exact ⟨by rw [HR.out]; rfl, H2.out.bel⟩
  have b1 : (s.toList == [36, 104, 97, 115]) = false := isN_no h1
  by_cases h2 : s.toList = [36, 105, 110]
  · have HR : Hold (passP s v (some u) = it.any (sameB u)) := ⟨by unfold passP; rw [if_neg (by rw [isN_no h1]; simp)]; simp only; rw [if_pos (isN_yes h2), HKI.out.2]⟩
    have HX := Hold.mk (itemsAny_any 92 enters_passes1 ⟨w.heap.size + 1, 0, none⟩ (sameB u) _ it _ (HIT.out.mono (cle_below H2.out.bel)) (fun z hz zv wr hb hzv =>
      passes1_any u z (w.heap.size + 1) _ _ _ _ _ zv wr (kept H2.out.two hb) (HK.out.mono ((cle_below H2.out.bel).trans (cle_below hb))) hzv))
    clear h1 b1
    go_enter Tryd.func71, Tryd.ntmps71
    go_wp2_with fail
    refine HX.out.mono ?_
    rintro e w1 ⟨rfl, hb1⟩
    replace H2 := Hold.mk (H2.out.next hb1)
    clear hb1 HX
    go_wp2_with fail
    go_ret
    exact ⟨by rw [HR.out]; rfl, H2.out.bel⟩
  have b2 : (s.toList == [36, 105, 110]) = false := isN_no h2
  have HR0 : Hold (passP s v (some u) = byName s (cmpF 6 u v) (decide (0 ≤ cmpF 6 u v))) := ⟨by unfold passP; rw [if_neg (by rw [isN_no h1]; simp)]; simp only; rw [if_neg (by rw [isN_no h2]; simp)]⟩
  clear h1 h2 HKI HIT
  have HX := Hold.mk (Compare_any u v _ _ _ HG.out HF.out (HK.out.mono (cle_below H2.out.bel)) (HJ.out.mono (cle_below H2.out.bel)) (HT.out.below H2.out.bel))
  generalize cmpF 6 u v = c at HX HR0
  unfold byName at HR0
  by_cases g0 : s.toList = [36, 101, 113]
  · have HR : Hold (passP s v (some u) = decide (c = 0)) := ⟨by rw [HR0.out, if_pos (isN_yes g0)]⟩
    clear HR0
    by_cases hc : c = 0
    · subst hc
      go_enter Tryd.func71, Tryd.ntmps71
      go_wp2_with fail
      refine HX.out.mono ?_
      rintro e w1 ⟨rfl, hb1⟩
      replace H2 := Hold.mk (H2.out.next hb1)
      clear hb1 HX
      go_wp2_with fail
      go_ret
      exact ⟨by rw [HR.out]; first | rfl | (simp; done) | (simp; omega), H2.out.bel⟩
    · have hcb : (c == 0) = false := by simpa using hc
      have hcn : (c != 0) = true := by simpa using hc
      replace HR : Hold (passP s v (some u) = false) := ⟨by rw [HR.out]; simp [hc]⟩
      clear hc
      go_enter Tryd.func71, Tryd.ntmps71
      go_wp2_with fail
      refine HX.out.mono ?_
      rintro e w1 ⟨rfl, hb1⟩
      replace H2 := Hold.mk (H2.out.next hb1)
      clear hb1 HX
      go_wp2_with fail
      go_ret
      exact ⟨by rw [HR.out]; first | rfl | (simp; done) | (simp; omega), H2.out.bel⟩
  have c0 : (s.toList == [36, 101, 113]) = false := isN_no g0
  rw [if_neg (show ¬ isN s sEq = true by rw [isN_no g0]; simp)] at HR0
  clear g0
  by_cases g1 : s.toList = [36, 110, 101]
  · have HR : Hold (passP s v (some u) = decide (c ≠ 0)) := ⟨by rw [HR0.out, if_pos (isN_yes g1)]⟩
    clear HR0
    by_cases hc : c = 0
    · subst hc
      go_enter Tryd.func71, Tryd.ntmps71
      go_wp2_with fail
      refine HX.out.mono ?_
      rintro e w1 ⟨rfl, hb1⟩
      replace H2 := Hold.mk (H2.out.next hb1)
      clear hb1 HX
      go_wp2_with fail
      go_ret
      exact ⟨by rw [HR.out]; first | rfl | (simp; done) | (simp; omega), H2.out.bel⟩
    · have hcb : (c == 0) = false := by simpa using hc
      have hcn : (c != 0) = true := by simpa using hc
      replace HR : Hold (passP s v (some u) = true) := ⟨by rw [HR.out]; simp [hc]⟩
      clear hc
      go_enter Tryd.func71, Tryd.ntmps71
      go_wp2_with fail
      refine HX.out.mono ?_
      rintro e w1 ⟨rfl, hb1⟩
      replace H2 := Hold.mk (H2.out.next hb1)
      clear hb1 HX
      go_wp2_with fail
      go_ret
      exact ⟨by rw [HR.out]; first | rfl | (simp; done) | (simp; omega), H2.out.bel⟩
  have c1 : (s.toList == [36, 110, 101]) = false := isN_no g1
  rw [if_neg (show ¬ isN s sNe = true by rw [isN_no g1]; simp)] at HR0
  clear g1
  by_cases g2 : s.toList = [36, 108, 116]
  · have HR : Hold (passP s v (some u) = decide (c < 0)) := ⟨by rw [HR0.out, if_pos (isN_yes g2)]⟩
    clear HR0
    by_cases hc : c < 0
    · replace HR : Hold (passP s v (some u) = true) := ⟨by rw [HR.out]; simp [hc]⟩
      go_enter Tryd.func71, Tryd.ntmps71
      go_wp2_with fail
      refine HX.out.mono ?_
      rintro e w1 ⟨rfl, hb1⟩
      replace H2 := Hold.mk (H2.out.next hb1)
      clear hb1 HX
      go_wp2_with fail
      go_ret
      exact ⟨by rw [HR.out]; first | rfl | (simp; done) | (simp; omega), H2.out.bel⟩
    · replace HR : Hold (passP s v (some u) = false) := ⟨by rw [HR.out]; simp; omega⟩
      go_enter Tryd.func71, Tryd.ntmps71
      go_wp2_with fail
      refine HX.out.mono ?_
      rintro e w1 ⟨rfl, hb1⟩
      replace H2 := Hold.mk (H2.out.next hb1)
      clear hb1 HX
      go_wp2_with fail
      go_ret
      exact ⟨by rw [HR.out]; first | rfl | (simp; done) | (simp; omega), H2.out.bel⟩
  have c2 : (s.toList == [36, 108, 116]) = false := isN_no g2
  rw [if_neg (show ¬ isN s sLt = true by rw [isN_no g2]; simp)] at HR0
  clear g2
  by_cases g3 : s.toList = [36, 108, 101]
  · have HR : Hold (passP s v (some u) = decide (c ≤ 0)) := ⟨by rw [HR0.out, if_pos (isN_yes g3)]⟩
    clear HR0
    by_cases hc : c ≤ 0
    · replace HR : Hold (passP s v (some u) = true) := ⟨by rw [HR.out]; simp [hc]⟩
      go_enter Tryd.func71, Tryd.ntmps71
      go_wp2_with fail
      refine HX.out.mono ?_
      rintro e w1 ⟨rfl, hb1⟩
      replace H2 := Hold.mk (H2.out.next hb1)
      clear hb1 HX
      go_wp2_with fail
      go_ret
      exact ⟨by rw [HR.out]; first | rfl | (simp; done) | (simp; omega), H2.out.bel⟩
    · replace HR : Hold (passP s v (some u) = false) := ⟨by rw [HR.out]; simp; omega⟩
      go_enter Tryd.func71, Tryd.ntmps71
      go_wp2_with fail
      refine HX.out.mono ?_
      rintro e w1 ⟨rfl, hb1⟩
      replace H2 := Hold.mk (H2.out.next hb1)
      clear hb1 HX
      go_wp2_with fail
      go_ret
      exact ⟨by rw [HR.out]; first | rfl | (simp; done) | (simp; omega), H2.out.bel⟩
  have c3 : (s.toList == [36, 108, 101]) = false := isN_no g3
  rw [if_neg (show ¬ isN s sLe = true by rw [isN_no g3]; simp)] at HR0
  clear g3
  by_cases g4 : s.toList = [36, 103, 116]
  · have HR : Hold (passP s v (some u) = decide (0 < c)) := ⟨by rw [HR0.out, if_pos (isN_yes g4)]⟩
    clear HR0
    by_cases hc : 0 < c
    · replace HR : Hold (passP s v (some u) = true) := ⟨by rw [HR.out]; simp [hc]⟩
      go_enter Tryd.func71, Tryd.ntmps71
      go_wp2_with fail
      refine HX.out.mono ?_
      rintro e w1 ⟨rfl, hb1⟩
      replace H2 := Hold.mk (H2.out.next hb1)
      clear hb1 HX
      go_wp2_with fail
      go_ret
      exact ⟨by rw [HR.out]; first | rfl | (simp; done) | (simp; omega), H2.out.bel⟩
    · replace HR : Hold (passP s v (some u) = false) := ⟨by rw [HR.out]; simp; omega⟩
      go_enter Tryd.func71, Tryd.ntmps71
      go_wp2_with fail
      refine HX.out.mono ?_
      rintro e w1 ⟨rfl, hb1⟩
      replace H2 := Hold.mk (H2.out.next hb1)
      clear hb1 HX
      go_wp2_with fail
      go_ret
      exact ⟨by rw [HR.out]; first | rfl | (simp; done) | (simp; omega), H2.out.bel⟩
  have c4 : (s.toList == [36, 103, 116]) = false := isN_no g4
  rw [if_neg (show ¬ isN s sGt = true by rw [isN_no g4]; simp)] at HR0
  clear g4
  by_cases hc : 0 ≤ c
  · have HR : Hold (passP s v (some u) = true) := ⟨by rw [HR0.out]; simp [hc]⟩
    go_enter Tryd.func71, Tryd.ntmps71
    go_wp2_with fail
    refine HX.out.mono ?_
    rintro e w1 ⟨rfl, hb1⟩
    replace H2 := Hold.mk (H2.out.next hb1)
    clear hb1 HX
    go_wp2_with fail
    go_ret
    exact ⟨by rw [HR.out]; first | rfl | (simp; done) | (simp; omega), H2.out.bel⟩
  · have HR : Hold (passP s v (some u) = false) := ⟨by rw [HR0.out]; simp; omega⟩
    go_enter Tryd.func71, Tryd.ntmps71
    go_wp2_with fail
    refine HX.out.mono ?_
    rintro e w1 ⟨rfl, hb1⟩
    replace H2 := Hold.mk (H2.out.next hb1)
    clear hb1 HX
    go_wp2_with fail
    go_ret
    exact ⟨by rw [HR.out]; first | rfl | (simp; done) | (simp; omega), H2.out.bel⟩

end Go.Proofs.YtkhhbckpddkhlaaDoor

namespace Go.Proofs.YtkhhbckpddkhlaaDoor
open Go.RowKit

theorem walk_formed : ∀ (l : List ByteArray) (d : Nat) (v u : JV), formedF d v = true → walkF l v = some u → ∃ e, e ≤ d ∧ formedF e u = true
  | [], d, v, u, hf, h => by rw [walkF] at h; cases h; exact ⟨d, Nat.le_refl _, hf⟩
  | s :: l, d, v, u, hf, h => by
    rw [walkF] at h
    split at h
    · cases h
    · rw [Option.bind_eq_some_iff] at h
      obtain ⟨x, hx, h⟩ := h
      cases d with
      | zero => simp [formedF] at hf
      | succ d =>
        obtain ⟨e, he, hfe⟩ := walk_formed l d x u (formed_kids hf (List.mem_of_getElem? hx)) h
        exact ⟨e, by omega, hfe⟩
theorem get_formed {doc u : JV} {p : ByteArray} (h : getJ doc p = some u) : formedF 6 u = true := by
  unfold getJ at h
  rw [Option.bind_eq_some_iff] at h
  obtain ⟨l, _, h⟩ := h
  split at h
  · rename_i hf
    obtain ⟨e, he, hfe⟩ := walk_formed l 6 doc u hf h
    exact formed_up hfe he
  · cases h

/-- what holds of the program is known to answer, going down d -/
def HoldsAt (d : Nat) : Prop := ∀ (f doc : JV) (x y : Value) (w : World), formedF d f = true → formedF 6 doc = true → JAt (cf w) f x → JAt (cf w) doc y → Tabs w →
  Calls Tryd.prog 24 #[x, y] w fun e w' => e = .returned (.bool (holdsF passP sameB d f doc)) ∧ Below w.heap.size w w'
def OneAt (d : Nat) : Prop := ∀ (s : ByteArray) (v doc : JV) (x y : Value) (w : World), s.size ≤ 1000000 → formedF d v = true → formedF 6 doc = true → JAt (cf w) v x → JAt (cf w) doc y → Tabs w →
  Calls Tryd.prog 40 #[.string s, x, y] w fun e w' => e = .returned (.bool (oneFF passP sameB (fun g => holdsF passP sameB d g doc) s v doc)) ∧ Below w.heap.size w w'

/-- all before j hold -/
def AllTo {α : Type} (l : List α) (p : α → Bool) (j : Nat) : Prop := ∀ (q : Nat) x, q < j → l[q]? = some x → p x = true
theorem AllTo.next {α : Type} {l : List α} {p : α → Bool} {j : Nat} {x : α} (h : AllTo l p j) (hx : l[j]? = some x) (hp : p x = true) : AllTo l p (j + 1) := fun q y hq hy => by
  by_cases e : q = j
  · subst e; rw [hx] at hy; cases hy; exact hp
  · exact h q y (by omega) hy
theorem AllTo.all {α : Type} {l : List α} {p : α → Bool} {j : Nat} (h : AllTo l p j) (hj : l.length ≤ j) : l.all p = true := all_true (fun q x hq hx => h q x (by omega) hx)

set_option maxRecDepth 100000 in
set_option maxHeartbeats 8000000 in
theorem holds_step (d : Nat) (H : OneAt d) : HoldsAt (d + 1) := by
  intro f doc x y w hf hg hx hy hT
  have HL := Hold.mk (formed_lens hf)
  have HFK := Hold.mk (fun z (hz : z ∈ f.items) => formed_kids hf hz)
  have HNS : Hold (∀ s ∈ f.names, s.size ≤ 1000000) := ⟨fun s hs => by
    obtain ⟨k, n, t, nm, it⟩ := f
    by_cases h5 : k < 5
    · rw [formedF, if_pos h5, Bool.and_eq_true] at hf
      rw [List.length_eq_zero_iff.1 (of_decide_eq_true hf.2).2] at hs; cases hs
    · exact Nat.le_trans (text_size ((formed_body hf h5).2.2.1 s hs)) (by decide)⟩
  obtain ⟨k, n, t, nm, it, na, ncap, ia, icap, rfl, rfl, _, _, _, hst, hit⟩ := hx.open
  obtain ⟨q, m, t2, nu, ju, ma, mcap, ja, jcap, hde, rfl, _⟩ := hy.open
  have H2 := Hold.mk (Two.refl w #[.int .i64 k, .int .i64 n, .string t, .slice na nm.length ncap, .slice ia it.length icap] #[.int .i64 q, .int .i64 m, .string t2, .slice ma nu.length mcap, .slice ja ju.length jcap])
  have HE : Hold (holdsF passP sameB (d + 1) (.mk k n t nm it) doc = (nm.zip it).all (fun p => oneFF passP sameB (fun g => holdsF passP sameB d g doc) p.1 p.2 doc)) := ⟨by rw [holdsF]; rfl⟩
  have HK := Hold.mk hy
  have HG := Hold.mk hg
  have HT := Hold.mk hT
  have HH := Hold.mk H
  obtain ⟨na', ncap', e, hnlen, hns⟩ := hst
  cases e
  obtain ⟨ia', icap', e, hilen, his⟩ := hit
  cases e
  have HN := Hold.mk hns
  have HI := Hold.mk his
  clear hx hy hf hg hT H hde hns his
  go_enter Tryd.func24, Tryd.ntmps24
  go_wp2_with fail
  go_loopw [10] (fun i wr => ∃ j : Nat, i = .int .i64 j ∧ j ≤ nm.length ∧ AllTo (nm.zip it) (fun p => oneFF passP sameB (fun g => holdsF passP sameB d g doc) p.1 p.2 doc) j ∧ Two w wr #[.int .i64 k, .int .i64 n, .string t, .slice na nm.length ncap, .slice ia it.length icap] #[.int .i64 q, .int .i64 m, .string t2, .slice ma nu.length mcap, .slice ja ju.length jcap]) (fun i _ => nm.length - (intOf i).toNat)
  case atStart => exact ⟨0, rfl, Nat.zero_le _, fun q x h => by omega, H2.out⟩
  case round =>
    obtain ⟨j, rfl, hj, hall, h2⟩ := hrel
    clear H2
    have HA := Hold.mk hall
    have H2 := Hold.mk h2
    clear hall h2
    by_cases hlt : j < nm.length
    · have hlt2 : j < it.length := by have h2 : nm.length ≤ it.length := HL.out.2; omega
      obtain ⟨s, hs⟩ : ∃ s, nm[j]? = some s := ⟨nm[j], List.getElem?_eq_getElem hlt⟩
      obtain ⟨x, hx⟩ : ∃ x, it[j]? = some x := ⟨it[j], List.getElem?_eq_getElem hlt2⟩
      obtain ⟨_, sb, so, rfl, hsc⟩ := HN.out j s hs
      obtain ⟨b, off, k2, n2, t3, nm2, it2, na2, ncap2, ia2, icap2, rfl, hxe, x0, x1, x2, x3, x4, hxj⟩ := HI.out j x hx
      have hcl := cle_below H2.out.bel
      have z5 := hcl _ _ _ hsc
      unfold cf at z5
      have g0 := Grow.cell (hcl _ _ _ x0)
      have g1 := Grow.cell (hcl _ _ _ x1)
      have g2 := Grow.cell (hcl _ _ _ x2)
      have g3 := Grow.cell (hcl _ _ _ x3)
      have g4 := Grow.cell (hcl _ _ _ x4)
      obtain ⟨y0, y1, y2, y3, y4⟩ := cells_five H2.out.one
      obtain ⟨v0, v1, v2, v3, v4⟩ := cells_five H2.out.two
      have g5 := Grow.cell y4
      have u0 := Grow.cell v0
      have u1 := Grow.cell v1
      have u2 := Grow.cell v2
      have u3 := Grow.cell v3
      have u4 := Grow.cell v4
      have HC := Hold.mk (Calls.grow (fun e : Grow wr => HH.out s x doc _ _ e.val (HNS.out s (List.mem_of_getElem? hs)) (HFK.out x (List.mem_of_getElem? hx)) HG.out ((hxj.mono hcl).mono (cle_below e.property)) ((HK.out.mono hcl).mono (cle_below e.property)) ((HT.out.below H2.out.bel).below e.property)))
      have HZ := Hold.mk (zip_at hs hx)
      clear x0 x1 x2 x3 x4 hcl hx hxe hxj hsc hs y0 y1 y2 y3 y4 v0 v1 v2 v3 v4
      cases hr : oneFF passP sameB (fun g => holdsF passP sameB d g doc) s x doc with
      | false =>
        rw [hr] at HC
        have HR : Hold (holdsF passP sameB (d + 1) (.mk k n t nm it) doc = false) := ⟨by rw [HE.out]; exact all_false HZ.out hr⟩
        clear hr
        go_wp2_with fail
        refine wp_region_grow (by kernel_rfl) (by kernel_rfl) ?_
        repeat (go_big_quiet_step (exact HC.out _))
        refine wpQuiet_nil ?_
        rintro ⟨w3, hb3⟩
        replace H2 := Hold.mk (H2.out.next hb3)
        simp only
        clear hb3 g0 g1 g2 g3 g4 g5 u0 u1 u2 u3 u4 HC z5
        go_wp2_with fail
        go_ret
        exact ⟨by rw [HR.out]; rfl, H2.out.bel⟩
      | true =>
        rw [hr] at HC
        have HNX := Hold.mk (HA.out.next HZ.out hr)
        clear hr
        go_wp2_with fail
        refine wp_region_grow (by kernel_rfl) (by kernel_rfl) ?_
        repeat (go_big_quiet_step (exact HC.out _))
        refine wpQuiet_nil ?_
        rintro ⟨w3, hb3⟩
        replace H2 := Hold.mk (H2.out.next hb3)
        simp only
        clear hb3 g0 g1 g2 g3 g4 g5 u0 u1 u2 u3 u4 HC z5
        go_wp2_with fail
        exact ⟨⟨j + 1, by go_num, hlt, HNX.out, H2.out⟩, by simp [intOf]; omega⟩
    · have HR : Hold (holdsF passP sameB (d + 1) (.mk k n t nm it) doc = true) := ⟨by rw [HE.out]; exact HA.out.all (by rw [List.length_zip]; omega)⟩
      go_wp2_with fail
      go_ret
      exact ⟨by rw [HR.out]; rfl, H2.out.bel⟩

/-! closures of one -/
theorem enters_one1 (args : Array Value) (w : World) : (callFunc 67 args).run Tryd.prog w = .ok (.enter 67 args) w := enters_of Tryd.func67 (by kernel_rfl) rfl args w
theorem enters_one2 (args : Array Value) (w : World) : (callFunc 68 args).run Tryd.prog w = .ok (.enter 68 args) w := enters_of Tryd.func68 (by kernel_rfl) rfl args w

set_option maxHeartbeats 4000000 in
theorem one1_any (d : Nat) (H : HoldsAt d) (f doc : JV) (db : Nat) (c0 c1 c2 c3 c4 : Value) (fv : Value) (w : World) (hc : w.heap[db]? = some (.cells #[c0, c1, c2, c3, c4] 25 (0, 0))) (hd : JAt (cf w) doc (.agg #[c0, c1, c2, c3, c4])) (hx : JAt (cf w) f fv) (hf : formedF d f = true) (hg : formedF 6 doc = true) (hT : Tabs w) :
    Calls Tryd.prog 67 #[fv, .pointer (some ⟨db, 0, none⟩)] w fun e w' => e = .returned (.bool (!holdsF passP sameB d f doc)) ∧ Below w.heap.size w w' := by
  obtain ⟨q, m, u, nu, ju, ma, mcap, ja, jcap, hbe, rfl, _⟩ := hx.open
  have hlt := heap_lt hc
  obtain ⟨y0, y1, y2, y3, y4⟩ := cells_five hc
  have HB := Hold.mk (Boxed.refl w (.cells #[.int .i64 q, .int .i64 m, .string u, .slice ma nu.length mcap, .slice ja ju.length jcap] 25))
  have HX := Hold.mk (H f doc _ _ _ hf hg (hx.mono (cle_below HB.out.below)) (hd.mono (cle_below HB.out.below)) (hT.below HB.out.below))
  generalize holdsF passP sameB d f doc = r at HX ⊢
  clear hx hbe hc hd hf hg hT H
  go_enter Tryd.func67, Tryd.ntmps67
  go_wp2_with fail
  refine HX.out.mono ?_
  rintro e w1 ⟨rfl, hb1⟩
  replace HB := Hold.mk (HB.out.next hb1)
  clear hb1 HX
  go_wp2_with fail
  go_ret
  exact ⟨rfl, HB.out.below⟩

set_option maxHeartbeats 4000000 in
theorem one2_any (d : Nat) (H : HoldsAt d) (f doc : JV) (db : Nat) (c0 c1 c2 c3 c4 : Value) (fv : Value) (w : World) (hc : w.heap[db]? = some (.cells #[c0, c1, c2, c3, c4] 25 (0, 0))) (hd : JAt (cf w) doc (.agg #[c0, c1, c2, c3, c4])) (hx : JAt (cf w) f fv) (hf : formedF d f = true) (hg : formedF 6 doc = true) (hT : Tabs w) :
    Calls Tryd.prog 68 #[fv, .pointer (some ⟨db, 0, none⟩)] w fun e w' => e = .returned (.bool (holdsF passP sameB d f doc)) ∧ Below w.heap.size w w' := by
  obtain ⟨q, m, u, nu, ju, ma, mcap, ja, jcap, hbe, rfl, _⟩ := hx.open
  have hlt := heap_lt hc
  obtain ⟨y0, y1, y2, y3, y4⟩ := cells_five hc
  have HB := Hold.mk (Boxed.refl w (.cells #[.int .i64 q, .int .i64 m, .string u, .slice ma nu.length mcap, .slice ja ju.length jcap] 25))
  have HX := Hold.mk (H f doc _ _ _ hf hg (hx.mono (cle_below HB.out.below)) (hd.mono (cle_below HB.out.below)) (hT.below HB.out.below))
  generalize holdsF passP sameB d f doc = r at HX ⊢
  clear hx hbe hc hd hf hg hT H
  go_enter Tryd.func68, Tryd.ntmps68
  go_wp2_with fail
  refine HX.out.mono ?_
  rintro e w1 ⟨rfl, hb1⟩
  replace HB := Hold.mk (HB.out.next hb1)
  clear hb1 HX
  go_wp2_with fail
  go_ret
  exact ⟨rfl, HB.out.below⟩

end Go.Proofs.YtkhhbckpddkhlaaDoor

namespace Go.Proofs.YtkhhbckpddkhlaaDoor
open Go.RowKit

section
variable {pass : ByteArray → JV → Option JV → Bool} {eq : JV → JV → Bool} {h : JV → Bool} {s : ByteArray} {v doc : JV}
theorem on_and (h1 : s.toList = sAnd) : oneFF pass eq h s v doc = v.items.all h := by unfold oneFF; rw [if_pos (isN_yes h1)]
theorem on_or (h1 : s.toList = sOr) : oneFF pass eq h s v doc = v.items.any h := by unfold oneFF; rw [if_neg (by rw [isN_ne h1 (by decide)]; simp), if_pos (isN_yes h1)]
theorem on_not (h1 : s.toList = sNot) : oneFF pass eq h s v doc = !h v := by unfold oneFF; rw [if_neg (by rw [isN_ne h1 (by decide)]; simp), if_neg (by rw [isN_ne h1 (by decide)]; simp), if_pos (isN_yes h1)]
theorem on_tests (h1 : ¬ s.toList = sAnd) (h2 : ¬ s.toList = sOr) (h3 : ¬ s.toList = sNot) (ht : testsF v = true) : oneFF pass eq h s v doc = (v.names.zip v.items).all fun p => pass p.1 p.2 (getJ doc s) := by
  unfold oneFF; rw [if_neg (by rw [isN_no h1]; simp), if_neg (by rw [isN_no h2]; simp), if_neg (by rw [isN_no h3]; simp), if_pos ht]
theorem on_some (h1 : ¬ s.toList = sAnd) (h2 : ¬ s.toList = sOr) (h3 : ¬ s.toList = sNot) (ht : testsF v = false) {u : JV} (hu : getJ doc s = some u) : oneFF pass eq h s v doc = eq u v := by
  unfold oneFF; rw [if_neg (by rw [isN_no h1]; simp), if_neg (by rw [isN_no h2]; simp), if_neg (by rw [isN_no h3]; simp), if_neg (by rw [ht]; simp), hu]
theorem on_none (h1 : ¬ s.toList = sAnd) (h2 : ¬ s.toList = sOr) (h3 : ¬ s.toList = sNot) (ht : testsF v = false) (hu : getJ doc s = none) : oneFF pass eq h s v doc = false := by
  unfold oneFF; rw [if_neg (by rw [isN_no h1]; simp), if_neg (by rw [isN_no h2]; simp), if_neg (by rw [isN_no h3]; simp), if_neg (by rw [ht]; simp), hu]
end
theorem all_not_any {α : Type} (l : List α) (p : α → Bool) : (!(l.any fun x => !p x)) = l.all p := by
  induction l with
  | nil => rfl
  | cons x l ih => rw [List.any_cons, List.all_cons, ← ih]; simp

set_option maxRecDepth 100000 in
set_option maxHeartbeats 8000000 in
theorem one_logic (d : Nat) (H : HoldsAt d) (s : ByteArray) (hs : s.toList = sAnd ∨ s.toList = sOr ∨ s.toList = sNot) (v doc : JV) (x y : Value) (w : World) (hf : formedF d v = true) (hg : formedF 6 doc = true) (hx : JAt (cf w) v x) (hy : JAt (cf w) doc y) (hT : Tabs w) :
    Calls Tryd.prog 40 #[.string s, x, y] w fun e w' => e = .returned (.bool (oneFF passP sameB (fun g => holdsF passP sameB d g doc) s v doc)) ∧ Below w.heap.size w w' := by
  have HFK : Hold (∀ z ∈ v.items, formedF d z = true) := ⟨fun z hz => by
    cases d with
    | zero => simp [formedF] at hf
    | succ d => exact formed_mono d z (formed_kids hf hz)⟩
  obtain ⟨k, n, t, nm, it, na, ncap, ia, icap, hve, rfl, _, _, _, _, hit⟩ := hx.open
  obtain ⟨q, m, t2, nu, ju, ma, mcap, ja, jcap, hde, rfl, _⟩ := hy.open
  have H2 := Hold.mk (Two.refl w #[.int .i64 k, .int .i64 n, .string t, .slice na nm.length ncap, .slice ia it.length icap] #[.int .i64 q, .int .i64 m, .string t2, .slice ma nu.length mcap, .slice ja ju.length jcap])
  have HIE : Hold (v.items = it) := ⟨by rw [hve]; rfl⟩
  have HIT := Hold.mk hit
  have HJ := Hold.mk hx
  have HK := Hold.mk hy
  have HF := Hold.mk hf
  have HG := Hold.mk hg
  have HT := Hold.mk hT
  have HH := Hold.mk H
  clear hx hy hf hg hT H hve hde hit
  rcases hs with h1 | h1 | h1
  · have HR : Hold (oneFF passP sameB (fun g => holdsF passP sameB d g doc) s v doc = !(it.any fun g => !holdsF passP sameB d g doc)) := ⟨by rw [on_and h1, HIE.out]; exact (all_not_any it (fun g => holdsF passP sameB d g doc)).symm⟩
    have HX := Hold.mk (itemsAny_any 67 enters_one1 ⟨w.heap.size + 1, 0, none⟩ (fun g => !holdsF passP sameB d g doc) _ it _ (HIT.out.mono (cle_below H2.out.bel)) (fun z hz zv wr hb hzv =>
      one1_any d HH.out z doc (w.heap.size + 1) _ _ _ _ _ zv wr (kept H2.out.two hb) (HK.out.mono ((cle_below H2.out.bel).trans (cle_below hb))) hzv (HFK.out z (by rw [HIE.out]; exact hz)) HG.out ((HT.out.below H2.out.bel).below hb)))
    generalize (it.any fun g => !holdsF passP sameB d g doc) = r at HX HR
    have b1 : s.toList = [36, 97, 110, 100] := h1
    clear h1
    go_enter Tryd.func40, Tryd.ntmps40
    go_wp2_with fail
    refine HX.out.mono ?_
    rintro e w1 ⟨rfl, hb1⟩
    replace H2 := Hold.mk (H2.out.next hb1)
    clear hb1 HX
    go_wp2_with fail
    go_ret
    exact ⟨by rw [HR.out]; rfl, H2.out.bel⟩
  · have HR : Hold (oneFF passP sameB (fun g => holdsF passP sameB d g doc) s v doc = it.any fun g => holdsF passP sameB d g doc) := ⟨by rw [on_or h1, HIE.out]⟩
    have HX := Hold.mk (itemsAny_any 68 enters_one2 ⟨w.heap.size + 1, 0, none⟩ (fun g => holdsF passP sameB d g doc) _ it _ (HIT.out.mono (cle_below H2.out.bel)) (fun z hz zv wr hb hzv =>
      one2_any d HH.out z doc (w.heap.size + 1) _ _ _ _ _ zv wr (kept H2.out.two hb) (HK.out.mono ((cle_below H2.out.bel).trans (cle_below hb))) hzv (HFK.out z (by rw [HIE.out]; exact hz)) HG.out ((HT.out.below H2.out.bel).below hb)))
    generalize (it.any fun g => holdsF passP sameB d g doc) = r at HX HR
    have b1 : s.toList = [36, 111, 114] := h1
    clear h1
    go_enter Tryd.func40, Tryd.ntmps40
    go_wp2_with fail
    refine HX.out.mono ?_
    rintro e w1 ⟨rfl, hb1⟩
    replace H2 := Hold.mk (H2.out.next hb1)
    clear hb1 HX
    go_wp2_with fail
    go_ret
    exact ⟨by rw [HR.out]; rfl, H2.out.bel⟩
  · have HR : Hold (oneFF passP sameB (fun g => holdsF passP sameB d g doc) s v doc = !holdsF passP sameB d v doc) := ⟨on_not h1⟩
    have HX := Hold.mk (HH.out v doc _ _ _ HF.out HG.out (HJ.out.mono (cle_below H2.out.bel)) (HK.out.mono (cle_below H2.out.bel)) (HT.out.below H2.out.bel))
    generalize holdsF passP sameB d v doc = r at HX HR
    have b1 : s.toList = [36, 110, 111, 116] := h1
    clear h1
    go_enter Tryd.func40, Tryd.ntmps40
    go_wp2_with fail
    refine HX.out.mono ?_
    rintro e w1 ⟨rfl, hb1⟩
    replace H2 := Hold.mk (H2.out.next hb1)
    clear hb1 HX
    go_wp2_with fail
    go_ret
    exact ⟨by rw [HR.out]; rfl, H2.out.bel⟩

set_option maxRecDepth 100000 in
set_option maxHeartbeats 8000000 in
theorem one_none (d : Nat) (hd6 : d ≤ 6) (s : ByteArray) (hsz : s.size ≤ 1000000) (h1 : ¬ s.toList = sAnd) (h2 : ¬ s.toList = sOr) (h3 : ¬ s.toList = sNot) (v doc : JV) (hu : getJ doc s = none) (x y : Value) (w : World) (hf : formedF d v = true) (hx : JAt (cf w) v x) (hy : JAt (cf w) doc y) (hT : Tabs w) :
    Calls Tryd.prog 40 #[.string s, x, y] w fun e w' => e = .returned (.bool (oneFF passP sameB (fun g => holdsF passP sameB d g doc) s v doc)) ∧ Below w.heap.size w w' := by
  have HI1 := Hold.mk h1
  have HI2 := Hold.mk h2
  have HI3 := Hold.mk h3
  have b1 : (s.toList == [36, 97, 110, 100]) = false := isN_no h1
  have b2 : (s.toList == [36, 111, 114]) = false := isN_no h2
  have b3 : (s.toList == [36, 110, 111, 116]) = false := isN_no h3
  have HF := Hold.mk hf
  have HF6 := Hold.mk (formed_up hf hd6)
  have HFK : Hold (∀ z ∈ v.items, formedF 6 z = true) := ⟨fun z hz => by
    cases d with
    | zero => simp [formedF] at hf
    | succ d => exact formed_up (formed_kids hf hz) (by omega)⟩
  have HLEN := Hold.mk (formed_lens hf).2
  obtain ⟨k, n, t, nm, it, na, ncap, ia, icap, rfl, rfl, _, _, _, hst, hit⟩ := hx.open
  obtain ⟨q, m, t2, nu, ju, ma, mcap, ja, jcap, hde, rfl, _⟩ := hy.open
  have H2 := Hold.mk (Two.refl w #[.int .i64 k, .int .i64 n, .string t, .slice na nm.length ncap, .slice ia it.length icap] #[.int .i64 q, .int .i64 m, .string t2, .slice ma nu.length mcap, .slice ja ju.length jcap])
  have HST := Hold.mk hst
  have HIT := Hold.mk hit
  have HJ := Hold.mk hx
  have HT := Hold.mk hT
  have HU := Hold.mk hu
  have HGET := Hold.mk (Get_any doc _ s _ (hy.mono (cle_below H2.out.bel)) hsz (hT.below H2.out.bel))
  clear hx hy hf hT hde hst hit hu h1 h2 h3
  go_enter Tryd.func40, Tryd.ntmps40
  go_wp2_with fail
  refine HGET.out.mono ?_
  rintro e w2 ⟨hget, hb2⟩
  have hble := H2.out.bel.size
  replace H2 := Hold.mk (H2.out.next hb2)
  rw [HU.out] at hget
  simp only at hget
  subst hget
  clear hb2 HGET hble
  obtain ⟨y0, y1, y2, y3, y4⟩ := cells_five H2.out.one
  have hl2 := heap_lt H2.out.one
  have HB3 := Hold.mk ((Below.refl _ w2).alloc (Nat.le_refl _) (.cells #[.int .i64 0, .int .i64 0, .string ⟨#[]⟩, .slice none 0 0, .slice none 0 0] 25))
  have HXB : Hold ((w2.alloc (.cells #[.int .i64 0, .int .i64 0, .string ⟨#[]⟩, .slice none 0 0, .slice none 0 0] 25)).heap[w2.heap.size]? = some (.cells #[.int .i64 0, .int .i64 0, .string ⟨#[]⟩, .slice none 0 0, .slice none 0 0] 25 (0, 0))) := ⟨heap_alloc_new w2 _⟩
  have HX := Hold.mk (tests_any (.mk k n t nm it) _ (w2.alloc (.cells #[.int .i64 0, .int .i64 0, .string ⟨#[]⟩, .slice none 0 0, .slice none 0 0] 25)) (HJ.out.mono ((cle_below H2.out.bel).trans (cle_below HB3.out))) ⟨d, HF.out⟩)
  replace H2 := Hold.mk (H2.out.next HB3.out)
  clear HB3
  cases htt : testsF (.mk k n t nm it) with
  | false =>
    rw [htt] at HX
    have HR := Hold.mk (on_none (pass := passP) (eq := sameB) (h := fun g => holdsF passP sameB d g doc) HI1.out HI2.out HI3.out htt HU.out)
    clear htt
    go_wp2_with fail
    refine HX.out.mono ?_
    rintro e w4 ⟨rfl, hb4⟩
    replace H2 := Hold.mk (H2.out.next hb4)
    replace HXB := Hold.mk (kept HXB.out hb4)
    clear hb4 HX y0 y1 y2 y3 y4
    go_wp2_with fail
    go_ret
    exact ⟨by rw [HR.out]; rfl, H2.out.bel⟩
  | true =>
    rw [htt] at HX
    have HC0 := Hold.mk (on_tests (pass := passP) (eq := sameB) (h := fun g => holdsF passP sameB d g doc) (doc := doc) HI1.out HI2.out HI3.out htt)
    rw [HU.out] at HC0
    clear htt
    obtain ⟨na', ncap', e, hnlen, hns⟩ := HST.out
    cases e
    obtain ⟨ia', icap', e, hilen, his⟩ := HIT.out
    cases e
    have HN := Hold.mk hns
    have HI := Hold.mk his
    clear hns his HST HIT
    go_wp2_with fail
    refine HX.out.mono ?_
    rintro e w4 ⟨rfl, hb4⟩
    replace H2 := Hold.mk (H2.out.next hb4)
    replace HXB := Hold.mk (kept HXB.out hb4)
    clear hb4 HX y0 y1 y2 y3 y4
    obtain ⟨y0, y1, y2, y3, y4⟩ := cells_five H2.out.one
    go_wp2_with fail
    clear y0 y1 y2 y3 y4
    go_loopw [49] (fun i wr => ∃ j : Nat, i = .int .i64 j ∧ j ≤ nm.length ∧ AllTo (nm.zip it) (fun p => passP p.1 p.2 (none)) j ∧ Two w wr #[.int .i64 k, .int .i64 n, .string t, .slice na nm.length ncap, .slice ia it.length icap] #[.int .i64 q, .int .i64 m, .string t2, .slice ma nu.length mcap, .slice ja ju.length jcap] ∧ wr.heap[w2.heap.size]? = some (.cells #[.int .i64 0, .int .i64 0, .string ⟨#[]⟩, .slice none 0 0, .slice none 0 0] 25 (0, 0))) (fun i _ => nm.length - (intOf i).toNat)
    case atStart => exact ⟨0, rfl, Nat.zero_le _, fun q x h => by omega, H2.out, HXB.out⟩
    case round =>
      obtain ⟨j, rfl, hj, hall, h2, hxb⟩ := hrel
      clear H2 HXB
      have HA := Hold.mk hall
      have H2 := Hold.mk h2
      have HXB := Hold.mk hxb
      clear hall h2 hxb
      by_cases hlt : j < nm.length
      · have hlt2 : j < it.length := by have h2 : nm.length ≤ it.length := HLEN.out; omega
        obtain ⟨s2, hs2⟩ : ∃ s, nm[j]? = some s := ⟨nm[j], List.getElem?_eq_getElem hlt⟩
        obtain ⟨x2, hx2⟩ : ∃ x, it[j]? = some x := ⟨it[j], List.getElem?_eq_getElem hlt2⟩
        obtain ⟨_, sb, so, rfl, hsc⟩ := HN.out j s2 hs2
        obtain ⟨b, off, k3, n3, t3, nm3, it3, na3, ncap3, ia3, icap3, rfl, hxe, x0, x1, x2c, x3, x4, hxj⟩ := HI.out j x2 hx2
        have hcl := cle_below H2.out.bel
        have z5 := hcl _ _ _ hsc
        unfold cf at z5
        have g0 := Grow.cell (hcl _ _ _ x0)
        have g1 := Grow.cell (hcl _ _ _ x1)
        have g2 := Grow.cell (hcl _ _ _ x2c)
        have g3 := Grow.cell (hcl _ _ _ x3)
        have g4 := Grow.cell (hcl _ _ _ x4)
        obtain ⟨y0, y1, y2, y3, y4⟩ := cells_five H2.out.one
        obtain ⟨v0, v1, v2, v3, v4⟩ := cells_five HXB.out
        have g5 := Grow.cell y4
        have u0 := Grow.cell v0
        have u1 := Grow.cell v1
        have u2 := Grow.cell v2
        have u3 := Grow.cell v3
        have u4 := Grow.cell v4
        have HC := Hold.mk (Calls.grow (fun e : Grow wr => passes_none s2 x2 _ (.int .i64 0) (.int .i64 0) (.string ⟨#[]⟩) (.slice none 0 0) (.slice none 0 0) e.val ((hxj.mono hcl).mono (cle_below e.property))))
        have HZ := Hold.mk (zip_at hs2 hx2)
        clear x0 x1 x2c x3 x4 hcl hx2 hxe hxj hsc hs2 y0 y1 y2 y3 y4 v0 v1 v2 v3 v4
        cases hr : passP s2 x2 (none) with
        | false =>
          rw [hr] at HC
          have HR : Hold (oneFF passP sameB (fun g => holdsF passP sameB d g doc) s (.mk k n t nm it) doc = false) := ⟨by rw [HC0.out]; exact all_false (l := nm.zip it) HZ.out hr⟩
          clear hr
          go_wp2_with fail
          refine wp_region_grow (by kernel_rfl) (by kernel_rfl) ?_
          repeat (go_big_quiet_step (exact HC.out _))
          refine wpQuiet_nil ?_
          rintro ⟨w5, hb5⟩
          replace H2 := Hold.mk (H2.out.next hb5)
          simp only
          clear hb5 g0 g1 g2 g3 g4 g5 u0 u1 u2 u3 u4 HC z5
          go_wp2_with fail
          go_ret
          exact ⟨by rw [HR.out]; rfl, H2.out.bel⟩
        | true =>
          rw [hr] at HC
          have HNX := Hold.mk (HA.out.next HZ.out hr)
          clear hr
          go_wp2_with fail
          refine wp_region_grow (by kernel_rfl) (by kernel_rfl) ?_
          repeat (go_big_quiet_step (exact HC.out _))
          refine wpQuiet_nil ?_
          rintro ⟨w5, hb5⟩
          replace H2 := Hold.mk (H2.out.next hb5)
          replace HXB := Hold.mk (kept HXB.out hb5)
          simp only
          clear hb5 g0 g1 g2 g3 g4 g5 u0 u1 u2 u3 u4 HC z5
          go_wp2_with fail
          exact ⟨⟨j + 1, by go_num, hlt, HNX.out, H2.out, HXB.out⟩, by simp [intOf]; omega⟩
      · have HR : Hold (oneFF passP sameB (fun g => holdsF passP sameB d g doc) s (.mk k n t nm it) doc = true) := ⟨by rw [HC0.out]; exact HA.out.all (l := nm.zip it) (by rw [List.length_zip]; omega)⟩
        go_wp2_with fail
        go_ret
        exact ⟨by rw [HR.out]; rfl, H2.out.bel⟩

set_option maxRecDepth 100000 in
set_option maxHeartbeats 8000000 in
theorem one_some (d : Nat) (hd6 : d ≤ 6) (s : ByteArray) (hsz : s.size ≤ 1000000) (h1 : ¬ s.toList = sAnd) (h2 : ¬ s.toList = sOr) (h3 : ¬ s.toList = sNot) (v doc : JV) (u : JV) (hu : getJ doc s = some u) (x y : Value) (w : World) (hf : formedF d v = true) (hx : JAt (cf w) v x) (hy : JAt (cf w) doc y) (hT : Tabs w) :
    Calls Tryd.prog 40 #[.string s, x, y] w fun e w' => e = .returned (.bool (oneFF passP sameB (fun g => holdsF passP sameB d g doc) s v doc)) ∧ Below w.heap.size w w' := by
  have HI1 := Hold.mk h1
  have HI2 := Hold.mk h2
  have HI3 := Hold.mk h3
  have b1 : (s.toList == [36, 97, 110, 100]) = false := isN_no h1
  have b2 : (s.toList == [36, 111, 114]) = false := isN_no h2
  have b3 : (s.toList == [36, 110, 111, 116]) = false := isN_no h3
  have HF := Hold.mk hf
  have HF6 := Hold.mk (formed_up hf hd6)
  have HFK : Hold (∀ z ∈ v.items, formedF 6 z = true) := ⟨fun z hz => by
    cases d with
    | zero => simp [formedF] at hf
    | succ d => exact formed_up (formed_kids hf hz) (by omega)⟩
  have HLEN := Hold.mk (formed_lens hf).2
  obtain ⟨k, n, t, nm, it, na, ncap, ia, icap, rfl, rfl, _, _, _, hst, hit⟩ := hx.open
  obtain ⟨q, m, t2, nu, ju, ma, mcap, ja, jcap, hde, rfl, _⟩ := hy.open
  have H2 := Hold.mk (Two.refl w #[.int .i64 k, .int .i64 n, .string t, .slice na nm.length ncap, .slice ia it.length icap] #[.int .i64 q, .int .i64 m, .string t2, .slice ma nu.length mcap, .slice ja ju.length jcap])
  have HST := Hold.mk hst
  have HIT := Hold.mk hit
  have HJ := Hold.mk hx
  have HT := Hold.mk hT
  have HU := Hold.mk hu
  have HGET := Hold.mk (Get_any doc _ s _ (hy.mono (cle_below H2.out.bel)) hsz (hT.below H2.out.bel))
  clear hx hy hf hT hde hst hit hu h1 h2 h3
  go_enter Tryd.func40, Tryd.ntmps40
  go_wp2_with fail
  refine HGET.out.mono ?_
  rintro e w2 ⟨hget, hb2⟩
  have hble := H2.out.bel.size
  replace H2 := Hold.mk (H2.out.next hb2)
  rw [HU.out] at hget
  simp only at hget
  obtain ⟨xv, rfl, hxv⟩ := hget
  have hxv2 := hxv.mono (cfU_keep hb2)
  obtain ⟨k9, n9, t9, nm9, it9, na9, ncap9, ia9, icap9, hue, rfl, _⟩ := hxv2.open
  have HXV := Hold.mk hxv2
  have HFU := Hold.mk (get_formed HU.out)
  clear hxv hxv2 hue
  clear hb2 HGET hble
  obtain ⟨y0, y1, y2, y3, y4⟩ := cells_five H2.out.one
  have hl2 := heap_lt H2.out.one
  have HB3 := Hold.mk ((Below.refl _ w2).alloc (Nat.le_refl _) (.cells #[.int .i64 k9, .int .i64 n9, .string t9, .slice na9 nm9.length ncap9, .slice ia9 it9.length icap9] 25))
  have HXB : Hold ((w2.alloc (.cells #[.int .i64 k9, .int .i64 n9, .string t9, .slice na9 nm9.length ncap9, .slice ia9 it9.length icap9] 25)).heap[w2.heap.size]? = some (.cells #[.int .i64 k9, .int .i64 n9, .string t9, .slice na9 nm9.length ncap9, .slice ia9 it9.length icap9] 25 (0, 0))) := ⟨heap_alloc_new w2 _⟩
  have HX := Hold.mk (tests_any (.mk k n t nm it) _ (w2.alloc (.cells #[.int .i64 k9, .int .i64 n9, .string t9, .slice na9 nm9.length ncap9, .slice ia9 it9.length icap9] 25)) (HJ.out.mono ((cle_below H2.out.bel).trans (cle_below HB3.out))) ⟨d, HF.out⟩)
  replace H2 := Hold.mk (H2.out.next HB3.out)
  replace HXV := Hold.mk (HXV.out.mono (cle_below HB3.out))
  clear HB3
  cases htt : testsF (.mk k n t nm it) with
  | false =>
    rw [htt] at HX
    have HR := Hold.mk (on_some (pass := passP) (eq := sameB) (h := fun g => holdsF passP sameB d g doc) HI1.out HI2.out HI3.out htt HU.out)
    clear htt
    go_wp2_with fail
    refine HX.out.mono ?_
    rintro e w4 ⟨rfl, hb4⟩
    replace H2 := Hold.mk (H2.out.next hb4)
    replace HXB := Hold.mk (kept HXB.out hb4)
    replace HXV := Hold.mk (HXV.out.mono (cle_below hb4))
    clear hb4 HX y0 y1 y2 y3 y4
    obtain ⟨y0, y1, y2, y3, y4⟩ := cells_five H2.out.one
    obtain ⟨z0, z1, z2, z3, z4⟩ := cells_five HXB.out
    go_wp2_with fail
    refine (Same_any u (.mk k n t nm it) _ _ _ HXV.out (HJ.out.mono (cle_below H2.out.bel))).mono ?_
    rintro e w5 ⟨rfl, hb5⟩
    replace H2 := Hold.mk (H2.out.next hb5)
    clear hb5 y0 y1 y2 y3 y4 z0 z1 z2 z3 z4
    go_wp2_with fail
    go_ret
    exact ⟨by rw [HR.out]; rfl, H2.out.bel⟩
  | true =>
    rw [htt] at HX
    have HC0 := Hold.mk (on_tests (pass := passP) (eq := sameB) (h := fun g => holdsF passP sameB d g doc) (doc := doc) HI1.out HI2.out HI3.out htt)
    rw [HU.out] at HC0
    clear htt
    obtain ⟨na', ncap', e, hnlen, hns⟩ := HST.out
    cases e
    obtain ⟨ia', icap', e, hilen, his⟩ := HIT.out
    cases e
    have HN := Hold.mk hns
    have HI := Hold.mk his
    clear hns his HST HIT
    go_wp2_with fail
    refine HX.out.mono ?_
    rintro e w4 ⟨rfl, hb4⟩
    replace H2 := Hold.mk (H2.out.next hb4)
    replace HXB := Hold.mk (kept HXB.out hb4)
    replace HXV := Hold.mk (HXV.out.mono (cle_below hb4))
    clear hb4 HX y0 y1 y2 y3 y4
    obtain ⟨y0, y1, y2, y3, y4⟩ := cells_five H2.out.one
    go_wp2_with fail
    clear y0 y1 y2 y3 y4
    go_loopw [49] (fun i wr => ∃ j : Nat, i = .int .i64 j ∧ j ≤ nm.length ∧ AllTo (nm.zip it) (fun p => passP p.1 p.2 (some u)) j ∧ Two w wr #[.int .i64 k, .int .i64 n, .string t, .slice na nm.length ncap, .slice ia it.length icap] #[.int .i64 q, .int .i64 m, .string t2, .slice ma nu.length mcap, .slice ja ju.length jcap] ∧ wr.heap[w2.heap.size]? = some (.cells #[.int .i64 k9, .int .i64 n9, .string t9, .slice na9 nm9.length ncap9, .slice ia9 it9.length icap9] 25 (0, 0)) ∧ JAt (cf wr) u (.agg #[.int .i64 k9, .int .i64 n9, .string t9, .slice na9 nm9.length ncap9, .slice ia9 it9.length icap9])) (fun i _ => nm.length - (intOf i).toNat)
    case atStart => exact ⟨0, rfl, Nat.zero_le _, fun q x h => by omega, H2.out, HXB.out, HXV.out⟩
    case round =>
      obtain ⟨j, rfl, hj, hall, h2, hxb, hxv⟩ := hrel
      clear H2 HXB HXV
      have HA := Hold.mk hall
      have H2 := Hold.mk h2
      have HXB := Hold.mk hxb
      have HXV := Hold.mk hxv
      clear hxv
      clear hall h2 hxb
      by_cases hlt : j < nm.length
      · have hlt2 : j < it.length := by have h2 : nm.length ≤ it.length := HLEN.out; omega
        obtain ⟨s2, hs2⟩ : ∃ s, nm[j]? = some s := ⟨nm[j], List.getElem?_eq_getElem hlt⟩
        obtain ⟨x2, hx2⟩ : ∃ x, it[j]? = some x := ⟨it[j], List.getElem?_eq_getElem hlt2⟩
        obtain ⟨_, sb, so, rfl, hsc⟩ := HN.out j s2 hs2
        obtain ⟨b, off, k3, n3, t3, nm3, it3, na3, ncap3, ia3, icap3, rfl, hxe, x0, x1, x2c, x3, x4, hxj⟩ := HI.out j x2 hx2
        have hcl := cle_below H2.out.bel
        have z5 := hcl _ _ _ hsc
        unfold cf at z5
        have g0 := Grow.cell (hcl _ _ _ x0)
        have g1 := Grow.cell (hcl _ _ _ x1)
        have g2 := Grow.cell (hcl _ _ _ x2c)
        have g3 := Grow.cell (hcl _ _ _ x3)
        have g4 := Grow.cell (hcl _ _ _ x4)
        obtain ⟨y0, y1, y2, y3, y4⟩ := cells_five H2.out.one
        obtain ⟨v0, v1, v2, v3, v4⟩ := cells_five HXB.out
        have g5 := Grow.cell y4
        have u0 := Grow.cell v0
        have u1 := Grow.cell v1
        have u2 := Grow.cell v2
        have u3 := Grow.cell v3
        have u4 := Grow.cell v4
        have HC := Hold.mk (Calls.grow (fun e : Grow wr => passes_some s2 x2 u _ _ e.val ((hxj.mono hcl).mono (cle_below e.property)) (HXV.out.mono (cle_below e.property)) (HFK.out x2 (List.mem_of_getElem? hx2)) HFU.out ((HT.out.below H2.out.bel).below e.property)))
        have HZ := Hold.mk (zip_at hs2 hx2)
        clear x0 x1 x2c x3 x4 hcl hx2 hxe hxj hsc hs2 y0 y1 y2 y3 y4 v0 v1 v2 v3 v4
        cases hr : passP s2 x2 (some u) with
        | false =>
          rw [hr] at HC
          have HR : Hold (oneFF passP sameB (fun g => holdsF passP sameB d g doc) s (.mk k n t nm it) doc = false) := ⟨by rw [HC0.out]; exact all_false (l := nm.zip it) HZ.out hr⟩
          clear hr
          go_wp2_with fail
          refine wp_region_grow (by kernel_rfl) (by kernel_rfl) ?_
          repeat (go_big_quiet_step (exact HC.out _))
          refine wpQuiet_nil ?_
          rintro ⟨w5, hb5⟩
          replace H2 := Hold.mk (H2.out.next hb5)
          simp only
          clear hb5 g0 g1 g2 g3 g4 g5 u0 u1 u2 u3 u4 HC z5
          go_wp2_with fail
          go_ret
          exact ⟨by rw [HR.out]; rfl, H2.out.bel⟩
        | true =>
          rw [hr] at HC
          have HNX := Hold.mk (HA.out.next HZ.out hr)
          clear hr
          go_wp2_with fail
          refine wp_region_grow (by kernel_rfl) (by kernel_rfl) ?_
          repeat (go_big_quiet_step (exact HC.out _))
          refine wpQuiet_nil ?_
          rintro ⟨w5, hb5⟩
          replace H2 := Hold.mk (H2.out.next hb5)
          replace HXB := Hold.mk (kept HXB.out hb5)
          replace HXV := Hold.mk (HXV.out.mono (cle_below hb5))
          simp only
          clear hb5 g0 g1 g2 g3 g4 g5 u0 u1 u2 u3 u4 HC z5
          go_wp2_with fail
          exact ⟨⟨j + 1, by go_num, hlt, HNX.out, H2.out, HXB.out, HXV.out⟩, by simp [intOf]; omega⟩
      · have HR : Hold (oneFF passP sameB (fun g => holdsF passP sameB d g doc) s (.mk k n t nm it) doc = true) := ⟨by rw [HC0.out]; exact HA.out.all (l := nm.zip it) (by rw [List.length_zip]; omega)⟩
        go_wp2_with fail
        go_ret
        exact ⟨by rw [HR.out]; rfl, H2.out.bel⟩

end Go.Proofs.YtkhhbckpddkhlaaDoor

namespace Go.Proofs.YtkhhbckpddkhlaaDoor
open Go.RowKit

theorem one_any (d : Nat) (hd : d ≤ 6) (H : HoldsAt d) : OneAt d := by
  intro s v doc x y w hs hf hg hx hy hT
  by_cases h1 : s.toList = sAnd
  · exact one_logic d H s (.inl h1) v doc x y w hf hg hx hy hT
  by_cases h2 : s.toList = sOr
  · exact one_logic d H s (.inr (.inl h2)) v doc x y w hf hg hx hy hT
  by_cases h3 : s.toList = sNot
  · exact one_logic d H s (.inr (.inr h3)) v doc x y w hf hg hx hy hT
  cases hu : getJ doc s with
  | none => exact one_none d hd s hs h1 h2 h3 v doc hu x y w hf hx hy hT
  | some u => exact one_some d hd s hs h1 h2 h3 v doc u hu x y w hf hx hy hT
theorem holds_any : ∀ d, d ≤ 6 → HoldsAt d
  | 0, _ => fun f doc x y w hf => by simp [formedF] at hf
  | d + 1, hd => holds_step d (one_any d (by omega) (holds_any d (by omega)))

set_option maxHeartbeats 8000000 in
theorem Holds_any (f doc : JV) (x y : Value) (w : World) (hx : JAt (cf w) f x) (hy : JAt (cf w) doc y) (hT : Tabs w) :
    Calls Tryd.prog 11 #[x, y] w fun e w' => e = .returned (.bool (HoldsP f doc)) ∧ Below w.heap.size w w' := by
  obtain ⟨k, n, t, nm, it, na, ncap, ia, icap, hfe, rfl, _⟩ := hx.open
  obtain ⟨q, m, u, nu, ju, ma, mcap, ja, jcap, hde, rfl, _⟩ := hy.open
  have HJ := Hold.mk hx
  have HK := Hold.mk hy
  have HT := Hold.mk hT
  have HQ : Hold (doc.kind = q) := ⟨by rw [hde]; rfl⟩
  have H2 := Hold.mk (Two.refl w #[.int .i64 k, .int .i64 n, .string t, .slice na nm.length ncap, .slice ia it.length icap] #[.int .i64 q, .int .i64 m, .string u, .slice ma nu.length mcap, .slice ja ju.length jcap])
  have HX := Hold.mk (Check_any f _ _ (hx.mono (cle_below H2.out.bel)) (hT.below H2.out.bel))
  clear hx hy hT hfe hde
  have hch : checkF f = 0 ∨ (checkF f == 0) = false := by
    by_cases h : checkF f = 0
    · exact .inl h
    · exact .inr (by simpa using h)
  rcases hch with h0 | h0
  · have HFF : Hold (formedF 6 f = true) := ⟨by unfold checkF at h0; split at h0; assumption; cases h0⟩
    have H0 := Hold.mk h0
    rw [h0] at HX
    clear h0
    go_enter Tryd.func11, Tryd.ntmps11
    go_wp2_with fail
    refine HX.out.mono ?_
    rintro e w1 ⟨rfl, hb1⟩
    replace H2 := Hold.mk (H2.out.next hb1)
    clear hb1 HX
    obtain ⟨y0, y1, y2, y3, y4⟩ := cells_five H2.out.one
    obtain ⟨z0, z1, z2, z3, z4⟩ := cells_five H2.out.two
    by_cases h6 : q = 6
    · subst h6
      have HX := Hold.mk (Formed_any doc _ w1 (HK.out.mono (cle_below H2.out.bel)) (HT.out.below H2.out.bel))
      cases hf : formedF 6 doc with
      | false =>
        rw [hf] at HX
        have HR : Hold (HoldsP f doc = false) := ⟨by unfold HoldsP; rw [hf]; simp⟩
        clear hf
        go_wp2_with fail
        refine HX.out.mono ?_
        rintro e w2 ⟨rfl, hb2⟩
        replace H2 := Hold.mk (H2.out.next hb2)
        clear hb2 HX y0 y1 y2 y3 y4 z0 z1 z2 z3 z4
        go_wp2_with fail
        go_ret
        exact ⟨by rw [HR.out]; rfl, H2.out.bel⟩
      | true =>
        rw [hf] at HX
        have HR : Hold (HoldsP f doc = holdsF passP sameB 6 f doc) := ⟨by unfold HoldsP; rw [hf, H0.out, HQ.out]; simp⟩
        have HFD := Hold.mk hf
        clear hf
        go_wp2_with fail
        refine HX.out.mono ?_
        rintro e w2 ⟨rfl, hb2⟩
        replace H2 := Hold.mk (H2.out.next hb2)
        clear hb2 HX y0 y1 y2 y3 y4 z0 z1 z2 z3 z4
        obtain ⟨y0, y1, y2, y3, y4⟩ := cells_five H2.out.one
        obtain ⟨z0, z1, z2, z3, z4⟩ := cells_five H2.out.two
        go_wp2_with fail
        refine (holds_any 6 (Nat.le_refl 6) f doc _ _ _ HFF.out HFD.out (HJ.out.mono (cle_below H2.out.bel)) (HK.out.mono (cle_below H2.out.bel)) (HT.out.below H2.out.bel)).mono ?_
        rintro e w3 ⟨rfl, hb3⟩
        replace H2 := Hold.mk (H2.out.next hb3)
        clear hb3 y0 y1 y2 y3 y4 z0 z1 z2 z3 z4
        go_wp2_with fail
        go_ret
        exact ⟨by rw [HR.out]; rfl, H2.out.bel⟩
    · have HR : Hold (HoldsP f doc = false) := ⟨by unfold HoldsP; rw [HQ.out]; simp [h6]⟩
      have b6 : (q == 6) = false := by simpa using h6
      clear h6
      go_wp2_with fail
      go_ret
      exact ⟨by rw [HR.out]; rfl, H2.out.bel⟩
  · have HR : Hold (HoldsP f doc = false) := ⟨by unfold HoldsP; rw [show decide (checkF f = 0) = false from decide_eq_false (by simpa using h0)]; simp⟩
    go_enter Tryd.func11, Tryd.ntmps11
    go_wp2_with fail
    refine HX.out.mono ?_
    rintro e w1 ⟨rfl, hb1⟩
    replace H2 := Hold.mk (H2.out.next hb1)
    clear hb1 HX
    go_wp2_with fail
    go_ret
    exact ⟨by rw [HR.out]; rfl, H2.out.bel⟩

end Go.Proofs.YtkhhbckpddkhlaaDoor
