/- Read of the program, where values are read. -/
import Derived.Test.YticlnijkfclgcaaGreatDoorZ14
namespace Go.Proofs.YticlnijkfclgcaaGreatDoor
open Go.Shelf Go.RowKit

def ReadPost (s : ByteArray) (w : World) (e : Ending) (w' : World) : Prop :=
  Below w.heap.size w w' ∧ ∃ x, e = .returned (.tuple #[x, .int .i64 (readF s.data.toList).2]) ∧ JAt (cfF w.heap.size w') (readF s.data.toList).1 x
theorem zero_at (c : CF) : JAt c zeroJ (.agg zero5R) := jat_leaf c 0 0 ⟨#[]⟩ (by kernel_rfl) (by kernel_rfl) (by decide)
theorem valid_any (s : ByteArray) (w : World) (hs : s.size ≤ 1000000) (hT : Tabs w) :
    Calls Tryz.prog 23 #[.string s] w fun e w' => e = .returned (.bool (Lib.validD s.data.toList)) ∧ Below w.heap.size w w' :=
  Any.utf8_ValidString Tryz.laysValid s w (by omega) hT
theorem read_end {s : ByteArray} {N : Nat} {w w2 : World} (x0 x1 x2 x3 x4 : Value) (hN : N = w.heap.size) (hv : w2.heap[N]? = some (.cells zero5R 58 (0, 0))) (hb : Below w.heap.size w w2) (B : Nat) (hB : w.heap.size < B) (er : Int) (he : er = (readF s.data.toList).2)
    (h1 : JAt (cfF B w2) (readF s.data.toList).1 (.agg #[x0, x1, x2, x3, x4])) :
    ∃ W2, W2 = set5R w2 N x0 x1 x2 x3 x4 ∧ W2.heap[N]? = some (.cells #[x0, x1, x2, x3, x4] 58 (0, 0)) ∧ ReadPost s w (.returned (.tuple #[.agg #[x0, x1, x2, x3, x4], .int .i64 er])) W2 := by
  subst hN he
  exact ⟨_, rfl, set5R_self hv, hb.trans ((set5R_but _ _ _ _ _ _ _).below (Nat.le_refl _) (ltR hv)), _, rfl, (h1.mono (cfF_but (set5R_but _ _ _ _ _ _ _) hB)).mono (cfF_le _ (Nat.le_of_lt hB))⟩
set_option maxHeartbeats 16000000 in
set_option maxRecDepth 100000 in
theorem Read_step (s : ByteArray) (w : World) (hs : s.size ≤ 1000000) (hT : Tabs w) (hE : Errs w.heap.size w)
    (hval : ∀ b w, RB b s 0 false w → Errs b w → Calls Tryz.prog 24 #[.pointer (some ⟨b, 0, none⟩)] w (ResPost b s (valL (2 * s.size + 1) (dl s 0)) w)) :
    Calls Tryz.prog 18 #[.string s] w (ReadPost s w) := by
  obtain ⟨W, hW⟩ : ∃ W, W = w.alloc (.cells zero5R 58) := ⟨_, rfl⟩
  have HB : Hold (Below w.heap.size w W) := ⟨by rw [hW]; exact (Below.refl _ w).alloc (Nat.le_refl _) _⟩
  have HV : Hold (W.heap[w.heap.size]? = some (.cells zero5R 58 (0, 0))) := ⟨by rw [hW]; exact heap_alloc_new w _⟩
  have hWs : w.heap.size < W.heap.size := by rw [hW]; simp
  have HT := Hold.mk hT
  have HE := Hold.mk hE
  have HVAL := Hold.mk hval
  have hsz := size_list s
  clear hT hE hval
  by_cases hlong : 20000 < s.size
  · have HF : Hold (readF s.data.toList = (zeroJ, 3)) := ⟨by unfold readF; rw [if_pos (by rw [hsz]; exact hlong)]⟩
    have k0 : (20000 : Int) < (s.size : Int) := by omega
    have HP := Hold.mk (read_end (s := s) (.int .i64 0) (.int .i64 0) (.string ⟨#[]⟩) (.slice none 0 0) (.slice none 0 0) rfl HV.out HB.out W.heap.size hWs 3 (by rw [HF.out]) (by rw [HF.out]; exact zero_at _))
    have hv2 := HV.out
    clear hlong hsz
    go_enter Tryz.func18, Tryz.ntmps18
    go_upto_region 1 with (fail)
    rw [← hW]
    clear hW
    obtain ⟨v0, v1, v2, v3, v4⟩ := cells5R hv2
    have g0 := freeR hv2 0
    have g1 := freeR hv2 1
    have g2 := freeR hv2 2
    have g3 := freeR hv2 3
    have g4 := freeR hv2 4
    go_wp2_with fail
    clear v0 v1 v2 v3 v4 g0 g1 g2 g3 g4
    obtain ⟨W2, hW2, hv3, hp⟩ := HP.out
    unfold set5R at hW2
    rw [← hW2]
    clear hW2
    obtain ⟨v0, v1, v2, v3, v4⟩ := cells5R hv3
    exact bodyPost_ret (v := .tuple #[.agg zero5R, .int .i64 3]) (by simp [results, Tryz.results18, go_sem, v0, v1, v2, v3, v4]) rfl hp
  · have k0 : ¬ (20000 : Int) < (s.size : Int) := by omega
    have HLN : Hold (¬ 20000 < s.data.toList.length) := ⟨by rw [hsz]; exact hlong⟩
    have HVA := Hold.mk (valid_any s W hs (HT.out.below HB.out))
    clear hlong hsz
    cases hvd : Lib.validD s.data.toList with
    | false =>
      rw [hvd] at HVA
      have HF : Hold (readF s.data.toList = (zeroJ, 2)) := ⟨by unfold readF; rw [if_neg HLN.out, if_pos hvd]⟩
      clear hvd
      go_enter Tryz.func18, Tryz.ntmps18
      go_upto_region 1 with (fail)
      rw [← hW]
      clear hW
      go_wp2_with fail
      refine HVA.out.mono ?_
      rintro e w1 ⟨rfl, hb1⟩
      have hv2 := keptR HV.out hb1
      have HP := Hold.mk (read_end (s := s) (.int .i64 0) (.int .i64 0) (.string ⟨#[]⟩) (.slice none 0 0) (.slice none 0 0) rfl hv2 (HB.out.trans (hb1.mono (Nat.le_of_lt hWs))) W.heap.size hWs 2 (by rw [HF.out]) (by rw [HF.out]; exact zero_at _))
      clear hb1 HVA
      obtain ⟨v0, v1, v2, v3, v4⟩ := cells5R hv2
      have g0 := freeR hv2 0
      have g1 := freeR hv2 1
      have g2 := freeR hv2 2
      have g3 := freeR hv2 3
      have g4 := freeR hv2 4
      go_wp2_with fail
      clear v0 v1 v2 v3 v4 g0 g1 g2 g3 g4
      obtain ⟨W2, hW2, hv3, hp⟩ := HP.out
      unfold set5R at hW2
      rw [← hW2]
      clear hW2
      obtain ⟨v0, v1, v2, v3, v4⟩ := cells5R hv3
      exact bodyPost_ret (v := .tuple #[.agg zero5R, .int .i64 2]) (by simp [results, Tryz.results18, go_sem, v0, v1, v2, v3, v4]) rfl hp
    | true =>
      rw [hvd] at HVA
      have HF : Hold (readF s.data.toList = match valL (2 * s.size + 1) (dl s 0) with
        | none => (zeroJ, 2)
        | some (v, r) => if skipL r = [] then (if formedF 6 v then (v, 0) else (zeroJ, 3)) else (zeroJ, 2)) := ⟨by unfold readF; rw [if_neg HLN.out, if_neg (by rw [hvd]; simp), size_list]; rfl⟩
      clear hvd
      go_enter Tryz.func18, Tryz.ntmps18
      go_upto_region 1 with (fail)
      rw [← hW]
      clear hW
      go_wp2_with fail
      refine HVA.out.mono ?_
      rintro e w1 ⟨rfl, hb1⟩
      replace HV := Hold.mk (keptR HV.out hb1)
      replace HB := Hold.mk (HB.out.trans (hb1.mono (Nat.le_of_lt hWs)))
      have hw1 : w.heap.size < w1.heap.size := Nat.lt_of_lt_of_le hWs hb1.size
      clear hb1 HVA
      obtain ⟨W1, hW1⟩ : ∃ W1, W1 = w1.alloc (.cells #[.string s, .int .i64 0, .bool false] 72) := ⟨_, rfl⟩
      have HR : Hold (RB w1.heap.size s 0 false W1) := ⟨by rw [hW1]; exact heap_alloc_new w1 _, Nat.zero_le _⟩
      have hb1 : Below w1.heap.size w1 W1 := by rw [hW1]; exact (Below.refl _ w1).alloc (Nat.le_refl _) _
      replace HV := Hold.mk (keptR HV.out hb1)
      replace HB := Hold.mk (HB.out.trans (hb1.mono (Nat.le_of_lt hw1)))
      have hb1s : w1.heap.size < W1.heap.size := by rw [hW1]; simp
      replace HE : Hold (Errs w1.heap.size W1) := ⟨by
        have h := HE.out.below HB.out
        exact ⟨Nat.lt_trans h.g1 hw1, Nat.lt_trans h.g2 hw1, h.syn, h.rng⟩⟩
      clear hb1
      go_wp2_with fail
      rw [← hW1]
      clear hW1
      refine (HVAL.out w1.heap.size W1 HR.out HE.out).mono ?_
      rintro e w2 ⟨hb2, bd, x, j, rfl, ⟨xk, xn, xt, xna, xnl, xnc, xia, xil, xic, rfl⟩, hr2, hf, ht⟩
      have hv2 := But.keep hb2 HV.out (by omega)
      have hb2' := hb2.below (Nat.le_of_lt hw1) hb1s
      have hs2 := hb2.size
      obtain ⟨W3, hW3⟩ : ∃ W3, W3 = w2.alloc (.cells #[.int .i64 xk, .int .i64 xn, .string xt, .slice xna xnl xnc, .slice xia xil xic] 58) := ⟨_, rfl⟩
      have hb3 : Below w2.heap.size w2 W3 := by rw [hW3]; exact (Below.refl _ w2).alloc (Nat.le_refl _) _
      have HX3 : Hold (W3.heap[w2.heap.size]? = some (.cells #[.int .i64 xk, .int .i64 xn, .string xt, .slice xna xnl xnc, .slice xia xil xic] 58 (0, 0))) := ⟨by rw [hW3]; exact heap_alloc_new w2 _⟩
      have HR3 := Hold.mk (hr2.below hb3)
      have HV3 := Hold.mk (keptR hv2 hb3)
      have HB3 : Hold (Below w.heap.size w W3) := ⟨(HB.out.trans hb2').trans (hb3.mono (by omega))⟩
      have HJ3 : Hold (bd = false → ∃ v, valL (2 * s.size + 1) (dl s 0) = some (v, dl s j) ∧ JAt (cfF W1.heap.size W3) v (.agg #[.int .i64 xk, .int .i64 xn, .string xt, .slice xna xnl xnc, .slice xia xil xic])) := ⟨fun h => by
        obtain ⟨v, hv, hj⟩ := hf h
        exact ⟨v, hv, hj.mono (cfF_below hb3)⟩⟩
      have HT3 := Hold.mk ht
      have hX3 : w1.heap.size < w2.heap.size := by omega
      clear hb2 hf ht hr2 hv2 hb2' hb3 hs2 HR HV HB HE HVAL
      go_wp2_with fail
      rw [← hW3]
      clear hW3
      refine (peek_any w1.heap.size s j bd W3 HR3.out hs).mono ?_
      rintro e w4 ⟨j2, hj2, _, rfl, hr4, hb4⟩
      have hW3s : w1.heap.size < W3.heap.size := HR3.out.lt
      have hb4' := hb4.below (Nat.le_of_lt hw1) hW3s
      have HV4 := Hold.mk (But.keep hb4 HV3.out (by omega))
      have HX4 := Hold.mk (But.keep hb4 HX3.out (by omega))
      have HB4 : Hold (Below w.heap.size w w4) := ⟨HB3.out.trans hb4'⟩
      have HJ4 : Hold (bd = false → ∃ v, valL (2 * s.size + 1) (dl s 0) = some (v, dl s j) ∧ JAt (cfF W1.heap.size w4) v (.agg #[.int .i64 xk, .int .i64 xn, .string xt, .slice xna xnl xnc, .slice xia xil xic])) := ⟨fun h => by
        obtain ⟨v, hv, hj⟩ := HJ3.out h
        exact ⟨v, hv, hj.mono (cfF_but hb4 hb1s)⟩⟩
      have HJ2 := Hold.mk hj2
      have x0 := hr4.c0
      have x1 := hr4.c1
      have x2 := hr4.c2
      have hj2s := hr4.le
      have hW1w : w.heap.size < W1.heap.size := by omega
      clear hb4 hb4' hj2 hr4 HV3 HX3 HB3 HJ3 HR3
      have hways : (bd = true ∨ bd = false ∧ j2 < s.size) ∨ (bd = false ∧ j2 = s.size) := by
        cases bd
        · rcases Nat.lt_or_ge j2 s.size with h | h
          · exact .inl (.inr ⟨rfl, h⟩)
          · exact .inr ⟨rfl, by omega⟩
        · exact .inl (.inl rfl)
      rcases hways with hbad | ⟨rfl, rfl⟩
      · have HFF : Hold (readF s.data.toList = (zeroJ, 2)) := ⟨by
          rw [HF.out]
          rcases hbad with rfl | ⟨rfl, hlt⟩
          · rw [HT3.out rfl]
          · obtain ⟨v, hv, _⟩ := HJ4.out rfl
            rw [hv]
            dsimp only
            rw [if_neg (by rw [← HJ2.out, dl_cons hlt]; simp)]⟩
        have HP := Hold.mk (read_end (s := s) (.int .i64 0) (.int .i64 0) (.string ⟨#[]⟩) (.slice none 0 0) (.slice none 0 0) rfl HV4.out HB4.out W1.heap.size hW1w 2 (by rw [HFF.out]) (by rw [HFF.out]; exact zero_at _))
        have hv2 := HV4.out
        clear HF HFF HJ2 HJ4 HT3
        obtain ⟨v0, v1, v2, v3, v4⟩ := cells5R hv2
        have g0 := freeR hv2 0
        have g1 := freeR hv2 1
        have g2 := freeR hv2 2
        have g3 := freeR hv2 3
        have g4 := freeR hv2 4
        rcases hbad with rfl | ⟨rfl, hlt⟩
        all_goals
          go_wp2_with fail
          clear v0 v1 v2 v3 v4 g0 g1 g2 g3 g4
          obtain ⟨W5, hW5, hv3, hp⟩ := HP.out
          unfold set5R at hW5
          rw [← hW5]
          clear hW5
          obtain ⟨v0, v1, v2, v3, v4⟩ := cells5R hv3
          exact bodyPost_ret (v := .tuple #[.agg zero5R, .int .i64 2]) (by simp [results, Tryz.results18, go_sem, v0, v1, v2, v3, v4]) rfl hp
      · obtain ⟨v, hv, hj⟩ := HJ4.out rfl
        have HFF : Hold (readF s.data.toList = if formedF 6 v then (v, 0) else (zeroJ, 3)) := ⟨by
          rw [HF.out, hv]
          dsimp only
          rw [if_pos (by rw [← HJ2.out, dl_end])]⟩
        have HJV := Hold.mk hj
        have HFO := Hold.mk (Formed_any v _ w4 (hj.mono (cfF_cf _ _)) (HT.out.below HB4.out))
        clear HF HJ2 HJ4 HT3 hv hj
        obtain ⟨y0, y1, y2, y3, y4⟩ := cells5R HX4.out
        cases hfo : formedF 6 v with
        | false =>
          rw [hfo] at HFO HFF
          clear hfo
          go_wp2_with fail
          refine HFO.out.mono ?_
          rintro e w5 ⟨rfl, hb5⟩
          have hv2 := keptR HV4.out hb5
          have HP := Hold.mk (read_end (s := s) (.int .i64 0) (.int .i64 0) (.string ⟨#[]⟩) (.slice none 0 0) (.slice none 0 0) rfl hv2 (HB4.out.trans (hb5.mono HB4.out.size)) W1.heap.size hW1w 3 (by rw [HFF.out]; rfl) (by rw [HFF.out]; exact zero_at _))
          clear hb5 HFO HJV y0 y1 y2 y3 y4
          obtain ⟨v0, v1, v2, v3, v4⟩ := cells5R hv2
          have g0 := freeR hv2 0
          have g1 := freeR hv2 1
          have g2 := freeR hv2 2
          have g3 := freeR hv2 3
          have g4 := freeR hv2 4
          go_wp2_with fail
          clear v0 v1 v2 v3 v4 g0 g1 g2 g3 g4
          obtain ⟨W6, hW6, hv3, hp⟩ := HP.out
          unfold set5R at hW6
          rw [← hW6]
          clear hW6
          obtain ⟨v0, v1, v2, v3, v4⟩ := cells5R hv3
          exact bodyPost_ret (v := .tuple #[.agg zero5R, .int .i64 3]) (by simp [results, Tryz.results18, go_sem, v0, v1, v2, v3, v4]) rfl hp
        | true =>
          rw [hfo] at HFO HFF
          clear hfo
          go_wp2_with fail
          refine HFO.out.mono ?_
          rintro e w5 ⟨rfl, hb5⟩
          have hv2 := keptR HV4.out hb5
          have hx2 := keptR HX4.out hb5
          have HP := Hold.mk (read_end (s := s) (.int .i64 xk) (.int .i64 xn) (.string xt) (.slice xna xnl xnc) (.slice xia xil xic) rfl hv2 (HB4.out.trans (hb5.mono HB4.out.size)) W1.heap.size hW1w 0 (by rw [HFF.out]; rfl) (by rw [HFF.out]; exact HJV.out.mono (cfF_below hb5)))
          have hlx := ltR hx2
          clear hb5 HFO HJV y0 y1 y2 y3 y4
          obtain ⟨y0, y1, y2, y3, y4⟩ := cells5R hx2
          obtain ⟨v0, v1, v2, v3, v4⟩ := cells5R hv2
          have g0 := freeR hv2 0
          have g1 := freeR hv2 1
          have g2 := freeR hv2 2
          have g3 := freeR hv2 3
          have g4 := freeR hv2 4
          go_wp2_with fail
          clear v0 v1 v2 v3 v4 g0 g1 g2 g3 g4 y0 y1 y2 y3 y4
          obtain ⟨W6, hW6, hv3, hp⟩ := HP.out
          unfold set5R at hW6
          rw [← hW6]
          clear hW6
          obtain ⟨v0, v1, v2, v3, v4⟩ := cells5R hv3
          exact bodyPost_ret (v := .tuple #[.agg #[.int .i64 xk, .int .i64 xn, .string xt, .slice xna xnl xnc, .slice xia xil xic], .int .i64 0]) (by simp [results, Tryz.results18, go_sem, v0, v1, v2, v3, v4]) rfl hp
end Go.Proofs.YticlnijkfclgcaaGreatDoor
