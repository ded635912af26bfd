/- the law JsonSame, walked. -/
import Derived.Test.YthbahjgccipjkaaDoorSC
import Derived.Test.YthbahjgccipjkaaDoorSI
import Derived.Test.YthbahjgccipjkaaDoorPF
namespace Go.Proofs.YthbahjgccipjkaaDoor
open Go.RowKit

theorem printE_cases (a : JV) : (formedF 6 a = true ∧ printE a = 0) ∨ printE a = 2 := by
  unfold printE
  cases h : formedF 6 a with
  | false => exact .inr (by simp)
  | true => exact .inl ⟨rfl, by simp⟩
theorem print_same {a b : JV} (ha : formedF 6 a = true) (hb : formedF 6 b = true) : ((printS a).toList == (printS b).toList) = sameB a b := by
  by_cases h : a = b
  · subst h; rw [sameB_true rfl]; simp
  · rw [sameB_false h]
    refine str_ne fun e => h (show_inj ha hb ?_)
    unfold printS at e
    rw [if_pos ha, if_pos hb] at e
    have := congrArg (fun s : ByteArray => s.data.toList) e
    exact this

set_option maxRecDepth 100000 in
set_option maxHeartbeats 8000000 in
theorem jsonSame_walk (a b : JV) (x y : Value) (w : World) (hx : JAt (cf w) a x) (hy : JAt (cf w) b y) (hT : Tabs w) (hP : Pow w.heap.size w) :
    Calls Tryd.prog 6 #[x, y] w fun e w' => e = .returned (.bool true) ∧ Below w.heap.size w w' := by
  obtain ⟨k, n, t, nm, it, na, ncap, ia, icap, hae, rfl, _⟩ := hx.open
  obtain ⟨q, m, u, nu, ju, ma, mcap, ja, jcap, hbe, rfl, _⟩ := hy.open
  have HJ := Hold.mk hx
  have HK := Hold.mk hy
  have HT := Hold.mk hT
  have HP := Hold.mk hP
  have H2 := Hold.mk (Two.refl w #[.int .i64 k, .int .i64 n, .string t, .slice na nm.length ncap, .slice ia it.length icap] #[.int .i64 q, .int .i64 m, .string u, .slice ma nu.length mcap, .slice ja ju.length jcap])
  clear hx hy hT hP hae hbe
  go_enter Tryd.func6, Tryd.ntmps6
  go_wp2_with fail
  refine (awake_any _ (HT.out.below H2.out.bel)).mono ?_
  rintro e w1 ⟨rfl, hb1⟩
  replace H2 := Hold.mk (H2.out.next hb1)
  obtain ⟨y0, y1, y2, y3, y4⟩ := cells_five H2.out.one
  obtain ⟨z0, z1, z2, z3, z4⟩ := cells_five H2.out.two
  have HY := Hold.mk (few_any HJ.out w1 (cle_below H2.out.bel))
  clear hb1
  cases hf : fewF a with
  | false =>
    rw [hf] at HY
    clear hf
    go_wp2_with fail
    refine HY.out.mono ?_
    rintro e w2 ⟨rfl, hb2⟩
    replace H2 := Hold.mk (H2.out.next hb2)
    clear HY hb2 y0 y1 y2 y3 y4 z0 z1 z2 z3 z4
    go_wp2_with fail
    refine (awake_any _ (HT.out.below H2.out.bel)).mono ?_
    rintro e w3 ⟨rfl, hb3⟩
    replace H2 := Hold.mk (H2.out.next hb3)
    clear hb3
    go_wp2_with fail
    go_ret
    exact ⟨rfl, H2.out.bel⟩
  | true =>
    rw [hf] at HY
    clear hf
    go_wp2_with fail
    refine HY.out.mono ?_
    rintro e w2 ⟨rfl, hb2⟩
    replace H2 := Hold.mk (H2.out.next hb2)
    clear HY hb2 y0 y1 y2 y3 y4 z0 z1 z2 z3 z4
    obtain ⟨y0, y1, y2, y3, y4⟩ := cells_five H2.out.one
    obtain ⟨z0, z1, z2, z3, z4⟩ := cells_five H2.out.two
    have HY := Hold.mk (few_any HK.out w2 (cle_below H2.out.bel))
    cases hf : fewF b with
    | false =>
      rw [hf] at HY
      clear hf
      go_wp2_with fail
      refine HY.out.mono ?_
      rintro e w2 ⟨rfl, hb2⟩
      replace H2 := Hold.mk (H2.out.next hb2)
      clear HY hb2 y0 y1 y2 y3 y4 z0 z1 z2 z3 z4
      go_wp2_with fail
      refine (awake_any _ (HT.out.below H2.out.bel)).mono ?_
      rintro e w3 ⟨rfl, hb3⟩
      replace H2 := Hold.mk (H2.out.next hb3)
      clear hb3
      go_wp2_with fail
      go_ret
      exact ⟨rfl, H2.out.bel⟩
    | true =>
      rw [hf] at HY
      clear hf
      go_wp2_with fail
      refine HY.out.mono ?_
      rintro e w3 ⟨rfl, hb3⟩
      replace H2 := Hold.mk (H2.out.next hb3)
      clear HY hb3 y0 y1 y2 y3 y4 z0 z1 z2 z3 z4
      obtain ⟨y0, y1, y2, y3, y4⟩ := cells_five H2.out.one
      obtain ⟨z0, z1, z2, z3, z4⟩ := cells_five H2.out.two
      go_wp2_with fail
      refine (Same_any a b _ _ _ (HJ.out.mono (cle_below H2.out.bel)) (HK.out.mono (cle_below H2.out.bel))).mono ?_
      rintro e w4 ⟨rfl, hb4⟩
      replace H2 := Hold.mk (H2.out.next hb4)
      clear hb4 y0 y1 y2 y3 y4 z0 z1 z2 z3 z4
      obtain ⟨y0, y1, y2, y3, y4⟩ := cells_five H2.out.one
      obtain ⟨z0, z1, z2, z3, z4⟩ := cells_five H2.out.two
      go_wp2_with fail
      refine (rSame_any a b _ _ _ (HJ.out.mono (cle_below H2.out.bel)) (HK.out.mono (cle_below H2.out.bel))).mono ?_
      rintro e w5 ⟨rfl, hb5⟩
      replace H2 := Hold.mk (H2.out.next hb5)
      clear hb5 y0 y1 y2 y3 y4 z0 z1 z2 z3 z4
      obtain ⟨y0, y1, y2, y3, y4⟩ := cells_five H2.out.one
      obtain ⟨z0, z1, z2, z3, z4⟩ := cells_five H2.out.two
      go_wp2_with fail
      refine (Same_any a a _ _ _ (HJ.out.mono (cle_below H2.out.bel)) (HJ.out.mono (cle_below H2.out.bel))).mono ?_
      rintro e w6 ⟨rfl, hb6⟩
      rw [sameB_true (rfl : a = a)]
      replace H2 := Hold.mk (H2.out.next hb6)
      clear hb6 y0 y1 y2 y3 y4 z0 z1 z2 z3 z4
      obtain ⟨y0, y1, y2, y3, y4⟩ := cells_five H2.out.one
      obtain ⟨z0, z1, z2, z3, z4⟩ := cells_five H2.out.two
      go_wp2_with fail
      refine (Print_any a _ _ (HJ.out.mono (cle_below H2.out.bel)) (HT.out.below H2.out.bel) (HP.out.below H2.out.bel)).mono ?_
      rintro e w7 ⟨rfl, hb7⟩
      replace H2 := Hold.mk (H2.out.next hb7)
      clear hb7 y0 y1 y2 y3 y4 z0 z1 z2 z3 z4
      obtain ⟨y0, y1, y2, y3, y4⟩ := cells_five H2.out.one
      obtain ⟨z0, z1, z2, z3, z4⟩ := cells_five H2.out.two
      go_wp2_with fail
      refine (Print_any b _ _ (HK.out.mono (cle_below H2.out.bel)) (HT.out.below H2.out.bel) (HP.out.below H2.out.bel)).mono ?_
      rintro e w8 ⟨rfl, hb8⟩
      replace H2 := Hold.mk (H2.out.next hb8)
      clear hb8 y0 y1 y2 y3 y4 z0 z1 z2 z3 z4
      rcases printE_cases a with ⟨fa, ea⟩ | ea
      · rcases printE_cases b with ⟨fb, eb⟩ | eb
        · have hps := print_same fa fb
          have FA := Hold.mk fa
          have FB := Hold.mk fb
          clear fa fb
          rw [ea, eb]
          clear ea eb
          go_wp2_with fail
          go_ret
          exact ⟨by simp, H2.out.bel⟩
        · rw [ea, eb]
          clear ea eb fa
          go_wp2_with fail
          go_ret
          exact ⟨rfl, H2.out.bel⟩
      · rw [ea]
        clear ea
        go_wp2_with fail
        go_ret
        exact ⟨rfl, H2.out.bel⟩

end Go.Proofs.YthbahjgccipjkaaDoor
