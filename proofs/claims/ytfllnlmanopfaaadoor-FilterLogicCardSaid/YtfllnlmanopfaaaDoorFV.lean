/- the law FilterIn, walked. -/
import Derived.Test.YtfllnlmanopfaaaDoorFU
namespace Go.Proofs.YtfllnlmanopfaaaDoor
open Go.RowKit

/-- boxes of values that a law lays -/
structure Bx (w wr : World) (l : List (Nat × Array Value)) : Prop where
  bel : Below w.heap.size w wr
  box : ∀ p ∈ l, wr.heap[p.1]? = some (.cells p.2 25 (0, 0))
theorem Bx.next {w wr w' : World} {l : List (Nat × Array Value)} (h : Bx w wr l) (hb : Below wr.heap.size wr w') : Bx w w' l :=
  ⟨h.bel.trans (hb.mono h.bel.size), fun p hp => kept (h.box p hp) hb⟩
theorem Bx.add {w wr : World} {l : List (Nat × Array Value)} (h : Bx w wr l) (n : Nat) (hn : n = wr.heap.size) (cs : Array Value) : Bx w (wr.alloc (.cells cs 25)) ((n, cs) :: l) :=
  ⟨h.bel.alloc h.bel.size _, fun p hp => by
    rcases List.mem_cons.1 hp with rfl | hp
    · exact al_new hn
    · exact al_old (h.box p hp)⟩
theorem Bx.hd {w wr : World} {l : List (Nat × Array Value)} {n : Nat} {cs : Array Value} (h : Bx w wr ((n, cs) :: l)) : wr.heap[n]? = some (.cells cs 25 (0, 0)) := h.box (n, cs) (by simp)
theorem Bx.tl {w wr : World} {l : List (Nat × Array Value)} {p : Nat × Array Value} (h : Bx w wr (p :: l)) : Bx w wr l := ⟨h.bel, fun q hq => h.box q (by simp [hq])⟩
theorem Bx.nil (w : World) : Bx w w [] := ⟨Below.refl _ _, fun p hp => by cases hp⟩

abbrev A5 (k n : Int) (t : ByteArray) (na : Option Addr) (nl ncap : Nat) (ia : Option Addr) (il icap : Nat) : Array Value := #[.int .i64 k, .int .i64 n, .string t, .slice na nl ncap, .slice ia il icap]

theorem three (w : World) (o0 o1 o2 : Obj) : ∃ W, W = (((w.alloc o0).alloc o1).alloc o2) ∧ Below w.heap.size w W ∧ W.heap[w.heap.size]? = some o0 ∧ W.heap[w.heap.size + 1]? = some o1 ∧ W.heap[w.heap.size + 1 + 1]? = some o2 := by
  refine ⟨_, rfl, ?_, ?_, ?_, ?_⟩
  · exact (((Below.refl _ w).alloc (Nat.le_refl _) o0).alloc (by simp) o1).alloc (by simp; omega) o2
  · exact al_old (al_old (al_new rfl))
  · exact al_old (al_new (by simp))
  · exact al_new (by simp)
theorem pair_at {w : World} {b : Nat} {x y : JV} {c0 c1 c2 c3 c4 d0 d1 d2 d3 d4 : Value} (h : w.heap[b]? = some (.cells #[c0, c1, c2, c3, c4, d0, d1, d2, d3, d4] 25 (0, 0))) (hx : JAt (cf w) x (.agg #[c0, c1, c2, c3, c4])) (hy : JAt (cf w) y (.agg #[d0, d1, d2, d3, d4])) :
    JAt (cf w) (.mk 5 0 ⟨#[]⟩ [] [x, y]) (.agg #[.int .i64 5, .int .i64 0, .string ⟨#[]⟩, .slice none 0 0, .slice (some ⟨b, 0, none⟩) 2 2]) :=
  JAt.shut (by kernel_rfl) (by kernel_rfl) (by simp [ByteArray.size]) (strs0 _) (items2 h hx hy)

set_option maxRecDepth 100000 in
set_option maxHeartbeats 16000000 in
theorem filterIn_walk (x a b : JV) (xv av bv : Value) (w : World) (hx : JAt (cf w) x xv) (ha : JAt (cf w) a av) (hb : JAt (cf w) b bv) (hT : Tabs w) :
    Calls Tryd.prog 6 #[xv, av, bv] w fun e w' => e = .returned (.bool true) ∧ Below w.heap.size w w' := by
  obtain ⟨k, n, t, nm, it, na, ncap, ia, icap, hxe, rfl, _⟩ := hx.open
  obtain ⟨k2, n2, t2, nm2, it2, na2, ncap2, ia2, icap2, hae, rfl, _⟩ := ha.open
  obtain ⟨k3, n3, t3, nm3, it3, na3, ncap3, ia3, icap3, hbe, rfl, _⟩ := hb.open
  have HX := Hold.mk hx
  have HA := Hold.mk ha
  have HB := Hold.mk hb
  have HT := Hold.mk hT
  have H3 := Hold.mk ((((Bx.nil w).add w.heap.size rfl (A5 k n t na nm.length ncap ia it.length icap)).add (w.heap.size + 1) (by simp) (A5 k2 n2 t2 na2 nm2.length ncap2 ia2 it2.length icap2)).add (w.heap.size + 1 + 1) (by simp) (A5 k3 n3 t3 na3 nm3.length ncap3 ia3 it3.length icap3))
  clear hx ha hb hT hxe hae hbe
  go_enter Tryd.func6, Tryd.ntmps6
  go_wp2_with fail
  refine (awake15_any _ (HT.out.below H3.out.bel)).mono ?_
  rintro e w1 ⟨rfl, hb1⟩
  replace H3 := Hold.mk (H3.out.next hb1)
  clear hb1
  obtain ⟨y0, y1, y2, y3, y4⟩ := cells_five H3.out.tl.tl.hd
  obtain ⟨z0, z1, z2, z3, z4⟩ := cells_five H3.out.tl.hd
  obtain ⟨v0, v1, v2, v3, v4⟩ := cells_five H3.out.hd
  go_wp2_with fail
  have hf3 := few15_any _ [x, a, b] _ (items3 (t := 25) (fr := (0, 0)) (al_new (w := w1) rfl) ((HX.out.mono (cle_below H3.out.bel)).mono (cle_alloc _ _)) ((HA.out.mono (cle_below H3.out.bel)).mono (cle_alloc _ _)) ((HB.out.mono (cle_below H3.out.bel)).mono (cle_alloc _ _)))
  refine hf3.mono ?_
  clear hf3
  rintro e w2 ⟨rfl, hb2⟩
  replace H3 := Hold.mk ((H3.out.next ((Below.refl _ w1).alloc (Nat.le_refl _) _)).next hb2)
  clear hb2 y0 y1 y2 y3 y4 z0 z1 z2 z3 z4 v0 v1 v2 v3 v4
  cases hfew : [x, a, b].all fewF with
  | false =>
    clear hfew
    go_wp2_with fail
    refine (awake15_any _ (HT.out.below H3.out.bel)).mono ?_
    rintro e w3 ⟨rfl, hb3⟩
    replace H3 := Hold.mk (H3.out.next hb3)
    clear hb3
    go_wp2_with fail
    go_ret
    exact ⟨rfl, H3.out.bel⟩
  | true =>
    clear hfew
    obtain ⟨y0, y1, y2, y3, y4⟩ := cells_five H3.out.tl.tl.hd
    have hlt1 := heap_lt H3.out.tl.tl.hd
    go_wp2_with fail
    obtain ⟨W, hW, hB, e0, e1, e2⟩ := three w2 (.cells #[.string ⟨#[97]⟩] 9) (.cells #[.int .i64 k, .int .i64 n, .string t, .slice na nm.length ncap, .slice ia it.length icap] 25) (.cells #[.int .i64 6, .int .i64 0, .string ⟨#[]⟩, .slice (some ⟨w2.heap.size, 0, none⟩) 1 1, .slice (some ⟨w2.heap.size + 1, 0, none⟩) 1 1] 25)
    rw [← hW]
    replace H3 := Hold.mk (H3.out.next hB)
    have HJD := Hold.mk (one_at e0 (by simp [ByteArray.size]) e1 (HX.out.mono (cle_below H3.out.bel)))
    have HD := Hold.mk e2
    clear hW hB e0 e1 e2 y0 y1 y2 y3 y4 hlt1
    have HFM := Hold.mk (Formed_any (oneJ nA x) _ W HJD.out (HT.out.below H3.out.bel))
    cases hf : formedF 6 (oneJ nA x) with
    | false =>
      rw [hf] at HFM
      clear hf
      refine HFM.out.mono ?_
      rintro e w3 ⟨rfl, hb3⟩
      replace H3 := Hold.mk (H3.out.next hb3)
      clear hb3 HFM
      go_wp2_with fail
      go_ret
      exact ⟨rfl, H3.out.bel⟩
    | true =>
      rw [hf] at HFM
      have HF := Hold.mk hf
      clear hf
      refine HFM.out.mono ?_
      rintro e w3 ⟨rfl, hb3⟩
      replace H3 := Hold.mk (H3.out.next hb3)
      replace HJD := Hold.mk (HJD.out.mono (cle_below hb3))
      replace HD := Hold.mk (kept HD.out hb3)
      clear hb3 HFM
      obtain ⟨y0, y1, y2, y3, y4⟩ := cells_five HD.out
      obtain ⟨z0, z1, z2, z3, z4⟩ := cells_five H3.out.tl.hd
      obtain ⟨v0, v1, v2, v3, v4⟩ := cells_five H3.out.hd
      go_wp2_with fail
      have hB4 := (Below.refl _ w3).alloc (Nat.le_refl _) (.cells #[.int .i64 k2, .int .i64 n2, .string t2, .slice na2 nm2.length ncap2, .slice ia2 it2.length icap2, .int .i64 k3, .int .i64 n3, .string t3, .slice na3 nm3.length ncap3, .slice ia3 it3.length icap3] 25)
      have hask := ask_any (oneJ nA x) (.mk 5 0 ⟨#[]⟩ [] [a, b]) nA nIn _ _ _ (by simp [ByteArray.size]) (by simp [ByteArray.size]) (HJD.out.mono (cle_below hB4)) (pair_at (al_new (w := w3) rfl) ((HA.out.mono (cle_below H3.out.bel)).mono (cle_below hB4)) ((HB.out.mono (cle_below H3.out.bel)).mono (cle_below hB4))) ((HT.out.below H3.out.bel).below hB4)
      refine hask.mono ?_
      clear hask
      rintro e w4 ⟨rfl, hb4⟩
      replace hb4 := hB4.trans (hb4.mono hB4.size)
      replace H3 := Hold.mk (H3.out.next hb4)
      replace HJD := Hold.mk (HJD.out.mono (cle_below hb4))
      replace HD := Hold.mk (kept HD.out hb4)
      clear hb4 hB4 y0 y1 y2 y3 y4 z0 z1 z2 z3 z4 v0 v1 v2 v3 v4
      obtain ⟨y0, y1, y2, y3, y4⟩ := cells_five HD.out
      obtain ⟨z0, z1, z2, z3, z4⟩ := cells_five H3.out.tl.hd
      go_wp2_with fail
      refine (ask_any (oneJ nA x) a nA nEq _ _ _ (by simp [ByteArray.size]) (by simp [ByteArray.size]) HJD.out (HA.out.mono (cle_below H3.out.bel)) (HT.out.below H3.out.bel)).mono ?_
      rintro e w5 ⟨rfl, hb5⟩
      replace H3 := Hold.mk (H3.out.next hb5)
      replace HJD := Hold.mk (HJD.out.mono (cle_below hb5))
      replace HD := Hold.mk (kept HD.out hb5)
      clear hb5 y0 y1 y2 y3 y4 z0 z1 z2 z3 z4
      obtain ⟨y0, y1, y2, y3, y4⟩ := cells_five HD.out
      obtain ⟨z0, z1, z2, z3, z4⟩ := cells_five H3.out.hd
      go_wp2_with fail
      refine (ask_any (oneJ nA x) b nA nEq _ _ _ (by simp [ByteArray.size]) (by simp [ByteArray.size]) HJD.out (HB.out.mono (cle_below H3.out.bel)) (HT.out.below H3.out.bel)).mono ?_
      rintro e w6 ⟨rfl, hb6⟩
      replace H3 := Hold.mk (H3.out.next hb6)
      clear hb6 y0 y1 y2 y3 y4 z0 z1 z2 z3 z4
      have hlaw : (checkF (askJ nA nIn (.mk 5 0 ⟨#[]⟩ [] [a, b])) == 0) = true → (checkF (askJ nA nEq a) == 0) = true → (checkF (askJ nA nEq b) == 0) = true →
          HoldsP (askJ nA nIn (.mk 5 0 ⟨#[]⟩ [] [a, b])) (oneJ nA x) = (HoldsP (askJ nA nEq a) (oneJ nA x) || HoldsP (askJ nA nEq b) (oneJ nA x)) := fun h1 h2 h3 =>
        in_law HF.out (by simpa using h1) (by simpa using h2) (by simpa using h3)
      clear HF HJD HD
      generalize (checkF (askJ nA nIn (.mk 5 0 ⟨#[]⟩ [] [a, b])) == 0) = p1 at hlaw ⊢
      generalize (checkF (askJ nA nEq a) == 0) = p2 at hlaw ⊢
      generalize (checkF (askJ nA nEq b) == 0) = p3 at hlaw ⊢
      generalize HoldsP (askJ nA nIn (.mk 5 0 ⟨#[]⟩ [] [a, b])) (oneJ nA x) = q1 at hlaw ⊢
      generalize HoldsP (askJ nA nEq a) (oneJ nA x) = q2 at hlaw ⊢
      generalize HoldsP (askJ nA nEq b) (oneJ nA x) = q3 at hlaw ⊢
      have hall : p1 = false ∨ (p1 = true ∧ p2 = false) ∨ (p1 = true ∧ p2 = true ∧ p3 = false) ∨ (p1 = true ∧ p2 = true ∧ p3 = true ∧ q1 = (q2 || q3)) := by
        cases p1
        · exact .inl rfl
        · cases p2
          · exact .inr (.inl ⟨rfl, rfl⟩)
          · cases p3
            · exact .inr (.inr (.inl ⟨rfl, rfl, rfl⟩))
            · exact .inr (.inr (.inr ⟨rfl, rfl, rfl, hlaw rfl rfl rfl⟩))
      clear hlaw
      rcases hall with rfl | ⟨rfl, rfl⟩ | ⟨rfl, rfl, rfl⟩ | ⟨rfl, rfl, rfl, rfl⟩
      · go_wp2_with fail
        go_ret
        exact ⟨rfl, H3.out.bel⟩
      · go_wp2_with fail
        go_ret
        exact ⟨rfl, H3.out.bel⟩
      · go_wp2_with fail
        go_ret
        exact ⟨rfl, H3.out.bel⟩
      · cases q2 <;> cases q3
        all_goals
          go_wp2_with fail
          go_ret
          exact ⟨rfl, H3.out.bel⟩

end Go.Proofs.YtfllnlmanopfaaaDoor
