/- Plans: awake; PlanWithin walked. -/
import Derived.Test.YtdajfdahgjhmaaaDoorNB
namespace Go.Proofs.YtdajfdahgjhmaaaDoor
open Go.RowKit

def emptyP : JV := .mk 6 0 ⟨#[]⟩ [] []
abbrev emptyPV : Value := .agg #[.int .i64 6, .int .i64 0, .string ⟨#[]⟩, .slice none 0 0, .slice none 0 0]
theorem emptyP_at (c : CF) : JAt c emptyP emptyPV := JAt.shut (by kernel_rfl) (by kernel_rfl) (by simp [ByteArray.size]) ⟨none, 0, rfl, by simp, fun i s h => by simp at h⟩ ⟨none, 0, rfl, by simp, fun i s h => by simp at h⟩
theorem emptyP_text : textF ⟨#[]⟩ = true := by unfold textF; simp [ByteArray.size, Lib.validD, Lib.validGoD]
theorem emptyP_formed : formedF 6 emptyP = true := by
  have h2 : headOk 6 0 ⟨#[]⟩ := ⟨by omega, by omega, .inr rfl, .inr (by kernel_rfl), emptyP_text⟩
  unfold emptyP
  rw [formedF, decide_eq_true h2, if_neg (by decide)]; rfl
theorem emptyP_check : checkF emptyP = 0 := by
  have h1 : countF 6 emptyP = some 0 := by unfold emptyP; rw [countF, if_pos (show (JV.mk 6 0 ⟨#[]⟩ [] []).kind = 6 from rfl)]; rfl
  unfold checkF; rw [if_pos emptyP_formed, h1]; rfl

theorem al_oldP {w : World} {b : Nat} {o q : Obj} (h : w.heap[b]? = some q) : (w.alloc o).heap[b]? = some q := kept h ((Below.refl _ w).alloc (Nat.le_refl _) o)
theorem setP {w : World} {b o : Nat} {cs : Array Value} {t : TypeId} {u : Value} (h : w.heap[b]? = some (.cells cs t (0, 0))) : (w.setCell ⟨b, o, none⟩ u).heap[b]? = some (.cells (cs.setIfInBounds o u) t (0, 0)) := by
  obtain ⟨hb, he⟩ := Array.getElem?_eq_some_iff.1 h
  show (w.heap.modify b _)[b]? = _
  rw [Array.getElem?_modify]
  simp [h]
theorem twoP (w : World) (o0 o1 : Obj) : ∃ W, W = (w.alloc o0).alloc o1 ∧ Below w.heap.size w W ∧ W.heap[w.heap.size]? = some o0 ∧ W.heap[w.heap.size + 1]? = some o1 := by
  refine ⟨_, rfl, ((Below.refl _ w).alloc (Nat.le_refl _) o0).alloc (by simp) o1, ?_, ?_⟩
  · exact al_oldP (heap_alloc_new w o0)
  · have := heap_alloc_new (w.alloc o0) o1; simpa using this
set_option maxHeartbeats 4000000 in
set_option maxRecDepth 100000 in
theorem MakeE_any (w : World) (hT : Tabs w) :
    Calls Tryd.prog 9 #[emptyPV, .slice none 0 0] w fun e w' => e = .returned (.tuple #[.agg #[.int .i64 (-1), .slice none 0 0, .slice none 0 0], .int .i64 0]) ∧ Below w.heap.size w w' := by
  obtain ⟨W, hW, hB, e0, e1⟩ := twoP w (.cells #[.int .i64 6, .int .i64 0, .string ⟨#[]⟩, .slice none 0 0, .slice none 0 0] 32) (.cells #[.int .i64 0, .slice none 0 0, .slice none 0 0] 24)
  have HB := Hold.mk hB
  have HR := Hold.mk e1
  have HT := Hold.mk hT
  clear hT hB e0 e1
  go_enter Tryd.func9, Tryd.ntmps9
  go_wp2_with fail
  rw [← hW]
  clear hW
  have hc := Check_any emptyP _ W (emptyP_at _) (HT.out.below HB.out)
  rw [emptyP_check] at hc
  refine hc.mono ?_
  clear hc
  rintro e w1 ⟨rfl, hb1⟩
  replace HB := Hold.mk (HB.out.trans (hb1.mono HB.out.size))
  replace HR := Hold.mk (kept HR.out hb1)
  clear hb1
  have HB2 : Hold (Below w.heap.size w (w1.alloc (.cells #[.int .i64 (-1), .slice none 0 0, .slice none 0 0] 24))) := ⟨HB.out.alloc HB.out.size _⟩
  have HR2 : Hold ((w1.alloc (.cells #[.int .i64 (-1), .slice none 0 0, .slice none 0 0] 24)).heap[w.heap.size + 1]? = some (.cells #[.int .i64 0, .slice none 0 0, .slice none 0 0] 24 (0, 0))) := ⟨kept HR.out ((Below.refl _ w1).alloc (Nat.le_refl _) _)⟩
  have HP2 : Hold ((w1.alloc (.cells #[.int .i64 (-1), .slice none 0 0, .slice none 0 0] 24)).heap[w1.heap.size]? = some (.cells #[.int .i64 (-1), .slice none 0 0, .slice none 0 0] 24 (0, 0))) := ⟨heap_alloc_new w1 _⟩
  have hlt := heap_lt HR.out
  go_wp2_with fail
  go_loopw [22] (fun i wr => i = .int .i64 0 ∧ wr.heap[w1.heap.size]? = some (.cells #[.int .i64 (-1), .slice none 0 0, .slice none 0 0] 24 (0, 0)) ∧ wr.heap[w.heap.size + 1]? = some (.cells #[.int .i64 0, .slice none 0 0, .slice none 0 0] 24 (0, 0)) ∧ Below w.heap.size w wr) (fun _ _ => 0)
  case atStart => exact ⟨rfl, HP2.out, HR2.out, HB2.out⟩
  case round =>
    obtain ⟨rfl, hp, hr, hb⟩ := hrel
    clear HB HR HB2 HR2 HP2
    have HB := Hold.mk hb
    have HP := Hold.mk hp
    have HR := Hold.mk hr
    clear hb hp hr
    obtain ⟨y0, y1, y2⟩ := cells_three HP.out
    obtain ⟨r0, r1, r2⟩ := cells_three HR.out
    have f0 := free_box HR.out 0
    have f1 := free_box HR.out 1
    have f2 := free_box HR.out 2
    go_wp2_with fail
    obtain ⟨W2, hW2⟩ : ∃ W2, W2 = ((wr.setCell ⟨w.heap.size + 1, 0, none⟩ (.int .i64 (-1))).setCell ⟨w.heap.size + 1, 1, none⟩ (.slice none 0 0)).setCell ⟨w.heap.size + 1, 2, none⟩ (.slice none 0 0) := ⟨_, rfl⟩
    rw [← hW2]
    have hb : Below w.heap.size w W2 := by rw [hW2]; exact ((HB.out.setCell (by simp) _).setCell (by simp) _).setCell (by simp) _
    have hbk : W2.heap[w.heap.size + 1]? = some (.cells #[.int .i64 (-1), .slice none 0 0, .slice none 0 0] 24 (0, 0)) := by
      rw [hW2, setP (setP (setP HR.out))]; rfl
    obtain ⟨c0, c1, c2⟩ := cells_three hbk
    exact bodyPost_ret (v := .tuple #[.agg #[.int .i64 (-1), .slice none 0 0, .slice none 0 0], .int .i64 0]) (by simp [results, Tryd.results9, go_sem, c0, c1, c2]) rfl ⟨rfl, hb⟩

set_option maxHeartbeats 4000000 in
set_option maxRecDepth 100000 in
theorem awake18_any (w : World) (hT : Tabs w) : Calls Tryd.prog 5 #[] w fun e w' => e = .returned (.bool true) ∧ Below w.heap.size w w' := by
  have HX := Hold.mk (MakeE_any w hT)
  clear hT
  go_enter Tryd.func5, Tryd.ntmps5
  go_wp2_with fail
  refine HX.out.mono ?_
  rintro e w1 ⟨rfl, hb1⟩
  have HB := Hold.mk (hb1.alloc hb1.size (.cells #[.int .i64 (-1), .slice none 0 0, .slice none 0 0] 24))
  clear hb1 HX
  go_wp2_with fail
  go_ret
  exact ⟨rfl, HB.out⟩

set_option maxHeartbeats 8000000 in
set_option maxRecDepth 100000 in
theorem planWithin_walk (p : PX) (k : List UInt8) (v u : Value) (w : World) (hp : PAt (cf w) p v) (hk : BytesAt (cf w) u k) (hT : Tabs w) :
    Calls Tryd.prog 3 #[v, u] w fun e w' => e = .returned (.bool true) ∧ Below w.heap.size w w' := by
  have HP := Hold.mk hp
  have HK := Hold.mk hk
  obtain ⟨fv, tv, rfl, hf, ht⟩ := hp
  obtain ⟨fa, fcap, rfl, _⟩ := id hf
  obtain ⟨ta, tcap, rfl, _⟩ := id ht
  obtain ⟨ka, kcap, rfl, _⟩ := id hk
  have HB := Hold.mk ((Below.refl w.heap.size w).alloc (Nat.le_refl _) (.cells #[.int .i64 p.idx, .slice fa p.from_.length fcap, .slice ta p.to_.length tcap] 24))
  have HX : Hold ((w.alloc (.cells #[.int .i64 p.idx, .slice fa p.from_.length fcap, .slice ta p.to_.length tcap] 24)).heap[w.heap.size]? = some (.cells #[.int .i64 p.idx, .slice fa p.from_.length fcap, .slice ta p.to_.length tcap] 24 (0, 0))) := ⟨heap_alloc_new w _⟩
  have HT := Hold.mk hT
  clear hf ht hk hT
  go_enter Tryd.func3, Tryd.ntmps3
  go_wp2_with fail
  refine (awake18_any _ (HT.out.below HB.out)).mono ?_
  rintro e w1 ⟨rfl, hb1⟩
  replace HB := Hold.mk (HB.out.trans (hb1.mono HB.out.size))
  replace HX := Hold.mk (kept HX.out hb1)
  clear hb1
  obtain ⟨y0, y1, y2⟩ := cells_three HX.out
  by_cases h1 : 1000 < p.from_.length
  · have b1 : (1000 : Int) < (p.from_.length : Int) := by omega
    go_wp2_with fail
    refine (awake18_any _ (HT.out.below HB.out)).mono ?_
    rintro e w2 ⟨rfl, hb2⟩
    replace HB := Hold.mk (HB.out.trans (hb2.mono HB.out.size))
    clear hb2
    go_wp2_with fail
    go_ret
    exact ⟨rfl, HB.out⟩
  · have b1 : ¬ (1000 : Int) < (p.from_.length : Int) := by omega
    by_cases h2 : 1000 < p.to_.length
    · have b2 : (1000 : Int) < (p.to_.length : Int) := by omega
      go_wp2_with fail
      refine (awake18_any _ (HT.out.below HB.out)).mono ?_
      rintro e w2 ⟨rfl, hb2⟩
      replace HB := Hold.mk (HB.out.trans (hb2.mono HB.out.size))
      clear hb2
      go_wp2_with fail
      go_ret
      exact ⟨rfl, HB.out⟩
    · have b2 : ¬ (1000 : Int) < (p.to_.length : Int) := by omega
      by_cases h3 : 1000 < k.length
      · have b3 : (1000 : Int) < (k.length : Int) := by omega
        go_wp2_with fail
        refine (awake18_any _ (HT.out.below HB.out)).mono ?_
        rintro e w2 ⟨rfl, hb2⟩
        replace HB := Hold.mk (HB.out.trans (hb2.mono HB.out.size))
        clear hb2
        go_wp2_with fail
        go_ret
        exact ⟨rfl, HB.out⟩
      · have b3 : ¬ (1000 : Int) < (k.length : Int) := by omega
        clear h1 h2 h3 y0 y1 y2
        have y0 := Grow.cell (cells_three HX.out).1
        have y1 := Grow.cell (cells_three HX.out).2.1
        have y2 := Grow.cell (cells_three HX.out).2.2
        obtain ⟨z0, z1, z2⟩ := cells_three HX.out
        have HQ := Hold.mk (Calls.grow (fun e : Grow w1 => Within_any p k _ _ e.val ((HP.out.mono (cle_below HB.out)).mono (cle_below e.property)) ((HK.out.mono (cle_below HB.out)).mono (cle_below e.property))))
        have HR := Hold.mk (Calls.grow (fun e : Grow w1 => rWithin_any p k _ _ e.val ((HP.out.mono (cle_below HB.out)).mono (cle_below e.property)) ((HK.out.mono (cle_below HB.out)).mono (cle_below e.property))))
        generalize withinF p k = r at HQ HR
        go_wp2_with fail
        clear z0 z1 z2
        refine wp_region_grow (by kernel_rfl) (by kernel_rfl) ?_
        repeat (go_big_quiet_step (first | with_reducible exact HQ.out _ | with_reducible exact HR.out _))
        refine wpQuiet_nil ?_
        rintro ⟨w3, hb3⟩
        have HB4 := Hold.mk (HB.out.trans (hb3.mono HB.out.size))
        simp only
        clear hb3 y0 y1 y2 HQ HR
        go_wp2_with fail
        go_ret
        exact ⟨by simp, HB4.out⟩

end Go.Proofs.YtdajfdahgjhmaaaDoor
