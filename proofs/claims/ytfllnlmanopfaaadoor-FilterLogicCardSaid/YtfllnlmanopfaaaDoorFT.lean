/- Filters: ask. -/
import Derived.Test.YtfllnlmanopfaaaDoorFS
namespace Go.Proofs.YtfllnlmanopfaaaDoor
open Go.RowKit

/-- an object of one member -/
def oneJ (s : ByteArray) (v : JV) : JV := .mk 6 0 ⟨#[]⟩ [s] [v]
theorem one_at {w : World} {b c : Nat} {s : ByteArray} {v : JV} {c0 c1 c2 c3 c4 : Value} {t1 t2 : TypeId} {f1 f2 : Nat × Nat} (hb : w.heap[b]? = some (.cells #[.string s] t1 f1)) (hs : s.size ≤ 9223372036854775807) (hc : w.heap[c]? = some (.cells #[c0, c1, c2, c3, c4] t2 f2)) (hv : JAt (cf w) v (.agg #[c0, c1, c2, c3, c4])) :
    JAt (cf w) (oneJ s v) (.agg #[.int .i64 6, .int .i64 0, .string ⟨#[]⟩, .slice (some ⟨b, 0, none⟩) 1 1, .slice (some ⟨c, 0, none⟩) 1 1]) :=
  JAt.shut (by kernel_rfl) (by kernel_rfl) (by simp [ByteArray.size]) (strs1 hb hs) (items1 hc hv)
/-- what ask asks -/
def askJ (p s : ByteArray) (v : JV) : JV := oneJ p (oneJ s v)

theorem eight (w : World) (o0 o1 o2 o3 o4 o5 o6 o7 : Obj) : ∃ W, W = ((((((((w.alloc o0).alloc o1).alloc o2).alloc o3).alloc o4).alloc o5).alloc o6).alloc o7) ∧ Below w.heap.size w W ∧ W.heap[w.heap.size]? = some o0 ∧ W.heap[w.heap.size + 1]? = some o1 ∧ W.heap[w.heap.size + 1 + 1]? = some o2 ∧ W.heap[w.heap.size + 1 + 1 + 1]? = some o3 ∧ W.heap[w.heap.size + 1 + 1 + 1 + 1]? = some o4 ∧ W.heap[w.heap.size + 1 + 1 + 1 + 1 + 1]? = some o5 ∧ W.heap[w.heap.size + 1 + 1 + 1 + 1 + 1 + 1]? = some o6 ∧ W.heap[w.heap.size + 1 + 1 + 1 + 1 + 1 + 1 + 1]? = some o7 := by
  refine ⟨_, rfl, ?_, ?_, ?_, ?_, ?_, ?_, ?_, ?_, ?_⟩
  · exact (((((((((Below.refl _ w).alloc (by simp; try omega) o0).alloc (by simp; try omega) o1).alloc (by simp; try omega) o2).alloc (by simp; try omega) o3).alloc (by simp; try omega) o4).alloc (by simp; try omega) o5).alloc (by simp; try omega) o6).alloc (by simp; try omega) o7)
  · exact al_old (al_old (al_old (al_old (al_old (al_old (al_old (al_new (by simp))))))))
  · exact al_old (al_old (al_old (al_old (al_old (al_old (al_new (by simp)))))))
  · exact al_old (al_old (al_old (al_old (al_old (al_new (by simp))))))
  · exact al_old (al_old (al_old (al_old (al_new (by simp)))))
  · exact al_old (al_old (al_old (al_new (by simp))))
  · exact al_old (al_old (al_new (by simp)))
  · exact al_old (al_new (by simp))
  · exact al_new (by simp)

set_option maxRecDepth 100000 in
set_option maxHeartbeats 8000000 in
theorem ask_any (doc v : JV) (p s : ByteArray) (x y : Value) (w : World) (hp : p.size ≤ 9223372036854775807) (hs : s.size ≤ 9223372036854775807) (hx : JAt (cf w) doc x) (hy : JAt (cf w) v y) (hT : Tabs w) :
    Calls Tryd.prog 19 #[x, .string p, .string s, y] w fun e w' => e = .returned (.tuple #[.bool (HoldsP (askJ p s v) doc), .bool (checkF (askJ p s v) == 0)]) ∧ Below w.heap.size w w' := by
  obtain ⟨k, n, t, nm, it, na, ncap, ia, icap, hde, rfl, _⟩ := hx.open
  obtain ⟨q, m, u, nu, ju, ma, mcap, ja, jcap, hve, rfl, _⟩ := hy.open
  have HJ := Hold.mk hx
  have HK := Hold.mk hy
  have HT := Hold.mk hT
  have HP := Hold.mk hp
  have HS := Hold.mk hs
  clear hx hy hT hde hve
  go_enter Tryd.func19, Tryd.ntmps19
  go_wp2_with fail
  obtain ⟨W, hW, hB, e0, e1, e2, e3, e4, e5, e6, e7⟩ := eight w (.cells #[.int .i64 k, .int .i64 n, .string t, .slice na nm.length ncap, .slice ia it.length icap] 25) (.cells #[.int .i64 q, .int .i64 m, .string u, .slice ma nu.length mcap, .slice ja ju.length jcap] 25) (.cells #[.string s] 9) (.cells #[.int .i64 q, .int .i64 m, .string u, .slice ma nu.length mcap, .slice ja ju.length jcap] 25) (.cells #[.int .i64 6, .int .i64 0, .string ⟨#[]⟩, .slice (some ⟨w.heap.size + 1 + 1, 0, none⟩) 1 1, .slice (some ⟨w.heap.size + 1 + 1 + 1, 0, none⟩) 1 1] 25) (.cells #[.string p] 9) (.cells #[.int .i64 6, .int .i64 0, .string ⟨#[]⟩, .slice (some ⟨w.heap.size + 1 + 1, 0, none⟩) 1 1, .slice (some ⟨w.heap.size + 1 + 1 + 1, 0, none⟩) 1 1] 25) (.cells #[.int .i64 6, .int .i64 0, .string ⟨#[]⟩, .slice (some ⟨w.heap.size + 1 + 1 + 1 + 1 + 1, 0, none⟩) 1 1, .slice (some ⟨w.heap.size + 1 + 1 + 1 + 1 + 1 + 1, 0, none⟩) 1 1] 25)
  rw [← hW]
  have jv : JAt (cf W) v _ := HK.out.mono (cle_below hB)
  have jt := one_at e2 HS.out e3 jv
  have jf := one_at e5 HP.out e6 jt
  have jd := HJ.out.mono (cle_below hB)
  have hTW := HT.out.below hB
  have HH := Hold.mk (Calls.grow (fun e : Grow W => Holds_any (askJ p s v) doc _ _ e.val (jf.mono (cle_below e.property)) (jd.mono (cle_below e.property)) (hTW.below e.property)))
  have HC := Hold.mk (Calls.grow (fun e : Grow W => Check_any (askJ p s v) _ e.val (jf.mono (cle_below e.property)) (hTW.below e.property)))
  obtain ⟨y0, y1, y2, y3, y4⟩ := cells_five e0
  obtain ⟨z0, z1, z2, z3, z4⟩ := cells_five e7
  have g0 := Grow.cell y0
  have g1 := Grow.cell y1
  have g2 := Grow.cell y2
  have g3 := Grow.cell y3
  have g4 := Grow.cell y4
  have u0 := Grow.cell z0
  have u1 := Grow.cell z1
  have u2 := Grow.cell z2
  have u3 := Grow.cell z3
  have u4 := Grow.cell z4
  have HB := Hold.mk hB
  clear hW hB e0 e1 e2 e3 e4 e5 e6 e7 jv jt jf jd hTW y0 y1 y2 y3 y4 z0 z1 z2 z3 z4 HJ HK HT HP HS hp hs
  refine wp_region_grow (by kernel_rfl) (by kernel_rfl) ?_
  repeat (go_big_quiet_step (first | exact HH.out _ | exact HC.out _))
  refine wpQuiet_nil ?_
  rintro ⟨w3, hb3⟩
  replace HB := Hold.mk (HB.out.trans (hb3.mono HB.out.size))
  simp only
  clear hb3 g0 g1 g2 g3 g4 u0 u1 u2 u3 u4 HH HC
  go_wp2_with fail
  go_ret2
  exact ⟨rfl, HB.out⟩

end Go.Proofs.YtfllnlmanopfaaaDoor
