/- Answers: how the program orders two documents. (printed by genXAB.py) -/
import Derived.Test.YtkhhbckpddkhlaaDoorAA
import Derived.Test.YtkhhbckpddkhlaaDoorDB
import Derived.Test.YtkhhbckpddkhlaaDoorFM
namespace Go.Proofs.YtkhhbckpddkhlaaDoor
open Go.Shelf Go.RowKit

/-- two documents by all paths -/
def sortC : List OR → DR → DR → Int
  | [], _, _ => 0
  | o :: l, a, b => orI (turnI o.down (atF o.path a.v b.v)) (sortC l a b)
/-- and by their ids -/
def docC (l : List OR) (a b : DR) : Int := orI (sortC l a b) (cmpS a.id b.id)
theorem good_sort : ∀ l, Good (sortC l)
  | [] => Good.none
  | o :: l => (((good_at o.path).turn o.down).map DR.v).both (good_sort l)
theorem good_doc (l : List OR) : Good (docC l) := (good_sort l).both (good_str.map DR.id)
theorem sortC_small : ∀ l a b, -1 ≤ sortC l a b ∧ sortC l a b ≤ 1
  | [], _, _ => by simp [sortC]
  | o :: l, a, b => by
    rw [sortC]
    refine orI_small ?_ (sortC_small l a b)
    have := atF_small o.path a.v b.v
    unfold turnI; split <;> omega
theorem docC_small (l : List OR) (a b : DR) : -1 ≤ docC l a b ∧ docC l a b ≤ 1 := orI_small (sortC_small l a b) (cmpS_small _ _)


def RO : Rep OR := fun _ o d => d = [.string o.path, .bool o.down] ∧ o.path.size ≤ 9223372036854775807
theorem RO_mono : Mono RO := fun _ _ _ _ _ h => h
/-- a query -/
structure QR where
  flt : JV
  sort : List OR
  fields : List ByteArray
  skip : Int
  lim : Int
/-- its nine cells -/
def QAt (c : CF) (q : QR) (d : List Value) : Prop := ∃ k n t na nl nc ia il ic sv fv, d = [.int .i64 k, .int .i64 n, .string t, .slice na nl nc, .slice ia il ic, sv, fv, .int .i64 q.skip, .int .i64 q.lim] ∧ JAt c q.flt (.agg #[.int .i64 k, .int .i64 n, .string t, .slice na nl nc, .slice ia il ic]) ∧ SAt 2 RO c sv q.sort ∧ SAt 1 RS c fv q.fields
theorem QAt.mono {c c' : CF} {q : QR} {d : List Value} (h : QAt c q d) (hc : CLe c c') : QAt c' q d := by
  obtain ⟨k, n, t, na, nl, nc, ia, il, ic, sv, fv, e, hj, hs, hf⟩ := h
  exact ⟨k, n, t, na, nl, nc, ia, il, ic, sv, fv, e, hj.mono hc, hs.mono RO_mono hc, hf.mono RS_mono hc⟩
/-- three boxes, one behind the other -/
structure ThreeA (w wr : World) (a b c : Array Value) (s t u : TypeId) : Prop where
  bel : Below w.heap.size w wr
  one : wr.heap[w.heap.size]? = some (.cells a s (0, 0))
  two : wr.heap[w.heap.size + 1]? = some (.cells b t (0, 0))
  three : wr.heap[w.heap.size + 2]? = some (.cells c u (0, 0))
theorem ThreeA.refl (w : World) (a b c : Array Value) (s t u : TypeId) : ThreeA w (((w.alloc (.cells a s)).alloc (.cells b t)).alloc (.cells c u)) a b c s t u := by
  have h := TwoB.refl w a b s t
  have hb : Below ((w.alloc (.cells a s)).alloc (.cells b t)).heap.size ((w.alloc (.cells a s)).alloc (.cells b t)) (((w.alloc (.cells a s)).alloc (.cells b t)).alloc (.cells c u)) := (Below.refl _ _).alloc (Nat.le_refl _) _
  refine ⟨h.bel.trans (hb.mono h.bel.size), kept h.one hb, kept h.two hb, ?_⟩
  have := heap_alloc_new ((w.alloc (.cells a s)).alloc (.cells b t)) (.cells c u)
  simpa using this
theorem ThreeA.next {w wr w' : World} {a b c : Array Value} {s t u : TypeId} (h : ThreeA w wr a b c s t u) (hb : Below wr.heap.size wr w') : ThreeA w w' a b c s t u :=
  ⟨h.bel.trans (hb.mono h.bel.size), kept h.one hb, kept h.two hb, kept h.three hb⟩
theorem cells9A {w : World} {k : Nat} {c0 c1 c2 c3 c4 c5 c6 c7 c8 : Value} {t : TypeId} (h : w.heap[k]? = some (.cells #[c0, c1, c2, c3, c4, c5, c6, c7, c8] t (0, 0))) :
    w.cell? ⟨k, 0, none⟩ = some c0 ∧ w.cell? ⟨k, 1, none⟩ = some c1 ∧ w.cell? ⟨k, 2, none⟩ = some c2 ∧ w.cell? ⟨k, 3, none⟩ = some c3 ∧ w.cell? ⟨k, 4, none⟩ = some c4 ∧ w.cell? ⟨k, 5, none⟩ = some c5 ∧ w.cell? ⟨k, 6, none⟩ = some c6 ∧ w.cell? ⟨k, 7, none⟩ = some c7 ∧ w.cell? ⟨k, 8, none⟩ = some c8 := by
  simp [World.cell?, h]
theorem cells2A {w : World} {k : Nat} {c0 c1 : Value} {t : TypeId} (h : w.heap[k]? = some (.cells #[c0, c1] t (0, 0))) : w.cell? ⟨k, 0, none⟩ = some c0 ∧ w.cell? ⟨k, 1, none⟩ = some c1 := by
  simp [World.cell?, h]
/-- what Get hands back, whether there is something or not -/
theorem get_opt {v : JV} {p : ByteArray} {w w' : World} {e : Ending} (h : GetPostJ v p w e w') : ∃ k n t na nl nc ia il ic, e = .returned (.tuple #[.agg #[.int .i64 k, .int .i64 n, .string t, .slice na nl nc, .slice ia il ic], .bool (getJ v p).isSome]) ∧ (∀ u, getJ v p = some u → JAt (cfU w.heap.size w) u (.agg #[.int .i64 k, .int .i64 n, .string t, .slice na nl nc, .slice ia il ic])) ∧ Below w.heap.size w w' := by
  unfold GetPostJ GetPostC at h
  cases hg : getJ v p with
  | none =>
    rw [hg] at h
    obtain ⟨rfl, hb⟩ := h
    exact ⟨_, _, _, _, _, _, _, _, _, rfl, (fun u hu => by cases hu), hb⟩
  | some u =>
    rw [hg] at h
    obtain ⟨⟨x, rfl, hx⟩, hb⟩ := h
    have hx2 := hx
    obtain ⟨k, n, t, nm, it, na, nc, ia, ic, _, rfl, _⟩ := hx2.open
    exact ⟨k, n, t, na, nm.length, nc, ia, it.length, ic, rfl, (fun u' hu => by cases hu; exact hx), hb⟩
theorem at_some {p : ByteArray} {a b u v : JV} (h : getJ a p = some u) (k : getJ b p = some v) : atF p a b = cmpF 6 u v := by unfold atF; rw [h, k]; rfl
theorem at_left {p : ByteArray} {a b u : JV} (h : getJ a p = some u) (k : getJ b p = none) : atF p a b = 1 := by unfold atF; rw [h, k]; rfl
theorem at_right {p : ByteArray} {a b v : JV} (h : getJ a p = none) (k : getJ b p = some v) : atF p a b = -1 := by unfold atF; rw [h, k]; rfl
theorem at_none {p : ByteArray} {a b : JV} (h : getJ a p = none) (k : getJ b p = none) : atF p a b = 0 := by unfold atF; rw [h, k]; rfl

set_option maxRecDepth 100000 in
set_option maxHeartbeats 8000000 in
theorem at_any (p : ByteArray) (a b : JV) (x y : Value) (w : World) (hx : JAt (cf w) a x) (hy : JAt (cf w) b y) (hs : p.size ≤ 1000000) (hT : Tabs w) :
    Calls Tryd.prog 33 #[.string p, x, y] w fun e w' => e = .returned (.int .i64 (atF p a b)) ∧ Below w.heap.size w w' := by
  have HA := Hold.mk hx
  have HB := Hold.mk hy
  have HT := Hold.mk hT
  obtain ⟨k, n, t, nm, it, na, ncap, ia, icap, hae, rfl, _⟩ := hx.open
  obtain ⟨q, m, u, nu, ju, ma, mcap, ja, jcap, hbe, rfl, _⟩ := hy.open
  have H2 := Hold.mk (TwoB.refl w #[.int .i64 k, .int .i64 n, .string t, .slice na nm.length ncap, .slice ia it.length icap] #[.int .i64 q, .int .i64 m, .string u, .slice ma nu.length mcap, .slice ja ju.length jcap] 25 25)
  clear hx hy hT hae hbe
  go_enter Tryd.func33, Tryd.ntmps33
  go_upto_region 1 with (fail)
  obtain ⟨W, hW⟩ : ∃ W, W = ((w.alloc (.cells #[.int .i64 k, .int .i64 n, .string t, .slice na nm.length ncap, .slice ia it.length icap] 25)).alloc (.cells #[.int .i64 q, .int .i64 m, .string u, .slice ma nu.length mcap, .slice ja ju.length jcap] 25)) := ⟨_, rfl⟩
  rw [← hW] at H2 ⊢
  clear hW
  obtain ⟨y0, y1, y2, y3, y4⟩ := cells_five H2.out.one
  obtain ⟨z0, z1, z2, z3, z4⟩ := cells_five H2.out.two
  have HG := Hold.mk (Get_any a _ p W (HA.out.mono (cle_below H2.out.bel)) hs (HT.out.below H2.out.bel))
  go_wp2_with fail
  refine HG.out.mono ?_
  rintro e w3 hg
  obtain ⟨gk, gn, gt, gna, gnl, gnc, gia, gil, gic, rfl, hgu, hb3⟩ := get_opt hg
  obtain ⟨oa, hoa⟩ : ∃ oa, getJ a p = oa := ⟨_, rfl⟩
  rw [hoa] at hgu ⊢
  have HOA := Hold.mk hoa
  obtain ⟨W4, hW4⟩ : ∃ W4, W4 = w3.alloc (.cells #[.int .i64 gk, .int .i64 gn, .string gt, .slice gna gnl gnc, .slice gia gil gic] 25) := ⟨_, rfl⟩
  have hb4 : Below w3.heap.size w3 W4 := by rw [hW4]; exact (Below.refl _ w3).alloc (Nat.le_refl _) _
  have HZ1 : Hold (W4.heap[w3.heap.size]? = some (.cells #[.int .i64 gk, .int .i64 gn, .string gt, .slice gna gnl gnc, .slice gia gil gic] 25 (0, 0))) := ⟨by rw [hW4]; exact heap_alloc_new w3 _⟩
  have hb34 := hb3.trans (hb4.mono hb3.size)
  have HGU : Hold (∀ v, oa = some v → JAt (cf W4) v (.agg #[.int .i64 gk, .int .i64 gn, .string gt, .slice gna gnl gnc, .slice gia gil gic])) := ⟨fun v hv => (hgu v hv).mono (cfU_keep hb34)⟩
  replace H2 := Hold.mk (H2.out.next hb34)
  clear hg hgu hoa hb3 hb4 hb34 HG y0 y1 y2 y3 y4 z0 z1 z2 z3 z4
  go_upto_region 2 with (fail)
  rw [← hW4]
  clear hW4
  generalize w3.heap.size = ba at HZ1 ⊢
  obtain ⟨y0, y1, y2, y3, y4⟩ := cells_five H2.out.one
  obtain ⟨z0, z1, z2, z3, z4⟩ := cells_five H2.out.two
  have HG := Hold.mk (Get_any b _ p W4 (HB.out.mono (cle_below H2.out.bel)) hs (HT.out.below H2.out.bel))
  go_wp2_with fail
  refine HG.out.mono ?_
  rintro e w5 hg
  obtain ⟨hk, hn, ht, hna, hnl, hnc, hia, hil, hic, rfl, hhu, hb5⟩ := get_opt hg
  obtain ⟨ob, hob⟩ : ∃ ob, getJ b p = ob := ⟨_, rfl⟩
  rw [hob] at hhu ⊢
  have HOB := Hold.mk hob
  obtain ⟨W6, hW6⟩ : ∃ W6, W6 = w5.alloc (.cells #[.int .i64 hk, .int .i64 hn, .string ht, .slice hna hnl hnc, .slice hia hil hic] 25) := ⟨_, rfl⟩
  have hb6 : Below w5.heap.size w5 W6 := by rw [hW6]; exact (Below.refl _ w5).alloc (Nat.le_refl _) _
  have HZ2 : Hold (W6.heap[w5.heap.size]? = some (.cells #[.int .i64 hk, .int .i64 hn, .string ht, .slice hna hnl hnc, .slice hia hil hic] 25 (0, 0))) := ⟨by rw [hW6]; exact heap_alloc_new w5 _⟩
  have hb56 := hb5.trans (hb6.mono hb5.size)
  have HHU : Hold (∀ v, ob = some v → JAt (cf W6) v (.agg #[.int .i64 hk, .int .i64 hn, .string ht, .slice hna hnl hnc, .slice hia hil hic])) := ⟨fun v hv => (hhu v hv).mono (cfU_keep hb56)⟩
  replace HGU : Hold (∀ v, oa = some v → JAt (cf W6) v (.agg #[.int .i64 gk, .int .i64 gn, .string gt, .slice gna gnl gnc, .slice gia gil gic])) := ⟨fun v hv => (HGU.out v hv).mono (cle_below hb56)⟩
  replace HZ1 := Hold.mk (kept HZ1.out hb56)
  replace H2 := Hold.mk (H2.out.next hb56)
  clear hg hhu hob hb5 hb6 hb56 HG y0 y1 y2 y3 y4 z0 z1 z2 z3 z4
  go_upto_region 3 with (fail)
  rw [← hW6]
  clear hW6
  generalize w5.heap.size = bb at HZ2 ⊢
  obtain ⟨y0, y1, y2, y3, y4⟩ := cells_five HZ1.out
  obtain ⟨z0, z1, z2, z3, z4⟩ := cells_five HZ2.out
  cases oa with
  | some va =>
    cases ob with
    | some vb =>
      have HC := Hold.mk (Compare_any va vb _ _ W6 (get_formed HOA.out) (get_formed HOB.out) (HGU.out va rfl) (HHU.out vb rfl) (HT.out.below H2.out.bel))
      rw [← at_some HOA.out HOB.out] at HC
      clear HGU HHU HOA HOB
      go_wp2_with fail
      refine HC.out.mono ?_
      rintro e w7 ⟨rfl, hb7⟩
      have HBF := H2.out.bel.trans (hb7.mono H2.out.bel.size)
      clear hb7 y0 y1 y2 y3 y4 z0 z1 z2 z3 z4 HC
      go_wp2_with fail
      go_ret
      exact ⟨rfl, HBF⟩
    | none =>
      have HR := Hold.mk (at_left HOA.out HOB.out)
      have HBF := H2.out.bel
      clear HGU HHU HOA HOB y0 y1 y2 y3 y4 z0 z1 z2 z3 z4
      go_wp2_with fail
      go_ret
      exact ⟨by rw [HR.out] <;> rfl, HBF⟩
  | none =>
    cases ob with
    | some vb =>
      have HR := Hold.mk (at_right HOA.out HOB.out)
      have HBF := H2.out.bel
      clear HGU HHU HOA HOB y0 y1 y2 y3 y4 z0 z1 z2 z3 z4
      go_wp2_with fail
      go_ret
      exact ⟨by rw [HR.out] <;> rfl, HBF⟩
    | none =>
      have HR := Hold.mk (at_none HOA.out HOB.out)
      have HBF := H2.out.bel
      clear HGU HHU HOA HOB y0 y1 y2 y3 y4 z0 z1 z2 z3 z4
      go_wp2_with fail
      go_ret
      exact ⟨by rw [HR.out] <;> rfl, HBF⟩

theorem sort_step {l : List OR} {j : Nat} {o : OR} {a b : DR} (h : l[j]? = some o) : sortC (l.drop j) a b = orI (turnI o.down (atF o.path a.v b.v)) (sortC (l.drop (j + 1)) a b) := by
  obtain ⟨h1, e1⟩ := List.getElem?_eq_some_iff.1 h
  rw [List.drop_eq_getElem_cons h1, e1, sortC]

set_option maxRecDepth 100000 in
set_option maxHeartbeats 16000000 in
theorem qcompare_any (q : QR) (a b : DR) (d da db : List Value) (w : World) (hq : QAt (cf w) q d) (ha : RD (cf w) a da) (hb : RD (cf w) b db) (hsz : ∀ o ∈ q.sort, o.path.size ≤ 1000000) (hT : Tabs w) :
    Calls Tryd.prog 20 #[.agg d.toArray, .agg da.toArray, .agg db.toArray] w fun e w' => e = .returned (.int .i64 (docC q.sort a b)) ∧ Below w.heap.size w w' := by
  obtain ⟨qk, qn, qt, qna, qnl, qnc, qia, qil, qic, sv, fv, rfl, _, hs, _⟩ := hq
  obtain ⟨sa, scap, rfl, hsle, hscap, hsel⟩ := hs
  obtain ⟨k, n, t, na, nl, ncap, ia, il, icap, rfl, _, _, hja⟩ := ha
  obtain ⟨k2, n2, t2, na2, nl2, ncap2, ia2, il2, icap2, rfl, _, _, hjb⟩ := hb
  have hsl3 : q.sort.length ≤ 9223372036854775807 := by omega
  have HSE := Hold.mk hsel
  have HJA := Hold.mk hja
  have HJB := Hold.mk hjb
  have HT := Hold.mk hT
  have HSZ := Hold.mk hsz
  have H3 := Hold.mk (ThreeA.refl w #[.int .i64 qk, .int .i64 qn, .string qt, .slice qna qnl qnc, .slice qia qil qic, .slice sa q.sort.length scap, fv, .int .i64 q.skip, .int .i64 q.lim] #[.string a.id, .int .i64 k, .int .i64 n, .string t, .slice na nl ncap, .slice ia il icap] #[.string b.id, .int .i64 k2, .int .i64 n2, .string t2, .slice na2 nl2 ncap2, .slice ia2 il2 icap2] 28 33 33)
  clear hsel hja hjb hT hsz
  go_enter Tryd.func20, Tryd.ntmps20
  go_upto_region 1 with (fail)
  obtain ⟨W, hW⟩ : ∃ W, W = (((w.alloc (.cells #[.int .i64 qk, .int .i64 qn, .string qt, .slice qna qnl qnc, .slice qia qil qic, .slice sa q.sort.length scap, fv, .int .i64 q.skip, .int .i64 q.lim] 28)).alloc (.cells #[.string a.id, .int .i64 k, .int .i64 n, .string t, .slice na nl ncap, .slice ia il icap] 33)).alloc (.cells #[.string b.id, .int .i64 k2, .int .i64 n2, .string t2, .slice na2 nl2 ncap2, .slice ia2 il2 icap2] 33)) := ⟨_, rfl⟩
  rw [← hW] at H3 ⊢
  clear hW
  obtain ⟨y0, y1, y2, y3, y4, y5, y6, y7, y8⟩ := cells9A H3.out.one
  go_wp2_with fail
  clear y0 y1 y2 y3 y4 y5 y6 y7 y8
  go_loopw [13] (fun i wr => ∃ j : Nat, i = .int .i64 j ∧ j ≤ q.sort.length ∧ sortC (q.sort.drop j) a b = sortC q.sort a b ∧ ThreeA w wr #[.int .i64 qk, .int .i64 qn, .string qt, .slice qna qnl qnc, .slice qia qil qic, .slice sa q.sort.length scap, fv, .int .i64 q.skip, .int .i64 q.lim] #[.string a.id, .int .i64 k, .int .i64 n, .string t, .slice na nl ncap, .slice ia il icap] #[.string b.id, .int .i64 k2, .int .i64 n2, .string t2, .slice na2 nl2 ncap2, .slice ia2 il2 icap2] 28 33 33) (fun i _ => q.sort.length - (intOf i).toNat)
  case atStart => exact ⟨0, rfl, Nat.zero_le _, rfl, H3.out⟩
  case round =>
    obtain ⟨j, rfl, hj, hst, h3⟩ := hrel
    clear H3
    have H3 := Hold.mk h3
    have HST := Hold.mk hst
    clear h3 hst
    by_cases hlt : j < q.sort.length
    · obtain ⟨o, ho⟩ : ∃ o, q.sort[j]? = some o := ⟨q.sort[j], List.getElem?_eq_getElem hlt⟩
      obtain ⟨ob, off, d, rfl, hd, hc, hoi⟩ := HSE.out j o ho
      have HSS := Hold.mk (sort_step (a := a) (b := b) ho)
      have hop := HSZ.out o (List.mem_of_getElem? ho)
      obtain ⟨op, dn⟩ := o
      obtain ⟨rfl, _⟩ := hoi
      simp only at hop
      have hcl := cle_below H3.out.bel
      have u0 := hcl _ _ _ (hc 0 _ rfl)
      have u1 := hcl _ _ _ (hc 1 _ rfl)
      unfold cf at u0 u1
      rw [Nat.add_zero] at u0
      obtain ⟨W4, hW4⟩ : ∃ W4, W4 = wr.alloc (.cells #[.string op, .bool dn] 60) := ⟨_, rfl⟩
      have hb4 : Below wr.heap.size wr W4 := by rw [hW4]; exact (Below.refl _ wr).alloc (Nat.le_refl _) _
      have HZ : Hold (W4.heap[wr.heap.size]? = some (.cells #[.string op, .bool dn] 60 (0, 0))) := ⟨by rw [hW4]; exact heap_alloc_new wr _⟩
      replace H3 := Hold.mk (H3.out.next hb4)
      clear ho hd hc hcl hb4
      go_upto_region 4 with (fail)
      rw [← hW4]
      clear hW4 u0 u1
      generalize wr.heap.size = zb at HZ ⊢
      obtain ⟨z0, z1⟩ := cells2A HZ.out
      obtain ⟨v0, v1, v2, v3, v4, v5⟩ := cells6D H3.out.two
      obtain ⟨t0, t1, t2', t3, t4, t5⟩ := cells6D H3.out.three
      have HA := Hold.mk (at_any op a.v b.v _ _ W4 (HJA.out.mono (cle_below H3.out.bel)) (HJB.out.mono (cle_below H3.out.bel)) hop (HT.out.below H3.out.bel))
      have hcb := atF_small op a.v b.v
      obtain ⟨c, hc⟩ : ∃ c, atF op a.v b.v = c := ⟨_, rfl⟩
      rw [hc] at HA hcb
      have HC := Hold.mk hc
      clear hc
      go_wp2_with fail
      refine HA.out.mono ?_
      rintro e w5 ⟨rfl, hb5⟩
      replace H3 := Hold.mk (H3.out.next hb5)
      replace HZ := Hold.mk (kept HZ.out hb5)
      clear hb5 HA z0 z1 v0 v1 v2 v3 v4 v5 t0 t1 t2' t3 t4 t5
      obtain ⟨z0, z1⟩ := cells2A HZ.out
      have hc3 : c = -1 ∨ c = 0 ∨ c = 1 := by omega
      clear hcb
      cases dn with
      | true =>
        rcases hc3 with rfl | rfl | rfl
        · have HR : Hold (docC q.sort a b = 1) := ⟨by unfold docC; rw [← HST.out, HSS.out, HC.out]; rfl⟩
          have HBF := H3.out.bel
          go_wp2_with fail
          go_ret
          exact ⟨by rw [HR.out] <;> rfl, HBF⟩
        · have HN : Hold (sortC (q.sort.drop (j + 1)) a b = sortC q.sort a b) := ⟨by rw [← HST.out, HSS.out, HC.out]; rfl⟩
          have HTF := H3.out
          go_wp2_with fail
          exact ⟨⟨j + 1, by go_num, hlt, HN.out, HTF⟩, by simp [intOf]; omega⟩
        · have HR : Hold (docC q.sort a b = -1) := ⟨by unfold docC; rw [← HST.out, HSS.out, HC.out]; rfl⟩
          have HBF := H3.out.bel
          go_wp2_with fail
          go_ret
          exact ⟨by rw [HR.out] <;> rfl, HBF⟩
      | false =>
        rcases hc3 with rfl | rfl | rfl
        · have HR : Hold (docC q.sort a b = -1) := ⟨by unfold docC; rw [← HST.out, HSS.out, HC.out]; rfl⟩
          have HBF := H3.out.bel
          go_wp2_with fail
          go_ret
          exact ⟨by rw [HR.out] <;> rfl, HBF⟩
        · have HN : Hold (sortC (q.sort.drop (j + 1)) a b = sortC q.sort a b) := ⟨by rw [← HST.out, HSS.out, HC.out]; rfl⟩
          have HTF := H3.out
          go_wp2_with fail
          exact ⟨⟨j + 1, by go_num, hlt, HN.out, HTF⟩, by simp [intOf]; omega⟩
        · have HR : Hold (docC q.sort a b = 1) := ⟨by unfold docC; rw [← HST.out, HSS.out, HC.out]; rfl⟩
          have HBF := H3.out.bel
          go_wp2_with fail
          go_ret
          exact ⟨by rw [HR.out] <;> rfl, HBF⟩
    · obtain rfl : j = q.sort.length := by omega
      have HR : Hold (docC q.sort a b = cmpS a.id b.id) := ⟨by unfold docC; rw [← HST.out, List.drop_length]; rfl⟩
      obtain ⟨v0, v1, v2, v3, v4, v5⟩ := cells6D H3.out.two
      obtain ⟨t0, t1, t2', t3, t4, t5⟩ := cells6D H3.out.three
      have HBF := H3.out.bel
      go_wp2_with fail
      refine (compare_str a.id b.id wr).mono ?_
      rintro e w5 ⟨rfl, rfl⟩
      clear v0 v1 v2 v3 v4 v5 t0 t1 t2' t3 t4 t5
      go_wp2_with fail
      go_ret
      exact ⟨by rw [HR.out] <;> rfl, HBF⟩

set_option maxRecDepth 100000 in
set_option maxHeartbeats 8000000 in
theorem Less_any (q : QR) (a b : DR) (d da db : List Value) (w : World) (hq : QAt (cf w) q d) (ha : RD (cf w) a da) (hb : RD (cf w) b db) (hsz : ∀ o ∈ q.sort, o.path.size ≤ 1000000) (hT : Tabs w) :
    Calls Tryd.prog 13 #[.agg d.toArray, .agg da.toArray, .agg db.toArray] w fun e w' => e = .returned (.bool (decide (docC q.sort a b < 0))) ∧ Below w.heap.size w w' := by
  have HQ := Hold.mk hq
  have HA := Hold.mk ha
  have HB := Hold.mk hb
  obtain ⟨qk, qn, qt, qna, qnl, qnc, qia, qil, qic, sv, fv, rfl, _, hs, hf⟩ := hq
  obtain ⟨sa, scap, rfl⟩ := hs.form
  obtain ⟨fa, fcap, rfl⟩ := hf.form
  obtain ⟨k, n, t, na, nl, ncap, ia, il, icap, rfl, _, _, hja⟩ := ha
  obtain ⟨k2, n2, t2, na2, nl2, ncap2, ia2, il2, icap2, rfl, _, _, hjb⟩ := hb
  have HT := Hold.mk hT
  have HSZ := Hold.mk hsz
  have H3 := Hold.mk (ThreeA.refl w #[.int .i64 qk, .int .i64 qn, .string qt, .slice qna qnl qnc, .slice qia qil qic, .slice sa q.sort.length scap, .slice fa q.fields.length fcap, .int .i64 q.skip, .int .i64 q.lim] #[.string a.id, .int .i64 k, .int .i64 n, .string t, .slice na nl ncap, .slice ia il icap] #[.string b.id, .int .i64 k2, .int .i64 n2, .string t2, .slice na2 nl2 ncap2, .slice ia2 il2 icap2] 28 33 33)
  clear hs hf hja hjb hT hsz
  go_enter Tryd.func13, Tryd.ntmps13
  go_upto_region 1 with (fail)
  obtain ⟨W, hW⟩ : ∃ W, W = (((w.alloc (.cells #[.int .i64 qk, .int .i64 qn, .string qt, .slice qna qnl qnc, .slice qia qil qic, .slice sa q.sort.length scap, .slice fa q.fields.length fcap, .int .i64 q.skip, .int .i64 q.lim] 28)).alloc (.cells #[.string a.id, .int .i64 k, .int .i64 n, .string t, .slice na nl ncap, .slice ia il icap] 33)).alloc (.cells #[.string b.id, .int .i64 k2, .int .i64 n2, .string t2, .slice na2 nl2 ncap2, .slice ia2 il2 icap2] 33)) := ⟨_, rfl⟩
  rw [← hW] at H3 ⊢
  clear hW
  obtain ⟨y0, y1, y2, y3, y4, y5, y6, y7, y8⟩ := cells9A H3.out.one
  obtain ⟨v0, v1, v2, v3, v4, v5⟩ := cells6D H3.out.two
  obtain ⟨t0, t1, t2', t3, t4, t5⟩ := cells6D H3.out.three
  have HC := Hold.mk (qcompare_any q a b _ _ _ W (HQ.out.mono (cle_below H3.out.bel)) (RD_mono _ _ _ _ (cle_below H3.out.bel) HA.out) (RD_mono _ _ _ _ (cle_below H3.out.bel) HB.out) HSZ.out (HT.out.below H3.out.bel))
  obtain ⟨c, hc⟩ : ∃ c, docC q.sort a b = c := ⟨_, rfl⟩
  rw [hc] at HC
  have HCC := Hold.mk hc
  clear hc
  go_wp2_with fail
  refine HC.out.mono ?_
  rintro e w5 ⟨rfl, hb5⟩
  have HBF := H3.out.bel.trans (hb5.mono H3.out.bel.size)
  clear hb5 HC y0 y1 y2 y3 y4 y5 y6 y7 y8 v0 v1 v2 v3 v4 v5 t0 t1 t2' t3 t4 t5
  go_wp2_with fail
  go_ret
  exact ⟨by rw [HCC.out] <;> rfl, HBF⟩

end Go.Proofs.YtkhhbckpddkhlaaDoor
