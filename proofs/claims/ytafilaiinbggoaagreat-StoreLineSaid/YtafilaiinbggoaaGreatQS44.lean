import Derived.Test.YtafilaiinbggoaaGreatQS43
namespace Go.Proofs.YtafilaiinbggoaaGreat
open Go.RowKit Go.Maps
theorem verL_le : ∀ {vs : List Bts} {x : VerE}, x ∈ verL vs -> x.1 <= vs.length /\ ∃ v ∈ vs, x.2.2 = v.drop 1
 | [], x, h => by cases h
 | v :: vs, x, h => by
  rcases List.mem_cons.1 (show x ∈ (vs.length + 1, goneB v, v.drop 1) :: verL vs from h) with rfl | h
  ·exact ⟨Nat.le_refl _, v, List.mem_cons_self .., rfl⟩
  ·obtain ⟨h1, u, h2, h3⟩ := verL_le h
   exact ⟨by rw [List.length_cons]; omega, u, List.mem_cons_of_mem _ h2, h3⟩
set_option maxRecDepth 100000 in
set_option maxHeartbeats 4000000 in
theorem see_Newest {c0 : CF} {B : Nat} {lv : Value} {l : List VerE} {w : World} (hl : SAt 3 (RVer c0) (cf w) lv l) (hn : l.length <= 100000) (hB : ∀ x ∈ l, x.1 <= B) :
  Calls Tryz.prog 21 #[lv] w fun e w' => ∃ m : Nat, m <= B /\ e = .returned (.int .u64 (m : Int)) /\ Below w.heap.size w w' := by
 obtain ⟨a, cap, rfl, hlen, hcap, hel⟩ := hl
 obtain ⟨n, hnn⟩ : ∃ n, n = l.length := ⟨_, rfl⟩
 rw [<- hnn] at hlen hn |-
 have HE := HoldT.mk (And.intro hel (And.intro hB hnn))
 clear hel hB hnn hlen hcap
 go_enter Tryz.func21, Tryz.ntmps21
 go_wp2_with fail
 go_loopw [3, 5, 8] (fun s3 s5 i wr => ∃ j m : Nat, i = .int .i64 j /\ j <= n /\ s3 = .int .u64 (m : Int) /\ HoldT (m <= B) /\ HoldT (Below w.heap.size w wr)) (fun _ _ i _ => n - (intOf i).toNat)
 case atStart => exact ⟨0, 0, rfl, Nat.zero_le _, rfl, ⟨Nat.zero_le _⟩, ⟨Below.refl _ _⟩⟩
 case round =>
  obtain ⟨j, m, rfl, hj, rfl, HM, HB⟩ := hrel
  by_cases hlt : j < n
  ·obtain ⟨x, hx⟩ : ∃ x, l[j]? = some x := ⟨l[j]'(by rw [<- HE.out.2.2]; exact hlt), List.getElem?_eq_getElem _⟩
   obtain ⟨b, off, d, rfl, hd, hcc, hxr⟩ := HE.out.1 j x hx
   obtain ⟨v, rfl, hvy⟩ := hxr
   obtain ⟨va, vc, rfl⟩ := hvy.form
   obtain ⟨vl, hvl⟩ : ∃ vl, vl = x.2.2.length := ⟨_, rfl⟩
   rw [<- hvl] at hcc
   have hcl := cle_below HB.out
   have z0 := hcl _ _ _ (hcc 0 _ rfl)
   have z1 := hcl _ _ _ (hcc 1 _ rfl)
   have z2 := hcl _ _ _ (hcc 2 _ rfl)
   unfold cf at z0 z1 z2
   rw [Nat.add_zero] at z0
   have hxB := HE.out.2.1 x (List.mem_of_getElem? hx)
   obtain ⟨tm, gn, bs⟩ := x
   simp only at z0 z1 z2 hxB
   obtain ⟨r, hr⟩ : ∃ r, r = wr.heap.size := ⟨_, rfl⟩
   obtain ⟨w3, hw3⟩ : ∃ w3, w3 = wr.alloc (.cells #[.int .u64 (tm : Int), .bool gn, .slice va vl vc] 118) := ⟨_, rfl⟩
   have hb3 : Below wr.heap.size wr w3 := by rw [hw3]; exact (Below.refl _ wr).alloc (Nat.le_refl _) _
   have hx3 : w3.heap[r]? = some (.cells #[.int .u64 (tm : Int), .bool gn, .slice va vl vc] 118 (0, 0)) := by rw [hw3, hr]; exact heap_alloc_new wr _
   have y0 : w3.cell? ⟨r, 0, none⟩ = some (.int .u64 (tm : Int)) := by simp [World.cell?, hx3]
   replace HB := HoldT.mk (HB.out.trans (hb3.mono HB.out.size))
   have HW := HoldT.mk (And.intro hr hw3)
   have HX := HoldT.mk hxB
   have b1 : (j : Int) < (n : Int) := by omega
   clear hcc hd hcl hx hr hw3 hb3 hx3 hxB hvy hvl
   by_cases hmt : m < tm
   ·have i1 : (m : Int) < (tm : Int) := by omega
    have i2 : (m : Int) <= (tm : Int) := by omega
    go_upto_region 5 with (fail)
    rw [<- HW.out.1, <- HW.out.2]
    clear HW z0 z1 z2
    have i3 : max (m : Int) (tm : Int) = (tm : Int) := by omega
    go_wp2_with fail
    exact ⟨⟨j + 1, tm, by go_num, hlt, by first | rfl | simp [i3], HX, HB⟩, by simp [intOf]; omega⟩
   ·have i1 : ¬ (m : Int) < (tm : Int) := by omega
    have i2 : (tm : Int) <= (m : Int) := by omega
    go_upto_region 5 with (fail)
    rw [<- HW.out.1, <- HW.out.2]
    clear HW z0 z1 z2
    have i3 : max (m : Int) (tm : Int) = (m : Int) := by omega
    go_wp2_with fail
    exact ⟨⟨j + 1, m, by go_num, hlt, by first | rfl | simp [i3], HM, HB⟩, by simp [intOf]; omega⟩
  ·obtain rfl : j = n := by omega
   have b1 : ¬ (j : Int) < (j : Int) := by omega
   go_wp2_with fail
   go_ret
   exact ⟨m, HM.out, rfl, HB.out⟩
set_option maxRecDepth 100000 in
set_option maxHeartbeats 4000000 in
theorem store_wrong {s : UInt8} {q n : Nat} {vs : List Value} {w : World} (hn : vs.length = n) (hc : ∀ i v, vs[i]? = some v -> w.cell? ⟨q, i, none⟩ = some v) (hy : ∀ v ∈ vs, ∃ l, YAt (cf w) v l /\ l.length <= 100) (h9 : n <= 10) :
  Calls Tryz.prog 19 #[.int .i64 (s.toNat : Int), .slice (some ⟨q, 0, none⟩) n n] w fun e w' => e = .returned (.int .i64 0) /\ Below w.heap.size w w' := by
 have h1 : ¬ (s.toNat : Int) < 0 := by omega
 have h2 : ¬ (255 : Int) < (s.toNat : Int) := by have := s.toNat_lt; omega
 have HH := HoldT.mk (And.intro hn (And.intro hc hy))
 clear hn hc hy
 go_enter Tryz.func19, Tryz.ntmps19
 go_wp2_with fail
 go_loopw [6, 7, 8, 17] (fun s6 s7 s8 i wr => ∃ j : Nat, i = .int .i64 j /\ j <= n /\ HoldT (Below w.heap.size w wr)) (fun _ _ _ i _ => n - (intOf i).toNat)
 case atStart => exact ⟨0, rfl, Nat.zero_le _, ⟨Below.refl _ _⟩⟩
 case round =>
  obtain ⟨j, rfl, hj, HB⟩ := hrel
  by_cases hlt : j < n
  ·obtain ⟨v, hv⟩ : ∃ v, vs[j]? = some v := ⟨vs[j]'(by rw [HH.out.1]; exact hlt), List.getElem?_eq_getElem _⟩
   obtain ⟨l, hyl, hll⟩ := HH.out.2.2 v (List.mem_of_getElem? hv)
   obtain ⟨va, vc, rfl⟩ := hyl.form
   have z0 := cle_below HB.out _ _ _ (show cf w q j = _ from HH.out.2.1 j _ hv)
   unfold cf at z0
   have HWR := HoldT.mk (stamp_Write (s := s) (t := 0) (w := wr) (hyl.mono RY_mono (cle_below HB.out)) (by omega) (by omega))
   have HL := HoldT.mk (show (stampB s l 0).length <= 240 by rw [stampB_len]; have := escB_len l; omega)
   obtain ⟨ll, hll2⟩ : ∃ ll, ll = l.length := ⟨_, rfl⟩
   rw [<- hll2] at z0 HWR
   have b1 : (j : Int) < (n : Int) := by omega
   clear hv hyl hll hll2
   go_wp2_with fail
   refine HWR.out.mono ?_
   rintro e w3 ⟨sv, cs, rfl, ho, hb3⟩
   obtain ⟨sa, sc, rfl⟩ := ho.shape
   obtain ⟨kl, hkl⟩ : ∃ kl, kl = (stampB s l 0).length := ⟨_, rfl⟩
   rw [<- hkl] at HL |-
   have i1 : ¬ (240 : Int) < (kl : Int) := by have := HL.out; omega
   have i2 : ¬ 240 < kl := by have := HL.out; omega
   replace HB := HoldT.mk (HB.out.trans (hb3.mono HB.out.size))
   clear hkl ho hb3 HWR z0
   go_wp2_with fail
   exact ⟨⟨j + 1, by go_num, hlt, HB⟩, by simp [intOf]; omega⟩
  ·obtain rfl : j = n := by omega
   have b1 : ¬ (j : Int) < (j : Int) := by omega
   go_wp2_with fail
   go_ret
   exact ⟨rfl, HB.out⟩
end Go.Proofs.YtafilaiinbggoaaGreat
namespace Go.Proofs.YtafilaiinbggoaaGreat
open Go.RowKit Go.Maps
structure LSt (Q : PQ) (R : Int -> Option Bts) (H : HS) (S : PS) (p tb sb : Nat) (s : UInt8) (name : Bts) (vs : List Bts) (o : Top) (root : Int) (cnt : Nat) (w0 w : World) : Prop where
 lt : LT Q R H S p tb o root vs.length cnt w0 w
 sbx : SB H w sb tb Q.pb
 es : esO o = stE s name vs
 nm : name.length <= 100
 vals : ∀ v ∈ vs, 1 <= v.length /\ v.length <= 260
 few : vs.length <= 60
 low : w0.heap.size <= sb
 pl : p <= 900000000
theorem LSt.quiet {Q : PQ} {R : Int -> Option Bts} {H : HS} {S : PS} {p tb sb : Nat} {s : UInt8} {name : Bts} {vs : List Bts} {o : Top} {root : Int} {cnt : Nat} {w0 w w' : World} (h : LSt Q R H S p tb sb s name vs o root cnt w0 w) (hb : Below w.heap.size w w') : LSt Q R H S p tb sb s name vs o root cnt w0 w' :=
 ⟨h.lt.quiet hb, h.sbx.below hb, h.es, h.nm, h.vals, h.few, h.low, h.pl⟩
theorem LSt.read {Q : PQ} {R : Int -> Option Bts} {H H' : HS} {S S' : PS} {p p' tb sb : Nat} {s : UInt8} {name : Bts} {vs : List Bts} {o : Top} {root : Int} {cnt : Nat} {w0 w w' : World} (h : LSt Q R H S p tb sb s name vs o root cnt w0 w) (hG : PG Q R H' S' p' w') (hS : SameP S S') (hT : TurnS H.all w H'.all w') (hp : p' <= 900000000) : LSt Q R H' S' p' tb sb s name vs o root cnt w0 w' /\ CLe (cfL w0.heap.size w) (cfL w0.heap.size w') :=
 ⟨⟨(h.lt.read hG hS hT).1, h.sbx.turn hT, h.es, h.nm, h.vals, h.few, h.low, hp⟩, cfL_turn hT (fun b hb => h.lt.new b (.inl hb)) (fun b hb => h.lt.noU b (.inl hb))⟩
theorem LSt.size {Q : PQ} {R : Int -> Option Bts} {H : HS} {S : PS} {p tb sb : Nat} {s : UInt8} {name : Bts} {vs : List Bts} {o : Top} {root : Int} {cnt : Nat} {w0 w : World} (h : LSt Q R H S p tb sb s name vs o root cnt w0 w) : heightO o <= 6 /\ (pagesO o).length <= 120 /\ (esO o).length <= 60 := by
 obtain ⟨h1, h2⟩ := okW_few h.lt.ok (by have := h.few; omega)
 refine ⟨h1, by have := h.few; omega, ?_⟩
 rw [h.es, stE_len]
 exact h.few
set_option maxHeartbeats 1000000 in
set_option maxRecDepth 100000 in
theorem store_open {H : HS} {w : World} {pb : Nat} {root : Int} (hlt : ∀ b, H.all b -> b < w.heap.size) :
  Calls Tryz.prog 18 #[.pointer (some ⟨pb, 0, none⟩), .int .i64 root] w fun e w' => ∃ tb sb, e = .returned (.pointer (some ⟨sb, 0, none⟩)) /\ TB H w' tb pb root /\ SB H w' sb tb pb /\ Below w.heap.size w w' /\ w.heap.size <= tb /\ w.heap.size <= sb := by
 have HT := HoldT.mk (tree_open (root := root) (pb := pb) hlt)
 have HL := HoldT.mk hlt
 clear hlt
 go_enter Tryz.func18, Tryz.ntmps18
 go_wp2_with fail
 refine HT.out.mono ?_
 rintro e w1 ⟨tb, rfl, hT, hb1, htb⟩
 obtain ⟨sb, hsb⟩ : ∃ q, q = w1.heap.size := ⟨_, rfl⟩
 obtain ⟨w2, hw2⟩ : ∃ w2, w2 = w1.alloc (.cells #[.pointer (some ⟨pb, 0, none⟩), .pointer (some ⟨tb, 0, none⟩)] 68) := ⟨_, rfl⟩
 have hb2 : Below w1.heap.size w1 w2 := by rw [hw2]; exact (Below.refl _ w1).alloc (Nat.le_refl _) _
 have hx2 : w2.heap[sb]? = some (.cells #[.pointer (some ⟨pb, 0, none⟩), .pointer (some ⟨tb, 0, none⟩)] 68 (0, 0)) := by rw [hw2, hsb]; exact heap_alloc_new w1 _
 have s1 := hb1.size
 have HE := HoldT.mk (show TB H w2 tb pb root /\ SB H w2 sb tb pb /\ Below w.heap.size w w2 /\ w.heap.size <= tb /\ w.heap.size <= sb from ⟨hT.below hb2, ⟨hx2, fun e => by have := HL.out sb e; omega⟩, hb1.trans (hb2.mono s1), htb, by omega⟩)
 have HW := HoldT.mk (And.intro hsb hw2)
 clear hT hb1 htb hsb hw2 hb2 hx2 s1 HT
 go_wp2_with fail
 go_ret
 rw [<- HW.out.1, <- HW.out.2]
 exact ⟨tb, sb, rfl, HE.out⟩
def OnePost (Q : PQ) (R : Int -> Option Bts) (H : HS) (S : PS) (p : Nat) (vs : List Bts) (w : World) (e : Ending) (w' : World) : Prop :=
 ∃ (va : Option Addr) (vc : Nat) (H' : HS) (S' : PS) (p' : Nat) (c0 : CF), e = .returned (.tuple #[.slice va vs.length vc, .int .i64 0]) /\ PG Q R H' S' p' w' /\ SameP S S' /\ TurnS H.all w H'.all w' /\ p' <= p + 480 /\ CLe c0 (cf w') /\ SAt 3 (RVer c0) (cf w') (.slice va vs.length vc) (verL vs)
theorem TurnS.before {H H' : BS} {w w1 w2 : World} (hb : Below w.heap.size w w1) (h : TurnS H w1 H' w2) : TurnS H w H' w2 := (TurnS.quiet hb).trans h
set_option maxHeartbeats 4000000 in
set_option maxRecDepth 100000 in
theorem store_one {Q : PQ} {R : Int -> Option Bts} {H : HS} {S : PS} {p tb sb : Nat} {s : UInt8} {name : Bts} {vs : List Bts} {o : Top} {root : Int} {cnt : Nat} {nv : Value} {w0 w : World} (h : LSt Q R H S p tb sb s name vs o root cnt w0 w) (hy : YAt (cf w) nv name) :
  Calls Tryz.prog 20 #[.pointer (some ⟨sb, 0, none⟩), .int .i64 (s.toNat : Int), nv] w (OnePost Q R H S p vs w) := by
 obtain ⟨na, nc, rfl⟩ := hy.form
 obtain ⟨n, hn⟩ : ∃ n, n = name.length := ⟨_, rfl⟩
 rw [<- hn] at hy |-
 obtain ⟨q, hq⟩ : ∃ q, q = w.heap.size := ⟨_, rfl⟩
 obtain ⟨w1, hw1⟩ : ∃ w1, w1 = w.alloc (.cells #[.slice na n nc] 23) := ⟨_, rfl⟩
 have hb1 : Below w.heap.size w w1 := by rw [hw1]; exact (Below.refl _ w).alloc (Nat.le_refl _) _
 have hx1 : w1.heap[q]? = some (.cells #[.slice na n nc] 23 (0, 0)) := by rw [hw1, hq]; exact heap_alloc_new w _
 have HWR := HoldT.mk (store_wrong (s := s) (q := q) (n := 1) (vs := [.slice na n nc]) (w := w1) rfl (fun i v hi => by
  match i, hi with
  | 0, hi => cases hi; simp [World.cell?, hx1]) (fun v hv => by
  obtain rfl := List.mem_singleton.1 hv
  exact ⟨name, hy.mono RY_mono (cle_below hb1), h.nm⟩) (by omega))
 have HH := HoldT.mk (And.intro h (And.intro hy (And.intro hb1 h.nm)))
 have HW := HoldT.mk (And.intro hq hw1)
 clear h hy hn hq hw1 hb1 hx1
 go_enter Tryz.func20, Tryz.ntmps20
 go_wp2_with fail
 rw [<- HW.out.1, <- HW.out.2]
 clear HW
 refine HWR.out.mono ?_
 rintro e w2 ⟨rfl, hb2⟩
 have HB2 := HoldT.mk (HH.out.2.2.1.trans (hb2.mono HH.out.2.2.1.size))
 have HF := HoldT.mk (stamp_First (s := s) (w := w2) (HH.out.2.1.mono RY_mono (cle_below HB2.out)) (by have := HH.out.2.2.2; omega))
 clear hb2 HWR
 go_wp2_with fail
 refine HF.out.mono ?_
 rintro e w3 ⟨fv, cs3, rfl, ho3, hb3⟩
 obtain ⟨fa, fc, rfl⟩ := ho3.shape
 have HB3 := HoldT.mk (HB2.out.trans (hb3.mono HB2.out.size))
 have HY3 := HoldT.mk ho3
 have HBH := HoldT.mk (stamp_Behind (s := s) (w := w3) (HH.out.2.1.mono RY_mono (cle_below HB3.out)) (by have := HH.out.2.2.2; omega))
 clear ho3 hb3 HF
 go_wp2_with fail
 refine HBH.out.mono ?_
 rintro e w4 ⟨gv, cs4, rfl, ho4, hb4⟩
 obtain ⟨ga, gc, rfl⟩ := ho4.shape
 have HB4 := HoldT.mk (HB3.out.trans (hb4.mono HB3.out.size))
 have hst := HH.out.1.quiet HB4.out
 obtain ⟨z1, z2, z3⟩ := hst.size
 have HGA := HoldT.mk (store_gather (s := s) (name := name) (vs := vs) hst.lt.pg hst.lt.tbx hst.sbx hst.lt.top (HY3.out.quiet RY_mono hb4).yat ho4.yat (by rw [hst.es]; exact stE_one s name vs) (by omega) (by omega) (by have := hst.pl; omega) (by have := hst.nm; omega) hst.vals (by have := hst.few; omega))
 have HZ := HoldT.mk z2
 clear ho4 hb4 hst z1 z2 z3 HBH
 go_wp2_with fail
 refine HGA.out.mono ?_
 rintro e w5 ⟨outv, H5, S5, p5, rfl, hG5, hS5, hT5, hp5, hnil, hcons⟩
 have H5' := HoldT.mk (And.intro hG5 (And.intro hS5 (And.intro (TurnS.before HB4.out hT5) (show p5 <= p + 480 by have := HZ.out; omega))))
 clear hG5 hS5 hT5 hp5 HGA
 by_cases hvs : vs = []
 ·obtain rfl := hnil hvs
  have HE := HoldT.mk (show OnePost Q R H S p vs w (.returned (.tuple #[.slice none 0 0, .int .i64 0])) w5 from ⟨none, 0, H5, S5, p5, cf w5, by rw [hvs]; rfl, H5'.out.1, H5'.out.2.1, H5'.out.2.2.1, H5'.out.2.2.2, fun _ _ _ h => h, by rw [hvs]; exact SAt.none _ _ _⟩)
  clear hnil hcons
  go_wp2_with fail
  refine bodyPost_ret (v := .tuple #[.slice none 0 0, .int .i64 0]) (by simp [results, Tryz.results20, go_sem]) rfl ?_
  exact HE.out
 ·obtain ⟨ob, cc, nv, vsl, ksl, c0, B, wg, rfl, hgn, hc0, hB⟩ := hcons hvs
  obtain ⟨o0, o1, o2, ofr, olt⟩ := hgn.cells
  obtain ⟨cv, hver⟩ := hgn.ver
  obtain ⟨va, vc, rfl⟩ := hver.shape
  rw [verL_len] at o1 hver
  obtain ⟨vn, hvn⟩ : ∃ vn, vn = vs.length := ⟨_, rfl⟩
  have HE := HoldT.mk (show OnePost Q R H S p vs w (.returned (.tuple #[.slice va vs.length vc, .int .i64 0])) w5 from ⟨va, vc, H5, S5, p5, c0, rfl, H5'.out.1, H5'.out.2.1, H5'.out.2.2.1, H5'.out.2.2.2, hc0, hver.at_ (RVer_mono c0)⟩)
  rw [<- hvn] at o1 HE
  clear hnil hcons hgn hc0 hB o0 o2 ofr olt hver hvn
  go_wp2_with fail
  refine bodyPost_ret (v := .tuple #[.slice va vn vc, .int .i64 0]) (by simp [results, Tryz.results20, go_sem]) rfl ?_
  exact HE.out
end Go.Proofs.YtafilaiinbggoaaGreat
namespace Go.Proofs.YtafilaiinbggoaaGreat
open Go.RowKit Go.Maps
def SeePost (Q : PQ) (R : Int -> Option Bts) (H : HS) (S : PS) (p : Nat) (r : Option Bts) (w : World) (e : Ending) (w' : World) : Prop :=
 ∃ (va : Option Addr) (vl vc : Nat) (H' : HS) (S' : PS) (p' : Nat), e = .returned (.tuple #[.slice va vl vc, .bool r.isSome, .int .i64 0]) /\ (∀ b, r = some b -> YAt (cfU w') (.slice va vl vc) b) /\ PG Q R H' S' p' w' /\ SameP S S' /\ TurnS H.all w H'.all w' /\ p' <= p + 480
set_option maxHeartbeats 4000000 in
set_option maxRecDepth 100000 in
theorem store_See {Q : PQ} {R : Int -> Option Bts} {H : HS} {S : PS} {p tb sb t : Nat} {s : UInt8} {name : Bts} {vs : List Bts} {o : Top} {root : Int} {cnt : Nat} {nv : Value} {w0 w : World} (h : LSt Q R H S p tb sb s name vs o root cnt w0 w) (hy : YAt (cf w) nv name) :
  Calls Tryz.prog 8 #[.pointer (some ⟨sb, 0, none⟩), .int .i64 (s.toNat : Int), nv, .int .u64 (t : Int)] w (SeePost Q R H S p (seenL (verL vs) t) w) := by
 have HO := HoldT.mk (store_one h hy)
 obtain ⟨na, nc, rfl⟩ := hy.form
 have HH := HoldT.mk (And.intro h.few h.vals)
 clear h hy
 generalize name.length = n at HO |-
 obtain ⟨r, hr⟩ : ∃ r, r = seenL (verL vs) t := ⟨_, rfl⟩
 rw [<- hr]
 have HR := HoldT.mk hr
 clear hr
 go_enter Tryz.func8, Tryz.ntmps8
 go_wp2_with fail
 refine HO.out.mono ?_
 rintro e w2 ⟨va, vc, H2, S2, p2, c0, rfl, hG, hS, hT, hp, hc0, hsat⟩
 have HA := HoldT.mk (see_At (t := t) hsat hc0 (by rw [verL_len]; have := HH.out.1; omega) (fun x hx => by
  obtain ⟨_, v, h2, h3⟩ := verL_le hx
  have := (HH.out.2 v h2).2
  rw [h3, List.length_drop]
  omega))
 rw [<- HR.out] at HA
 have H2' := HoldT.mk (And.intro hG (And.intro hS (And.intro hT hp)))
 clear hG hS hT hp hc0 hsat HO
 generalize vs.length = vn at HA |-
 go_wp2_with fail
 refine HA.out.mono ?_
 rintro e w3 ⟨xa, xl, xc, rfl, hy, hb⟩
 obtain ⟨ok, hok⟩ : ∃ ok, ok = r.isSome := ⟨_, rfl⟩
 have HE := HoldT.mk (show SeePost Q R H S p r w (.returned (.tuple #[.slice xa xl xc, .bool r.isSome, .int .i64 0])) w3 from ⟨xa, xl, xc, H2, S2, p2, rfl, hy, H2'.out.1.below hb, H2'.out.2.1, H2'.out.2.2.1.then hb, H2'.out.2.2.2⟩)
 rw [<- hok] at HE |-
 clear hy hb HA hok HR
 go_wp2_with fail
 refine bodyPost_ret (v := .tuple #[.slice xa xl xc, .bool ok, .int .i64 0]) (by simp [results, Tryz.results8, go_sem]) rfl ?_
 exact HE.out
def SetPost (Q : PQ) (R : Int -> Option Bts) (H : HS) (p tb sb : Nat) (s : UInt8) (name : Bts) (vs : List Bts) (cnt : Nat) (w0 w : World) (e : Ending) (w' : World) : Prop :=
 ∃ (H' : HS) (S' : PS) (p' : Nat) (o' : Top) (root' : Int), e = .returned (.int .i64 0) /\ LSt Q R H' S' p' tb sb s name vs o' root' cnt w0 w' /\ CLe (cfL w0.heap.size w) (cfL w0.heap.size w') /\ p' <= p + 1000 /\ TurnS (fun b => H.all b \/ b = tb) w (fun b => H'.all b \/ b = tb) w'
theorem LSt.put {Q : PQ} {R : Int -> Option Bts} {H : HS} {S : PS} {p tb sb : Nat} {s : UInt8} {name v : Bts} {vs : List Bts} {o : Top} {root : Int} {cnt : Nat} {w0 w w' : World} {e : Ending} (h : LSt Q R H S p tb sb s name vs o root cnt w0 w) (hv : 1 <= v.length /\ v.length <= 260) (hn : vs.length + 1 <= 60) (hp0 : p <= 899000000) (hk : keyOk (stampB s name (vs.length + 1))) (hp : PutPost Q R H S p tb o (stampB s name (vs.length + 1)) v w e w') : e = .returned (.int .i64 0) /\ ∃ H' S' p' o' root', LSt Q R H' S' p' tb sb s name (v :: vs) o' root' cnt w0 w' /\ CLe (cfL w0.heap.size w) (cfL w0.heap.size w') /\ p' <= p + 200 /\ TurnS (fun b => H.all b \/ b = tb) w (fun b => H'.all b \/ b = tb) w' := by
 obtain ⟨rfl, H', S', p', o', root', hL, he, _, hp', hT⟩ := h.lt.put (by omega) hk hv.2 hp
 have hx : ¬ (H.all sb \/ sb = tb) := fun e => by
  rcases e with e | e
  ·exact h.sbx.off e
  ·have h1 := h.sbx.box
   rw [e, h.lt.tbx.box] at h1
   cases h1
 obtain ⟨h1, h2⟩ := hT.kept h.sbx.box hx
 refine ⟨rfl, H', S', p', o', root', ⟨hL, ⟨h1, fun e => h2 (.inl e)⟩, ?_, h.nm, fun u hu => ?_, hn, h.low, by omega⟩, cfL_turn hT (fun b hb => h.lt.new b hb) h.lt.noU, hp', hT⟩
 ·rw [he, h.es, stE_put (by omega)]
 ·rcases List.mem_cons.1 hu with rfl | hu
  ·exact hv
  ·exact h.vals u hu
theorem blk_of {r g l c : Nat} (h : (Value.slice (some ⟨r, 0, none⟩) l c).ownBlock = some g) : r = g := by simpa [Value.ownBlock] using h
theorem own_setY {B q : Nat} {w : World} {x y : UInt8} (h : OwnS 1 RY 5 B w (.slice (some ⟨q, 0, none⟩) 1 1) 1 [x] [.int .u8 (x.toNat : Int)]) : OwnS 1 RY 5 B (w.setCell ⟨q, 0, none⟩ (.int .u8 (y.toNat : Int))) (.slice (some ⟨q, 0, none⟩) 1 1) 1 [y] [.int .u8 (y.toNat : Int)] := by
 have h1 := OwnS.put (R := RY) (fun _ _ _ _ h => h) (k := 0) (x := y) (u := .int .u8 (y.toNat : Int)) h rfl
 exact h1
set_option maxHeartbeats 8000000 in
set_option maxRecDepth 100000 in
theorem store_Set {Q : PQ} {R : Int -> Option Bts} {H : HS} {S : PS} {p tb sb : Nat} {s : UInt8} {name val : Bts} {vs : List Bts} {o : Top} {root : Int} {cnt : Nat} {nv vv : Value} {gone : Bool} {w0 w : World} (h : LSt Q R H S p tb sb s name vs o root cnt w0 w) (hy : YAt (cfL w0.heap.size w) nv name) (hz : YAt (cfL w0.heap.size w) vv val) (hg : gone = true -> val = []) (hvl : val.length <= 200) (hn : vs.length + 1 <= 60) (hp : p <= 800000000) (hc : 2 * vs.length + 15 <= cnt) :
  Calls Tryz.prog 7 #[.pointer (some ⟨sb, 0, none⟩), .int .i64 (s.toNat : Int), nv, .int .u64 ((vs.length + 1 : Nat) : Int), .bool gone, vv] w (SetPost Q R H p tb sb s name (((if gone = true then 0 else 1) :: val) :: vs) cnt w0 w) := by
 obtain ⟨na, nc, rfl⟩ := hy.form
 obtain ⟨za, zc, rfl⟩ := hz.form
 obtain ⟨n, hnn⟩ : ∃ n, n = name.length := ⟨_, rfl⟩
 obtain ⟨m, hm⟩ : ∃ m, m = val.length := ⟨_, rfl⟩
 obtain ⟨tm, htm⟩ : ∃ tm, tm = vs.length + 1 := ⟨_, rfl⟩
 rw [<- hnn] at hy |-
 rw [<- hm] at hz |-
 rw [<- htm]
 obtain ⟨q, hq⟩ : ∃ q, q = w.heap.size := ⟨_, rfl⟩
 obtain ⟨w1, hw1⟩ : ∃ w1, w1 = w.alloc (.cells #[.slice na n nc] 23) := ⟨_, rfl⟩
 have hb1 : Below w.heap.size w w1 := by rw [hw1]; exact (Below.refl _ w).alloc (Nat.le_refl _) _
 have hx1 : w1.heap[q]? = some (.cells #[.slice na n nc] 23 (0, 0)) := by rw [hw1, hq]; exact heap_alloc_new w _
 have HWR := HoldT.mk (store_wrong (s := s) (q := q) (n := 1) (vs := [.slice na n nc]) (w := w1) rfl (fun i v hi => by
  match i, hi with
  | 0, hi => cases hi; simp [World.cell?, hx1]) (fun v hv => by
  obtain rfl := List.mem_singleton.1 hv
  exact ⟨name, (hy.mono RY_mono (cfL_below hb1)).mono RY_mono (cfL_cf _ _), h.nm⟩) (by omega))
 have HH := HoldT.mk (And.intro h (And.intro hy (And.intro hz (And.intro hb1 (And.intro hn (And.intro hp hc))))))
 have HV := HoldT.mk (And.intro hg (And.intro hvl (And.intro hm htm)))
 have HW := HoldT.mk (And.intro hq hw1)
 have i1 : ¬ (259 : Int) < (m : Int) := by omega
 have i2 : ¬ 259 < m := by omega
 have i3 : gone = true -> m = 0 := fun e => by rw [hm, hg e]; rfl
 have HG := HoldT.mk i3
 clear h hy hz hnn hm hq hw1 hb1 hx1 htm hg hvl hn hp hc i3
 cases gone
 case' true =>
  obtain rfl := HG.out rfl
  rw [if_pos rfl]
  have HVA := HoldT.mk (show val = [] from HV.out.1 rfl)
 case' false =>
  rw [if_neg (by decide)]
  have HVA := HoldT.mk True.intro
 all_goals
  go_enter Tryz.func7, Tryz.ntmps7
  go_wp2_with fail
  rw [<- HW.out.1, <- HW.out.2]
  clear HW
  refine HWR.out.mono ?_
  rintro e w2 ⟨rfl, hb2⟩
  have HB2 := HoldT.mk (HH.out.2.2.2.1.trans (hb2.mono HH.out.2.2.2.1.size))
  have HO := HoldT.mk (store_one (HH.out.1.quiet HB2.out) ((HH.out.2.1.mono RY_mono (cfL_below HB2.out)).mono RY_mono (cfL_cf _ _)))
  clear hb2 HWR
  go_wp2_with fail
  refine HO.out.mono ?_
  rintro e w3 ⟨va, vc, H3, S3, p3, c0, rfl, hG, hS, hT, hp3, hc0, hsat⟩
  have HNW := HoldT.mk (see_Newest (B := vs.length) hsat (by rw [verL_len]; have := HH.out.2.2.2.2.1; omega) (fun x hx => (verL_le hx).1))
  have hrd := (HH.out.1.quiet HB2.out).read hG hS hT (by have := HH.out.2.2.2.2.2.1; omega)
  have H3' := HoldT.mk (And.intro hrd.1 (And.intro ((cfL_below HB2.out).trans hrd.2) (And.intro hp3 (show TurnS (fun b => H.all b \/ b = tb) w (fun b => H3.all b \/ b = tb) w3 from (TurnS.before HB2.out hT).wide))))
  clear hG hS hT hp3 hc0 hsat HO hrd
  obtain ⟨vn, hvn⟩ : ∃ vn, vn = vs.length := ⟨_, rfl⟩
  rw [<- hvn] at HNW |-
  have HVN := HoldT.mk hvn
  clear hvn
  by_cases h0 : vn = 0
  case' pos =>
   obtain rfl := h0
   have HST := HoldT.mk (And.intro H3'.out.1 (And.intro H3'.out.2.1 H3'.out.2.2.2))
   generalize w3 = w4 at HST |-
   go_upto_region 13 with (fail)
  case' neg =>
   have j1 : (0 : Int) < (vn : Int) := by omega
   have j2 : 0 < vn := by omega
   go_wp2_with fail
   refine HNW.out.mono ?_
   rintro e w4 ⟨mx, hmx, rfl, hb4⟩
   have HST := HoldT.mk (And.intro (H3'.out.1.quiet hb4) (And.intro (H3'.out.2.1.trans (cfL_below hb4)) (H3'.out.2.2.2.then hb4)))
   have j3 : ¬ (tm : Int) <= (mx : Int) := by have := HV.out.2.2.2; have := HVN.out; omega
   have j4 : ¬ tm <= mx := by omega
   clear hb4 hmx
   go_upto_region 13 with (fail)
   clear j1 j2 j3 j4 h0
  all_goals
   have hkey : keyOk (stampB s name tm) := by
    unfold keyOk
    rw [stampB_len]
    have h1 := escB_len name
    have h2 := HST.out.1.nm
    omega
   have HK := HoldT.mk hkey
   have HWT := HoldT.mk (stamp_Write (s := s) (t := tm) (w := w4) ((HH.out.2.1.mono RY_mono HST.out.2.1).mono RY_mono (cfL_cf _ _)) (by have := HST.out.1.nm; omega) (by have := HV.out.2.2.2; have := HH.out.2.2.2.2.1; omega))
   clear hkey
   go_wp2_with fail
   refine HWT.out.mono ?_
   rintro e w5 ⟨kv, kcs, rfl, hko, hb5⟩
   obtain ⟨ka, kc, rfl⟩ := hko.shape
   obtain ⟨kl, hkl⟩ : ∃ kl, kl = (stampB s name tm).length := ⟨_, rfl⟩
   rw [<- hkl] at hko |-
   obtain ⟨r, hr⟩ : ∃ r, r = w5.heap.size := ⟨_, rfl⟩
   obtain ⟨w6, hw6⟩ : ∃ w6, w6 = w5.alloc (.cells #[.int .u8 1] 5) := ⟨_, rfl⟩
   have hb6 : Below w5.heap.size w5 w6 := by rw [hw6]; exact (Below.refl _ w5).alloc (Nat.le_refl _) _
   have hx6 : w6.heap[r]? = some (.cells #[.int .u8 1] 5 (0, 0)) := by rw [hw6, hr]; exact heap_alloc_new w5 _
   have ho6 : OwnS 1 RY 5 w5.heap.size w6 (.slice (some ⟨r, 0, none⟩) 1 1) 1 [1] [.int .u8 ((1 : UInt8).toNat : Int)] := by rw [hw6, hr]; exact own_newY (ys := [1]) rfl (by simp) (Nat.le_refl _)
   have HB5 := HoldT.mk hb5
   have HB6 := HoldT.mk (hb5.trans (hb6.mono hb5.size))
   have HKO := HoldT.mk (And.intro (hko.quiet RY_mono hb6) (And.intro hkl (And.intro (show w5.heap.size <= r by omega) (fun g hg => (hko.low g hg).2))))
   have HX6 := HoldT.mk (And.intro ho6 hx6)
   have HW := HoldT.mk (And.intro hr hw6)
   clear hko hkl hr hw6 hb6 hx6 ho6 hb5 HWT
   go_upto_region 15 with (fail)
   rw [<- HW.out.1, <- HW.out.2]
   clear HW
   have c6 : w6.cell? ⟨r, 0, none⟩ = some (.int .u8 1) := by simp [World.cell?, HX6.out.2]
   have f6 : w6.frozen? ⟨r, 0, none⟩ = false := by simp [World.frozen?, HX6.out.2]
   go_upto_region 17 with (fail)
   clear c6 f6
   first
   |
    obtain ⟨w7, hw7⟩ : ∃ w7, w7 = w6.setCell ⟨r, 0, none⟩ (.int .u8 0) := ⟨_, rfl⟩
    rw [<- hw7]
    have hg7 : w6.grownBy w7 (some r) := by rw [hw7]; exact set6_grown _ _
    have ho7 : OwnS 1 RY 5 w5.heap.size w7 (.slice (some ⟨r, 0, none⟩) 1 1) 1 [0] [.int .u8 ((0 : UInt8).toNat : Int)] := by rw [hw7]; exact own_setY (y := 0) HX6.out.1
    have hk7 := own_keep (fun _ _ _ _ h => h) HKO.out.1 hg7 fun g hg e => by have h1 := HKO.out.2.2.2 g hg; have h2 := HKO.out.2.2.1; cases e; omega
    have hb7 : Below w4.heap.size w4 w7 := HB6.out.grown hg7 HB6.out.size fun q e => by cases e; have := HB5.out.size; have := HKO.out.2.2.1; omega
    have H7 := HoldT.mk (And.intro ho7 (And.intro hk7 (And.intro hb7 HKO.out.2.1)))
    clear hw7 hg7 ho7 hk7 hb7
   |
    have H7 := HoldT.mk (And.intro HX6.out.1 (And.intro HKO.out.1 (And.intro HB6.out HKO.out.2.1)))
    generalize w6 = w7 at H7 |-
   have HS7 := HoldT.mk (HST.out.1.quiet H7.out.2.2.1)
   have x1 : w7.cell? ⟨sb, 1, none⟩ = some (.pointer (some ⟨tb, 0, none⟩)) := by simp [World.cell?, HS7.out.sbx.box]
   have g1 := KeepS.cell (P := fun q => q = sb) x1 rfl
   clear x1
   refine wp_region_mixC (KeepSC (fun q => q = sb) w7) 10 rfl (by kernel_rfl) ?_
   have HDR := HoldT.mk ((Below.refl w7.heap.size w7).drew)
   have HSTD : HoldT (∀ q : Nat, w7.drew.heap[q]? = w7.heap[q]?) := ⟨fun _ => rfl⟩
   generalize w7.drew = w8 at HDR HSTD |-
   refine mixl_seg (by kernel_rfl) (fun _ _ d _ _ h => by cases d <;> exact h) [0, 1, 2, 3, 4, 5, 6] [_, _, _, _, _, _, _] 3 10 rfl _ _ _ rfl (by kernel_rfl) (keepSC fun q _ => HSTD.out q) ?_
   repeat (go_big_quiet_step (fail))
   refine wpQuiet_nil ?_
   clear g1
   have HSRC := HoldT.mk (show YAt (cfN (.slice (some ⟨r, 0, none⟩) 1 1) w8) _ val from ((HH.out.2.2.1.mono RY_mono HST.out.2.1).mono RY_mono (cfL_cf _ _)).mono RY_mono (cle_cfN_old (H7.out.2.2.1.trans (HDR.out.mono H7.out.2.2.1.size)) (fun g hg => by have h1 := blk_of hg; have h2 := HB5.out.size; have h3 := HKO.out.2.2.1; omega)))
   have hvl200 : val.length <= 200 := HV.out.2.1
   refine mixl_act (i := 7) rfl (by kernel_rfl) (keepSC fun q _ => HSTD.out q) rfl (fun K hK => ?_)
   refine wp_push_src RY_mono RY_one _ _ rfl infoY Tryz.underlying23 rfl (by decide) w5.heap.size w8 _ 1 _ _ (H7.out.1.quiet RY_mono HDR.out) rfl _ val HSRC.out rfl (by omega) (by decide) ?_
   intro sl9 w9 cs9 ho9 hg9
   obtain ⟨a9, c9, rfl⟩ := ho9.shape
   have hb9 : Below w4.heap.size w4 w9 := (H7.out.2.2.1.trans (HDR.out.mono H7.out.2.2.1.size)).trans ((hg9.below (B := w5.heap.size) (by have h1 := HB6.out.size; have h2 := HDR.out.size; have h3 := H7.out.1.le; omega) (fun g hg => by have h1 := blk_of hg; have h3 := HKO.out.2.2.1; omega)).mono HB5.out.size)
   have hk9 := own_keep (fun _ _ _ _ h => h) (H7.out.2.1.quiet RY_mono HDR.out) hg9.by_ fun g hg e => by
    have h1 := HKO.out.2.2.2 g hg
    have h2 := HKO.out.2.2.1
    have h3 := blk_of e
    omega
   have hst := HST.out.1.quiet hb9
   obtain ⟨z1, z2, z3⟩ := hst.size
   have HP := HoldT.mk (tree_Put hst.lt.pg hst.lt.tbx hst.lt.top (by have := hst.pl; omega) (by omega) HK.out (by rw [List.length_append, List.length_singleton]; omega) hk9.yat ho9.yat (hst.lt.free (by have := HH.out.2.2.2.2.1; omega) HH.out.2.2.2.2.2.2).1)
   have H9 := HoldT.mk (And.intro hst (And.intro (HST.out.2.1.trans (cfL_below hb9)) (HST.out.2.2.then hb9)))
   have KS9 : HoldT (∀ q : Nat, q = sb -> w9.heap[q]? = w7.heap[q]?) := ⟨fun q e => by rw [e]; exact (kept HST.out.1.sbx.box hb9).trans (kept HST.out.1.sbx.box H7.out.2.2.1).symm⟩
   clear ho9 hg9 hb9 hk9 hst z1 z2 z3
   go_wp2_with fail
   refine mixl_act (i := 8) rfl (by kernel_rfl) (keepSC KS9.out) rfl (fun K hK => ?_)
   go_wp2_with fail
   refine HP.out.mono ?_
   intro e w10 hpost
   rw [HV.out.2.2.2] at hpost
   obtain ⟨rfl, H10, S10, p10, o10, r10, hL10, hcl, hp10, hT10⟩ := H9.out.1.put (by rw [List.length_append, List.length_singleton]; omega) HH.out.2.2.2.2.1 (by have := HH.out.2.2.2.2.2.1; have := H3'.out.2.2.1; omega) (by rw [<- HV.out.2.2.2]; exact HK.out) hpost
   have HE := HoldT.mk (show SetPost Q R H p tb sb s name ((_ :: val) :: vs) cnt w0 w (.returned (.int .i64 0)) w10 from ⟨H10, S10, p10, o10, r10, rfl, hL10, H9.out.2.1.trans hcl, by have := H3'.out.2.2.1; omega, H9.out.2.2.trans hT10⟩)
   have KS10 : HoldT (∀ q : Nat, q = sb -> w10.heap[q]? = w7.heap[q]?) := ⟨fun q e => by rw [e]; exact hL10.sbx.box.trans HS7.out.sbx.box.symm⟩
   clear hL10 hcl hp10 hT10 hpost HP
   go_wp2_with fail
   refine mixl_seg (by kernel_rfl) (fun _ _ d _ _ h => by cases d <;> exact h) [9] [_] 0 1 rfl _ _ _ rfl (by kernel_rfl) (keepSC KS10.out) ?_
   repeat (go_big_quiet_step (fail))
   refine wpQuiet_nil ?_
   refine mix_done (by kernel_rfl) (keepSC KS10.out) ?_
   go_wp2_with fail
   go_ret
   exact HE.out
end Go.Proofs.YtafilaiinbggoaaGreat
