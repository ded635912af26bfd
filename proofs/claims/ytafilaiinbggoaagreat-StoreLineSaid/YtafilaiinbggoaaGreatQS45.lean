import Derived.Test.YtafilaiinbggoaaGreatQS44
namespace Go.Proofs.YtafilaiinbggoaaGreat
open Go.RowKit Go.Maps
theorem infoItm : (Tryz.prog.info? 80).map (fun i => (i.zero, i.size, i.bytes)) = some (some (.agg #[.slice none 0 0, .slice none 0 0]), 2, 48) := by kernel_rfl
def RItm : Rep (Value × Value) := fun _ x d => d = [x.1, x.2]
theorem RItm_mono : Mono RItm := fun _ _ _ _ _ h => h
set_option maxHeartbeats 1000000 in
set_option maxRecDepth 100000 in
theorem store_behind {s u : UInt8} {w : World} (h : u.toNat = s.toNat + 1) :
  Calls Tryz.prog 24 #[.int .i64 (s.toNat : Int)] w (RowB [u] w) := by
 have hu := u.toNat_lt
 have h1 : ¬ (s.toNat : Int) = 255 := by omega
 have h2 : ((s.toNat : Int) + 1) % 256 = (u.toNat : Int) := by omega
 have h3 : (s.toNat : Int) + 1 = (u.toNat : Int) := by omega
 have h4 : (u.toNat : Int) % 256 = (u.toNat : Int) := by omega
 obtain ⟨q, hq⟩ : ∃ q, q = w.heap.size := ⟨_, rfl⟩
 obtain ⟨w1, hw1⟩ : ∃ w1, w1 = w.alloc (.cells #[.int .u8 (u.toNat : Int)] 5) := ⟨_, rfl⟩
 have ho1 : OwnS 1 RY 5 w.heap.size w1 (.slice (some ⟨q, 0, none⟩) 1 1) 1 [u] (bvY [u]) := by rw [hw1, hq]; exact own_newY (ys := [u]) rfl (by simp) (Nat.le_refl _)
 have hb1 : Below w.heap.size w w1 := by rw [hw1]; exact (Below.refl _ w).alloc (Nat.le_refl _) _
 have HE := HoldT.mk (show RowB [u] w (.returned (.slice (some ⟨q, 0, none⟩) 1 1)) w1 from ⟨_, _, rfl, ho1, hb1⟩)
 have HW := HoldT.mk (And.intro hq hw1)
 clear h hu hq hw1 ho1 hb1
 go_enter Tryz.func24, Tryz.ntmps24
 go_wp2_with fail
 go_ret
 rw [<- HW.out.1, <- HW.out.2]
 exact HE.out
def ListPostS (Q : PQ) (R : Int -> Option Bts) (H : HS) (S : PS) (p : Nat) (k : Nat) (w : World) (e : Ending) (w' : World) : Prop :=
 ∃ (la : Option Addr) (lc : Nat) (H' : HS) (S' : PS) (p' : Nat), e = .returned (.tuple #[.slice la k lc, .int .i64 0]) /\ PG Q R H' S' p' w' /\ SameP S S' /\ TurnS H.all w H'.all w' /\ p' <= p + 480
set_option maxHeartbeats 8000000 in
set_option maxRecDepth 100000 in
theorem store_List {Q : PQ} {R : Int -> Option Bts} {H : HS} {S : PS} {p tb sb t : Nat} {s u : UInt8} {name : Bts} {vs : List Bts} {o : Top} {root : Int} {cnt : Nat} {w0 w : World} (h : LSt Q R H S p tb sb s name vs o root cnt w0 w) (hu : u.toNat = s.toNat + 1) :
  Calls Tryz.prog 9 #[.pointer (some ⟨sb, 0, none⟩), .int .i64 (s.toNat : Int), .slice none 0 0, .slice none 0 0, .int .u64 (t : Int)] w (ListPostS Q R H S p (if (seenL (verL vs) t).isSome = true then 1 else 0) w) := by
 obtain ⟨ok, hok⟩ : ∃ ok, ok = (seenL (verL vs) t).isSome := ⟨_, rfl⟩
 rw [<- hok]
 obtain ⟨k, hk⟩ : ∃ k, k = if ok = true then 1 else 0 := ⟨_, rfl⟩
 rw [<- hk]
 obtain ⟨q, hq⟩ : ∃ q, q = w.heap.size := ⟨_, rfl⟩
 obtain ⟨w1, hw1⟩ : ∃ w1, w1 = w.alloc (.cells #[.slice none 0 0, .slice none 0 0] 23) := ⟨_, rfl⟩
 have hb1 : Below w.heap.size w w1 := by rw [hw1]; exact (Below.refl _ w).alloc (Nat.le_refl _) _
 have hx1 : w1.heap[q]? = some (.cells #[.slice none 0 0, .slice none 0 0] 23 (0, 0)) := by rw [hw1, hq]; exact heap_alloc_new w _
 have HWR := HoldT.mk (store_wrong (s := s) (q := q) (n := 2) (vs := [.slice none 0 0, .slice none 0 0]) (w := w1) rfl (fun i v hi => by
  match i, hi with
  | 0, hi => cases hi; simp [World.cell?, hx1]
  | 1, hi => cases hi; simp [World.cell?, hx1]) (fun v hv => by
  have hv : v = .slice none 0 0 := by
   rcases List.mem_cons.1 hv with hv | hv
   ·exact hv
   ·exact List.mem_singleton.1 hv
  subst hv
  exact ⟨[], SAt.none _ _ _, Nat.zero_le _⟩) (by omega))
 have HH := HoldT.mk (And.intro h (And.intro hb1 (And.intro hu (And.intro hok hk))))
 have HW := HoldT.mk (And.intro hq hw1)
 clear h hb1 hu hok hk hq hw1 hx1
 go_enter Tryz.func9, Tryz.ntmps9
 go_wp2_with fail
 rw [<- HW.out.1, <- HW.out.2]
 clear HW
 refine HWR.out.mono ?_
 rintro e w2 ⟨rfl, hb2⟩
 have HB2 := HoldT.mk (HH.out.2.1.trans (hb2.mono HH.out.2.1.size))
 have HBH := HoldT.mk (store_behind (s := s) (u := u) (w := w2) HH.out.2.2.1)
 clear hb2 HWR
 go_wp2_with fail
 refine HBH.out.mono ?_
 rintro e w3 ⟨gv, cs3, rfl, ho3, hb3⟩
 obtain ⟨ga, gc, rfl⟩ := ho3.shape
 have HB3 := HoldT.mk (HB2.out.trans (hb3.mono HB2.out.size))
 have HY3 := HoldT.mk ho3
 have HF := HoldT.mk (stamp_First (s := s) (name := []) (nv := .slice none 0 0) (w := w3) (SAt.none _ _ _) (Nat.zero_le _))
 clear ho3 hb3 HBH
 go_wp2_with fail
 refine HF.out.mono ?_
 rintro e w4 ⟨fv, cs4, rfl, ho4, hb4⟩
 obtain ⟨fa, fc, rfl⟩ := ho4.shape
 have HB4 := HoldT.mk (HB3.out.trans (hb4.mono HB3.out.size))
 have hst := HH.out.1.quiet HB4.out
 obtain ⟨z1, z2, z3⟩ := hst.size
 have HGA := HoldT.mk (store_gather (s := s) (name := name) (vs := vs) hst.lt.pg hst.lt.tbx hst.sbx hst.lt.top ho4.yat (HY3.out.quiet RY_mono hb4).yat (by rw [hst.es]; exact stE_all (by have := HH.out.2.2.1; omega) name vs) (by omega) (by omega) (by have := hst.pl; omega) (by have := hst.nm; omega) hst.vals (by have := hst.few; omega))
 have HZ := HoldT.mk (And.intro z2 (And.intro hst.few hst.vals))
 clear ho4 hb4 hst z1 z2 z3 HF
 go_wp2_with fail
 refine HGA.out.mono ?_
 rintro e w5 ⟨outv, H5, S5, p5, rfl, hG5, hS5, hT5, hp5, hnil, hcons⟩
 have H5' := HoldT.mk (And.intro hG5 (And.intro hS5 (And.intro (TurnS.before HB4.out hT5) (show p5 <= p + 480 by have := HZ.out.1; omega))))
 clear hG5 hS5 hT5 hp5 HGA
 by_cases hvs : vs = []
 ·obtain rfl := hnil hvs
  have hok : ok = false := by rw [HH.out.2.2.2.1, hvs]; rfl
  have hk : k = 0 := by rw [HH.out.2.2.2.2, hok]; rfl
  subst hok
  subst hk
  have HE := HoldT.mk (show ListPostS Q R H S p 0 w (.returned (.tuple #[.slice none 0 0, .int .i64 0])) w5 from ⟨none, 0, H5, S5, p5, rfl, H5'.out.1, H5'.out.2.1, H5'.out.2.2.1, H5'.out.2.2.2⟩)
  clear hnil hcons
  go_wp2_with fail
  go_loopw [16, 18, 19, 20, 51] (fun s16 s18 s19 s20 s51 wr => s16 = .slice none 0 0 /\ s51 = .int .i64 0 /\ wr = w5) (fun _ _ _ _ _ _ => 0)
  case atStart => exact ⟨rfl, rfl, rfl⟩
  case round =>
   obtain ⟨rfl, rfl, hwr⟩ := hrel
   subst hwr
   go_wp2_with fail
   refine bodyPost_ret (v := .tuple #[.slice none 0 0, .int .i64 0]) (by simp [results, Tryz.results9, go_sem]) rfl ?_
   exact HE.out
 ·obtain ⟨ob, cc, nv, vsl, ksl, c0, B, wg, rfl, hgn, hc0, hB⟩ := hcons hvs
  obtain ⟨o0, o1, o2, ofr, olt⟩ := hgn.cells
  obtain ⟨cv, hver⟩ := hgn.ver
  obtain ⟨ks, ck, hkey⟩ := hgn.keys
  obtain ⟨va, vc, rfl⟩ := hver.shape
  obtain ⟨ka, kc, rfl⟩ := hkey.shape
  obtain ⟨na, nc, rfl⟩ := hgn.nm.form
  obtain ⟨vn, hvn⟩ : ∃ vn, vn = (verL vs).length := ⟨_, rfl⟩
  obtain ⟨kn, hkn⟩ : ∃ kn, kn = vs.length := ⟨_, rfl⟩
  obtain ⟨nl, hnl⟩ : ∃ nl, nl = name.length := ⟨_, rfl⟩
  rw [<- hvn] at o1 hver
  rw [<- hkn] at o2
  rw [<- hnl] at o0
  have HC := HoldT.mk (And.intro (hver.at_ (RVer_mono c0)) (And.intro hc0 (And.intro o0 (And.intro o1 o2))))
  clear hnil hcons hgn hc0 hB ofr olt hver hkey hkn hnl o0 o1 o2 hvn
  go_wp2_with fail
  go_loopw [16, 18, 19, 20, 51] (fun s16 s18 s19 s20 s51 wr => ∃ j : Nat, s51 = .int .i64 (j : Int) /\ j <= 1 /\ HoldT (Below w5.heap.size w5 wr) /\ HoldT ((j = 0 /\ s16 = .slice none 0 0) \/ (j = 1 /\ ∃ a c, s16 = .slice a k c))) (fun _ _ _ _ s51 _ => 1 - (intOf s51).toNat)
  case atStart => exact ⟨0, rfl, Nat.zero_le _, ⟨Below.refl _ _⟩, ⟨.inl ⟨rfl, rfl⟩⟩⟩
  case round =>
   obtain ⟨j, rfl, hj, HB, HJ⟩ := hrel
   rcases HJ.out with ⟨rfl, rfl⟩ | ⟨rfl, la, lc, rfl⟩
   ·have z0 := cle_below HB.out _ _ _ (show cf w5 ob 0 = _ from HC.out.2.2.1)
    have z1 := cle_below HB.out _ _ _ (show cf w5 ob 1 = _ from HC.out.2.2.2.1)
    have z2 := cle_below HB.out _ _ _ (show cf w5 ob 2 = _ from HC.out.2.2.2.2)
    unfold cf at z0 z1 z2
    obtain ⟨nb, hnb⟩ : ∃ q, q = wr.heap.size := ⟨_, rfl⟩
    obtain ⟨w6, hw6⟩ : ∃ w6, w6 = wr.alloc (.cells #[.slice na nl nc, .slice va vn vc, .slice ka kn kc] 78) := ⟨_, rfl⟩
    have hb6 : Below wr.heap.size wr w6 := by rw [hw6]; exact (Below.refl _ wr).alloc (Nat.le_refl _) _
    have hx6 : w6.heap[nb]? = some (.cells #[.slice na nl nc, .slice va vn vc, .slice ka kn kc] 78 (0, 0)) := by rw [hw6, hnb]; exact heap_alloc_new wr _
    have HB6 := HoldT.mk (HB.out.trans (hb6.mono HB.out.size))
    have HA := HoldT.mk (see_At (t := t) (w := w6) (HC.out.1.mono (RVer_mono c0) (cle_below HB6.out)) (HC.out.2.1.trans (cle_below HB6.out)) (by rw [verL_len]; have := HZ.out.2.1; omega) (fun x hx => by
     obtain ⟨_, v, h2, h3⟩ := verL_le hx
     have := (HZ.out.2.2 v h2).2
     rw [h3, List.length_drop]
     omega))
    obtain ⟨r, hr⟩ : ∃ r, r = seenL (verL vs) t := ⟨_, rfl⟩
    have HRO := HoldT.mk (show ok = r.isSome by rw [hr]; exact HH.out.2.2.2.1)
    rw [<- hr] at HA
    have y1 : w6.cell? ⟨nb, 1, none⟩ = some (.slice va vn vc) := by simp [World.cell?, hx6]
    have HX6 := HoldT.mk hx6
    have HW := HoldT.mk (And.intro hnb hw6)
    clear hr hnb hw6 hb6 hx6 HJ
    go_upto_region 14 with (fail)
    rw [<- HW.out.1, <- HW.out.2]
    clear HW z0 z1 z2
    go_wp2_with fail
    refine HA.out.mono ?_
    rintro e w7 ⟨xa, xl, xc, rfl, _, hb7⟩
    rw [<- HRO.out]
    have hx7 := kept HX6.out hb7
    have y0 : w7.cell? ⟨nb, 0, none⟩ = some (.slice na nl nc) := by simp [World.cell?, hx7]
    have HB7 := HoldT.mk (HB6.out.trans (hb7.mono HB6.out.size))
    clear hx7 hb7 HA y1 HRO
    cases ok with
    | false =>
     obtain rfl : k = 0 := HH.out.2.2.2.2
     go_wp2_with fail
     exact ⟨⟨1, by go_num, Nat.le_refl _, HB7, ⟨.inr ⟨rfl, _, _, rfl⟩⟩⟩, by simp [intOf]⟩
    | true =>
     obtain rfl : k = 1 := HH.out.2.2.2.2
     go_wp2_with (at_builtin; refine push_new RItm_mono rfl _ _ rfl infoItm Tryz.underlying36 rfl (by decide) w7.heap.size w7 (.slice none 0 0) 0 [] [] (OwnS.start 2 RItm 80 (Nat.le_refl _)) rfl _ [.slice na nl nc, .slice xa xl xc] rfl rfl (by simp [Value.oneCell']) (.slice na nl nc, .slice xa xl xc) rfl _ rfl rfl (by omega) (by decide) ?_)
     intro sl8 w8 ho8 hg8
     obtain ⟨a8, c8, rfl⟩ := ho8.shape
     have HB8 := HoldT.mk (HB7.out.trans ((hg8.below (Nat.le_refl _) (fun g e => by cases e)).mono HB7.out.size))
     clear ho8 hg8
     go_wp2_with fail
     exact ⟨⟨1, by go_num, Nat.le_refl _, HB8, ⟨.inr ⟨rfl, _, _, rfl⟩⟩⟩, by simp [intOf]⟩
   ·have HE := HoldT.mk (show ListPostS Q R H S p k w (.returned (.tuple #[.slice la k lc, .int .i64 0])) wr from ⟨la, lc, H5, S5, p5, rfl, H5'.out.1.below HB.out, H5'.out.2.1, H5'.out.2.2.1.then HB.out, H5'.out.2.2.2⟩)
    go_wp2_with fail
    refine bodyPost_ret (v := .tuple #[.slice la k lc, .int .i64 0]) (by simp [results, Tryz.results9, go_sem]) rfl ?_
    exact HE.out
end Go.Proofs.YtafilaiinbggoaaGreat
namespace Go.Proofs.YtafilaiinbggoaaGreat
open Go.RowKit Go.Maps
def valG (gs : List Bool) (i : Nat) : Bts := if gs.getD i false = true then [0] else [1, UInt8.ofNat i]
def vsG (gs : List Bool) : Nat -> List Bts
 | 0 => []
 | j + 1 => valG gs j :: vsG gs j
theorem vsG_len (gs : List Bool) : ∀ j, (vsG gs j).length = j
 | 0 => rfl
 | j + 1 => by
  show (vsG gs j).length + 1 = j + 1
  rw [vsG_len gs j]
def seenG (gs : List Bool) (t : Nat) : Option Bts := if t = 0 then none else if gs.getD (t - 1) false = true then none else some [UInt8.ofNat (t - 1)]
theorem seen_vsG (gs : List Bool) : ∀ (n t : Nat), t <= n -> seenL (verL (vsG gs n)) t = seenG gs t
 | 0, t, h => by
  obtain rfl : t = 0 := by omega
  rfl
 | n + 1, t, h => by
  have e : verL (vsG gs (n + 1)) = (n + 1, goneB (valG gs n), (valG gs n).drop 1) :: verL (vsG gs n) := by
   show ((vsG gs n).length + 1, goneB (valG gs n), (valG gs n).drop 1) :: verL (vsG gs n) = _
   rw [vsG_len]
  rw [e]
  unfold seenL
  by_cases ht : t = n + 1
  ·subst ht
   rw [List.find?_cons_of_pos (by unfold upTo; simp)]
   have e1 : seenG gs (n + 1) = if gs.getD n false = true then none else some [UInt8.ofNat n] := by
    unfold seenG
    rw [if_neg (Nat.succ_ne_zero n), Nat.add_sub_cancel]
   rw [e1]
   unfold valG
   generalize gs.getD n false = g
   cases g <;> rfl
  ·rw [List.find?_cons_of_neg (by unfold upTo; simp; omega)]
   exact seen_vsG gs n t (by omega)
theorem cf_cfLS {A : Nat} {W w : World} (hb : Below W.heap.size W w) (hA : W.heap.size <= A) : CLe (cf W) (cfL A w) := fun b o u h => by
 have hlt : b < W.heap.size := lt_of_cell h
 unfold cfL
 rw [if_pos (by omega)]
 exact cle_below hb _ _ _ h
theorem lst_start {w0 w1 w2 w3 : World} {db pb tb sb size cnt pool : Nat} {HD HP : BS} (s : UInt8) {name : Bts} (hnm : name.length <= 100) (hb1 : Below w0.heap.size w0 w1) (hHD : ∀ b, HD b -> w0.heap.size <= b) (hG : PG ⟨pb, db, 0, cnt, pool, size⟩ (fun _ => none) ⟨HD, HP⟩ (PS.open cnt 0 fun _ => none) 0 w2) (hb2 : Below w1.heap.size w1 w2) (hHP : ∀ b, HP b -> w1.heap.size <= b) (hT : TB ⟨HD, HP⟩ w3 tb pb (-1)) (hS : SB ⟨HD, HP⟩ w3 sb tb pb) (hb3 : Below w2.heap.size w2 w3) (htb : w2.heap.size <= tb) (hsb : w2.heap.size <= sb) : LSt ⟨pb, db, 0, cnt, pool, size⟩ (fun _ => none) ⟨HD, HP⟩ (PS.open cnt 0 fun _ => none) 0 tb sb s name [] none (-1) cnt w0 w3 :=
 ⟨lt_start hb1 hHD hG hb2 hHP hT hb3 htb, hS, rfl, hnm, fun v hv => (by cases hv), Nat.zero_le _, by have := hb1.size; have := hb2.size; omega, Nat.zero_le _⟩
set_option maxHeartbeats 8000000 in
set_option maxRecDepth 100000 in
theorem law22_awake (w : World) : Calls Tryz.prog 5 #[] w fun e w' => e = .returned (.bool true) /\ Below w.heap.size w w' := by
 have HD := HoldT.mk (disk_made (n := 80) (by omega) w)
 have kc := fun (w : World) (C : Array Value) (n c : Nat) => Lib.run_convert_bytes_const (P := Tryz.prog) w 23 5 C n c Tryz.underlying23 Tryz.underlying5
 have kc2 : ∀ (w : World) (C0 C : Array Value) (m : Nat × Nat) (n c : Nat), (convert 23 23 (.slice (some ⟨w.heap.size + 1, 0, none⟩) n c)).run Tryz.prog ((w.alloc (.cells C0 5 m)).alloc (.cells C 5)) = .ok (.slice (some ⟨w.heap.size + 1, 0, none⟩) n c) ((w.alloc (.cells C0 5 m)).alloc (.cells C 5 (C.size, C.size + 1))) := fun w C0 C m n c => by
  have h := kc (w.alloc (.cells C0 5 m)) C n c
  rw [show (w.alloc (.cells C0 5 m)).heap.size = w.heap.size + 1 by simp] at h
  exact h
 go_enter Tryz.func5, Tryz.ntmps5
 go_wp2_with fail
 refine HD.out.mono ?_
 rintro e w1 ⟨db, HDB, rfl, hdg, hb1, hHD⟩
 have HPO := HoldT.mk (pages_open (fr0 := 0) (count := 20) (pool := 4) hdg (by omega) (by omega) (by omega))
 have H1 := HoldT.mk (And.intro hb1 hHD)
 clear hdg hb1 hHD HD
 go_wp2_with fail
 refine HPO.out.mono ?_
 rintro e w2 ⟨pb, HP, rfl, hpb, hG, hb2, hHP⟩
 have HTO := HoldT.mk (store_open (H := ⟨HDB, HP⟩) (pb := pb) (root := -1) hG.lt)
 have H2 := HoldT.mk (And.intro hG (And.intro hb2 hHP))
 clear hpb hG hb2 hHP HPO
 go_wp2_with fail
 refine HTO.out.mono ?_
 rintro e w3 ⟨tb, sb, rfl, hT, hS, hb3, htb, hsb⟩
 have hL := lst_start 1 (name := [97]) (by simp) H1.out.1 H1.out.2 H2.out.1 H2.out.2.1 H2.out.2.2 hT hS hb3 htb hsb
 obtain ⟨q1, hq1⟩ : ∃ q, q = w3.heap.size := ⟨_, rfl⟩
 obtain ⟨w4, hw4⟩ : ∃ w, w = w3.alloc (.cells #[.int .u8 97] 5 (1, 2)) := ⟨_, rfl⟩
 have hb4 : Below w3.heap.size w3 w4 := by rw [hw4]; exact (Below.refl _ w3).alloc (Nat.le_refl _) _
 have h4 : w4.heap[q1]? = some (.cells #[.int .u8 97] 5 (1, 2)) := by rw [hw4, hq1]; exact heap_alloc_new w3 _
 obtain ⟨w5, hw5⟩ : ∃ w, w = w4.alloc (.cells #[.int .u8 120] 5 (1, 2)) := ⟨_, rfl⟩
 obtain ⟨q2, hq2⟩ : ∃ q, q = w4.heap.size := ⟨_, rfl⟩
 have hb5 : Below w4.heap.size w4 w5 := by rw [hw5]; exact (Below.refl _ w4).alloc (Nat.le_refl _) _
 have h5 : w5.heap[q2]? = some (.cells #[.int .u8 120] 5 (1, 2)) := by rw [hw5, hq2]; exact heap_alloc_new w4 _
 have hq12 : q1 + 1 = q2 := by rw [hq2, hw4, hq1]; simp
 have hL5 := (hL.quiet hb4).quiet hb5
 have hpu := store_Set (s := 1) (val := [120]) (gone := false) hL5 ((one_u8 (c := 97) (kept h4 hb5)).mono RY_mono (cfU_cfL _ _)) ((one_u8 (c := 120) h5).mono RY_mono (cfU_cfL _ _)) (fun e => by cases e) (by simp) (by simp) (by omega) (by simp)
 rw [show (((1 : UInt8).toNat : Nat) : Int) = 1 from rfl, show ((([] : List Bts).length + 1 : Nat) : Int) = 1 from rfl] at hpu
 have HPU := HoldT.mk hpu
 have HW := HoldT.mk (And.intro hq1 (And.intro hw4 (And.intro hq12 hw5)))
 clear hT hS hb3 htb hsb HTO H1 H2 hL hq1 hw4 hb4 h4 hw5 hq2 hb5 h5 hq12 hL5 hpu
 go_wp2_with fail
 rw [<- HW.out.1, HW.out.2.2.1, <- HW.out.2.1, <- HW.out.2.2.2]
 refine HPU.out.mono ?_
 rintro e w6 ⟨H6, S6, p6, o6, r6, rfl, hL6, _, hp6, _⟩
 have HL6 := HoldT.mk (And.intro hL6 hp6)
 clear hL6 hp6 HPU HW
 obtain ⟨q3, hq3⟩ : ∃ q, q = w6.heap.size := ⟨_, rfl⟩
 obtain ⟨w7, hw7⟩ : ∃ w, w = w6.alloc (.cells #[.int .u8 97] 5 (1, 2)) := ⟨_, rfl⟩
 have hb7 : Below w6.heap.size w6 w7 := by rw [hw7]; exact (Below.refl _ w6).alloc (Nat.le_refl _) _
 have h7 : w7.heap[q3]? = some (.cells #[.int .u8 97] 5 (1, 2)) := by rw [hw7, hq3]; exact heap_alloc_new w6 _
 have hL7 := HL6.out.1.quiet hb7
 have hsee := store_See (s := 1) (t := 2) hL7 ((one_u8 (c := 97) h7).mono RY_mono (cfU_cf _))
 rw [show (((1 : UInt8).toNat : Nat) : Int) = 1 from rfl, show ((2 : Nat) : Int) = 2 from rfl] at hsee
 have HG := HoldT.mk hsee
 have hres : seenL (verL (((if false = true then 0 else 1) :: [120]) :: [])) 2 = some [120] := by decide
 rw [hres] at HG
 have HB7 := HoldT.mk hL7
 have HW := HoldT.mk (And.intro hq3 hw7)
 clear hres hL7 h7 hb7 hq3 hw7 hsee
 go_wp2_with fail
 rw [<- HW.out.1, <- HW.out.2]
 refine HG.out.mono ?_
 rintro e w8 ⟨va, vl, vc, H8, S8, p8, rfl, hv, hG8, hS8, hT8, hp8⟩
 have hy := hv [120] rfl
 obtain rfl : vl = 1 := yat_len hy
 have hcv := run_bytes_strY w8 _ [120] (hy.mono RY_mono (cfU_cf _))
 have HF := HoldT.mk (HB7.out.lt.read hG8 hS8 hT8).1.bel
 clear HG HB7 HW hG8 hS8 hT8 hp8 hv hy HL6
 go_wp2_with fail
 go_ret
 exact ⟨by simp, HF.out⟩
def BegunPost (s : UInt8) (name : Bts) (w : World) (e : Ending) (w' : World) : Prop :=
 ∃ (Q : PQ) (R : Int -> Option Bts) (H : HS) (S : PS) (tb sb bb rb : Nat), e = .returned (.pointer (some ⟨bb, 0, none⟩)) /\ LSt Q R H S 0 tb sb s name [] none (-1) 600 w w' /\ w'.heap[bb]? = some (.cells #[.pointer (some ⟨sb, 0, none⟩), .pointer (some ⟨rb, 0, none⟩), .int .u64 0] 32 (0, 0)) /\ ¬ (H.all bb \/ bb = tb)
set_option maxHeartbeats 8000000 in
set_option maxRecDepth 100000 in
theorem law22_begun {name : Bts} (hnm : name.length <= 100) (w : World) : Calls Tryz.prog 6 #[] w (BegunPost 1 name w) := by
 have HD := HoldT.mk (disk_made (n := 2400) (by omega) w)
 go_enter Tryz.func6, Tryz.ntmps6
 go_wp2_with fail
 refine HD.out.mono ?_
 rintro e w1 ⟨db, HDB, rfl, hdg, hb1, hHD⟩
 have HPO := HoldT.mk (pages_open (fr0 := 0) (count := 600) (pool := 8) hdg (by omega) (by omega) (by omega))
 have H1 := HoldT.mk (And.intro hb1 hHD)
 clear hdg hb1 hHD HD
 go_wp2_with fail
 refine HPO.out.mono ?_
 rintro e w2 ⟨pb, HP, rfl, hpb, hG, hb2, hHP⟩
 have HTO := HoldT.mk (store_open (H := ⟨HDB, HP⟩) (pb := pb) (root := -1) hG.lt)
 have H2 := HoldT.mk (And.intro hG (And.intro hb2 hHP))
 clear hpb hG hb2 hHP HPO
 go_wp2_with fail
 refine HTO.out.mono ?_
 rintro e w3 ⟨tb, sb, rfl, hT, hS, hb3, htb, hsb⟩
 have hL := lst_start 1 hnm H1.out.1 H1.out.2 H2.out.1 H2.out.2.1 H2.out.2.2 hT hS hb3 htb hsb
 obtain ⟨rb, hrb⟩ : ∃ q, q = w3.heap.size := ⟨_, rfl⟩
 obtain ⟨w4, hw4⟩ : ∃ w, w = w3.alloc (.cells #[.slice none 0 0] 57) := ⟨_, rfl⟩
 have hb4 : Below w3.heap.size w3 w4 := by rw [hw4]; exact (Below.refl _ w3).alloc (Nat.le_refl _) _
 obtain ⟨bb, hbb⟩ : ∃ q, q = w4.heap.size := ⟨_, rfl⟩
 obtain ⟨w5, hw5⟩ : ∃ w, w = w4.alloc (.cells #[.pointer (some ⟨sb, 0, none⟩), .pointer (some ⟨rb, 0, none⟩), .int .u64 0] 32) := ⟨_, rfl⟩
 have hb5 : Below w4.heap.size w4 w5 := by rw [hw5]; exact (Below.refl _ w4).alloc (Nat.le_refl _) _
 have h5 : w5.heap[bb]? = some (.cells #[.pointer (some ⟨sb, 0, none⟩), .pointer (some ⟨rb, 0, none⟩), .int .u64 0] 32 (0, 0)) := by rw [hw5, hbb]; exact heap_alloc_new w4 _
 have hrb1 : rb + 1 = bb := by rw [hbb, hw4, hrb]; simp
 have hlt := hL.lt.pg.lt
 have htl := heap_lt hL.lt.tbx.box
 have s4 := hb4.size
 have HE := HoldT.mk (show BegunPost 1 name w (.returned (.pointer (some ⟨bb, 0, none⟩))) w5 from ⟨_, _, _, _, tb, sb, bb, rb, rfl, (hL.quiet hb4).quiet hb5, h5, fun e => by
  rcases e with e | e
  ·have := hlt bb e; omega
  ·omega⟩)
 have HW := HoldT.mk (And.intro hrb (And.intro hw4 (And.intro hrb1 hw5)))
 clear hT hS hb3 htb hsb HTO H1 H2 hL hrb hw4 hb4 hbb hw5 hb5 h5 hrb1 hlt htl s4
 go_wp2_with fail
 rw [<- HW.out.1, HW.out.2.2.1, <- HW.out.2.1, <- HW.out.2.2.2]
 go_ret
 exact HE.out
end Go.Proofs.YtafilaiinbggoaaGreat
