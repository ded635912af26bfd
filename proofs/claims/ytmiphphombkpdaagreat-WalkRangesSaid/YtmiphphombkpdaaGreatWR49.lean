import Derived.Test.YtmiphphombkpdaaGreatWR33
import Derived.Test.YtmiphphombkpdaaGreatWR34
import Derived.Test.YtmiphphombkpdaaGreatWR48
namespace Go.Proofs.YtmiphphombkpdaaGreat
open Go.RowKit Go.Maps
abbrev LOp := UInt8 × Int × Int × Bool
def ROp12 : Rep LOp := fun _ x d => d = [.int .u8 (x.1.toNat : Int), .int .i64 x.2.1, .int .i64 x.2.2.1, .bool x.2.2.2]
theorem ROp12_mono : Mono ROp12 := fun _ _ _ _ _ h => h
def remU (n : Int) (k : Nat) : Nat := (wrap64 ((IntKind.u64.wrap n).tmod k)).toNat
theorem remU_lt (n : Int) {k : Nat} (h1 : 1 <= k) (h2 : k <= 1000) : wrap64 ((IntKind.u64.wrap n).tmod k) = (remU n k : Int) /\ remU n k < k := by
 have h0 : 0 <= IntKind.u64.wrap n := by
  have : IntKind.u64.wrap n = n % 18446744073709551616 := by simp [IntKind.wrap, IntKind.signed, IntKind.bits]
  omega
 have h3 := Int.tmod_nonneg (k : Int) h0
 have h4 := Int.tmod_lt_of_pos (IntKind.u64.wrap n) (show (0 : Int) < k by omega)
 have h5 : wrap64 ((IntKind.u64.wrap n).tmod k) = (IntKind.u64.wrap n).tmod k := by unfold wrap64; omega
 unfold remU
 rw [h5]
 omega
def keyOf (x : LOp) : Bts := List.replicate (remU x.2.1 40 + 1) x.1
def valOf (x : LOp) : Bts := List.replicate (remU x.2.2.1 261) 0
theorem keyOf_ok (x : LOp) : keyOk (keyOf x) /\ (keyOf x).length <= 40 := by
 have := (remU_lt x.2.1 (k := 40) (by omega) (by omega)).2
 unfold keyOf keyOk
 rw [List.length_replicate]
 omega
theorem valOf_ok (x : LOp) : (valOf x).length <= 260 := by
 have := (remU_lt x.2.2.1 (k := 261) (by omega) (by omega)).2
 unfold valOf
 rw [List.length_replicate]
 omega
def stepE (es : EL) (x : LOp) : EL := if x.2.2.2 = true then delE (keyOf x) es else putE (keyOf x) (valOf x) es
def runE12 (l : List LOp) : EL := l.foldl stepE []
theorem runE_next {l : List LOp} {j : Nat} {x : LOp} (h : l[j]? = some x) : runE12 (l.take (j + 1)) = stepE (runE12 (l.take j)) x := by
 unfold runE12
 rw [take_succ h, List.foldl_append]
 rfl
def BuiltPost (l : List LOp) (w0 : World) (e : Ending) (w' : World) : Prop :=
 ∃ Q R H S p tb mb o root sl, e = .returned (.tuple #[.pointer (some ⟨Q.pb, 0, none⟩), .int .i64 root, .pointer (some ⟨mb, 0, none⟩)]) /\ LS Q R H S p tb mb o root sl (esO o) l.length w0 w' /\ esO o = runE12 l
def bdeps : Nat -> List Nat
 | 14 => [4]
 | 15 => [13]
 | _ => []
def BF (k v : Bts) : Nat -> List Value -> Value -> World -> Prop := fun i _ x w => if i = 4 \/ i = 14 then ∃ a c, x = .slice a k.length c /\ YAt (cfU w) x k else ∃ a c, x = .slice a v.length c /\ YAt (cfU w) x v
theorem bf_below {k v : Bts} : ∀ (i : Nat) (ds : List Value) (x : Value) (w w' : World), BF k v i ds x w -> Below w.heap.size w w' -> BF k v i ds x w' := fun i ds x w w' h hb => by
 unfold BF at h |-
 split at h
 ·rename_i e
  obtain ⟨a, c, h1, h2⟩ := h
  rw [if_pos e]
  exact ⟨a, c, h1, h2.mono RY_mono (cfU_below hb)⟩
 ·rename_i e
  obtain ⟨a, c, h1, h2⟩ := h
  rw [if_neg e]
  exact ⟨a, c, h1, h2.mono RY_mono (cfU_below hb)⟩
theorem zeros_yat {w w' : World} {n : Nat} (hg : w.grownBy w' none) (ho : w'.ownsRow w.heap.size 5 1 (.slice (some ⟨w.heap.size, 0, none⟩) n n) n (List.replicate n (.int .u8 0))) : YAt (cfU w') (.slice (some ⟨w.heap.size, 0, none⟩) n n) (List.replicate n 0) := by
 have h1 : OwnS 1 RY 5 w.heap.size w' (.slice (some ⟨w.heap.size, 0, none⟩) n n) n (List.replicate n 0) (List.replicate n (.int .u8 0)) := by
  refine ⟨ho, List.length_replicate, ⟨by rw [List.length_replicate, List.length_replicate, Nat.mul_one], fun i x hx => ?_⟩, hg.size⟩
  have hi := (List.getElem?_eq_some_iff.1 hx).1
  rw [List.length_replicate] at hi
  obtain rfl : x = 0 := List.eq_of_mem_replicate (List.mem_of_getElem? hx)
  refine ⟨[.int .u8 0], rfl, fun j u hu => ?_, rfl⟩
  match j, hu with
  | 0, hu =>
   cases hu
   rw [List.getElem?_replicate, if_pos (by omega)]
 exact h1.yat
theorem ls_start {w0 w1 w2 w3 w4 : World} {db pb tb mb : Nat} {HD HP : BS} (hb1 : Below w0.heap.size w0 w1) (hHD : ∀ b, HD b -> w0.heap.size <= b) (hG : PG ⟨pb, db, 0, 300, 7, 1200⟩ (fun _ => none) ⟨HD, HP⟩ (PS.open 300 0 fun _ => none) 0 w2) (hb2 : Below w1.heap.size w1 w2) (hHP : ∀ b, HP b -> w1.heap.size <= b) (hT : TB ⟨HD, HP⟩ w3 tb pb (-1)) (hb3 : Below w2.heap.size w2 w3) (htb : w2.heap.size <= tb) (hw4 : w4 = w3.alloc (.cells #[.slice none 0 0] 67)) (hmb : mb = w3.heap.size) : LS ⟨pb, db, 0, 300, 7, 1200⟩ (fun _ => none) ⟨HD, HP⟩ (PS.open 300 0 fun _ => none) 0 tb mb none (-1) (.slice none 0 0) [] 0 w0 w4 := by
 have hb4 : Below w3.heap.size w3 w4 := by rw [hw4]; exact (Below.refl _ w3).alloc (Nat.le_refl _) _
 have hbm : w4.heap[mb]? = some (.cells #[.slice none 0 0] 67 (0, 0)) := by rw [hw4, hmb]; exact heap_alloc_new w3 _
 have s1 := hb1.size
 have s2 := hb2.size
 have s3 := hb3.size
 have hlt := heap_lt hT.box
 refine ⟨(hG.below hb3).below hb4, hT.below hb4, rfl, trivial, ⟨List.nodup_nil, fun p hp => (by cases hp), fun p s hp _ => ?_⟩, by unfold PS.open; rw [List.length_replicate], Nat.le_refl _, ⟨hbm, [], OwnS.start 2 _ _ (Nat.zero_le _)⟩, fun b hb => ?_, ((hb1.trans (hb2.mono s1)).trans (hb3.mono (by omega))).trans (hb4.mono (by omega)), fun b hb => ?_⟩
 ·unfold PS.open at hp
  exact List.eq_of_mem_replicate (List.mem_of_getElem? hp)
 ·rcases hb with rfl | hb
  ·rintro (e | e)
   ·have := hG.lt b e
    omega
   ·omega
  ·cases hb
 ·rcases hb with (hb | hb) | hb | hb | hb
  ·exact hHD b hb
  ·have := hHP b hb
   omega
  ·omega
  ·omega
  ·cases hb
set_option maxHeartbeats 16000000 in
set_option maxRecDepth 100000 in
theorem law_built {w0 : World} {l : List LOp} {lv : Value} (hl : SAt 4 ROp12 (cf w0) lv l) (hn : l.length <= 80) :
  Calls Tryz.prog 11 #[lv] w0 (BuiltPost l w0) := by
 obtain ⟨la, lc, rfl⟩ := hl.form
 obtain ⟨n, hnn⟩ : ∃ n, n = l.length := ⟨_, rfl⟩
 rw [<- hnn] at hl hn |-
 have HLS := HoldT.mk (And.intro hl hnn)
 clear hl hnn
 have HD := HoldT.mk (disk_made (n := 1200) (by omega) w0)
 go_enter Tryz.func11, Tryz.ntmps11
 go_wp2_with fail
 refine HD.out.mono ?_
 rintro e w1 ⟨db, HDB, rfl, hdg, hb1, hHD⟩
 have HPO := HoldT.mk (pages_open (fr0 := 0) (count := 300) (pool := 7) hdg (by omega) (by omega) (by omega))
 have H1 := HoldT.mk (And.intro hb1 hHD)
 clear hdg hb1 hHD HD
 go_wp2_with fail
 refine HPO.out.mono ?_
 rintro e w2 ⟨pb, HP, rfl, hpb, hG, hb2, hHP⟩
 have HTO := HoldT.mk (tree_open (H := ⟨HDB, HP⟩) (pb := pb) (root := -1) hG.lt)
 have H2 := HoldT.mk (And.intro hG (And.intro hb2 hHP))
 clear hpb hG hb2 hHP HPO
 go_wp2_with fail
 refine HTO.out.mono ?_
 rintro e w3 ⟨tb, rfl, hT, hb3, htb⟩
 obtain ⟨mb, hmb⟩ : ∃ mb, mb = w3.heap.size := ⟨_, rfl⟩
 obtain ⟨w4, hw4⟩ : ∃ w4, w4 = w3.alloc (.cells #[.slice none 0 0] 67) := ⟨_, rfl⟩
 have HSt := HoldT.mk (ls_start H1.out.1 H1.out.2 H2.out.1 H2.out.2.1 H2.out.2.2 hT hb3 htb hw4 hmb)
 have HW := HoldT.mk (And.intro hmb hw4)
 clear hT hb3 htb hmb hw4 HTO H1 H2
 go_upto_region 3 with (fail)
 rw [<- HW.out.1, <- HW.out.2]
 clear HW
 go_wp2_with fail
 obtain ⟨Q, hQ⟩ : ∃ Q : PQ, Q = ⟨pb, db, 0, 300, 7, 1200⟩ := ⟨_, rfl⟩
 obtain ⟨R, hR⟩ : ∃ R : Int -> Option Bts, R = fun _ => none := ⟨_, rfl⟩
 have HQ := HoldT.mk (show pb = Q.pb by rw [hQ])
 rw [<- hQ, <- hR] at HSt
 clear hQ hR
 go_loopw [9, 10, 11, 12, 13] (fun s9 s10 s11 s12 s13 wr => ∃ (j : Nat) (H : HS) (S : PS) (p : Nat) (o : Top) (root : Int) (sl : Value), s9 = .int .i64 (j : Int) /\ j <= n /\ HoldT (LS Q R H S p tb mb o root sl (esO o) j w0 wr /\ esO o = runE12 (l.take j))) (fun s9 _ _ _ _ _ => n - (intOf s9).toNat)
 case atStart => exact ⟨0, _, _, _, _, _, _, rfl, Nat.zero_le _, ⟨HSt.out, rfl⟩⟩
 case round =>
  obtain ⟨j, H, S, p, o, root, sl, rfl, hj, HL⟩ := hrel
  clear HSt
  by_cases hlt : j < n
  ·obtain ⟨x, hx⟩ : ∃ x, l[j]? = some x := ⟨l[j]'(by rw [<- HLS.out.2]; exact hlt), List.getElem?_eq_getElem _⟩
   obtain ⟨kb, N, M, gone⟩ := x
   obtain ⟨_, _, e9, _, _, hel⟩ := HLS.out.1
   simp only [Value.slice.injEq] at e9
   obtain ⟨b, off, d, ea, hd, hc, hr⟩ := hel j _ hx
   obtain rfl : la = some ⟨b, off, none⟩ := e9.1.trans ea
   have hr' : d = [.int .u8 (kb.toNat : Int), .int .i64 N, .int .i64 M, .bool gone] := hr
   subst hr'
   have hbl : Below w0.heap.size w0 wr := HL.out.1.bel
   have c0 := cle_below hbl _ _ _ (hc 0 _ rfl)
   have c1 := cle_below hbl _ _ _ (hc 1 _ rfl)
   have c2 := cle_below hbl _ _ _ (hc 2 _ rfl)
   have c3 := cle_below hbl _ _ _ (hc 3 _ rfl)
   have hbs : b < w0.heap.size := lt_of_cell (hc 0 _ rfl)
   rw [Nat.add_zero] at c0
   unfold cf at c0 c1 c2 c3
   have HX := HoldT.mk (And.intro hx (And.intro c3 hbs))
   clear hx e9 hel ea hd hc hr hbl
   have HK : HoldT (∀ wz : World, Below wr.heap.size wr wz -> ∀ q, q = b -> wz.heap[q]? = wr.heap[q]?) := ⟨fun wz hz q hq => hz.block q (by rw [hq]; have := HL.out.1.bel.size; have := HX.out.2.2; omega)⟩
   have g0 := KeepS.cell (P := fun q => q = b) c0 rfl
   have g1 := KeepS.cell (P := fun q => q = b) c1 rfl
   have g2 := KeepS.cell (P := fun q => q = b) c2 rfl
   have g3 := KeepS.cell (P := fun q => q = b) c3 rfl
   obtain ⟨hm1, hm2⟩ := remU_lt N (k := 40) (by omega) (by omega)
   obtain ⟨hv1, hv2⟩ := remU_lt M (k := 261) (by omega) (by omega)
   obtain ⟨km, hkm⟩ : ∃ km, km = remU N 40 := ⟨_, rfl⟩
   obtain ⟨vm, hvm⟩ : ∃ vm, vm = remU M 261 := ⟨_, rfl⟩
   rw [<- hkm] at hm1 hm2
   rw [<- hvm] at hv1 hv2
   have hv1' : wrap64 ((IntKind.u64.wrap M).tmod 261) = (vm : Int) := hv1
   have HKV := HoldT.mk (And.intro (show keyOf (kb, N, M, gone) = List.replicate (km + 1) kb by unfold keyOf; rw [<- hkm]) (And.intro (show valOf (kb, N, M, gone) = List.replicate vm 0 by unfold valOf; rw [<- hvm]) (And.intro hm1 hm2)))
   have b1 : (j : Int) < (n : Int) := by omega
   clear c0 c1 c2 c3 hm1 hkm hvm hv1
   go_upto_region 6 with (fail)
   refine wp_region_mixC (KeepSC (fun q => q = b) wr) 16 rfl (by kernel_rfl) ?_
   have HDR := HoldT.mk ((Below.refl wr.heap.size wr).drew)
   generalize wr.drew = v4 at HDR |-
   refine mixl_seg (by kernel_rfl) (fun _ _ d _ _ h => by cases d <;> exact h) [0, 1, 2, 3, 5, 6, 7, 8, 9, 10, 11, 12] [_, _, _, _, _, _, _, _, _, _, _, _] 4 16 rfl _ _ _ rfl (by kernel_rfl) (keepSC (HK.out _ HDR.out)) ?_
   repeat (go_big_quiet_step (fail))
   refine wpQuiet_nil ?_
   clear g0 g1 g2 g3
   have HVM := HoldT.mk hv2
   have HVE := HoldT.mk hv1'
   try rw [HVE.out]
   clear hv1'
   refine mixl_acts [4, 13, 14, 15] bdeps (fun wz => Below wr.heap.size wr wz) (BF (List.replicate (km + 1) kb) (List.replicate vm 0)) 0 4 rfl _ _ _ (fun wz hz => keepSC (HK.out _ hz)) (by kernel_rfl) bf_below ⟨⟨_, rfl, fun env v hv hd K hK => ?op4⟩, ⟨_, rfl, fun env v hv hd K hK => ?op13⟩, ⟨_, rfl, fun env v hv hd K hK => ?op14⟩, ⟨_, rfl, fun env v hv hd K hK => ?op15⟩, trivial⟩ HDR.out (fun env v hv hd => ?fin)
   case op4 =>
    have HC := HoldT.mk (law_key kb N M gone km HKV.out.2.2.1 HKV.out.2.2.2 v)
    have HV := HoldT.mk hv
    simp only [bdeps, withD, Act.put, List.setIfInBounds_toArray, List.set_cons_succ, List.set_cons_zero] at hK |-
    clear hd hv
    go_wp2_with fail
    refine HC.out.mono ?_
    rintro e v' ⟨sl', cs, rfl, ho, hb⟩
    obtain ⟨s1a, s1c, rfl⟩ := ho.shape
    refine hK _ _ (HV.out.trans (hb.mono HV.out.size)) hb ?_
    unfold BF
    rw [if_pos (.inl rfl)]
    exact ⟨s1a, s1c, by rw [List.length_replicate], ho.yat⟩
   case op13 =>
    have HV := HoldT.mk hv
    obtain ⟨v', hmk, hown, hgr⟩ := run_make_zeros (base := v.heap.size) vm (by have := HVM.out; omega) v (Nat.le_refl _)
    have hb : Below v.heap.size v v' := ⟨hgr.os, hgr.tape, hgr.output, hgr.size, fun q hq => hgr.block q hq (by simp)⟩
    have HY := HoldT.mk (And.intro (zeros_yat hgr hown) hb)
    simp only [bdeps, withD, Act.put, List.setIfInBounds_toArray, List.set_cons_succ, List.set_cons_zero] at hK |-
    clear hd hv hown hgr hb
    go_wp2_with fail
    try rw [hmk]
    go_wp2_with fail
    refine hK _ _ (HV.out.trans (HY.out.2.mono HV.out.size)) HY.out.2 ?_
    unfold BF
    rw [if_neg (by decide)]
    exact ⟨_, _, by rw [List.length_replicate], HY.out.1⟩
   case op14 =>
    have HV := HoldT.mk hv
    obtain ⟨h4, _⟩ := hd
    obtain ⟨a4, c4, e4, y4⟩ : ∃ a c, env 4 = .slice a (List.replicate (km + 1) kb).length c /\ YAt (cfU v) (env 4) (List.replicate (km + 1) kb) := h4
    have HY := HoldT.mk (And.intro e4 y4)
    simp only [bdeps, withD, dstD, opAt, Option.bind_some, Option.getD_some, e4, Act.put, List.setIfInBounds_toArray, List.set_cons_succ, List.set_cons_zero] at hK |-
    clear hv e4 y4
    go_wp2_with fail
    refine hK _ _ HV.out (Below.refl _ _) ?_
    unfold BF
    rw [if_pos (.inr rfl)]
    refine ⟨a4, c4, rfl, ?_⟩
    rw [<- HY.out.1]
    exact HY.out.2
   case op15 =>
    have HV := HoldT.mk hv
    obtain ⟨h4, _⟩ := hd
    obtain ⟨a4, c4, e4, y4⟩ : ∃ a c, env 13 = .slice a (List.replicate vm 0).length c /\ YAt (cfU v) (env 13) (List.replicate vm 0) := h4
    have HY := HoldT.mk (And.intro e4 y4)
    simp only [bdeps, withD, dstD, opAt, Option.bind_some, Option.getD_some, e4, Act.put, List.setIfInBounds_toArray, List.set_cons_succ, List.set_cons_zero] at hK |-
    clear hv e4 y4
    go_wp2_with fail
    refine hK _ _ HV.out (Below.refl _ _) ?_
    unfold BF
    rw [if_neg (by decide)]
    refine ⟨a4, c4, rfl, ?_⟩
    rw [<- HY.out.1]
    exact HY.out.2
   case fin =>
    obtain ⟨_, _, h14, h15, _⟩ := hd
    obtain ⟨ka, kc, e14, y14⟩ : ∃ a c, env 14 = .slice a (List.replicate (km + 1) kb).length c /\ YAt (cfU v) (env 14) (List.replicate (km + 1) kb) := h14
    obtain ⟨va, vc, e15, y15⟩ : ∃ a c, env 15 = .slice a (List.replicate vm (0 : UInt8)).length c /\ YAt (cfU v) (env 15) (List.replicate vm 0) := h15
    rw [List.length_replicate] at e14 e15
    rw [e14] at y14
    rw [e15] at y15
    rw [<- HKV.out.1] at y14
    rw [<- HKV.out.2.1] at y15
    have HY := HoldT.mk (And.intro y14 y15)
    have HV := HoldT.mk hv
    have hL2 := HL.out.1.quiet hv
    have HLL := HoldT.mk hL2
    have hfr := hL2.free (show j <= 80 by omega)
    have hfw := hL2.few
    have hok := okO_few hL2.ok (show j <= 80 by omega)
    have c3 := cle_below hv _ _ _ (show cf wr b (off + j * 4 + 3) = some (.bool gone) from HX.out.2.1)
    unfold cf at c3
    simp only [withD, dstD, opAt, Option.bind_some, Option.getD_some, e14, e15, Act.put, List.setIfInBounds_toArray, List.set_cons_succ, List.set_cons_zero]
    clear hv e14 e15 y14 y15
    refine mix_done (by kernel_rfl) (keepSC (HK.out _ HV.out)) ?_
    cases gone with
    | false =>
     have HP := HoldT.mk (tree_Put hL2.pg hL2.tbx hL2.top (by omega) (by omega) (keyOf_ok (kb, N, M, false)).1 (valOf_ok (kb, N, M, false)) HY.out.1 HY.out.2 hfr)
     clear hL2 hfr hfw hok
     go_wp2_with fail
     refine HP.out.mono ?_
     intro e w5 hpost
     obtain ⟨rfl, H', S', p', o', root', hL5, he5, hu5⟩ := HLL.out.put (show j <= 80 by omega) (keyOf_ok (kb, N, M, false)).1 (keyOf_ok (kb, N, M, false)).2 (valOf_ok (kb, N, M, false)) hpost
     have HL5 := HoldT.mk (And.intro hL5 he5)
     have HM := HoldT.mk (ref_Put hL5.map (HY.out.1.mono RY_mono hu5) (HY.out.2.mono RY_mono hu5) (keyOf_ok (kb, N, M, false)).1 (valOf_ok (kb, N, M, false)) (by have := (okO_few HLL.out.ok (show j <= 80 by omega)).2.2; omega))
     clear hpost hL5 he5 hu5 c3
     go_wp2_with fail
     refine HM.out.mono ?_
     intro e w6 hpost
     obtain ⟨rfl, sl', hL6⟩ := HL5.out.1.mapped hpost
     have HL6 := HoldT.mk (show LS Q R H' S' p' tb mb o' root' sl' (esO o') (j + 1) w0 w6 /\ esO o' = runE12 (l.take (j + 1)) from ⟨by rw [HL5.out.2]; exact hL6, by rw [HL5.out.2, runE_next HX.out.1, <- HL.out.2]; rfl⟩)
     clear hpost hL6
     go_wp2_with fail
     exact ⟨⟨j + 1, H', S', p', o', root', sl', by go_num, hlt, HL6⟩, by simp [intOf]; omega⟩
    | true =>
     have HP := HoldT.mk (tree_Delete hL2.pg hL2.tbx hL2.top (by omega) (by omega) hL2.ok (show j <= 80 by omega) HY.out.1 hfr)
     clear hL2 hfr hfw hok
     go_wp2_with fail
     refine HP.out.mono ?_
     intro e w5 hpost
     obtain ⟨rfl, H', S', p', o', root', hL5, he5, hu5⟩ := HLL.out.del (show j <= 80 by omega) hpost
     have HL5 := HoldT.mk (And.intro hL5 he5)
     have HM := HoldT.mk (ref_Delete hL5.map (HY.out.1.mono RY_mono hu5) (by have := (okO_few HLL.out.ok (show j <= 80 by omega)).2.2; omega))
     obtain ⟨fb, hfb⟩ : ∃ fb, fb = (getE (keyOf (kb, N, M, true)) (esO o)).isSome := ⟨_, rfl⟩
     rw [<- hfb] at HM |-
     clear hfb
     cases fb
     all_goals
      clear hpost hL5 he5 hu5 c3
      go_wp2_with fail
      refine HM.out.mono ?_
      intro e w6 hpost
      obtain ⟨rfl, sl', hL6⟩ := HL5.out.1.mapped hpost
      have HL6 := HoldT.mk (show LS Q R H' S' p' tb mb o' root' sl' (esO o') (j + 1) w0 w6 /\ esO o' = runE12 (l.take (j + 1)) from ⟨by rw [HL5.out.2]; exact hL6, by rw [HL5.out.2, runE_next HX.out.1, <- HL.out.2]; rfl⟩)
      clear hpost hL6
      go_wp2_with fail
      exact ⟨⟨j + 1, H', S', p', o', root', sl', by go_num, hlt, HL6⟩, by simp [intOf]; omega⟩
  ·obtain rfl : j = n := by omega
   have HT := HoldT.mk (tree_root HL.out.1.tbx)
   have HFIN := HoldT.mk (show BuiltPost l w0 (.returned (.tuple #[.pointer (some ⟨pb, 0, none⟩), .int .i64 root, .pointer (some ⟨mb, 0, none⟩)])) wr from ⟨Q, R, H, S, p, tb, mb, o, root, sl, by rw [HQ.out], by rw [<- HLS.out.2]; exact HL.out.1, by rw [HL.out.2, List.take_of_length_le (by rw [<- HLS.out.2]; exact Nat.le_refl _)]⟩)
   have b1 : ¬ (j : Int) < (j : Int) := by omega
   go_wp2_with fail
   refine HT.out.mono ?_
   rintro e w5 ⟨rfl, hw5⟩
   obtain rfl := hw5.symm
   go_wp2_with fail
   exact bodyPost_ret (v := .tuple #[.pointer (some ⟨pb, 0, none⟩), .int .i64 root, .pointer (some ⟨mb, 0, none⟩)]) (by simp [results, Tryz.results11, go_sem]) rfl HFIN.out
end Go.Proofs.YtmiphphombkpdaaGreat
namespace Go.Proofs.YtmiphphombkpdaaGreat
open Go.RowKit Go.Maps
set_option maxHeartbeats 8000000 in
set_option maxRecDepth 100000 in
theorem law_plain {w : World} {lv : Value} {l : EL} (hl : SAt 2 (RE (cfU w)) (cf w) lv l) (hn : l.length <= 1000000) :
  Calls Tryz.prog 14 #[lv] w fun e w' => ∃ sv, e = .returned sv /\ Got (cfU w) w w' sv l := by
 obtain ⟨a, cap, rfl⟩ := hl.form
 obtain ⟨n, hnn⟩ : ∃ n, n = l.length := ⟨_, rfl⟩
 rw [<- hnn] at hl hn |-
 have HH := HoldT.mk (And.intro hl hnn)
 clear hl hnn
 go_enter Tryz.func14, Tryz.ntmps14
 go_wp2_with fail
 go_loopw [3, 4] (fun s3 s4 wr => ∃ j : Nat, s4 = .int .i64 (j : Int) /\ j <= n /\ HoldT ((l.take j).length = j /\ Got (cfU w) w wr s3 (l.take j))) (fun _ s4 _ => n - (intOf s4).toNat)
 case atStart => exact ⟨0, rfl, Nat.zero_le _, ⟨rfl, ⟨[], OwnS.start 2 _ _ (Nat.le_refl _)⟩, Below.refl _ _⟩⟩
 case round =>
  obtain ⟨j, rfl, hj, HG⟩ := hrel
  obtain ⟨cs, ho⟩ := HG.out.2.row
  rw [HG.out.1] at ho
  obtain ⟨ga, gc, rfl⟩ := ho.shape
  by_cases hlt : j < n
  ·obtain ⟨x, hx⟩ : ∃ x, l[j]? = some x := ⟨l[j]'(by rw [<- HH.out.2]; exact hlt), List.getElem?_eq_getElem _⟩
   obtain ⟨b, off, xa, xc, ya, yc, rfl, z0, z1, hy1, hy2⟩ := row_at HH.out.1 hx
   obtain ⟨xl, hxl⟩ : ∃ q, q = x.1.length := ⟨_, rfl⟩
   obtain ⟨yl, hyl⟩ : ∃ q, q = x.2.length := ⟨_, rfl⟩
   rw [<- hxl] at z0 hy1
   rw [<- hyl] at z1 hy2
   have HX := HoldT.mk (And.intro hx (And.intro hy1 hy2))
   have c0 := cle_below HG.out.2.bel _ _ _ (show cf w b (off + j * 2) = some (.slice xa xl xc) from z0)
   have c1 := cle_below HG.out.2.bel _ _ _ (show cf w b (off + j * 2 + 1) = some (.slice ya yl yc) from z1)
   unfold cf at c0 c1
   have HO := HoldT.mk ho
   clear hx hxl hyl z0 z1 hy1 hy2 ho
   go_wp2_with (at_builtin; refine push_new (RE_mono _) rfl _ _ rfl infoR Tryz.underlying38 rfl (by decide) w.heap.size _ _ j _ _ HO.out rfl _ [.slice xa xl xc, .slice ya yl yc] rfl rfl (by simp [Value.oneCell']) x ⟨_, _, rfl, HX.out.2.1, HX.out.2.2⟩ _ rfl rfl (by omega) (by decide) ?_)
   intro sl5 w5 ho5 hg5
   obtain ⟨a5, cap5, rfl⟩ := ho5.shape
   have htl : (l.take (j + 1)).length = j + 1 := by rw [take_succ HX.out.1, List.length_append, HG.out.1]; rfl
   have HE := HoldT.mk (And.intro htl (show Got (cfU w) w w5 (.slice a5 (j + 1) cap5) (l.take (j + 1)) from ⟨⟨_, by rw [htl, take_succ HX.out.1]; exact ho5⟩, HG.out.2.bel.trans (HO.out.below hg5)⟩))
   clear ho5 hg5 htl
   go_wp2_with fail
   exact ⟨⟨j + 1, by go_num, hlt, HE⟩, by simp [intOf]; omega⟩
  ·obtain rfl : j = n := by omega
   have HE := HoldT.mk (show Got (cfU w) w wr (.slice ga j gc) l by
    have h := HG.out.2
    rw [List.take_of_length_le (by rw [<- HH.out.2]; exact Nat.le_refl _)] at h
    exact h)
   clear ho
   have b1 : ¬ (j : Int) < (j : Int) := by omega
   go_wp2_with fail
   go_ret
   exact ⟨_, rfl, HE.out⟩
open Classical in
noncomputable def sameE (l m : EL) : Bool := decide (l = m)
open Classical in
theorem sameE_yes {l m : EL} (h : l = m) : sameE l m = true := by unfold sameE; exact decide_eq_true h
open Classical in
theorem sameE_no {l m : EL} (h : l ≠ m) : sameE l m = false := by unfold sameE; exact decide_eq_false h
set_option maxHeartbeats 8000000 in
set_option maxRecDepth 100000 in
theorem ref_Same {w : World} {lv mv : Value} {l m : EL} (hl : SAt 2 (RE (cfU w)) (cf w) lv l) (hm : SAt 2 (RE (cfU w)) (cf w) mv m) (hn : l.length <= 1000000) (hn2 : m.length <= 1000000) :
  Calls Tryz.prog 13 #[lv, mv] w fun e w' => e = .returned (.bool (sameE l m)) /\ Below w.heap.size w w' := by
 obtain ⟨a, cap, rfl⟩ := hl.form
 obtain ⟨a2, cap2, rfl⟩ := hm.form
 obtain ⟨n, hnn⟩ : ∃ n, n = l.length := ⟨_, rfl⟩
 obtain ⟨n2, hnn2⟩ : ∃ n, n = m.length := ⟨_, rfl⟩
 rw [<- hnn] at hl hn |-
 rw [<- hnn2] at hm hn2 |-
 by_cases hne : n = n2
 ·subst hne
  have HH := HoldT.mk (And.intro hl (And.intro hm (And.intro hnn hnn2)))
  have bb : ((n : Int) != (n : Int)) = false := by simp
  clear hl hm hnn hnn2
  go_enter Tryz.func13, Tryz.ntmps13
  go_wp2_with fail
  go_loopw [5] (fun i wr => ∃ j : Nat, i = .int .i64 (j : Int) /\ j <= n /\ HoldT (EqTo l m j /\ Below w.heap.size w wr)) (fun i _ => n - (intOf i).toNat)
  case atStart => exact ⟨0, rfl, Nat.zero_le _, ⟨fun q hq => by omega, Below.refl _ _⟩⟩
  case round =>
   obtain ⟨j, rfl, hj, HG⟩ := hrel
   by_cases hlt : j < n
   ·obtain ⟨x, hx⟩ : ∃ x, l[j]? = some x := ⟨l[j]'(by rw [<- HH.out.2.2.1]; exact hlt), List.getElem?_eq_getElem _⟩
    obtain ⟨y, hy⟩ : ∃ y, m[j]? = some y := ⟨m[j]'(by rw [<- HH.out.2.2.2]; exact hlt), List.getElem?_eq_getElem _⟩
    obtain ⟨b, off, xa, xc, va, vc, rfl, z0, z1, hk1, hv1⟩ := row_at HH.out.1 hx
    obtain ⟨b2, off2, ya, yc, ua, uc, rfl, z2, z3, hk2, hv2⟩ := row_at HH.out.2.1 hy
    have HS : HoldT (∀ e : Grow wr, Calls Tryz.prog 16 #[.slice xa x.1.length xc, .slice ya y.1.length yc] e.val fun r w' => r = .returned (.bool (sameY x.1 y.1)) /\ ∃ e2 : Grow wr, w' = e2.val) := ⟨fun e => Calls.grow (fun e => by
     have hu := cfU_below (HG.out.2.trans (e.property.mono HG.out.2.size))
     exact Same4_any x.1 y.1 _ _ e.val (ybytes (hk1.mono RY_mono hu)) (ybytes (hk2.mono RY_mono hu))) e⟩
    have HS2 : HoldT (∀ e : Grow wr, Calls Tryz.prog 16 #[.slice va x.2.length vc, .slice ua y.2.length uc] e.val fun r w' => r = .returned (.bool (sameY x.2 y.2)) /\ ∃ e2 : Grow wr, w' = e2.val) := ⟨fun e => Calls.grow (fun e => by
     have hu := cfU_below (HG.out.2.trans (e.property.mono HG.out.2.size))
     exact Same4_any x.2 y.2 _ _ e.val (ybytes (hv1.mono RY_mono hu)) (ybytes (hv2.mono RY_mono hu))) e⟩
    obtain ⟨x1, hx1⟩ : ∃ q, q = x.1.length := ⟨_, rfl⟩
    obtain ⟨x2, hx2⟩ : ∃ q, q = x.2.length := ⟨_, rfl⟩
    obtain ⟨y1, hy1⟩ : ∃ q, q = y.1.length := ⟨_, rfl⟩
    obtain ⟨y2, hy2⟩ : ∃ q, q = y.2.length := ⟨_, rfl⟩
    rw [<- hx1] at z0 HS
    rw [<- hx2] at z1 HS2
    rw [<- hy1] at z2 HS
    rw [<- hy2] at z3 HS2
    have c0 := cle_below HG.out.2 _ _ _ (show cf w b (off + j * 2) = _ from z0)
    have c1 := cle_below HG.out.2 _ _ _ (show cf w b (off + j * 2 + 1) = _ from z1)
    have c2 := cle_below HG.out.2 _ _ _ (show cf w b2 (off2 + j * 2) = _ from z2)
    have c3 := cle_below HG.out.2 _ _ _ (show cf w b2 (off2 + j * 2 + 1) = _ from z3)
    unfold cf at c0 c1 c2 c3
    have g0 := Grow.cell c0
    have g1 := Grow.cell c1
    have g2 := Grow.cell c2
    have g3 := Grow.cell c3
    have HX := HoldT.mk (And.intro hx hy)
    clear z0 z1 z2 z3 hk1 hv1 hk2 hv2 c0 c1 c2 c3 hx hy hx1 hx2 hy1 hy2
    have b1 : decide ((j : Int) < (n : Int)) = true := decide_eq_true (by omega)
    obtain ⟨f1, hf1⟩ : ∃ f, f = sameY x.1 y.1 := ⟨_, rfl⟩
    obtain ⟨f2, hf2⟩ : ∃ f, f = sameY x.2 y.2 := ⟨_, rfl⟩
    rw [<- hf1] at HS
    rw [<- hf2] at HS2
    have HF := HoldT.mk (And.intro hf1 hf2)
    clear hf1 hf2
    have hB : HoldT ((f1 && f2) = true -> EqTo l m (j + 1)) := ⟨fun e => HG.out.1.next (by
     rw [HX.out.1, HX.out.2]
     rw [HF.out.1, HF.out.2, Bool.and_eq_true] at e
     have e1 : x.1 = y.1 := of_decide_eq_true e.1
     have e2 : x.2 = y.2 := of_decide_eq_true e.2
     rw [Prod.ext e1 e2])⟩
    have hN : HoldT ((f1 && f2) = false -> sameE l m = false) := ⟨fun e => sameE_no fun h => by
     rw [h, HX.out.2] at HX
     have e0 : y = x := Option.some.inj HX.out.1
     rw [HF.out.1, HF.out.2, e0] at e
     simp [sameY] at e⟩
    cases f1
    ·have HR := HoldT.mk (hN.out rfl)
     go_wp2_with fail
     refine wp_region_grow (by kernel_rfl) (by kernel_rfl) ?_
     repeat (go_big_quiet_step (with_reducible exact HS.out _))
     refine wpQuiet_nil ?_
     rintro ⟨w9, hb9⟩
     simp only
     have HE := HoldT.mk (HG.out.2.trans (hb9.mono HG.out.2.size))
     clear hb9 g0 g1 g2 g3
     go_wp2_with fail
     go_ret
     exact ⟨by rw [HR.out]; rfl, HE.out⟩
    ·cases f2
     ·have HR := HoldT.mk (hN.out rfl)
      go_wp2_with fail
      refine wp_region_grow (by kernel_rfl) (by kernel_rfl) ?_
      repeat (go_big_quiet_step (first | with_reducible exact HS.out _ | with_reducible exact HS2.out _))
      refine wpQuiet_nil ?_
      rintro ⟨w9, hb9⟩
      simp only
      have HE := HoldT.mk (HG.out.2.trans (hb9.mono HG.out.2.size))
      clear hb9 g0 g1 g2 g3
      go_wp2_with fail
      go_ret
      exact ⟨by rw [HR.out]; rfl, HE.out⟩
     ·have HR := HoldT.mk (hB.out rfl)
      go_wp2_with fail
      refine wp_region_grow (by kernel_rfl) (by kernel_rfl) ?_
      repeat (go_big_quiet_step (first | with_reducible exact HS.out _ | with_reducible exact HS2.out _))
      refine wpQuiet_nil ?_
      rintro ⟨w9, hb9⟩
      simp only
      have HE := HoldT.mk (And.intro HR.out (HG.out.2.trans (hb9.mono HG.out.2.size)))
      clear hb9 g0 g1 g2 g3
      go_wp2_with fail
      exact ⟨⟨j + 1, by go_num, hlt, HE⟩, by simp [intOf]; omega⟩
   ·obtain rfl : j = n := by omega
    have HE := HoldT.mk (And.intro (sameE_yes (EqTo.all (HH.out.2.2.1.symm.trans HH.out.2.2.2) (by rw [<- HH.out.2.2.1]; exact HG.out.1))) HG.out.2)
    have b1 : ¬ (j : Int) < (j : Int) := by omega
    go_wp2_with fail
    go_ret
    exact ⟨by rw [HE.out.1]; rfl, HE.out.2⟩
 ·have bb : ((n : Int) != (n2 : Int)) = true := by rw [bne_iff_ne]; omega
  have HR := HoldT.mk (sameE_no (l := l) (m := m) fun e => hne (by rw [hnn, hnn2, e]))
  clear hl hm hnn hnn2
  go_enter Tryz.func13, Tryz.ntmps13
  go_wp2_with fail
  go_ret
  exact ⟨by rw [HR.out]; rfl, Below.refl _ _⟩
end Go.Proofs.YtmiphphombkpdaaGreat
namespace Go.Proofs.YtmiphphombkpdaaGreat
open Go.RowKit Go.Maps
structure LW (Q : PQ) (R : Int -> Option Bts) (H : HS) (S : PS) (p mb : Nat) (o : Top) (root : Int) (sl : Value) (w0 w : World) : Prop where
 pg : PG Q R H S p w
 top : TopIn S o root
 ok : ∃ j, j <= 80 /\ okO j o
 only : Only S (pagesO o)
 map : RM w mb sl (esO o)
 apart : ∀ b, mapX mb sl b -> ¬ H.all b
 bel : Below w0.heap.size w0 w
 new : ∀ b, H.all b -> w0.heap.size <= b
theorem LS.lw {Q : PQ} {R : Int -> Option Bts} {H : HS} {S : PS} {p tb mb : Nat} {o : Top} {root : Int} {sl : Value} {j : Nat} {w0 w : World} (h : LS Q R H S p tb mb o root sl (esO o) j w0 w) (hj : j <= 80) : LW Q R H S p mb o root sl w0 w /\ p <= 160000 :=
 ⟨⟨h.pg, h.top, ⟨j, hj, h.ok⟩, h.only, h.map, fun b hb e => h.apart b hb (.inl e), h.bel, fun b hb => h.new b (.inl hb)⟩, by have := h.few; omega⟩
theorem LW.low {Q : PQ} {R : Int -> Option Bts} {H : HS} {S : PS} {p mb : Nat} {o : Top} {root : Int} {sl : Value} {w0 w : World} (h : LW Q R H S p mb o root sl w0 w) : heightO o <= 20 /\ (pagesO o).length <= 79 /\ (esO o).length <= 1000000 /\ upB ((esO o).map (·.1)) := by
 obtain ⟨j, hj, hk⟩ := h.ok
 obtain ⟨h1, h2, h3⟩ := okO_few hk hj
 exact ⟨by omega, h2, by omega, okO_up hk⟩
theorem LW.quiet {Q : PQ} {R : Int -> Option Bts} {H : HS} {S : PS} {p mb : Nat} {o : Top} {root : Int} {sl : Value} {w0 w w' : World} (h : LW Q R H S p mb o root sl w0 w) (hb : Below w.heap.size w w') : LW Q R H S p mb o root sl w0 w' :=
 ⟨h.pg.below hb, h.top, h.ok, h.only, h.map.below hb, h.apart, h.bel.trans (hb.mono h.bel.size), h.new⟩
structure WRow (T : TypeId) (H : HS) (w : World) (sl : Value) (es : EL) : Prop where
 row : ∃ cs, OwnS 2 (RE (cfU w)) T 0 w sl es.length es cs
 off : ∀ g, sl.ownBlock = some g -> ¬ H.all g
theorem WRow.at_ {T : TypeId} {H : HS} {w : World} {sl : Value} {es : EL} (h : WRow T H w sl es) : SAt 2 (RE (cfU w)) (cf w) sl es := by
 obtain ⟨cs, ho⟩ := h.row
 exact ho.at_ (RE_mono _)
theorem WRow.below {T : TypeId} {H : HS} {w w' : World} {sl : Value} {es : EL} (h : WRow T H w sl es) (hb : Below w.heap.size w w') : WRow T H w' sl es := by
 obtain ⟨cs, ho⟩ := h.row
 exact ⟨⟨cs, (ho.quiet (RE_mono _) hb).rep (RE_le (cfU_below hb))⟩, h.off⟩
theorem WRow.turn {T : TypeId} {H H' : HS} {w w' : World} {sl : Value} {es : EL} (h : WRow T H w sl es) (hT : TurnS H.all w H'.all w') (hn : ∀ b, H.all b -> ¬ IsU w b) : WRow T H' w' sl es := by
 obtain ⟨cs, ho⟩ := h.row
 have hk : ∀ g, sl.ownBlock = some g -> w'.heap[g]? = w.heap[g]? /\ ¬ H'.all g := fun g hg => hT.out g (ho.low g hg).2 (h.off g hg)
 exact ⟨⟨cs, (own_stand (fun _ _ _ _ h => h) ho hT.size fun g hg => (hk g hg).1).rep (RE_le (cfU_turn hT hn))⟩, fun g hg => (hk g hg).2⟩
theorem LW.ranged {Q : PQ} {R : Int -> Option Bts} {H : HS} {S : PS} {p mb : Nat} {o : Top} {root : Int} {sl : Value} {w0 w w' : World} {es : EL} {e : Ending} (h : LW Q R H S p mb o root sl w0 w) (hp : RangePost Q R H S p (4 * (pagesO o).length) es w e w') :
  ∃ (sv : Value) (H' : HS) (S' : PS) (p' : Nat), e = .returned (.tuple #[sv, .int .i64 0]) /\ LW Q R H' S' p' mb o root sl w0 w' /\ p' <= p + 316 /\ WRow 42 H' w' sv es /\ TurnS H.all w H'.all w' /\ CLe (cfU w) (cfU w') /\ SameP S S' /\ ∀ g, sv.ownBlock = some g -> w.heap.size <= g := by
 obtain ⟨sv, H', S', p', rfl, ⟨cs, ho⟩, hoff, hG, hS, hT, hq⟩ := hp
 have hu := cfU_turn hT h.pg.noU
 have hl := h.low.2.1
 obtain ⟨m1, m2⟩ := h.map.turn hT h.apart h.pg.noU
 refine ⟨sv, H', S', p', rfl, ⟨hG, h.top.same hS, h.ok, ?_, m1, m2, ⟨hT.os.trans h.bel.os, hT.tape.trans h.bel.tape, hT.output.trans h.bel.output, Nat.le_trans h.bel.size hT.size, fun b hb => ?_⟩, fun b hb => ?_⟩, by omega, ⟨⟨cs, own_base ho (Nat.zero_le _)⟩, hoff⟩, hT, hu, hS, fun g hg => (ho.low g hg).1⟩
 ·refine ⟨h.only.nd, fun q hq => by rw [hS.1]; exact h.only.fresh q hq, fun q s hq hn => h.only.rest q s (by rw [<- hS.1]; exact hq) hn⟩
 ·exact (hT.out b (Nat.lt_of_lt_of_le hb h.bel.size) (fun e => by have := h.new b e; omega)).1.trans (h.bel.block b hb)
 ·by_cases e : w0.heap.size <= b
  ·exact e
  ·exact absurd hb (hT.out b (Nat.lt_of_lt_of_le (by omega) h.bel.size) (fun e2 => by have := h.new b e2; omega)).2
theorem LW.up {Q : PQ} {R : Int -> Option Bts} {H : HS} {S : PS} {p mb : Nat} {o : Top} {root most : Int} {sl fv tv : Value} {w0 w : World} {f t : Bts} (h : LW Q R H S p mb o root sl w0 w) (hp : p <= 900000) (hf : YAt (cfL w0.heap.size w) fv f) (ht : YAt (cfL w0.heap.size w) tv t) :
  Calls Tryz.prog 12 #[.pointer (some ⟨Q.pb, 0, none⟩), .int .i64 root, fv, tv, .int .i64 most] w (RangePost Q R H S p (4 * (pagesO o).length) (listE false f t most o) w) := by
 obtain ⟨h1, h2, h3, _⟩ := h.low
 exact walk_Up h.pg ⟨h.bel.size, h.new⟩ hf ht h.top (by omega) h1 h3
theorem LW.down {Q : PQ} {R : Int -> Option Bts} {H : HS} {S : PS} {p mb : Nat} {o : Top} {root most : Int} {sl fv tv : Value} {w0 w : World} {f t : Bts} (h : LW Q R H S p mb o root sl w0 w) (hp : p <= 900000) (hf : YAt (cfL w0.heap.size w) fv f) (ht : YAt (cfL w0.heap.size w) tv t) :
  Calls Tryz.prog 15 #[.pointer (some ⟨Q.pb, 0, none⟩), .int .i64 root, fv, tv, .int .i64 most] w (RangePost Q R H S p (4 * (pagesO o).length) (listE true f t most o) w) := by
 obtain ⟨h1, h2, h3, _⟩ := h.low
 exact walk_Down h.pg ⟨h.bel.size, h.new⟩ hf ht h.top (by omega) h1 h3
theorem awake_list : runE12 [((1 : UInt8), (0 : Int), (0 : Int), false), (2, 0, 0, false)] = [([1], []), ([2], [])] := by kernel_rfl
theorem yat_none (c : CF) : YAt c (.slice none 0 0) [] := SAt.none 1 RY c
theorem yat_cell {w : World} {xa : Option Addr} {n xc : Nat} {l : Bts} (h : YAt (cfU w) (.slice xa n xc) l) {i : Nat} {x : UInt8} (hx : l[i]? = some x) : ∃ b off, xa = some ⟨b, off, none⟩ /\ w.cell? ⟨b, off + i, none⟩ = some (.int .u8 (x.toNat : Int)) := by
 obtain ⟨a, cap, e, _, _, h3⟩ := h
 simp only [Value.slice.injEq] at e
 obtain ⟨b, off, d, ea, hd, hc, hr⟩ := h3 i x hx
 have hr' : d = [.int .u8 (x.toNat : Int)] := hr
 subst hr'
 have := cfU_cf w _ _ _ (hc 0 _ rfl)
 rw [Nat.mul_one, Nat.add_zero] at this
 exact ⟨b, off, by rw [e.1, ea], this⟩
set_option maxHeartbeats 8000000 in
set_option maxRecDepth 100000 in
theorem law_awake (w : World) : Calls Tryz.prog 8 #[] w fun e w' => e = .returned (.bool true) /\ Below w.heap.size w w' := by
 obtain ⟨q, hq⟩ : ∃ q, q = w.heap.size := ⟨_, rfl⟩
 obtain ⟨w1, hw1⟩ : ∃ w1, w1 = w.alloc (.cells #[.int .u8 1, .int .i64 0, .int .i64 0, .bool false, .int .u8 2, .int .i64 0, .int .i64 0, .bool false] 65) := ⟨_, rfl⟩
 have hb1 : Below w.heap.size w w1 := by rw [hw1]; exact (Below.refl _ w).alloc (Nat.le_refl _) _
 have hbx : w1.heap[q]? = some (.cells #[.int .u8 1, .int .i64 0, .int .i64 0, .bool false, .int .u8 2, .int .i64 0, .int .i64 0, .bool false] 65 (0, 0)) := by rw [hw1, hq]; exact heap_alloc_new w _
 have hl : SAt 4 ROp12 (cf w1) (.slice (some ⟨q, 0, none⟩) 2 2) [((1 : UInt8), (0 : Int), (0 : Int), false), (2, 0, 0, false)] := by
  refine ⟨_, _, rfl, Nat.le_refl _, by decide, fun i x hx => ?_⟩
  match i, hx with
  | 0, hx =>
   cases hx
   refine ⟨q, 0, _, rfl, rfl, fun j u hu => ?_, rfl⟩
   match j, hu with
   | 0, hu => cases hu; simp [cf, World.cell?, hbx]
   | 1, hu => cases hu; simp [cf, World.cell?, hbx]
   | 2, hu => cases hu; simp [cf, World.cell?, hbx]
   | 3, hu => cases hu; simp [cf, World.cell?, hbx]
  | 1, hx =>
   cases hx
   refine ⟨q, 0, _, rfl, rfl, fun j u hu => ?_, rfl⟩
   match j, hu with
   | 0, hu => cases hu; simp [cf, World.cell?, hbx]
   | 1, hu => cases hu; simp [cf, World.cell?, hbx]
   | 2, hu => cases hu; simp [cf, World.cell?, hbx]
   | 3, hu => cases hu; simp [cf, World.cell?, hbx]
 have HB := HoldT.mk (law_built hl (by decide))
 have H1 := HoldT.mk hb1
 have HW := HoldT.mk (And.intro hq hw1)
 clear hl hb1 hbx hq hw1
 go_enter Tryz.func8, Tryz.ntmps8
 go_wp2_with fail
 rw [<- HW.out.1, <- HW.out.2]
 refine HB.out.mono ?_
 rintro e w2 ⟨Q, R, H, S, p, tb, mb, o, root, sl, rfl, hL, he⟩
 obtain ⟨hw, hp⟩ := hL.lw (by decide)
 have hes : listE false [] [] 9 o = [([1], []), ([2], [])] := by
  unfold listE
  rw [he, awake_list]
  decide
 have HU := HoldT.mk (hw.up (most := 9) (by omega) (yat_none _) (yat_none _))
 have HL := HoldT.mk hw
 have HES := HoldT.mk hes
 have HB1 := HoldT.mk (H1.out.trans (hw.bel.mono H1.out.size))
 clear hL he hw hp hes HB
 go_wp2_with fail
 refine HU.out.mono ?_
 intro e w3 hpost
 obtain ⟨sv, H', S', p', rfl, hw3, hp3, hr, hT, hu, _⟩ := HL.out.ranged hpost
 rw [HES.out] at hr
 have hat := hr.at_
 obtain ⟨sa, sc, rfl⟩ := hat.form
 obtain ⟨b, off, ka, kc, va, vc, rfl, c0, c1, hy, _⟩ := row_at (i := 1) hat rfl
 obtain ⟨kb, ko, rfl, c2⟩ := yat_cell (i := 0) hy rfl
 have HE := HoldT.mk (H1.out.trans (hw3.bel.mono H1.out.size))
 rw [Nat.add_zero] at c2
 have c3 : w3.cell? ⟨kb, ko, none⟩ = some (.int .u8 2) := c2
 have c4 : w3.cell? ⟨b, off + 2, none⟩ = some (.slice (some ⟨kb, ko, none⟩) 1 kc) := c0
 have hln : ([([1], []), ([2], [])] : EL).length = 2 := rfl
 rw [hln]
 clear hpost hw3 hp3 hr hT hu hat c0 c1 hy c2 HU hln
 go_wp2_with fail
 go_ret
 exact ⟨rfl, HE.out⟩
end Go.Proofs.YtmiphphombkpdaaGreat
