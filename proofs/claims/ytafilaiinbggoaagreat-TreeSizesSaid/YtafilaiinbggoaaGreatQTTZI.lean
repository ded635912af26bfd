/- The trees' laws, plainly and walked: TreeSizes. -/
import Derived.Test.YtafilaiinbggoaaGreatQT02
import Derived.Test.YtafilaiinbggoaaGreatQT05
import Derived.Test.YtafilaiinbggoaaGreatQT08
import Derived.Test.YtafilaiinbggoaaGreatQT12
import Derived.Test.YtafilaiinbggoaaGreatQT45
import Derived.Test.YtafilaiinbggoaaGreatQT47
import Derived.ProofKit
import Derived.OpenShut
import Derived.Deep.Slices
import Derived.ChangeOld
namespace Go.Proofs.YtafilaiinbggoaaGreat
open Go.RowKit Go.Maps
theorem putE_new {k v : Bts} : ∀ {es : EL}, (∀ e ∈ es, e.1 ≠ k) -> (putE k v es).length = es.length + 1
 | [], _ => rfl
 | (x, y) :: es, h => by
  unfold putE
  split
  ·rw [List.length_cons, List.length_cons, putE_new fun e he => h e (List.mem_cons_of_mem _ he)]
  ·rw [if_neg (h (x, y) (List.mem_cons_self ..))]
   rfl
theorem getE_new {k : Bts} : ∀ {es : EL}, (∀ e ∈ es, e.1 ≠ k) -> getE k es = none
 | [], _ => rfl
 | (x, y) :: es, h => by
  unfold getE
  split
  ·exact getE_new fun e he => h e (List.mem_cons_of_mem _ he)
  ·rw [if_neg (h (x, y) (List.mem_cons_self ..))]
theorem getE_put {k v : Bts} : ∀ es : EL, getE k (putE k v es) = some v
 | [] => by
  unfold putE getE
  rw [ltB_irrefl]
  simp
 | (x, y) :: es => by
  unfold putE
  split
  ·rename_i h
   unfold getE
   rw [if_pos h]
   exact getE_put es
  ·split <;> (unfold getE; rw [ltB_irrefl]; simp)
def SomeE (j : Nat) (es : EL) : Prop := es.length = j /\ ∀ e ∈ es, ∃ c : UInt8, 1 <= c.toNat /\ c.toNat <= j /\ e.1 = someB c 100
theorem SomeE.next {j : Nat} {es : EL} {c : UInt8} {v : Bts} (h : SomeE j es) (hc : c.toNat = j + 1) : SomeE (j + 1) (putE (someB c 100) v es) := by
 refine ⟨?_, fun e he => ?_⟩
 ·rw [putE_new, h.1]
  intro e he e2
  obtain ⟨d, _, h2, h3⟩ := h.2 e he
  rw [h3] at e2
  have := (List.cons.inj e2).1
  rw [this] at h2
  omega
 ·rcases putE_fst_mem he with rfl | he
  ·exact ⟨c, by omega, by omega, rfl⟩
  ·obtain ⟨d, h1, h2, h3⟩ := h.2 e he
   exact ⟨d, h1, by omega, h3⟩
theorem SomeE.zero {j n : Nat} {es : EL} (h : SomeE j es) : ∀ e ∈ es, e.1 ≠ List.replicate n 0 := fun e he e2 => by
 obtain ⟨d, h1, _, h3⟩ := h.2 e he
 rw [h3] at e2
 cases n with
 | zero => cases e2
 | succ n =>
  have := (List.cons.inj (e2.trans (List.replicate_succ ..))).1
  rw [this] at h1
  exact absurd h1 (by decide)
theorem zeros_yat {w w' : World} {n : Nat} (hg : w.grownBy w' none) (ho : w'.ownsRow w.heap.size 5 1 (.slice (some ⟨w.heap.size, 0, none⟩) n n) n (List.replicate n (.int .u8 0))) : YAt (cfU w') (.slice (some ⟨w.heap.size, 0, none⟩) n n) (List.replicate n 0) := by
 have h1 : OwnS 1 RY 5 w.heap.size w' (.slice (some ⟨w.heap.size, 0, none⟩) n n) n (List.replicate n 0) (List.replicate n (.int .u8 0)) := by
  refine ⟨ho, List.length_replicate, ⟨by rw [List.length_replicate, List.length_replicate, Nat.mul_one], fun i x hx => ?_⟩, hg.size⟩
  have hi := (List.getElem?_eq_some_iff.1 hx).1
  rw [List.length_replicate] at hi
  obtain rfl : x = 0 := List.eq_of_mem_replicate (List.mem_of_getElem? hx)
  refine ⟨[.int .u8 0], rfl, fun j u hu => ?_, rfl⟩
  match j, hu with
  | 0, hu =>
   cases hu
   rw [List.getElem?_replicate, if_pos (by omega)]
 exact h1.yat
def zdeps : Nat -> List Nat
 | 8 => [3]
 | 9 => [7]
 | _ => []
def ZF (ka vb : Nat) : Nat -> List Value -> Value -> World -> Prop := fun i _ x w => if i = 3 \/ i = 8 then ∃ a c, x = .slice a ka c /\ YAt (cfU w) x (List.replicate ka 0) else ∃ a c, x = .slice a vb c /\ YAt (cfU w) x (List.replicate vb 0)
theorem zf_below {ka vb : Nat} : ∀ (i : Nat) (ds : List Value) (x : Value) (w w' : World), ZF ka vb i ds x w -> Below w.heap.size w w' -> ZF ka vb i ds x w' := fun i ds x w w' h hb => by
 unfold ZF at h |-
 split at h
 ·rename_i e
  obtain ⟨a, c, h1, h2⟩ := h
  rw [if_pos e]
  exact ⟨a, c, h1, h2.mono RY_mono (cfU_below hb)⟩
 ·rename_i e
  obtain ⟨a, c, h1, h2⟩ := h
  rw [if_neg e]
  exact ⟨a, c, h1, h2.mono RY_mono (cfU_below hb)⟩
def T20 (Q : PQ) (R : Int -> Option Bts) (tb j : Nat) (w0 wr : World) (H : HS) (S : PS) (p : Nat) (o : Top) (root : Int) : Prop := LT Q R H S p tb o root j 100 w0 wr /\ SomeE j (esO o) /\ p <= 200 * j
set_option maxHeartbeats 16000000 in
set_option maxRecDepth 100000 in
theorem treeSizes_walk {W : World} {k v : Nat} :
  Calls Tryz.prog 4 #[.int .u16 (k : Int), .int .u16 (v : Int)] W fun e w' => e = .returned (.bool true) /\ Below W.heap.size W w' := by
 have HA := HoldT.mk (law11_awake W)
 go_enter Tryz.func4, Tryz.ntmps4
 go_wp2_with fail
 refine HA.out.mono ?_
 rintro e w1 ⟨rfl, hb1⟩
 have HD := HoldT.mk (disk_made (n := 400) (by omega) w1)
 have HB1 := HoldT.mk hb1
 clear hb1 HA
 go_wp2_with fail
 refine HD.out.mono ?_
 rintro e w2 ⟨db, HDB, rfl, hdg, hb2, hHD⟩
 have HPO := HoldT.mk (pages_open (fr0 := 0) (count := 100) (pool := 4) hdg (by omega) (by omega) (by omega))
 have H2 := HoldT.mk (And.intro hb2 hHD)
 clear hdg hb2 hHD HD
 go_wp2_with fail
 refine HPO.out.mono ?_
 rintro e w3 ⟨pb, HP, rfl, hpb, hG, hb3, hHP⟩
 have HTO := HoldT.mk (tree_open (H := ⟨HDB, HP⟩) (pb := pb) (root := -1) hG.lt)
 have H3 := HoldT.mk (And.intro hG (And.intro hb3 hHP))
 clear hpb hG hb3 hHP HPO
 go_wp2_with fail
 refine HTO.out.mono ?_
 rintro e w4 ⟨tb, rfl, hT, hb4, htb⟩
 have hL := lt_start H2.out.1 H2.out.2 H3.out.1 H3.out.2.1 H3.out.2.2 hT hb4 htb
 obtain ⟨Q, hQ⟩ : ∃ Q : PQ, Q = ⟨pb, db, 0, 100, 4, 400⟩ := ⟨_, rfl⟩
 obtain ⟨R, hR⟩ : ∃ R : Int -> Option Bts, R = fun _ => none := ⟨_, rfl⟩
 rw [<- hQ, <- hR] at hL
 have HSt := HoldT.mk (show T20 Q R tb 0 w1 w4 _ _ _ _ _ from ⟨hL, ⟨rfl, fun e he => (by cases he)⟩, Nat.zero_le _⟩)
 clear hT hb4 htb H2 H3 HTO hQ hR hL
 go_wp2_with fail
 go_loopw [9] (fun s9 wr => ∃ (j : Nat) (H : HS) (S : PS) (p : Nat) (o : Top) (root : Int), s9 = .int .i64 (j : Int) /\ j <= 20 /\ HoldT (T20 Q R tb j w1 wr H S p o root)) (fun s9 _ => 20 - (intOf s9).toNat)
 case atStart => exact ⟨0, _, _, _, _, _, rfl, Nat.zero_le _, HSt⟩
 case round =>
  obtain ⟨j, H, S, p, o, root, rfl, hj, HL⟩ := hrel
  clear HSt
  by_cases hlt : j < 20
  ·have b1 : decide ((j : Int) < 20) = true := decide_eq_true (by omega)
   have b2 : (j : Int) < 20 := by omega
   have m1 : (j : Int) % 256 = (j : Int) := by omega
   have m2 : ((j : Int) + 1) % 256 = (j : Int) + 1 := by omega
   obtain ⟨c, hc⟩ : ∃ c : UInt8, c = UInt8.ofNat (j + 1) := ⟨_, rfl⟩
   have hcn : c.toNat = j + 1 := by rw [hc, UInt8.toNat_ofNat']; omega
   have hS1 := law_some c 100 (by omega) (by omega) wr
   rw [hcn, show ((j + 1 : Nat) : Int) = (j : Int) + 1 by omega] at hS1
   have HS1 := HoldT.mk hS1
   have HC := HoldT.mk hcn
   clear hc hcn hS1
   go_wp2_with fail
   refine HS1.out.mono ?_
   rintro e w5 ⟨s1, cs1, rfl, ho1, hb5⟩
   obtain ⟨a1, c1, rfl⟩ := ho1.shape
   have H5 := HoldT.mk (And.intro ho1 hb5)
   have HS2 := HoldT.mk (show Calls Tryz.prog 15 #[.int .u8 7, .int .i64 200] w5 _ from law_some 7 200 (by omega) (by omega) w5)
   clear ho1 hb5 HS1
   go_wp2_with fail
   refine HS2.out.mono ?_
   rintro e w6 ⟨s2, cs2, rfl, ho2, hb6⟩
   obtain ⟨a2, c2, rfl⟩ := ho2.shape
   have hL6 := (HL.out.1.quiet H5.out.2).quiet hb6
   have hfr := hL6.free (by omega) (by omega)
   have hkk : keyOk (someB c 100) := by unfold keyOk; rw [someB_len c (by omega)]; omega
   have hvv : (someB 7 200).length <= 260 := by rw [someB_len 7 (by omega)]; omega
   have HP := HoldT.mk (tree_Put hL6.pg hL6.tbx hL6.top (by have := HL.out.2.2; omega) (by omega) hkk hvv (H5.out.1.quiet RY_mono hb6).yat ho2.yat hfr.1)
   have H6 := HoldT.mk (And.intro hL6 (And.intro hkk hvv))
   clear ho2 hb6 hL6 hfr hkk hvv HS2 H5
   go_wp2_with fail
   refine HP.out.mono ?_
   intro e w7 hpost
   obtain ⟨rfl, H7, S7, p7, o7, r7, hL7, he7, _, hp7, _⟩ := H6.out.1.put (by omega) H6.out.2.1 H6.out.2.2 hpost
   have HE := HoldT.mk (show T20 Q R tb (j + 1) w1 w7 H7 S7 p7 o7 r7 from ⟨hL7, by rw [he7]; exact HL.out.2.1.next HC.out, by have := HL.out.2.2; omega⟩)
   clear hL7 he7 hp7 hpost HP H6
   go_wp2_with fail
   exact ⟨⟨j + 1, H7, S7, p7, o7, r7, by go_num, hlt, HE⟩, by simp [intOf]; omega⟩
  ·obtain rfl : j = 20 := by omega
   have b1 : ¬ ((20 : Nat) : Int) < 20 := by omega
   obtain ⟨ka, hka⟩ : ∃ ka, ka = k % 400 := ⟨_, rfl⟩
   obtain ⟨vb, hvb⟩ : ∃ vb, vb = v % 400 := ⟨_, rfl⟩
   have q1 : ((k : Int)).tmod 400 = (ka : Int) := by rw [hka]; rfl
   have q2 : ((v : Int)).tmod 400 = (vb : Int) := by rw [hvb]; rfl
   have q3 : (k : Int) % 400 = (ka : Int) := by omega
   have q4 : (v : Int) % 400 = (vb : Int) := by omega
   have r1 : ka < 400 := by omega
   have r2 : vb < 400 := by omega
   clear hka hvb
   go_upto_region 11 with (fail)
   refine wp_region_mixC (KeepSC (fun _ => False) wr) 10 rfl (by kernel_rfl) ?_
   have HDR := HoldT.mk ((Below.refl wr.heap.size wr).drew)
   generalize wr.drew = v4 at HDR |-
   refine mixl_seg (by kernel_rfl) (fun _ _ d _ _ h => by cases d <;> exact h) [0, 1, 2, 4, 5, 6] [_, _, _, _, _, _] 4 10 rfl _ _ _ rfl (by kernel_rfl) (keepSC fun _ h => h.elim) ?_
   repeat (go_big_quiet_step (fail))
   refine wpQuiet_nil ?_
   clear q1 q2 q3 q4
   refine mixl_acts [3, 7, 8, 9] zdeps (fun wz => Below wr.heap.size wr wz) (ZF ka vb) 0 4 rfl _ _ _ (fun wz hz => keepSC fun _ h => h.elim) (by kernel_rfl) zf_below ⟨⟨_, rfl, fun env v hv hd K hK => ?op3⟩, ⟨_, rfl, fun env v hv hd K hK => ?op7⟩, ⟨_, rfl, fun env v hv hd K hK => ?op8⟩, ⟨_, rfl, fun env v hv hd K hK => ?op9⟩, trivial⟩ HDR.out (fun env v hv hd => ?fin)
   case op3 =>
    have HV := HoldT.mk hv
    obtain ⟨v', hmk, hown, hgr⟩ := run_make_zeros (base := v.heap.size) ka (by omega) v (Nat.le_refl _)
    have hb : Below v.heap.size v v' := ⟨hgr.os, hgr.tape, hgr.output, hgr.size, fun q hq => hgr.block q hq (by simp)⟩
    have HY := HoldT.mk (And.intro (zeros_yat hgr hown) hb)
    simp only [zdeps, withD, Act.put, List.setIfInBounds_toArray, List.set_cons_succ, List.set_cons_zero] at hK |-
    clear hd hv hown hgr hb
    go_wp2_with fail
    try rw [hmk]
    go_wp2_with fail
    refine hK _ _ (HV.out.trans (HY.out.2.mono HV.out.size)) HY.out.2 ?_
    unfold ZF
    rw [if_pos (.inl rfl)]
    exact ⟨_, _, rfl, HY.out.1⟩
   case op7 =>
    have HV := HoldT.mk hv
    obtain ⟨v', hmk, hown, hgr⟩ := run_make_zeros (base := v.heap.size) vb (by omega) v (Nat.le_refl _)
    have hb : Below v.heap.size v v' := ⟨hgr.os, hgr.tape, hgr.output, hgr.size, fun q hq => hgr.block q hq (by simp)⟩
    have HY := HoldT.mk (And.intro (zeros_yat hgr hown) hb)
    simp only [zdeps, withD, Act.put, List.setIfInBounds_toArray, List.set_cons_succ, List.set_cons_zero] at hK |-
    clear hd hv hown hgr hb
    go_wp2_with fail
    try rw [hmk]
    go_wp2_with fail
    refine hK _ _ (HV.out.trans (HY.out.2.mono HV.out.size)) HY.out.2 ?_
    unfold ZF
    rw [if_neg (by decide)]
    exact ⟨_, _, rfl, HY.out.1⟩
   case op8 =>
    have HV := HoldT.mk hv
    obtain ⟨h4, _⟩ := hd
    obtain ⟨a4, c4, e4, y4⟩ : ∃ a c, env 3 = .slice a ka c /\ YAt (cfU v) (env 3) (List.replicate ka 0) := h4
    have HY := HoldT.mk (And.intro e4 y4)
    simp only [zdeps, withD, dstD, opAt, Option.bind_some, Option.getD_some, e4, Act.put, List.setIfInBounds_toArray, List.set_cons_succ, List.set_cons_zero] at hK |-
    clear hv e4 y4
    go_wp2_with fail
    refine hK _ _ HV.out (Below.refl _ _) ?_
    unfold ZF
    rw [if_pos (.inr rfl)]
    refine ⟨a4, c4, rfl, ?_⟩
    rw [<- HY.out.1]
    exact HY.out.2
   case op9 =>
    have HV := HoldT.mk hv
    obtain ⟨h4, _⟩ := hd
    obtain ⟨a4, c4, e4, y4⟩ : ∃ a c, env 7 = .slice a vb c /\ YAt (cfU v) (env 7) (List.replicate vb 0) := h4
    have HY := HoldT.mk (And.intro e4 y4)
    simp only [zdeps, withD, dstD, opAt, Option.bind_some, Option.getD_some, e4, Act.put, List.setIfInBounds_toArray, List.set_cons_succ, List.set_cons_zero] at hK |-
    clear hv e4 y4
    go_wp2_with fail
    refine hK _ _ HV.out (Below.refl _ _) ?_
    unfold ZF
    rw [if_neg (by decide)]
    refine ⟨a4, c4, rfl, ?_⟩
    rw [<- HY.out.1]
    exact HY.out.2
   case fin =>
    obtain ⟨_, _, h8, h9, _⟩ := hd
    obtain ⟨xa, xc, e8, y8⟩ : ∃ a c, env 8 = .slice a ka c /\ YAt (cfU v) (env 8) (List.replicate ka 0) := h8
    obtain ⟨za, zc, e9, y9⟩ : ∃ a c, env 9 = .slice a vb c /\ YAt (cfU v) (env 9) (List.replicate vb 0) := h9
    rw [e8] at y8
    rw [e9] at y9
    have HYA := HoldT.mk y8
    have HYB := HoldT.mk y9
    have HL4 := HoldT.mk (HL.out.1.quiet hv)
    simp only [withD, dstD, opAt, Option.bind_some, Option.getD_some, e8, e9, Act.put, List.setIfInBounds_toArray, List.set_cons_succ, List.set_cons_zero]
    clear hv e8 e9 y8 y9
    refine mix_done (by kernel_rfl) (keepSC fun _ h => h.elim) ?_
    by_cases g1 : 1 <= ka /\ ka <= 240 /\ vb <= 260
    ·obtain ⟨g1, g2, g3⟩ := g1
     have i1 : (1 : Int) <= (ka : Int) := by omega
     have i2 : (ka : Int) <= 240 := by omega
     have i3 : (vb : Int) <= 260 := by omega
     have HKV := HoldT.mk (show keyOk (List.replicate ka 0) /\ (List.replicate vb (0 : UInt8)).length <= 260 by unfold keyOk; rw [List.length_replicate, List.length_replicate]; omega)
     clear r1 r2
     have HT := HoldT.mk (tree_Put HL4.out.pg HL4.out.tbx HL4.out.top (by have := HL.out.2.2; omega) (by have := (okW_few HL4.out.ok (by omega)).1; omega) HKV.out.1 HKV.out.2 HYA.out HYB.out (HL4.out.free (by omega) (by omega)).1)
     go_wp2_with fail
     refine HT.out.mono ?_
     intro e w7 hpost
     obtain ⟨rfl, H7, S7, p7, o7, r7, hL7, he7, hu7, hp7, _⟩ := HL4.out.put (by omega) HKV.out.1 HKV.out.2 hpost
     have hlen : (esO o7).length = 21 := by rw [he7, putE_new HL.out.2.1.zero, HL.out.2.1.1]
     have hget : getE (List.replicate ka 0) (esO o7) = some (List.replicate vb 0) := by rw [he7]; exact getE_put _
     have HG := HoldT.mk (tree_get (k := List.replicate ka 0) hL7.pg hL7.tbx hL7.top (by have := HL.out.2.2; omega) (by have := (okW_few hL7.ok (by omega)).1; omega) (HYA.out.mono RY_mono hu7))
     rw [hget] at HG
     have H7 := HoldT.mk (And.intro hL7 (And.intro hlen (show p7 <= 4200 by have := HL.out.2.2; omega)))
     clear hlen hget hL7 he7 hu7 hp7 hpost HT HL4
     go_wp2_with fail
     refine HG.out.mono ?_
     rintro e w8 ⟨⟨wa, wl, wc, rfl, hv8⟩, H8, S8, p8, hG8, hS8, hT8, hp8⟩
     obtain rfl : wl = vb := by have := yat_len (hv8 _ rfl); rw [List.length_replicate] at this; exact this
     have hL8 := (H7.out.1.read hG8 hS8 hT8).1
     have hfw := okW_few hL8.ok (by omega)
     have HCN := HoldT.mk (tree_count hL8.pg hL8.tbx hL8.top (by omega) (by omega) (by have := H7.out.2.2; omega) (by rw [H7.out.2.1]; omega))
     have H8 := HoldT.mk hL8
     clear hv8 hG8 hS8 hT8 hp8 hL8 hfw HG
     go_wp2_with fail
     refine HCN.out.mono ?_
     rintro e w9 ⟨H9, S9, p9, rfl, hG9, hS9, _, hT9, _⟩
     have HF := HoldT.mk (HB1.out.trans ((H8.out.read hG9 hS9 hT9).1.bel.mono HB1.out.size))
     rw [H7.out.2.1]
     clear hG9 hS9 hT9 HCN
     go_wp2_with fail
     go_ret
     exact ⟨by simp, HF.out⟩
    ·have HBAD := HoldT.mk (show ka < 1 \/ 240 < ka \/ 260 < vb by omega)
     have HT := HoldT.mk (tree_put_bad (tb := tb) (xa := xa) (xc := xc) (va := za) (vc := zc) (w := v) HBAD.out)
     have HG := HoldT.mk (tree_get (k := List.replicate ka 0) HL4.out.pg HL4.out.tbx HL4.out.top (by have := HL.out.2.2; omega) (by have := (okW_few HL4.out.ok (by omega)).1; omega) HYA.out)
     rw [getE_new HL.out.2.1.zero] at HG
     rcases (show ka < 1 \/ (1 <= ka /\ 240 < ka) \/ (1 <= ka /\ ka <= 240 /\ 260 < vb) by omega) with g | ⟨g2, g⟩ | ⟨g2, g3, g⟩
     case' inl =>
      have i1 : ¬ (1 : Int) <= (ka : Int) := by omega
      have i2 : ¬ 1 <= ka := by omega
     case' inr.inl =>
      have i1 : (1 : Int) <= (ka : Int) := by omega
      have i2 : ¬ (ka : Int) <= 240 := by omega
      have i3 : ¬ ka <= 240 := by omega
     case' inr.inr =>
      have i1 : (1 : Int) <= (ka : Int) := by omega
      have i2 : (ka : Int) <= 240 := by omega
      have i3 : ¬ (vb : Int) <= 260 := by omega
      have i4 : ¬ vb <= 260 := by omega
     all_goals
      clear g g1 r1 r2
      go_wp2_with fail
      refine HT.out.mono ?_
      rintro e w7 ⟨rfl, hw7⟩
      obtain rfl := hw7.symm
      go_wp2_with fail
      refine HG.out.mono ?_
      rintro e w8 ⟨⟨wa, wl, wc, rfl, hv8⟩, H8, S8, p8, hG8, hS8, hT8, hp8⟩
      have hL8 := (HL4.out.read hG8 hS8 hT8).1
      have hfw := okW_few hL8.ok (by omega)
      have HCN := HoldT.mk (tree_count hL8.pg hL8.tbx hL8.top (by omega) (by omega) (by have := HL.out.2.2; omega) (by rw [HL.out.2.1.1]; omega))
      have H8 := HoldT.mk hL8
      clear hv8 hG8 hS8 hT8 hp8 hL8 hfw
      go_wp2_with fail
      refine HCN.out.mono ?_
      rintro e w9 ⟨H9, S9, p9, rfl, hG9, hS9, _, hT9, _⟩
      have HF := HoldT.mk (HB1.out.trans ((H8.out.read hG9 hS9 hT9).1.bel.mono HB1.out.size))
      rw [HL.out.2.1.1]
      clear hG9 hS9 hT9 HCN
      go_wp2_with fail
      go_ret
      exact ⟨by simp, HF.out⟩
end Go.Proofs.YtafilaiinbggoaaGreat
namespace Go.Proofs.YtafilaiinbggoaaGreat
open Go.ChangeShapes Go.WideShapes Go.ChangeAt Go.RowKit
theorem Tryz.own : ownKnob Tryz.prog.godebug = none := by kernel_rfl
theorem Tryz.laidOut : laidOutB Tryz.prog = true := by kernel_rfl
theorem nat_of_wf16 {x : Int} (h : (Lit.int .u16 x).wf = true) : ∃ n : Nat, x = (n : Int) := by
 simp [Lit.wf, IntKind.min, IntKind.max, IntKind.bits, IntKind.signed] at h
 exact ⟨x.toNat, by omega⟩
end Go.Proofs.YtafilaiinbggoaaGreat
namespace Go.Proofs.YtafilaiinbggoaaGreat
open Go.ChangeShapes Go.WideShapes Go.ChangeAt Go.RowKit
set_option maxRecDepth 100000 in
set_option maxHeartbeats 2000000 in
theorem TreeSizes.lifted (os : Os) (started : os.Started) (H : Type) (enc : TypeId × Value -> H) :
  ReturnsInHanded {} Tryz.checked os 4 .any (Rows.treeSizesSpec.pre6 enc Tryz.prog Tryz.f4 Rows.treeSizesRow.domain false) (Rows.treeSizesSpec.post enc Tryz.prog Tryz.f4 false true false false) := by
 refine returnsInHanded_of_change (C := Tryz.checked) Tryz.own started (by kernel_rfl) Tryz.func4
  (ChangeSpec.witness6 (enc := enc) (C := Tryz.checked) false ⟨#[], #[.int .u16 0, .int .u16 0], []⟩ 8 (by kernel_rfl) (by kernel_rfl) (by kernel_rfl) (by kernel_rfl)) ?_
 intro W base args ds gs before hval0 hW hcnd _
 have hval : ∀ (j : Nat) t v, Tryz.f4.params[j]? = some t -> args[j]? = some v -> Value.okWide Tryz.prog W .any base t v := hval0
 have hW' := hW
 obtain ⟨p, q, hA0, hV, rfl, hfz, hnd⟩ := hW
 have hA : DataW.TrodAll enc Tryz.prog W 0 (fun _ => true) true Tryz.f4.params.toList args.toList ds p := hA0
 rw [Tryz.params4] at hA hval
 obtain ⟨a0, vs0, d0, ds0, p0, q0, hargs, rfl, rfl, h0, r0⟩ := trodAll_cons hA
 obtain ⟨a1, vs1, d1, ds1, p1, q1, rfl, rfl, rfl, h1, r1⟩ := trodAll_cons r0
 obtain ⟨rfl, rfl, rfl⟩ := trodAll_nil r1
 obtain rfl : args = #[a0, a1] := by cases args; simp_all
 obtain ⟨rfl, rfl⟩ := trodVars_none hV
 have k0 := h0
 have lt0 : ∀ x ∈ p0, x.block < W.heap.size := by obtain ⟨m, hm⟩ := k0; exact DataW.trod_lt m _ _ _ hm
 obtain ⟨kz, rfl, _, _, hkz⟩ := open_int Tryz.underlying40 (hval 0 _ a0 rfl rfl) h0; obtain ⟨k, rfl⟩ := nat_of_wf16 hkz
 have k1 := h1
 have lt1 : ∀ x ∈ p1, x.block < W.heap.size := by obtain ⟨m, hm⟩ := k1; exact DataW.trod_lt m _ _ _ hm
 obtain ⟨vz, rfl, _, _, hvz⟩ := open_int Tryz.underlying40 (hval 1 _ a1 rfl rfl) h1; obtain ⟨v, rfl⟩ := nat_of_wf16 hvz
 clear hA0 hval0
 refine (treeSizes_walk (W := W) (k := k) (v := v)).mono fun e W' ⟨he, bel⟩ => ?_
 subst he
 exact ⟨_, rfl, _, _, _, [], _, [], hW', trodAll_mk1 (shut_bool Tryz.underlying4 _), (trodAll_cons_mk (Below.trod Tryz.laidOut (by kernel_rfl) (of_decide_eq_true (by kernel_rfl)) k0 bel lt0) (trodAll_cons_mk (Below.trod Tryz.laidOut (by kernel_rfl) (of_decide_eq_true (by kernel_rfl)) k1 bel lt1) trodAll_mk0)), rfl, bel.frame _, fun h => by cases h⟩
theorem TreeSizes.over : Rows.treeSizesRow.holds Tryz.pinned (OpenSpec.ofChange Rows.treeSizesSpec) :=
 OpenClaim.holds_of_wide 4 Tryz.f4 rfl rfl rfl rfl rfl rfl rfl ⟨rfl, rfl, rfl, rfl, rfl⟩ rfl rfl rfl rfl rfl (by kernel_rfl) Tryz.func4 (by kernel_rfl)
  (of_decide_eq_true (by kernel_rfl)) (by unfold Func.isWrapper; first | (rw [if_pos (by decide +kernel)]; kernel_rfl) | (rw [if_neg (by decide +kernel)]; exact ⟨rfl, rfl⟩))
  (fun os started H enc _ => TreeSizes.lifted os started H enc)
theorem treeSizes_holds : Rows.TreeSizesSaid := TreeSizes.over
#print axioms treeSizes_holds
end Go.Proofs.YtafilaiinbggoaaGreat
