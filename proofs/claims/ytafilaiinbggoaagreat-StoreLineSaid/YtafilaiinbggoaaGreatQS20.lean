import Derived.Test.YtafilaiinbggoaaGreatQS19
namespace Go.Proofs.YtafilaiinbggoaaGreat
open Go.RowKit Go.Maps
set_option maxHeartbeats 8000000 in
set_option maxRecDepth 100000 in
theorem node_read_leaf {w : World} {keys vals : List Bts} {kids : List Nat} {ba : Option Addr} {bc : Nat} (hs : ShN ⟨true, keys, vals, kids⟩) (hz : sizeN ⟨true, keys, vals, kids⟩ <= 1024) (hy : YAt (cfU w) (.slice ba 1024 bc) (encN ⟨true, keys, vals, kids⟩)) :
  Calls Tryz.prog 58 #[.slice ba 1024 bc] w (RdPost ⟨true, keys, vals, kids⟩ w) := by
 obtain ⟨n, hn⟩ : ∃ n : ND, n = ⟨true, keys, vals, kids⟩ := ⟨_, rfl⟩
 rw [<- hn] at hs hz hy |-
 have hel : (encN n).length = 1024 := encN_len hz
 obtain ⟨bg, bo, rfl⟩ := yat_addr hy (by omega)
 obtain ⟨q, hq⟩ : ∃ q, q = w.heap.size := ⟨_, rfl⟩
 have HH := HoldT.mk (And.intro hn (And.intro hs (And.intro hz (And.intro hy hel))))
 have HQ := HoldT.mk hq
 clear hn hs hz hy hel hq
 go_enter Tryz.func58, Tryz.ntmps58
 go_wp2_with fail
 obtain ⟨wq, hwq⟩ : ∃ wq, wq = w.alloc (.cells #[.bool false, .slice none 0 0, .slice none 0 0, .slice none 0 0] 107) := ⟨_, rfl⟩
 have hbq : Below w.heap.size w wq := by rw [hwq]; exact (Below.refl _ w).alloc (Nat.le_refl _) _
 have hqb : wq.heap[q]? = some (.cells #[.bool false, .slice none 0 0, .slice none 0 0, .slice none 0 0] 107 (0, 0)) := by rw [hwq, HQ.out]; exact heap_alloc_new w _
 obtain ⟨rb, hrb⟩ : ∃ rb, rb = wq.heap.size := ⟨_, rfl⟩
 have hrb2 : q + 1 = rb := by rw [HQ.out, hrb, hwq]; simp
 obtain ⟨w1, hw1⟩ : ∃ w1, w1 = wq.alloc (.cells #[.slice (some ⟨bg, bo, none⟩) 1024 bc] 23) := ⟨_, rfl⟩
 have hb1 : Below wq.heap.size wq w1 := by rw [hw1]; exact (Below.refl _ wq).alloc (Nat.le_refl _) _
 have hr1 : RestAt (cfU wq) w1 rb (encN n) := ⟨bg, bo, bc, by rw [hw1, hrb, HH.out.2.2.2.2]; exact heap_alloc_new wq _, by rw [HH.out.2.2.2.2]; exact HH.out.2.2.2.1.mono RY_mono (cfU_below hbq)⟩
 rw [<- HQ.out, <- hwq, <- hw1, hrb2]
 have HW := HoldT.mk (And.intro hbq (And.intro hqb (And.intro hrb hrb2)))
 clear hwq hbq hqb hrb hrb2 hw1
 have hen : encN n = [1] ++ (be16 n.keys.length ++ (tailJ n 0)) := by
  have h1 := tailJ_eq (n := n) (j := 0) (Nat.zero_le _)
  have h2 : rawJ n 0 = rawHd n := by unfold rawJ; simp
  rw [h1, h2]
  unfold rawHd
  rw [HH.out.1]
  simp
 have HN1 := HoldT.mk (num_of (n := 1) hr1 (cfU_below hb1) hen rfl (by rw [HH.out.2.2.2.2]; omega) (by omega))
 have HB1 := HoldT.mk hb1
 have HEN := HoldT.mk hen
 clear hr1 hb1 hen
 refine HN1.out.mono ?_
 rintro e w2 ⟨rfl, hr2, hg2⟩
 have hb2 : Below wq.heap.size wq w2 := HB1.out.grown hg2 HB1.out.size (fun b e => by cases e; rw [HW.out.2.2.1]; exact Nat.le_refl _)
 have HN2 := HoldT.mk (num_of (n := 2) hr2 (cfU_below hb2) rfl (show (be16 n.keys.length).length = 2 from rfl) (by have h1 := congrArg List.length HEN.out; rw [HH.out.2.2.2.2, List.length_append] at h1; simp only [List.length_cons, List.length_nil] at h1; omega) (by omega))
 have HB2 := HoldT.mk hb2
 clear hr2 hg2 hb2 HN1
 have e1 : numB [1] = 1 := rfl
 rw [e1]
 clear e1
 go_wp2_with fail
 refine HN2.out.mono ?_
 rintro e w3 ⟨rfl, hr3, hg3⟩
 have hb3 : Below wq.heap.size wq w3 := HB2.out.grown hg3 HB2.out.size (fun b e => by cases e; rw [HW.out.2.2.1]; exact Nat.le_refl _)
 have hkl : numB (be16 n.keys.length) = n.keys.length := numB_be16 (by have := HH.out.2.1.few; omega)
 rw [hkl]
 clear hkl
 have HB3 := HoldT.mk (And.intro hb3 hr3)
 clear hr3 hg3 hb3 HN2
 go_wp2_with fail
 obtain ⟨nb, hnb⟩ : ∃ nb, nb = w3.heap.size := ⟨_, rfl⟩
 obtain ⟨w4, hw4⟩ : ∃ w4, w4 = w3.alloc (.cells #[.bool true, .slice none 0 0, .slice none 0 0, .slice none 0 0] 107) := ⟨_, rfl⟩
 rw [<- hnb, <- hw4]
 have HRU : HoldT (RU (cfU wq) wq w4 nb rb ⟨true, [], [], []⟩ (.slice none 0 0) (.slice none 0 0) (.slice none 0 0) (tailJ n 0)) := ⟨by
  have hb4 : Below w3.heap.size w3 w4 := by rw [hw4]; exact (Below.refl _ w3).alloc (Nat.le_refl _) _
  have hbb := HB3.out.1.trans (hb4.mono HB3.out.1.size)
  obtain ⟨_, _, _, e3, _⟩ := HB3.out.2
  refine ⟨hbb, by rw [hw4, hnb]; exact heap_alloc_new w3 _, HB3.out.2.keep (hb4.block rb (heap_lt e3)), ⟨⟨_, OwnS.start _ _ _ hbb.size⟩, ⟨_, OwnS.start _ _ _ hbb.size⟩, ⟨_, OwnS.start _ _ _ hbb.size⟩, fun g e => (by cases e)⟩, by rw [hnb]; exact HB3.out.1.size, by rw [HW.out.2.2.1]; exact Nat.le_refl _, cfU_below hbb, fun g e => (by rcases e with e | e <;> cases e)⟩⟩
 clear hnb hw4
 obtain ⟨kl, hkl⟩ : ∃ kl, kl = n.keys.length := ⟨_, rfl⟩
 have hkl2 : kl <= 9000 := by rw [hkl]; exact HH.out.2.1.few
 rw [<- hkl]
 have HKL := HoldT.mk hkl
 clear hkl
 go_loopw [8, 9, 10, 11, 12, 13, 32] (fun s8 s9 s10 s11 s12 s13 i wr => ∃ j : Nat, i = .int .i64 j /\ j <= kl /\ ∃ kv vv, HoldT (RU (cfU wq) wq wr nb rb ⟨true, keys.take j, vals.take j, []⟩ kv vv (.slice none 0 0) (tailJ n j))) (fun _ _ _ _ _ _ i _ => kl - (intOf i).toNat)
 case atStart => exact ⟨0, rfl, Nat.zero_le _, _, _, HRU⟩
 case round =>
  obtain ⟨j, rfl, hj, kv, vv, HJ⟩ := hrel
  by_cases hlt : j < kl
  ·have b1 : decide ((j : Int) < (kl : Int)) = true := decide_eq_true (by omega)
   have hkk : kl = keys.length := by rw [HKL.out, HH.out.1]
   obtain ⟨k, hk⟩ : ∃ k, keys[j]? = some k := ⟨keys[j]'(by omega), List.getElem?_eq_getElem (by omega)⟩
   have hsh : ShN ⟨true, keys, vals, kids⟩ := by have := HH.out.2.1; rw [HH.out.1] at this; exact this
   obtain ⟨o1, o2⟩ := hsh.key k (List.mem_of_getElem? hk)
   have hal : vals.length = keys.length := (hsh.leaf rfl).1
   obtain ⟨v, hv⟩ : ∃ v, vals[j]? = some v := ⟨vals[j]'(by omega), List.getElem?_eq_getElem (by omega)⟩
   have hvl := (hsh.leaf rfl).2.2 v (List.mem_of_getElem? hv)
   have htail : tailJ n j = [UInt8.ofNat k.length] ++ (be16 v.length ++ (k ++ (v ++ tailJ n (j + 1)))) := by
    rw [tailJ_succ (by rw [<- HKL.out]; exact hlt)]
    unfold entBy
    rw [HH.out.1]
    simp [List.getD, hk, hv]
   have htl : (tailJ n j).length <= 1024 := by unfold tailJ; rw [List.length_drop, HH.out.2.2.2.2]; omega
   have HT := HoldT.mk (And.intro htail htl)
   have HKV := HoldT.mk (And.intro hk (And.intro hv (And.intro hkk hal)))
   have hlen : ∀ a b : Bts, (a ++ b).length <= 1024 -> b.length <= 100000 := fun a b h => by rw [List.length_append] at h; omega
   rw [htail] at htl
   have l1 := hlen _ _ htl
   have l2 : (k ++ (v ++ tailJ n (j + 1))).length <= 100000 := by rw [List.length_append] at l1; omega
   have l3 : (v ++ tailJ n (j + 1)).length <= 100000 := by rw [List.length_append] at l2; omega
   have HL := HoldT.mk (And.intro l1 (And.intro l2 l3))
   have HN := HoldT.mk (num_of (n := 1) HJ.out.rest HJ.out.mem htail rfl (by rw [htail]; omega) (by omega))
   clear htail htl hlen l1 l2 l3 hk hv hsh hkk hal
   go_wp2_with fail
   refine HN.out.mono ?_
   rintro e wa ⟨rfl, hra, hga⟩
   have HA := HoldT.mk (HJ.out.took hga hra)
   have e1 : numB [UInt8.ofNat k.length] = k.length := by rw [numB_one]; simp; omega
   rw [e1]
   clear hra hga HN e1
   have x0 := HA.out.box.cell.1
   have HN := HoldT.mk (num_of (n := 2) HA.out.rest HA.out.mem rfl rfl (by have := HT.out.2; rw [HT.out.1, List.length_append] at this; omega) (by omega))
   simp only at x0
   go_wp2_with fail
   refine HN.out.mono ?_
   rintro e wb ⟨rfl, hrb2, hgb⟩
   have HB := HoldT.mk (HA.out.took hgb hrb2)
   have e1 : numB (be16 v.length) = v.length := numB_be16 (by omega)
   rw [e1]
   clear hrb2 hgb HN x0 e1
   have HN := HoldT.mk (take_of (n := k.length) HB.out.rest HB.out.mem rfl rfl HL.out.2.1)
   go_wp2_with fail
   refine HN.out.mono ?_
   rintro e wc ⟨svk, csk, rfl, hok, hrc, hgc⟩
   have HC := HoldT.mk (And.intro (HB.out.took hgc hrc) hok.yat)
   obtain ⟨xa, xc, rfl⟩ := hok.shape
   clear hok hrc hgc HN
   have HN := HoldT.mk (take_of (n := v.length) HC.out.1.rest HC.out.1.mem rfl rfl HL.out.2.2)
   go_wp2_with fail
   refine HN.out.mono ?_
   rintro e wd ⟨svv, csv, rfl, hov, hrd, hgd⟩
   have HD := HoldT.mk (And.intro (HC.out.1.took hgd hrd) (And.intro hov.yat (HC.out.2.mono RY_mono (cfU_grown hgd fun b e => by cases e; exact HC.out.1.restU))))
   obtain ⟨ya, yc, rfl⟩ := hov.shape
   clear hov hrd hgd HN
   have x1 := HD.out.1.box.cell.2.1
   obtain ⟨ck, hck⟩ := HD.out.1.own.keys
   have hkj : (keys.take j).length = j := by rw [List.length_take]; have := HKV.out.2.2.1; omega
   have hck2 : OwnS 1 (RB (cfU wd)) 23 wq.heap.size wd kv (keys.take j).length (keys.take j) ck := hck
   rw [hkj] at hck2
   have HCK := HoldT.mk hck2
   obtain ⟨kva, kvc, rfl⟩ := hck2.shape
   clear hck hck2 hkj
   go_wp2_with (at_builtin; refine push_new (RB_mono _) rfl _ _ rfl infoB1 Tryz.underlying76 rfl (by decide) wq.heap.size _ _ j _ _ HCK.out rfl _ [.slice xa k.length xc] rfl rfl (by simp [Value.oneCell']) k ⟨_, rfl, HD.out.2.2⟩ _ rfl rfl (by omega) (by decide) ?_)
   intro kv2 we hok2 hge
   have hce := grew_cfU HCK.out (by decide) hge
   have hoe := HD.out.1.own.pushK (k := k) hge (by rw [show ({ leaf := true, keys := keys.take j, vals := vals.take j, kids := [] } : ND).keys.length = j by show (keys.take j).length = j; rw [List.length_take]; have := HKV.out.2.2.1; omega]; exact hok2)
   obtain ⟨k2a, k2c, rfl⟩ := hok2.shape
   have hbe : NBox we nb ⟨true, keys.take j, vals.take j, []⟩ (.slice kva j kvc) vv (.slice none 0 0) := hge.kept HD.out.1.box (fun q2 hq2 e3 => (HD.out.1.rows (.inl hq2)).1 e3.symm)
   have HE := HoldT.mk (And.intro hok2 (And.intro hge (And.intro hce (And.intro hoe hbe))))
   have x1 := hbe.cell.2.1
   have hz1 : we.frozen? ⟨nb, 1, none⟩ = false := by have := hbe; unfold NBox at this; simp [World.frozen?, this]
   obtain ⟨wf, hwf⟩ : ∃ wf, wf = we.setCell ⟨nb, 1, none⟩ (.slice k2a (j + 1) k2c) := ⟨_, rfl⟩
   have hbf : NBox wf nb ⟨true, keys.take j ++ [k], vals.take j, []⟩ (.slice k2a (j + 1) k2c) vv (.slice none 0 0) := by
    rw [hwf]
    have := set_selfT (o := 1) (c := .slice k2a (j + 1) k2c) hbe
    exact this
   have hrf : RU (cfU wq) wq wf nb rb ⟨true, keys.take j ++ [k], vals.take j, []⟩ (.slice k2a (j + 1) k2c) vv (.slice none 0 0) (tailJ n (j + 1)) := by
    rw [hwf] at hbf |-
    refine HD.out.1.set (sl := .slice kva j kvc) (fun g e => .inl e) hge hce hbf hoe (fun g e => ?_)
    obtain ⟨_, _, _, e3, _⟩ := HD.out.1.rest
    rcases e with e | e
    ·rcases hge.own g e with h1 | h1
     ·exact HD.out.1.apt g (.inl h1)
     ·have := heap_lt e3; omega
    ·exact HD.out.1.apt g (.inr e)
   have y0 : (we.setCell ⟨nb, 1, none⟩ (.slice k2a (j + 1) k2c)).cell? ⟨nb, 0, none⟩ = some (.bool true) := by rw [<- hwf]; exact hbf.cell.1
   have y2 : (we.setCell ⟨nb, 1, none⟩ (.slice k2a (j + 1) k2c)).cell? ⟨nb, 2, none⟩ = some vv := by rw [<- hwf]; exact hbf.cell.2.2.1
   have hyv : YAt (cfU wf) (.slice ya v.length yc) v := (HD.out.2.1.mono RY_mono hce).mono RY_mono (by rw [hwf]; exact cfU_set (fun ⟨_, _, e⟩ => by have := hbe; unfold NBox at this; rw [this] at e; cases e))
   obtain ⟨cv, hcv⟩ := hrf.own.vals
   have hvj : (vals.take j).length = j := by rw [List.length_take]; have h1 := HKV.out.2.2.1; have h2 := HKV.out.2.2.2; omega
   have hcv2 : OwnS 1 (RB (cfU wf)) 23 wq.heap.size wf vv (vals.take j).length (vals.take j) cv := hcv
   rw [hvj] at hcv2
   obtain ⟨vva, vvc, rfl⟩ := hcv2.shape
   have HF := HoldT.mk (And.intro hrf (And.intro hyv hcv2))
   have HWF := HoldT.mk hwf
   clear hok2 hge hce hoe hbe hbf hrf hyv hcv hcv2 hvj hwf
   go_upto_region 18 with (fail)
   rw [<- HWF.out] at y2 |-
   clear y0 x1 hz1
   go_wp2_with (at_builtin; refine push_new (RB_mono _) rfl _ _ rfl infoB1 Tryz.underlying76 rfl (by decide) wq.heap.size _ _ j _ _ HF.out.2.2 rfl _ [.slice ya v.length yc] rfl rfl (by simp [Value.oneCell']) v ⟨_, rfl, HF.out.2.1⟩ _ rfl rfl (by omega) (by decide) ?_)
   intro vv2 wg hov2 hgg
   have hcg := grew_cfU HF.out.2.2 (by decide) hgg
   have hog := HF.out.1.own.pushV (k := v) hgg (by rw [show ({ leaf := true, keys := keys.take j ++ [k], vals := vals.take j, kids := [] } : ND).vals.length = j by show (vals.take j).length = j; rw [List.length_take]; have h1 := HKV.out.2.2.1; have h2 := HKV.out.2.2.2; omega]; exact hov2)
   obtain ⟨v2a, v2c, rfl⟩ := hov2.shape
   have hbg : NBox wg nb ⟨true, keys.take j ++ [k], vals.take j, []⟩ (.slice k2a (j + 1) k2c) (.slice vva j vvc) (.slice none 0 0) := hgg.kept HF.out.1.box (fun q2 hq2 e3 => (HF.out.1.rows (.inr (.inl hq2))).1 e3.symm)
   obtain ⟨wh, hwh⟩ : ∃ wh, wh = wg.setCell ⟨nb, 2, none⟩ (.slice v2a (j + 1) v2c) := ⟨_, rfl⟩
   have hbh : NBox wh nb ⟨true, keys.take j ++ [k], vals.take j ++ [v], []⟩ (.slice k2a (j + 1) k2c) (.slice v2a (j + 1) v2c) (.slice none 0 0) := by
    rw [hwh]
    have := set_selfT (o := 2) (c := .slice v2a (j + 1) v2c) hbg
    exact this
   have hrh : RU (cfU wq) wq wh nb rb ⟨true, keys.take j ++ [k], vals.take j ++ [v], []⟩ (.slice k2a (j + 1) k2c) (.slice v2a (j + 1) v2c) (.slice none 0 0) (tailJ n (j + 1)) := by
    rw [hwh] at hbh |-
    refine HF.out.1.set (sl := .slice vva j vvc) (fun g e => .inr (.inl e)) hgg hcg hbh hog (fun g e => ?_)
    obtain ⟨_, _, _, e3, _⟩ := HF.out.1.rest
    rcases e with e | e
    ·exact HF.out.1.apt g (.inl e)
    ·rcases hgg.own g e with h1 | h1
     ·exact HF.out.1.apt g (.inr h1)
     ·have := heap_lt e3; omega
   have HR : HoldT (RU (cfU wq) wq wh nb rb ⟨true, keys.take (j + 1), vals.take (j + 1), []⟩ (.slice k2a (j + 1) k2c) (.slice v2a (j + 1) v2c) (.slice none 0 0) (tailJ n (j + 1))) := ⟨by rw [take_succ HKV.out.1, take_succ HKV.out.2.1]; exact hrh⟩
   have HWH := HoldT.mk hwh
   have z2 := hbg.cell.2.2.1
   have hz2 : wg.frozen? ⟨nb, 2, none⟩ = false := by have := hbg; unfold NBox at this; simp [World.frozen?, this]
   clear hov2 hgg hcg hog hbg hbh hrh hwh y2
   go_wp2_with fail
   rw [<- HWH.out]
   exact ⟨⟨j + 1, by go_num, hlt, _, _, HR⟩, by simp [intOf]; omega⟩
  ·obtain rfl : j = kl := by omega
   have hsh : ShN ⟨true, keys, vals, kids⟩ := by have := HH.out.2.1; rw [HH.out.1] at this; exact this
   have hkk : j = keys.length := by rw [HKL.out, HH.out.1]
   have hvk : vals.length = keys.length := (hsh.leaf rfl).1
   have hn9 : n = ⟨true, keys, vals, []⟩ := by rw [HH.out.1]; have := (hsh.leaf rfl).2.1; simp only at this; rw [this]
   have HJ2 : HoldT (RU (cfU wq) wq wr nb rb n kv vv (.slice none 0 0) (tailJ n j)) := ⟨by
    have := HJ.out
    rw [List.take_of_length_le (by omega), List.take_of_length_le (by omega)] at this
    rw [<- hn9] at this
    exact this⟩
   obtain ⟨iv, hiv⟩ : ∃ iv, iv = Value.slice none 0 0 := ⟨_, rfl⟩
   rw [<- hiv] at HJ2
   clear HJ hsh hkk hvk hn9 hiv
   have hwr := node_write HJ2.out.own.nat HH.out.2.1 HH.out.2.2.1
   have hlf : n.leaf = true := by rw [HH.out.1]
   obtain ⟨x0, x1, x2, x3⟩ := HJ2.out.box.cell
   have hq4 : wr.heap[q]? = some (.cells #[.bool false, .slice none 0 0, .slice none 0 0, .slice none 0 0] 107 (0, 0)) := kept HW.out.2.1 HJ2.out.bel
   have HWR := HoldT.mk hwr
   obtain ⟨_, hck⟩ := HJ2.out.own.keys
   obtain ⟨_, hcv⟩ := HJ2.out.own.vals
   obtain ⟨_, hci⟩ := HJ2.out.own.kids
   obtain ⟨ka, kc, rfl⟩ := hck.shape
   obtain ⟨va, vc, rfl⟩ := hcv.shape
   obtain ⟨ia, ic, rfl⟩ := hci.shape
   rw [hlf] at x0
   unfold nodeV at HWR
   rw [hlf] at HWR
   have HLF := HoldT.mk hlf
   obtain ⟨kl2, hkl2'⟩ : ∃ m, m = n.keys.length := ⟨_, rfl⟩
   obtain ⟨vl2, hvl2⟩ : ∃ m, m = n.vals.length := ⟨_, rfl⟩
   obtain ⟨il2, hil2⟩ : ∃ m, m = n.kids.length := ⟨_, rfl⟩
   rw [<- hkl2', <- hvl2, <- hil2] at HWR HJ2
   rw [<- hkl2'] at x1
   rw [<- hvl2] at x2
   rw [<- hil2] at x3
   have HQ4 := HoldT.mk hq4
   clear hwr hck hcv hci hq4 hlf hkl2' hvl2 hil2
   go_wp2_with fail
   refine HWR.out.mono ?_
   rintro e w5 ⟨g5, rfl, hg5, hy5, hb5⟩
   have HJ5 := HoldT.mk (HJ2.out.below hb5)
   have HEQ := HoldT.mk (bEqualY (u := .slice (some ⟨bg, bo, none⟩) 1024 bc) (v := .slice (some ⟨g5, 0, none⟩) 1024 1024) (w := w5) ((HH.out.2.2.2.1.mono RY_mono (cfU_below (HW.out.1.trans (HJ5.out.bel.mono HW.out.1.size)))).mono RY_mono (cfU_cf _)) (hy5.mono RY_mono (cfU_cf _)))
   have hq5 : w5.heap[q]? = some (.cells #[.bool false, .slice none 0 0, .slice none 0 0, .slice none 0 0] 107 (0, 0)) := kept HQ4.out hb5
   have hte : decide (encN n = encN n) = true := decide_eq_true rfl
   rw [hte] at HEQ
   clear x0 x1 x2 x3 hg5 hy5 hb5 hte
   go_wp2_with fail
   refine HEQ.out.mono ?_
   rintro e w6 ⟨rfl, hw6⟩
   obtain rfl := hw6.symm
   obtain ⟨x0, x1, x2, x3⟩ := HJ5.out.box.cell
   rw [HLF.out] at x0
   have HQ5 := HoldT.mk hq5
   have z0 : w5.cell? ⟨q, 0, none⟩ = some (.bool false) := by simp [World.cell?, hq5]
   have z1 : w5.cell? ⟨q, 1, none⟩ = some (.slice none 0 0) := by simp [World.cell?, hq5]
   have z2 : w5.cell? ⟨q, 2, none⟩ = some (.slice none 0 0) := by simp [World.cell?, hq5]
   have z3 : w5.cell? ⟨q, 3, none⟩ = some (.slice none 0 0) := by simp [World.cell?, hq5]
   have f0 : w5.frozen? ⟨q, 0, none⟩ = false := by simp [World.frozen?, hq5]
   have f1 : w5.frozen? ⟨q, 1, none⟩ = false := by simp [World.frozen?, hq5]
   have f2 : w5.frozen? ⟨q, 2, none⟩ = false := by simp [World.frozen?, hq5]
   have f3 : w5.frozen? ⟨q, 3, none⟩ = false := by simp [World.frozen?, hq5]
   clear hq5
   go_wp2_with fail
   obtain ⟨w7, hw7⟩ : ∃ w7, w7 = set4 w5 q (.bool true) (.slice ka kl2 kc) (.slice va vl2 vc) (.slice ia il2 ic) := ⟨_, rfl⟩
   have hw8 := hw7
   unfold set4 at hw8
   rw [<- hw8]
   have h7 := set4_heap (a' := .bool true) (b' := .slice ka kl2 kc) (c' := .slice va vl2 vc) (d' := .slice ia il2 ic) HQ5.out
   rw [<- hw7] at h7
   have q0 : w7.cell? ⟨q, 0, none⟩ = some (.bool true) := by simp [World.cell?, h7]
   have q1 : w7.cell? ⟨q, 1, none⟩ = some (.slice ka kl2 kc) := by simp [World.cell?, h7]
   have q2 : w7.cell? ⟨q, 2, none⟩ = some (.slice va vl2 vc) := by simp [World.cell?, h7]
   have q3 : w7.cell? ⟨q, 3, none⟩ = some (.slice ia il2 ic) := by simp [World.cell?, h7]
   refine bodyPost_ret (v := .tuple #[.agg #[.bool true, .slice ka kl2 kc, .slice va vl2 vc, .slice ia il2 ic], .int .i64 0]) (by simp [results, Tryz.results58, go_sem, q0, q1, q2, q3]) rfl ?_
   have hg7 : w5.grownBy w7 (some q) := by rw [hw7]; exact set4_grown _ _ _ _ _ _
   have hqU : ¬ IsU w5 q := fun ⟨_, _, e⟩ => by rw [HQ5.out] at e; cases e
   have hbw : Below w.heap.size w w5 := HW.out.1.trans (HJ5.out.bel.mono HW.out.1.size)
   have hown := HJ5.out.own.stand hg7.size (fun g hg => hg7.block g (HJ5.out.own.low hg).2.1 (fun e => by
    have h1 := (HJ5.out.own.low hg).1
    have h2 := heap_lt HW.out.2.1
    obtain rfl := Option.some.inj e
    omega)) (cfU_grown hg7 fun b e => by cases e; exact hqU)
   refine ⟨.slice ka kl2 kc, .slice va vl2 vc, .slice ia il2 ic, by unfold nodeV; rw [HLF.out], ?_, hbw.grown hg7 hbw.size (fun b e => by cases e; rw [HQ.out]; exact Nat.le_refl _)⟩
   obtain ⟨⟨c1, o1⟩, ⟨c2, o2⟩, ⟨c3, o3⟩, o4⟩ := hown
   exact ⟨⟨c1, own_base o1 HW.out.1.size⟩, ⟨c2, own_base o2 HW.out.1.size⟩, ⟨c3, own_base o3 HW.out.1.size⟩, o4⟩
set_option maxHeartbeats 8000000 in
set_option maxRecDepth 100000 in
theorem node_read_node {w : World} {keys vals : List Bts} {kids : List Nat} {ba : Option Addr} {bc : Nat} (hs : ShN ⟨false, keys, vals, kids⟩) (hz : sizeN ⟨false, keys, vals, kids⟩ <= 1024) (hy : YAt (cfU w) (.slice ba 1024 bc) (encN ⟨false, keys, vals, kids⟩)) :
  Calls Tryz.prog 58 #[.slice ba 1024 bc] w (RdPost ⟨false, keys, vals, kids⟩ w) := by
 obtain ⟨n, hn⟩ : ∃ n : ND, n = ⟨false, keys, vals, kids⟩ := ⟨_, rfl⟩
 rw [<- hn] at hs hz hy |-
 have hel : (encN n).length = 1024 := encN_len hz
 obtain ⟨bg, bo, rfl⟩ := yat_addr hy (by omega)
 obtain ⟨q, hq⟩ : ∃ q, q = w.heap.size := ⟨_, rfl⟩
 have HH := HoldT.mk (And.intro hn (And.intro hs (And.intro hz (And.intro hy hel))))
 have HQ := HoldT.mk hq
 clear hn hs hz hy hel hq
 go_enter Tryz.func58, Tryz.ntmps58
 go_wp2_with fail
 obtain ⟨wq, hwq⟩ : ∃ wq, wq = w.alloc (.cells #[.bool false, .slice none 0 0, .slice none 0 0, .slice none 0 0] 107) := ⟨_, rfl⟩
 have hbq : Below w.heap.size w wq := by rw [hwq]; exact (Below.refl _ w).alloc (Nat.le_refl _) _
 have hqb : wq.heap[q]? = some (.cells #[.bool false, .slice none 0 0, .slice none 0 0, .slice none 0 0] 107 (0, 0)) := by rw [hwq, HQ.out]; exact heap_alloc_new w _
 obtain ⟨rb, hrb⟩ : ∃ rb, rb = wq.heap.size := ⟨_, rfl⟩
 have hrb2 : q + 1 = rb := by rw [HQ.out, hrb, hwq]; simp
 obtain ⟨w1, hw1⟩ : ∃ w1, w1 = wq.alloc (.cells #[.slice (some ⟨bg, bo, none⟩) 1024 bc] 23) := ⟨_, rfl⟩
 have hb1 : Below wq.heap.size wq w1 := by rw [hw1]; exact (Below.refl _ wq).alloc (Nat.le_refl _) _
 have hr1 : RestAt (cfU wq) w1 rb (encN n) := ⟨bg, bo, bc, by rw [hw1, hrb, HH.out.2.2.2.2]; exact heap_alloc_new wq _, by rw [HH.out.2.2.2.2]; exact HH.out.2.2.2.1.mono RY_mono (cfU_below hbq)⟩
 rw [<- HQ.out, <- hwq, <- hw1, hrb2]
 have HW := HoldT.mk (And.intro hbq (And.intro hqb (And.intro hrb hrb2)))
 clear hwq hbq hqb hrb hrb2 hw1
 have hen : encN n = [2] ++ (be16 n.keys.length ++ (be32 (n.kids.headD 0) ++ tailJ n 0)) := by
  have h1 := tailJ_eq (n := n) (j := 0) (Nat.zero_le _)
  have h2 : rawJ n 0 = rawHd n := by unfold rawJ; simp
  rw [h1, h2]
  unfold rawHd
  rw [HH.out.1]
  simp
 have HN1 := HoldT.mk (num_of (n := 1) hr1 (cfU_below hb1) hen rfl (by rw [HH.out.2.2.2.2]; omega) (by omega))
 have HB1 := HoldT.mk hb1
 have HEN := HoldT.mk hen
 clear hr1 hb1 hen
 refine HN1.out.mono ?_
 rintro e w2 ⟨rfl, hr2, hg2⟩
 have hb2 : Below wq.heap.size wq w2 := HB1.out.grown hg2 HB1.out.size (fun b e => by cases e; rw [HW.out.2.2.1]; exact Nat.le_refl _)
 have HN2 := HoldT.mk (num_of (n := 2) hr2 (cfU_below hb2) rfl (show (be16 n.keys.length).length = 2 from rfl) (by have h1 := congrArg List.length HEN.out; rw [HH.out.2.2.2.2, List.length_append] at h1; simp only [List.length_cons, List.length_nil] at h1; omega) (by omega))
 have HB2 := HoldT.mk hb2
 clear hr2 hg2 hb2 HN1
 have e1 : numB [2] = 2 := rfl
 rw [e1]
 clear e1
 go_wp2_with fail
 refine HN2.out.mono ?_
 rintro e w3 ⟨rfl, hr3, hg3⟩
 have hb3 : Below wq.heap.size wq w3 := HB2.out.grown hg3 HB2.out.size (fun b e => by cases e; rw [HW.out.2.2.1]; exact Nat.le_refl _)
 have hkl : numB (be16 n.keys.length) = n.keys.length := numB_be16 (by have := HH.out.2.1.few; omega)
 rw [hkl]
 clear hkl
 have HB3 := HoldT.mk (And.intro hb3 hr3)
 clear hr3 hg3 hb3 HN2
 obtain ⟨nb, hnb⟩ : ∃ nb, nb = w3.heap.size := ⟨_, rfl⟩
 obtain ⟨w4, hw4⟩ : ∃ w4, w4 = w3.alloc (.cells #[.bool false, .slice none 0 0, .slice none 0 0, .slice none 0 0] 107) := ⟨_, rfl⟩
 have HRU : HoldT (RU (cfU wq) wq w4 nb rb ⟨false, [], [], []⟩ (.slice none 0 0) (.slice none 0 0) (.slice none 0 0) (be32 (n.kids.headD 0) ++ tailJ n 0)) := ⟨by
  have hb4 : Below w3.heap.size w3 w4 := by rw [hw4]; exact (Below.refl _ w3).alloc (Nat.le_refl _) _
  have hbb := HB3.out.1.trans (hb4.mono HB3.out.1.size)
  obtain ⟨_, _, _, e3, _⟩ := HB3.out.2
  refine ⟨hbb, by rw [hw4, hnb]; exact heap_alloc_new w3 _, HB3.out.2.keep (hb4.block rb (heap_lt e3)), ⟨⟨_, OwnS.start _ _ _ hbb.size⟩, ⟨_, OwnS.start _ _ _ hbb.size⟩, ⟨_, OwnS.start _ _ _ hbb.size⟩, fun g e => (by cases e)⟩, by rw [hnb]; exact HB3.out.1.size, by rw [HW.out.2.2.1]; exact Nat.le_refl _, cfU_below hbb, fun g e => (by rcases e with e | e <;> cases e)⟩⟩
 have HWN := HoldT.mk (And.intro hnb hw4)
 clear hnb hw4
 obtain ⟨k0, hk0⟩ : ∃ k0, k0 = n.kids.headD 0 := ⟨_, rfl⟩
 have hk0l : k0 <= 2147483647 := by
  rw [hk0, HH.out.1]
  have h1 : ∀ x ∈ kids, x <= 2147483647 := by have := HH.out.2.1; rw [HH.out.1] at this; exact (this.node rfl).2.2
  cases kids with
  | nil => simp
  | cons x l => exact h1 x (List.mem_cons_self ..)
 rw [<- hk0] at HRU
 have HK0 := HoldT.mk hk0
 clear hk0
 have HLLa : HoldT ((be32 k0 ++ tailJ n 0).length <= 100000) := ⟨by
  rw [List.length_append]
  have : (tailJ n 0).length <= 1024 := by unfold tailJ; rw [List.length_drop, HH.out.2.2.2.2]; omega
  show 4 + _ <= _
  omega⟩
 go_upto_region 6 with (fail)
 rw [<- HWN.out.1, <- HWN.out.2]
 go_cut [] (fun wx => ∃ i2a i2c, HoldT (RU (cfU wq) wq wx nb rb ⟨false, [], [], [] ++ [k0]⟩ (.slice none 0 0) (.slice none 0 0) (.slice i2a (0 + 1) i2c) (tailJ n 0)))
 case first =>
  have hx3a := HRU.out.box.cell.2.2.2
  obtain ⟨cia, hcia⟩ := HRU.out.own.kids
  have hci2a : OwnS 1 RI 3 wq.heap.size w4 (.slice none (0) 0) (0) (([] : List Nat).map Int.ofNat) cia := by exact hcia
  have HCIa := HoldT.mk hci2a
  clear hcia hci2a
  refine wp_region_mixC (KeepSC (fun _ => False) w4) 7 rfl (by kernel_rfl) ?_
  have HDRa := HoldT.mk ((Below.refl w4.heap.size w4).drew)
  have y3a : w4.drew.cell? ⟨nb, 3, none⟩ = some (.slice none (0) 0) := hx3a
  generalize w4.drew = va at HDRa y3a |-
  clear hx3a
  have HVa := HoldT.mk (HRU.out.below HDRa.out)
  have HCVa := HoldT.mk (HCIa.out.quiet RI_mono HDRa.out)
  have HNNa := HoldT.mk (num_of (n := 4) HVa.out.rest HVa.out.mem rfl (show (be32 k0).length = 4 from rfl) (by have h1 : (be32 k0 ++ tailJ n 0).length <= 100000 := HLLa.out; exact h1) (by omega))
  have e4a : numB (be32 k0) = k0 := numB_be32 (by have := hk0l; omega)
  rw [e4a] at HNNa
  clear e4a
  have hgena : ∀ (wx : World), va.grownBy wx (some rb) -> wx.cell? ⟨nb, 3, none⟩ = some (.slice none (0) 0) := fun wx hg => by
   have h1 := hg.block nb (heap_lt HVa.out.box) (fun e => HVa.out.ne (Option.some.inj e))
   rw [World.cell?_of_block (w := va) h1]
   exact y3a
  have HGENa := HoldT.mk hgena
  clear hgena
  refine mixl_seg (by kernel_rfl) (fun _ _ d _ _ h => by cases d <;> exact h) [0] [_] 6 7 rfl _ _ _ rfl (by kernel_rfl) (keepSC fun q h => h.elim) ?_
  repeat (go_big_quiet_step (fail))
  refine wpQuiet_nil ?_
  refine mixl_two (i := 1) (j := 2) rfl rfl (by kernel_rfl) (keepSC fun q h => h.elim) rfl rfl (fun K hK => ?_) (fun K hK => ?_)
  case' refine_1 =>
   go_wp2_with fail
   refine mixl_act (i := 2) rfl (by kernel_rfl) (keepSC fun q h => h.elim) rfl (fun K hK => ?_)
   go_wp2_with fail
   refine HNNa.out.mono ?_
   rintro e waa ⟨rfl, hraa, hgaa⟩
   simp only
   have HRAa := HoldT.mk (And.intro hraa hgaa)
   clear hraa hgaa
   go_wp2_with fail
   refine mixl_act (i := 3) rfl (by kernel_rfl) (keepSC fun q h => h.elim) rfl (fun K hK => ?_)
   go_wp2_with fail
  case' refine_2 =>
   go_wp2_with fail
   refine HNNa.out.mono ?_
   rintro e waa ⟨rfl, hraa, hgaa⟩
   simp only
   have HRAa := HoldT.mk (And.intro hraa hgaa)
   clear hraa hgaa
   have z3a := HGENa.out waa HRAa.out.2
   have z4a : ∀ o, (waa.alloc o).cell? ⟨nb, 3, none⟩ = some (.slice none (0) 0) := fun o => Lib.cell?_alloc_some _ z3a
   go_wp2_with fail
   refine mixl_two (i := 1) (j := 3) rfl rfl (by kernel_rfl) (keepSC fun q h => h.elim) rfl rfl (fun K hK => ?_) (fun K hK => ?_)
   case' refine_2.refine_1 =>
    go_wp2_with fail
    refine mixl_act (i := 3) rfl (by kernel_rfl) (keepSC fun q h => h.elim) rfl (fun K hK => ?_)
    go_wp2_with fail
   case' refine_2.refine_2 =>
    go_wp2_with fail
    refine mixl_act (i := 1) rfl (by kernel_rfl) (keepSC fun q h => h.elim) rfl (fun K hK => ?_)
    go_wp2_with fail
   all_goals clear z3a z4a
  all_goals
   have HAa := HoldT.mk (HVa.out.took HRAa.out.2 HRAa.out.1)
   have HCAa : HoldT (OwnS 1 RI 3 wq.heap.size waa (.slice none (0) 0) (0) (([] : List Nat).map Int.ofNat) cia) := ⟨own_keep (fun _ _ _ _ h => h) HCVa.out HRAa.out.2 (fun g hg e => (HVa.out.rows (.inr (.inr hg))).2 (Option.some.inj e).symm)⟩
   clear y3a
   refine mixl_act (i := 4) rfl (by kernel_rfl) (keepSC fun q h => h.elim) rfl (fun K hK => ?_)
   refine wp_push RI_mono _ _ rfl infoI1 Tryz.underlying91 rfl (by decide) wq.heap.size waa _ (0) _ _ HCAa.out rfl _ [.int .i64 (k0 : Int)] rfl rfl (by intro u hu; simp at hu; rw [hu]; rfl) (k0 : Int) rfl _ rfl rfl (by omega) (by decide) (fun iv2a wea hoia hgea => hK _ _ ?_)
   have hcea := grew_cfU HCAa.out (by decide) hgea
   have hoea := HAa.out.own.pushI (k := k0) hgea (by exact hoia)
   obtain ⟨i2aa, i2ca, rfl⟩ := hoia.shape
   have hbea : NBox wea nb ⟨false, [], [], ([] : List Nat)⟩ (.slice none 0 0) (.slice none 0 0) (.slice none (0) 0) := hgea.kept HAa.out.box (fun q2 hq2 e3 => (HAa.out.rows (.inr (.inr hq2))).1 e3.symm)
   obtain ⟨wfa, hwfa⟩ : ∃ wf, wf = wea.setCell ⟨nb, 3, none⟩ (.slice i2aa (0 + 1) i2ca) := ⟨_, rfl⟩
   have hbfa : NBox wfa nb ⟨false, [], [], ([] : List Nat) ++ [k0]⟩ (.slice none 0 0) (.slice none 0 0) (.slice i2aa (0 + 1) i2ca) := by
    rw [hwfa]
    have := set_selfT (o := 3) (c := .slice i2aa (0 + 1) i2ca) hbea
    exact this
   have HZa : HoldT (RU (cfU wq) wq wfa nb rb ⟨false, [], [], ([] : List Nat) ++ [k0]⟩ (.slice none 0 0) (.slice none 0 0) (.slice i2aa (0 + 1) i2ca) (tailJ n 0)) := ⟨by
    rw [hwfa] at hbfa |-
    exact HAa.out.set (sl := .slice none (0) 0) (fun g e => .inr (.inr e)) hgea hcea hbfa hoea (fun g e => HAa.out.apt g e)⟩
   have HWFa := HoldT.mk hwfa
   have hzza : wea.frozen? ⟨nb, 3, none⟩ = false := by have := hbea; unfold NBox at this; simp [World.frozen?, this]
   have hxza := hbea.cell.2.2.2
   clear hoia hgea hcea hoea hbea hbfa hwfa
   refine mixl_act (i := 5) rfl (by kernel_rfl) (keepSC fun q h => h.elim) rfl (fun K hK => ?_)
   go_wp2_with fail
   refine mixl_act (i := 6) rfl (by kernel_rfl) (keepSC fun q h => h.elim) rfl (fun K hK => ?_)
   go_wp2_with fail
   refine mix_done (by kernel_rfl) (keepSC fun q h => h.elim) ?_
   rw [<- HWFa.out]
   clear hzza hxza
   go_wp2_with fail
   go_meet
   case rel => exact ⟨_, _, HZa⟩
 case rest =>
  obtain ⟨ia, ic, HR0⟩ := hcut
  generalize wc = w5 at *
  obtain ⟨kl, hkl⟩ : ∃ kl, kl = n.keys.length := ⟨_, rfl⟩
  have hkl2 : kl <= 9000 := by rw [hkl]; exact HH.out.2.1.few
  rw [<- hkl]
  have HKL := HoldT.mk hkl
  clear hkl
  have hkk0 : kids.take 1 = [k0] := by
   have h1 : kids.length = keys.length + 1 := by have := HH.out.2.1; rw [HH.out.1] at this; exact (this.node rfl).2.1
   have h2 := HK0.out
   rw [HH.out.1] at h2
   cases kids with
   | nil => simp at h1
   | cons x l => simp at h2; rw [h2]; rfl
  have HR1 : HoldT (RU (cfU wq) wq w5 nb rb ⟨false, keys.take 0, [], kids.take (0 + 1)⟩ (.slice none 0 0) (.slice none 0 0) (.slice ia (0 + 1) ic) (tailJ n 0)) := ⟨by rw [hkk0]; exact HR0.out⟩
  clear HR0 hkk0 HRU HWN
  go_wp2_with fail
  go_loopw [8, 9, 10, 11, 12, 13, 32] (fun s8 s9 s10 s11 s12 s13 i wr => ∃ j : Nat, i = .int .i64 j /\ j <= kl /\ ∃ kv ja jc, HoldT (RU (cfU wq) wq wr nb rb ⟨false, keys.take j, [], kids.take (j + 1)⟩ kv (.slice none 0 0) (.slice ja (j + 1) jc) (tailJ n j))) (fun _ _ _ _ _ _ i _ => kl - (intOf i).toNat)
  case atStart => exact ⟨0, rfl, Nat.zero_le _, _, _, _, HR1⟩
  case round =>
   obtain ⟨j, rfl, hj, kv, ja, jc, HJ⟩ := hrel
   by_cases hlt : j < kl
   ·have b1 : decide ((j : Int) < (kl : Int)) = true := decide_eq_true (by omega)
    have hkk : kl = keys.length := by rw [HKL.out, HH.out.1]
    obtain ⟨k, hk⟩ : ∃ k, keys[j]? = some k := ⟨keys[j]'(by omega), List.getElem?_eq_getElem (by omega)⟩
    have hsh : ShN ⟨false, keys, vals, kids⟩ := by have := HH.out.2.1; rw [HH.out.1] at this; exact this
    obtain ⟨o1, o2⟩ := hsh.key k (List.mem_of_getElem? hk)
    have hal : kids.length = keys.length + 1 := (hsh.node rfl).2.1
    obtain ⟨c, hcd⟩ : ∃ c, kids[j + 1]? = some c := ⟨kids[j + 1]'(by omega), List.getElem?_eq_getElem (by omega)⟩
    have hcl : c <= 2147483647 := (hsh.node rfl).2.2 c (List.mem_of_getElem? hcd)
    have htail : tailJ n j = [UInt8.ofNat k.length] ++ (k ++ (be32 c ++ tailJ n (j + 1))) := by
     rw [tailJ_succ (by rw [<- HKL.out]; exact hlt)]
     unfold entBy
     rw [HH.out.1]
     simp [List.getD, hk, hcd]
    have htl : (tailJ n j).length <= 1024 := by unfold tailJ; rw [List.length_drop, HH.out.2.2.2.2]; omega
    have HKV := HoldT.mk (And.intro hk (And.intro hcd (And.intro hkk hal)))
    have HT := HoldT.mk (And.intro htail htl)
    rw [htail] at htl
    have l1 : (k ++ (be32 c ++ tailJ n (j + 1))).length <= 1024 := by rw [List.length_append] at htl; omega
    have l2 : (be32 c ++ tailJ n (j + 1)).length <= 1024 := by rw [List.length_append] at l1; omega
    have HL := HoldT.mk (And.intro l1 l2)
    have HLLb : HoldT ((be32 c ++ tailJ n (j + 1)).length <= 100000) := ⟨by omega⟩
    have HN := HoldT.mk (num_of (n := 1) HJ.out.rest HJ.out.mem htail rfl (by rw [htail]; omega) (by omega))
    clear htail htl l1 l2 hk hcd hsh hkk hal
    go_wp2_with fail
    refine HN.out.mono ?_
    rintro e wa ⟨rfl, hra, hga⟩
    have HA := HoldT.mk (HJ.out.took hga hra)
    have e1 : numB [UInt8.ofNat k.length] = k.length := by rw [numB_one]; simp; omega
    rw [e1]
    clear hra hga HN e1
    have x0 := HA.out.box.cell.1
    have HN := HoldT.mk (take_of (n := k.length) HA.out.rest HA.out.mem rfl rfl (by have := HL.out.1; omega))
    go_wp2_with fail
    refine HN.out.mono ?_
    rintro e wb ⟨svk, csk, rfl, hok, hrc, hgc⟩
    have HB := HoldT.mk (And.intro (HA.out.took hgc hrc) hok.yat)
    obtain ⟨xa, xc, rfl⟩ := hok.shape
    clear hok hrc hgc HN x0
    have HN := HoldT.mk (take_of (n := 0) (d := []) HB.out.1.rest HB.out.1.mem rfl rfl (by have := HL.out.2; omega))
    go_wp2_with fail
    refine HN.out.mono ?_
    rintro e wd ⟨svv, csv, rfl, hov, hrd, hgd⟩
    have HD := HoldT.mk (And.intro (HB.out.1.took hgd hrd) (HB.out.2.mono RY_mono (cfU_grown hgd fun b e => by cases e; exact HB.out.1.restU)))
    obtain ⟨ya, yc, rfl⟩ := hov.shape
    clear hov hrd hgd HN
    have x1 := HD.out.1.box.cell.2.1
    obtain ⟨ck, hck⟩ := HD.out.1.own.keys
    have hkj : (keys.take j).length = j := by rw [List.length_take]; have := HKV.out.2.2.1; omega
    have hck2 : OwnS 1 (RB (cfU wd)) 23 wq.heap.size wd kv (keys.take j).length (keys.take j) ck := hck
    rw [hkj] at hck2
    have HCK := HoldT.mk hck2
    obtain ⟨kva, kvc, rfl⟩ := hck2.shape
    clear hck hck2 hkj
    go_wp2_with (at_builtin; refine push_new (RB_mono _) rfl _ _ rfl infoB1 Tryz.underlying76 rfl (by decide) wq.heap.size _ _ j _ _ HCK.out rfl _ [.slice xa k.length xc] rfl rfl (by simp [Value.oneCell']) k ⟨_, rfl, HD.out.2⟩ _ rfl rfl (by omega) (by decide) ?_)
    intro kv2 we hok2 hge
    have hce := grew_cfU HCK.out (by decide) hge
    have hoe := HD.out.1.own.pushK (k := k) hge (by rw [show ({ leaf := false, keys := keys.take j, vals := [], kids := kids.take (j + 1) } : ND).keys.length = j by show (keys.take j).length = j; rw [List.length_take]; have := HKV.out.2.2.1; omega]; exact hok2)
    obtain ⟨k2a, k2c, rfl⟩ := hok2.shape
    have hbe : NBox we nb ⟨false, keys.take j, [], kids.take (j + 1)⟩ (.slice kva j kvc) (.slice none 0 0) (.slice ja (j + 1) jc) := hge.kept HD.out.1.box (fun q2 hq2 e3 => (HD.out.1.rows (.inl hq2)).1 e3.symm)
    have x1 := hbe.cell.2.1
    have hz1 : we.frozen? ⟨nb, 1, none⟩ = false := by have := hbe; unfold NBox at this; simp [World.frozen?, this]
    obtain ⟨wf, hwf⟩ : ∃ wf, wf = we.setCell ⟨nb, 1, none⟩ (.slice k2a (j + 1) k2c) := ⟨_, rfl⟩
    have hbf : NBox wf nb ⟨false, keys.take j ++ [k], [], kids.take (j + 1)⟩ (.slice k2a (j + 1) k2c) (.slice none 0 0) (.slice ja (j + 1) jc) := by
     rw [hwf]
     have := set_selfT (o := 1) (c := .slice k2a (j + 1) k2c) hbe
     exact this
    have hrf : RU (cfU wq) wq wf nb rb ⟨false, keys.take j ++ [k], [], kids.take (j + 1)⟩ (.slice k2a (j + 1) k2c) (.slice none 0 0) (.slice ja (j + 1) jc) (be32 c ++ tailJ n (j + 1)) := by
     rw [hwf] at hbf |-
     refine HD.out.1.set (sl := .slice kva j kvc) (fun g e => .inl e) hge hce hbf hoe (fun g e => ?_)
     obtain ⟨_, _, _, e3, _⟩ := HD.out.1.rest
     rcases e with e | e
     ·rcases hge.own g e with h1 | h1
      ·exact HD.out.1.apt g (.inl h1)
      ·have := heap_lt e3; omega
     ·exact HD.out.1.apt g (.inr e)
    have y0 : (we.setCell ⟨nb, 1, none⟩ (.slice k2a (j + 1) k2c)).cell? ⟨nb, 0, none⟩ = some (.bool false) := by rw [<- hwf]; exact hbf.cell.1
    have HF := HoldT.mk hrf
    have HWF := HoldT.mk hwf
    have hkij : (kids.take (j + 1)).length = j + 1 := by rw [List.length_take]; have h1 := HKV.out.2.2.1; have h2 := HKV.out.2.2.2; omega
    have HKI := HoldT.mk hkij
    clear hok2 hge hce hoe hbe hbf hrf hwf hkij
    go_upto_region 19 with (fail)
    rw [<- HWF.out]
    clear y0 x1 hz1
    have hx3b := HF.out.box.cell.2.2.2
    obtain ⟨cib, hcib⟩ := HF.out.own.kids
    have hci2b : OwnS 1 RI 3 wq.heap.size wf (.slice ja (j + 1) jc) (j + 1) ((kids.take (j + 1)).map Int.ofNat) cib := by rw [show ({ leaf := false, keys := keys.take j ++ [k], vals := [], kids := kids.take (j + 1) } : ND).kids.length = j + 1 from HKI.out] at hcib; exact hcib
    have HCIb := HoldT.mk hci2b
    clear hcib hci2b
    refine wp_region_mixC (KeepSC (fun _ => False) wf) 7 rfl (by kernel_rfl) ?_
    have HDRb := HoldT.mk ((Below.refl wf.heap.size wf).drew)
    have y3b : wf.drew.cell? ⟨nb, 3, none⟩ = some (.slice ja (j + 1) jc) := hx3b
    generalize wf.drew = vb at HDRb y3b |-
    clear hx3b
    have HVb := HoldT.mk (HF.out.below HDRb.out)
    have HCVb := HoldT.mk (HCIb.out.quiet RI_mono HDRb.out)
    have HNNb := HoldT.mk (num_of (n := 4) HVb.out.rest HVb.out.mem rfl (show (be32 c).length = 4 from rfl) (by have h1 : (be32 c ++ tailJ n (j + 1)).length <= 100000 := HLLb.out; exact h1) (by omega))
    have e4b : numB (be32 c) = c := numB_be32 (by have := hcl; omega)
    rw [e4b] at HNNb
    clear e4b
    have hgenb : ∀ (wx : World), vb.grownBy wx (some rb) -> wx.cell? ⟨nb, 3, none⟩ = some (.slice ja (j + 1) jc) := fun wx hg => by
     have h1 := hg.block nb (heap_lt HVb.out.box) (fun e => HVb.out.ne (Option.some.inj e))
     rw [World.cell?_of_block (w := vb) h1]
     exact y3b
    have HGENb := HoldT.mk hgenb
    clear hgenb
    refine mixl_seg (by kernel_rfl) (fun _ _ d _ _ h => by cases d <;> exact h) [0] [_] 6 7 rfl _ _ _ rfl (by kernel_rfl) (keepSC fun q h => h.elim) ?_
    repeat (go_big_quiet_step (fail))
    refine wpQuiet_nil ?_
    refine mixl_two (i := 1) (j := 2) rfl rfl (by kernel_rfl) (keepSC fun q h => h.elim) rfl rfl (fun K hK => ?_) (fun K hK => ?_)
    case' refine_1 =>
     go_wp2_with fail
     refine mixl_act (i := 2) rfl (by kernel_rfl) (keepSC fun q h => h.elim) rfl (fun K hK => ?_)
     go_wp2_with fail
     refine HNNb.out.mono ?_
     rintro e wab ⟨rfl, hrab, hgab⟩
     simp only
     have HRAb := HoldT.mk (And.intro hrab hgab)
     clear hrab hgab
     go_wp2_with fail
     refine mixl_act (i := 3) rfl (by kernel_rfl) (keepSC fun q h => h.elim) rfl (fun K hK => ?_)
     go_wp2_with fail
    case' refine_2 =>
     go_wp2_with fail
     refine HNNb.out.mono ?_
     rintro e wab ⟨rfl, hrab, hgab⟩
     simp only
     have HRAb := HoldT.mk (And.intro hrab hgab)
     clear hrab hgab
     have z3b := HGENb.out wab HRAb.out.2
     have z4b : ∀ o, (wab.alloc o).cell? ⟨nb, 3, none⟩ = some (.slice ja (j + 1) jc) := fun o => Lib.cell?_alloc_some _ z3b
     go_wp2_with fail
     refine mixl_two (i := 1) (j := 3) rfl rfl (by kernel_rfl) (keepSC fun q h => h.elim) rfl rfl (fun K hK => ?_) (fun K hK => ?_)
     case' refine_2.refine_1 =>
      go_wp2_with fail
      refine mixl_act (i := 3) rfl (by kernel_rfl) (keepSC fun q h => h.elim) rfl (fun K hK => ?_)
      go_wp2_with fail
     case' refine_2.refine_2 =>
      go_wp2_with fail
      refine mixl_act (i := 1) rfl (by kernel_rfl) (keepSC fun q h => h.elim) rfl (fun K hK => ?_)
      go_wp2_with fail
     all_goals clear z3b z4b
    all_goals
     have HAb := HoldT.mk (HVb.out.took HRAb.out.2 HRAb.out.1)
     have HCAb : HoldT (OwnS 1 RI 3 wq.heap.size wab (.slice ja (j + 1) jc) (j + 1) ((kids.take (j + 1)).map Int.ofNat) cib) := ⟨own_keep (fun _ _ _ _ h => h) HCVb.out HRAb.out.2 (fun g hg e => (HVb.out.rows (.inr (.inr hg))).2 (Option.some.inj e).symm)⟩
     clear y3b
     refine mixl_act (i := 4) rfl (by kernel_rfl) (keepSC fun q h => h.elim) rfl (fun K hK => ?_)
     refine wp_push RI_mono _ _ rfl infoI1 Tryz.underlying91 rfl (by decide) wq.heap.size wab _ (j + 1) _ _ HCAb.out rfl _ [.int .i64 (c : Int)] rfl rfl (by intro u hu; simp at hu; rw [hu]; rfl) (c : Int) rfl _ rfl rfl (by omega) (by decide) (fun iv2b web hoib hgeb => hK _ _ ?_)
     have hceb := grew_cfU HCAb.out (by decide) hgeb
     have hoeb := HAb.out.own.pushI (k := c) hgeb (by rw [show ({ leaf := false, keys := keys.take j ++ [k], vals := [], kids := kids.take (j + 1) } : ND).kids.length = j + 1 from HKI.out]; exact hoib)
     obtain ⟨i2ab, i2cb, rfl⟩ := hoib.shape
     have hbeb : NBox web nb ⟨false, keys.take j ++ [k], [], (kids.take (j + 1))⟩ (.slice k2a (j + 1) k2c) (.slice none 0 0) (.slice ja (j + 1) jc) := hgeb.kept HAb.out.box (fun q2 hq2 e3 => (HAb.out.rows (.inr (.inr hq2))).1 e3.symm)
     obtain ⟨wfb, hwfb⟩ : ∃ wf, wf = web.setCell ⟨nb, 3, none⟩ (.slice i2ab (j + 1 + 1) i2cb) := ⟨_, rfl⟩
     have hbfb : NBox wfb nb ⟨false, keys.take j ++ [k], [], (kids.take (j + 1)) ++ [c]⟩ (.slice k2a (j + 1) k2c) (.slice none 0 0) (.slice i2ab (j + 1 + 1) i2cb) := by
      rw [hwfb]
      have := set_selfT (o := 3) (c := .slice i2ab (j + 1 + 1) i2cb) hbeb
      exact this
     have HZb : HoldT (RU (cfU wq) wq wfb nb rb ⟨false, keys.take j ++ [k], [], (kids.take (j + 1)) ++ [c]⟩ (.slice k2a (j + 1) k2c) (.slice none 0 0) (.slice i2ab (j + 1 + 1) i2cb) (tailJ n (j + 1))) := ⟨by
      rw [hwfb] at hbfb |-
      exact HAb.out.set (sl := .slice ja (j + 1) jc) (fun g e => .inr (.inr e)) hgeb hceb hbfb hoeb (fun g e => HAb.out.apt g e)⟩
     have HWFb := HoldT.mk hwfb
     have hzzb : web.frozen? ⟨nb, 3, none⟩ = false := by have := hbeb; unfold NBox at this; simp [World.frozen?, this]
     have hxzb := hbeb.cell.2.2.2
     clear hoib hgeb hceb hoeb hbeb hbfb hwfb
     refine mixl_act (i := 5) rfl (by kernel_rfl) (keepSC fun q h => h.elim) rfl (fun K hK => ?_)
     go_wp2_with fail
     refine mixl_act (i := 6) rfl (by kernel_rfl) (keepSC fun q h => h.elim) rfl (fun K hK => ?_)
     go_wp2_with fail
     refine mix_done (by kernel_rfl) (keepSC fun q h => h.elim) ?_
     rw [<- HWFb.out]
     clear hzzb hxzb
     go_wp2_with fail
     exact ⟨⟨j + 1, by go_num, hlt, _, _, _, ⟨by rw [take_succ HKV.out.1, take_succ HKV.out.2.1]; exact HZb.out⟩⟩, by simp [intOf]; omega⟩
   ·obtain rfl : j = kl := by omega
    have hsh : ShN ⟨false, keys, vals, kids⟩ := by have := HH.out.2.1; rw [HH.out.1] at this; exact this
    have hkk : j = keys.length := by rw [HKL.out, HH.out.1]
    have hvk : kids.length = keys.length + 1 := (hsh.node rfl).2.1
    have hn9 : n = ⟨false, keys, [], kids⟩ := by rw [HH.out.1]; have := (hsh.node rfl).1; simp only at this; rw [this]
    obtain ⟨vv, hvv⟩ : ∃ vv, vv = Value.slice none 0 0 := ⟨_, rfl⟩
    obtain ⟨iv, hiv⟩ : ∃ iv, iv = Value.slice ja (j + 1) jc := ⟨_, rfl⟩
    have HJ2 : HoldT (RU (cfU wq) wq wr nb rb n kv vv iv (tailJ n j)) := ⟨by
     have := HJ.out
     rw [List.take_of_length_le (by omega), List.take_of_length_le (by omega)] at this
     rw [<- hn9, <- hiv, <- hvv] at this
     exact this⟩
    clear HJ hsh hkk hvk hn9 hiv hvv
    have hwr := node_write HJ2.out.own.nat HH.out.2.1 HH.out.2.2.1
    have hlf : n.leaf = false := by rw [HH.out.1]
    obtain ⟨x0, x1, x2, x3⟩ := HJ2.out.box.cell
    have hq4 : wr.heap[q]? = some (.cells #[.bool false, .slice none 0 0, .slice none 0 0, .slice none 0 0] 107 (0, 0)) := kept HW.out.2.1 HJ2.out.bel
    have HWR := HoldT.mk hwr
    obtain ⟨_, hck⟩ := HJ2.out.own.keys
    obtain ⟨_, hcv⟩ := HJ2.out.own.vals
    obtain ⟨_, hci⟩ := HJ2.out.own.kids
    obtain ⟨ka, kc, rfl⟩ := hck.shape
    obtain ⟨va, vc, rfl⟩ := hcv.shape
    obtain ⟨ia, ic, rfl⟩ := hci.shape
    rw [hlf] at x0
    unfold nodeV at HWR
    rw [hlf] at HWR
    have HLF := HoldT.mk hlf
    obtain ⟨kl2, hkl2'⟩ : ∃ m, m = n.keys.length := ⟨_, rfl⟩
    obtain ⟨vl2, hvl2⟩ : ∃ m, m = n.vals.length := ⟨_, rfl⟩
    obtain ⟨il2, hil2⟩ : ∃ m, m = n.kids.length := ⟨_, rfl⟩
    rw [<- hkl2', <- hvl2, <- hil2] at HWR HJ2
    rw [<- hkl2'] at x1
    rw [<- hvl2] at x2
    rw [<- hil2] at x3
    have HQ4 := HoldT.mk hq4
    clear hwr hck hcv hci hq4 hlf hkl2' hvl2 hil2
    go_wp2_with fail
    refine HWR.out.mono ?_
    rintro e w5 ⟨g5, rfl, hg5, hy5, hb5⟩
    have HJ5 := HoldT.mk (HJ2.out.below hb5)
    have HEQ := HoldT.mk (bEqualY (u := .slice (some ⟨bg, bo, none⟩) 1024 bc) (v := .slice (some ⟨g5, 0, none⟩) 1024 1024) (w := w5) ((HH.out.2.2.2.1.mono RY_mono (cfU_below (HW.out.1.trans (HJ5.out.bel.mono HW.out.1.size)))).mono RY_mono (cfU_cf _)) (hy5.mono RY_mono (cfU_cf _)))
    have hq5 : w5.heap[q]? = some (.cells #[.bool false, .slice none 0 0, .slice none 0 0, .slice none 0 0] 107 (0, 0)) := kept HQ4.out hb5
    have hte : decide (encN n = encN n) = true := decide_eq_true rfl
    rw [hte] at HEQ
    clear x0 x1 x2 x3 hg5 hy5 hb5 hte
    go_wp2_with fail
    refine HEQ.out.mono ?_
    rintro e w6 ⟨rfl, hw6⟩
    obtain rfl := hw6.symm
    obtain ⟨x0, x1, x2, x3⟩ := HJ5.out.box.cell
    rw [HLF.out] at x0
    have HQ5 := HoldT.mk hq5
    have z0 : w5.cell? ⟨q, 0, none⟩ = some (.bool false) := by simp [World.cell?, hq5]
    have z1 : w5.cell? ⟨q, 1, none⟩ = some (.slice none 0 0) := by simp [World.cell?, hq5]
    have z2 : w5.cell? ⟨q, 2, none⟩ = some (.slice none 0 0) := by simp [World.cell?, hq5]
    have z3 : w5.cell? ⟨q, 3, none⟩ = some (.slice none 0 0) := by simp [World.cell?, hq5]
    have f0 : w5.frozen? ⟨q, 0, none⟩ = false := by simp [World.frozen?, hq5]
    have f1 : w5.frozen? ⟨q, 1, none⟩ = false := by simp [World.frozen?, hq5]
    have f2 : w5.frozen? ⟨q, 2, none⟩ = false := by simp [World.frozen?, hq5]
    have f3 : w5.frozen? ⟨q, 3, none⟩ = false := by simp [World.frozen?, hq5]
    clear hq5
    go_wp2_with fail
    obtain ⟨w7, hw7⟩ : ∃ w7, w7 = set4 w5 q (.bool false) (.slice ka kl2 kc) (.slice va vl2 vc) (.slice ia il2 ic) := ⟨_, rfl⟩
    have hw8 := hw7
    unfold set4 at hw8
    rw [<- hw8]
    have h7 := set4_heap (a' := .bool false) (b' := .slice ka kl2 kc) (c' := .slice va vl2 vc) (d' := .slice ia il2 ic) HQ5.out
    rw [<- hw7] at h7
    have q0 : w7.cell? ⟨q, 0, none⟩ = some (.bool false) := by simp [World.cell?, h7]
    have q1 : w7.cell? ⟨q, 1, none⟩ = some (.slice ka kl2 kc) := by simp [World.cell?, h7]
    have q2 : w7.cell? ⟨q, 2, none⟩ = some (.slice va vl2 vc) := by simp [World.cell?, h7]
    have q3 : w7.cell? ⟨q, 3, none⟩ = some (.slice ia il2 ic) := by simp [World.cell?, h7]
    refine bodyPost_ret (v := .tuple #[.agg #[.bool false, .slice ka kl2 kc, .slice va vl2 vc, .slice ia il2 ic], .int .i64 0]) (by simp [results, Tryz.results58, go_sem, q0, q1, q2, q3]) rfl ?_
    have hg7 : w5.grownBy w7 (some q) := by rw [hw7]; exact set4_grown _ _ _ _ _ _
    have hqU : ¬ IsU w5 q := fun ⟨_, _, e⟩ => by rw [HQ5.out] at e; cases e
    have hbw : Below w.heap.size w w5 := HW.out.1.trans (HJ5.out.bel.mono HW.out.1.size)
    have hown := HJ5.out.own.stand hg7.size (fun g hg => hg7.block g (HJ5.out.own.low hg).2.1 (fun e => by
     have h1 := (HJ5.out.own.low hg).1
     have h2 := heap_lt HW.out.2.1
     obtain rfl := Option.some.inj e
     omega)) (cfU_grown hg7 fun b e => by cases e; exact hqU)
    refine ⟨.slice ka kl2 kc, .slice va vl2 vc, .slice ia il2 ic, by unfold nodeV; rw [HLF.out], ?_, hbw.grown hg7 hbw.size (fun b e => by cases e; rw [HQ.out]; exact Nat.le_refl _)⟩
    obtain ⟨⟨c1, o1⟩, ⟨c2, o2⟩, ⟨c3, o3⟩, o4⟩ := hown
    exact ⟨⟨c1, own_base o1 HW.out.1.size⟩, ⟨c2, own_base o2 HW.out.1.size⟩, ⟨c3, own_base o3 HW.out.1.size⟩, o4⟩
theorem node_read {w : World} {n : ND} {ba : Option Addr} {bc : Nat} (hs : ShN n) (hz : sizeN n <= 1024) (hy : YAt (cfU w) (.slice ba 1024 bc) (encN n)) :
  Calls Tryz.prog 58 #[.slice ba 1024 bc] w (RdPost n w) := by
 obtain ⟨leaf, keys, vals, kids⟩ := n
 cases leaf with
 | true => exact node_read_leaf hs hz hy
 | false => exact node_read_node hs hz hy
end Go.Proofs.YtafilaiinbggoaaGreat
