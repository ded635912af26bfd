import Derived.Test.YtmiphphombkpdaaGreatWB36
namespace Go.Proofs.YtmiphphombkpdaaGreat
open Go.RowKit Go.Maps
set_option maxHeartbeats 16000000 in
set_option maxRecDepth 100000 in
theorem tree_even {Q : PQ} {R : Int -> Option Bts} {H : HS} {S : PS} {p tb : Nat} {root : Int} {r B h kk deep : Nat} {ks : List (Tree h)} {keys : List Bts} {w : World} {kv vv iv : Value} (k : KX Q R H S p tb root r B h ks keys w kv vv iv) (hK : Kids h ks keys kk) (hkk : kk < ks.length) (hfew : ks.length <= 9000) (hd : deep + 1 <= 20) (hp : p <= 999999900) (hcan : ∀ i, i = kk \/ i + 1 = kk -> cannotJ h ks keys i) :
  Calls Tryz.prog 97 #[.pointer (some ⟨tb, 0, none⟩), .pointer (some ⟨r, 0, none⟩), .int .i64 (kk : Int), .int .i64 (deep : Int)] w (EvenPost Q R H S p tb root r B h kk ks keys w) := by
 obtain ⟨c, hc⟩ : ∃ c, ks[kk]? = some c := ⟨_, List.getElem?_eq_getElem hkk⟩
 obtain ⟨g, ic, cur, hiv, hgI, hkc⟩ := k.kids (by omega)
 subst hiv
 obtain ⟨m3, hm3⟩ : ∃ m, m = ks.length := ⟨_, rfl⟩
 rw [<- hm3] at k
 obtain ⟨y1, y2, y3⟩ := k.cells
 have hkc0 := hkc kk c hc
 have HRD := kid_read (deep := deep + 1) k hc (hK.wfs kk c hc).1 hd (by omega)
 rw [show ((deep + 1 : Nat) : Int) = (deep : Int) + 1 by omega] at HRD
 obtain ⟨pc, hpc⟩ : ∃ n, n = pgT h c := ⟨_, rfl⟩
 rw [<- hpc] at hkc0 HRD
 have HRD := HoldT.mk HRD
 have hI : (kk : Int) < (m3 : Int) := by omega
 have hm39 : m3 <= 9000 := by rw [hm3]; exact hfew
 have HH := HoldT.mk (And.intro k (And.intro hK (And.intro hcan (And.intro hp (And.intro hc (And.intro hpc (And.intro hm3 (And.intro hgI hkc))))))))
 clear k hK hcan hp hc hpc hm3 hgI hkc y2 hfew
 go_enter Tryz.func97, Tryz.ntmps97
 go_wp2_with fail
 refine HRD.out.mono ?_
 rintro e w1 ⟨ka, kc, va, vc, ia, ic2, H1, S1, p1, rfl, hN1, hK1, hS1, hT1, hp1⟩
 clear y1 y3 hkc0
 obtain ⟨lc, hlc⟩ : ∃ x, x = (ndT h c).leaf := ⟨_, rfl⟩
 obtain ⟨c1, hc1⟩ : ∃ x, x = (ndT h c).keys.length := ⟨_, rfl⟩
 obtain ⟨c2, hc2⟩ : ∃ x, x = (ndT h c).vals.length := ⟨_, rfl⟩
 obtain ⟨c3, hc3⟩ : ∃ x, x = (ndT h c).kids.length := ⟨_, rfl⟩
 rw [<- hc1, <- hc2, <- hc3] at hN1 |-
 rw [<- hlc]
 have hc19 : c1 <= 9000 := by rw [hc1]; exact (shTS (HH.out.2.1.wfs kk c HH.out.2.2.2.2.1).1 (HH.out.1.small HH.out.2.2.2.2.1)).few
 have H1' := HoldT.mk (And.intro hK1 (And.intro hS1 (And.intro hT1 (And.intro hp1 (And.intro hlc (And.intro hc1 hN1))))))
 clear hlc hc1 hc2 hc3 hN1 hK1 hS1 hT1 hp1
 go_upto_region 2 with (fail)
 obtain ⟨w2, hw2⟩ : ∃ x, x = w1.alloc (.cells #[.bool lc, .slice ka c1 kc, .slice va c2 vc, .slice ia c3 ic2] 104) := ⟨_, rfl⟩
 obtain ⟨q9, hq9⟩ : ∃ x, x = w1.heap.size := ⟨_, rfl⟩
 rw [<- hw2, <- hq9]
 have hb : Below w1.heap.size w1 w2 := by rw [hw2]; exact (Below.refl _ w1).alloc (Nat.le_refl _) _
 have hbq : w2.heap[q9]? = some (.cells #[.bool lc, .slice ka c1 kc, .slice va c2 vc, .slice ia c3 ic2] 104 (0, 0)) := by rw [hw2, hq9]; exact heap_alloc_new w1 _
 have HB2 := HoldT.mk (And.intro hb (And.intro hbq hq9))
 clear hw2 hq9 hb hbq
 have hK2 := H1'.out.1.below HB2.out.1
 obtain ⟨y1, y2, y3⟩ := hK2.cells
 have hbq := HB2.out.2.1
 have z0 : w2.cell? ⟨q9, 0, none⟩ = some (.bool lc) := by simp [World.cell?, hbq]
 have z1 : w2.cell? ⟨q9, 1, none⟩ = some (.slice ka c1 kc) := by simp [World.cell?, hbq]
 clear hbq y2
 have HK2 := HoldT.mk hK2
 clear hK2
 have hfin0 : (lc = true \/ 0 < c1 \/ m3 < 2) -> EvenPost Q R H S p tb root r B h kk ks keys w (.returned (.int .i64 0)) w2 := fun hst => by
  refine ⟨(ks, keys), kv, vv, _, H1, S1, p1, rfl, ?_, HK2.out, same_moves H1'.out.2.1 HH.out.1.kin, (H1'.out.2.2.1.then HB2.out.1).toB HH.out.1.base, by have := H1'.out.2.2.2.1; omega⟩
  refine even_none HH.out.2.2.2.2.1 ?_
  rcases hst with e | e | e
  ·exact .inl (H1'.out.2.2.2.2.1.symm.trans e)
  ·exact .inr (.inl (by rw [<- H1'.out.2.2.2.2.2.1]; exact e))
  ·exact .inr (.inr (by rw [<- HH.out.2.2.2.2.2.2.1]; exact e))
 have HFIN := HoldT.mk hfin0
 clear hfin0
 cases lc with
 | true =>
  go_wp2_with fail
  go_ret
  exact HFIN.out (.inl (by simp))
 | false =>
  by_cases hc0 : 0 < c1
  ·have hcI : (0 : Int) < (c1 : Int) := by omega
   go_wp2_with fail
   go_ret
   exact HFIN.out (.inr (.inl hc0))
  ·obtain rfl : c1 = 0 := by omega
   by_cases hm2 : m3 < 2
   ·have hmI : (m3 : Int) < 2 := by omega
    go_wp2_with fail
    go_ret
    exact HFIN.out (.inr (.inr hm2))
   ·have hmI : ¬ (m3 : Int) < 2 := by omega
    obtain ⟨h', rfl⟩ : ∃ h', h = h' + 1 := by
     cases h with
     | zero => exact absurd H1'.out.2.2.2.2.1 (fun e => by cases e)
     | succ h => exact ⟨h, rfl⟩
    have hct : c.2.2 = [] := List.length_eq_zero_iff.1 H1'.out.2.2.2.2.2.1.symm
    clear HFIN
    obtain ⟨i, hi⟩ : ∃ i, i = kk - 1 := ⟨_, rfl⟩
    have hmx : max (0 : Int) ((kk : Int) - 1) = (i : Int) := by omega
    have hi1 : i + 1 < m3 := by omega
    have hlen := HH.out.2.1.len
    obtain ⟨a, ha⟩ : ∃ a, ks[i]? = some a := ⟨_, List.getElem?_eq_getElem (by have := HH.out.2.2.2.2.2.2.1; omega)⟩
    obtain ⟨b, hb⟩ : ∃ b, ks[i + 1]? = some b := ⟨_, List.getElem?_eq_getElem (by have := HH.out.2.2.2.2.2.2.1; omega)⟩
    obtain ⟨s, hs⟩ : ∃ s, keys[i]? = some s := ⟨_, List.getElem?_eq_getElem (by have := HH.out.2.2.2.2.2.2.1; omega)⟩
    have wa := (HH.out.2.1.wfs i a ha).1
    have wb := (HH.out.2.1.wfs (i + 1) b hb).1
    have HI := HoldT.mk (And.intro ha (And.intro hb (And.intro hs (And.intro wa (And.intro wb (And.intro hct hi))))))
    have hkc2 := HK2.out.kc ha
    have HRA := kid_read (deep := deep + 1) HK2.out ha wa hd (by have := HH.out.2.2.2.1; have := H1'.out.2.2.2.1; omega)
    rw [show ((deep + 1 : Nat) : Int) = (deep : Int) + 1 by omega] at HRA
    obtain ⟨pa, hpa⟩ : ∃ n, n = pgT (h' + 1) a := ⟨_, rfl⟩
    obtain ⟨pb, hpb⟩ : ∃ n, n = pgT (h' + 1) b := ⟨_, rfl⟩
    rw [<- hpa] at hkc2 HRA
    have HRA := HoldT.mk HRA
    have HPG := HoldT.mk (And.intro hpa hpb)
    have hI2 : (i : Int) < (m3 : Int) := by omega
    have hI3 : (i : Int) + 1 < (m3 : Int) := by omega
    clear ha hb hs wa wb hct hi hlen hpa hpb
    go_upto_region 5 with (fail)
    clear hmx z0 z1
    go_wp2_with fail
    refine HRA.out.mono ?_
    rintro e w3 ⟨aka, akc, ava, avc, aia, aic, H3, S3, p3, rfl, hN3, hK3, hS3, hT3, hp3⟩
    clear hkc2
    obtain ⟨a1, ha1⟩ : ∃ x, x = (ndT (h' + 1) a).keys.length := ⟨_, rfl⟩
    obtain ⟨a3, ha3⟩ : ∃ x, x = (ndT (h' + 1) a).kids.length := ⟨_, rfl⟩
    have ha2 : (ndT (h' + 1) a).vals.length = 0 := rfl
    have hal : (ndT (h' + 1) a).leaf = false := rfl
    rw [<- ha1, <- ha3, ha2] at hN3 |-
    rw [hal]
    have H3' := HoldT.mk (And.intro hK3 (And.intro hS3 (And.intro hT3 (And.intro hp3 (And.intro hN3 (And.intro ha1 ha3))))))
    clear ha1 ha2 ha3 hal hN3 hK3 hS3 hT3 hp3 y1 y3
    go_upto_region 6 with (fail)
    obtain ⟨w4, hw4⟩ : ∃ x, x = w3.alloc (.cells #[.bool false, .slice aka a1 akc, .slice ava 0 avc, .slice aia a3 aic] 104) := ⟨_, rfl⟩
    obtain ⟨q12, hq12⟩ : ∃ x, x = w3.heap.size := ⟨_, rfl⟩
    rw [<- hw4, <- hq12]
    have hb : Below w3.heap.size w3 w4 := by rw [hw4]; exact (Below.refl _ w3).alloc (Nat.le_refl _) _
    have hbq : w4.heap[q12]? = some (.cells #[.bool false, .slice aka a1 akc, .slice ava 0 avc, .slice aia a3 aic] 104 (0, 0)) := by rw [hw4, hq12]; exact heap_alloc_new w3 _
    have HB4 := HoldT.mk (And.intro hb (And.intro hbq hq12))
    clear hw4 hq12 hb hbq
    have hK4 := H3'.out.1.below HB4.out.1
    obtain ⟨y1, y2, y3⟩ := hK4.cells
    have hkc2 := hK4.kc HI.out.2.1
    have HRB := kid_read (deep := deep + 1) hK4 HI.out.2.1 HI.out.2.2.2.2.1 hd (by have := HH.out.2.2.2.1; have := H1'.out.2.2.2.1; have := H3'.out.2.2.2.1; omega)
    rw [show ((deep + 1 : Nat) : Int) = (deep : Int) + 1 by omega] at HRB
    rw [<- HPG.out.2] at HRB hkc2
    have HRB := HoldT.mk HRB
    have HK4 := HoldT.mk (And.intro hK4 (H3'.out.2.2.2.2.1.below HB4.out.1))
    clear hK4 y1 y2
    go_wp2_with fail
    refine HRB.out.mono ?_
    rintro e w5 ⟨bka, bkc, bva, bvc, bia, bic, H5, S5, p5, rfl, hN5, hK5, hS5, hT5, hp5⟩
    clear hkc2 y3
    obtain ⟨b1, hb1⟩ : ∃ x, x = (ndT (h' + 1) b).keys.length := ⟨_, rfl⟩
    obtain ⟨b3, hb3⟩ : ∃ x, x = (ndT (h' + 1) b).kids.length := ⟨_, rfl⟩
    have hb2 : (ndT (h' + 1) b).vals.length = 0 := rfl
    have hbl : (ndT (h' + 1) b).leaf = false := rfl
    rw [<- hb1, <- hb3, hb2] at hN5 |-
    rw [hbl]
    have hbx5 := hT5.kept HB4.out.2.1 (fun e => by have := H3'.out.1.pg.lt q12 e; have := HB4.out.2.2; omega)
    have hN35 := HK4.out.2.turn hT5 HK4.out.1.pg.noU
    have H5' := HoldT.mk (And.intro hK5 (And.intro hS5 (And.intro hT5 (And.intro hp5 (And.intro hN5 (And.intro hb1 (And.intro hb3 (And.intro hbx5 hN35))))))))
    clear hb1 hb2 hb3 hbl hN5 hK5 hS5 hT5 hp5 hbx5 hN35
    go_upto_region 9 with (fail)
    obtain ⟨w6, hw6⟩ : ∃ x, x = w5.alloc (.cells #[.bool false, .slice bka b1 bkc, .slice bva 0 bvc, .slice bia b3 bic] 104) := ⟨_, rfl⟩
    obtain ⟨q13, hq13⟩ : ∃ x, x = w5.heap.size := ⟨_, rfl⟩
    rw [<- hw6, <- hq13]
    have hb : Below w5.heap.size w5 w6 := by rw [hw6]; exact (Below.refl _ w5).alloc (Nat.le_refl _) _
    have hbq : w6.heap[q13]? = some (.cells #[.bool false, .slice bka b1 bkc, .slice bva 0 bvc, .slice bia b3 bic] 104 (0, 0)) := by rw [hw6, hq13]; exact heap_alloc_new w5 _
    have HB6 := HoldT.mk (And.intro hb (And.intro hbq hq13))
    clear hw6 hq13 hb hbq
    have hK6 := H5'.out.1.below HB6.out.1
    have hN6a := H5'.out.2.2.2.2.2.2.2.2.below HB6.out.1
    have hN6b := H5'.out.2.2.2.2.1.below HB6.out.1
    have hbx6 := kept H5'.out.2.2.2.2.2.2.2.1.1 HB6.out.1
    have hbq6 := HB6.out.2.1
    obtain ⟨csK, hoK⟩ := hK6.nt.own.keys
    obtain ⟨gk, kcap, curK, hkv, hgK, hgc, hgm, hgz⟩ := own_slice hoK (show 0 < (nodeN (ks.map (pgT (h' + 1))) keys).keys.length from Nat.lt_of_le_of_lt (Nat.zero_le _) (List.getElem?_eq_some_iff.1 HI.out.2.2.1).1)
    subst hkv
    obtain ⟨kl, hkl⟩ : ∃ x, x = (nodeN (ks.map (pgT (h' + 1))) keys).keys.length := ⟨_, rfl⟩
    rw [<- hkl] at hK6 hoK
    obtain ⟨jb, jo, sa, sc, ej, hkc6, hys6⟩ := bat_cell hK6.nt.own.nat.keys (show (nodeN (ks.map (pgT (h' + 1))) keys).keys[i]? = some s from HI.out.2.2.1)
    obtain ⟨rfl, rfl⟩ : gk = jb /\ 0 = jo := by
     simp only [Option.some.injEq, Addr.mk.injEq, and_true] at ej
     exact ej
    rw [Nat.zero_add] at hkc6
    obtain ⟨sl, hsl⟩ : ∃ x, x = s.length := ⟨_, rfl⟩
    rw [<- hsl] at hkc6 hys6
    obtain ⟨y1, y2, y3⟩ := hK6.cells
    have hikl : (i : Int) < (kl : Int) := by have h1 := (List.getElem?_eq_some_iff.1 HI.out.2.2.1).1; have h2 : (nodeN (ks.map (pgT (h' + 1))) keys).keys.length = keys.length := rfl; omega
    have hlt : ∀ {q : Nat} {o : Obj}, w6.heap[q]? = some o -> q < w6.heap.size := fun h => heap_lt h
    have x1 : w6.cell? ⟨q12, 1, none⟩ = some (.slice aka a1 akc) := by simp [World.cell?, hbx6]
    have x3 : w6.cell? ⟨q12, 3, none⟩ = some (.slice aia a3 aic) := by simp [World.cell?, hbx6]
    have z1 : w6.cell? ⟨q13, 1, none⟩ = some (.slice bka b1 bkc) := by simp [World.cell?, hbq6]
    have z3 : w6.cell? ⟨q13, 3, none⟩ = some (.slice bia b3 bic) := by simp [World.cell?, hbq6]
    have g0 := KeepS.cell (P := fun b => b < w6.heap.size) x1 (hlt hbx6)
    have g1 := KeepS.cell (P := fun b => b < w6.heap.size) x3 (hlt hbx6)
    have g2 := KeepS.cell (P := fun b => b < w6.heap.size) z1 (hlt hbq6)
    have g3 := KeepS.cell (P := fun b => b < w6.heap.size) z3 (hlt hbq6)
    have g4 := KeepS.cell (P := fun b => b < w6.heap.size) y1 (hlt hK6.box)
    have g5 := KeepS.cell (P := fun b => b < w6.heap.size) hkc6 (hlt hgK)
    have hin : ∀ j q, (w6.cell? ⟨gk, j, none⟩ = q) -> True := fun _ _ _ => trivial
    have HK6 := HoldT.mk (And.intro hK6 (And.intro hN6a (And.intro hN6b (And.intro hbx6 (And.intro hbq6 (And.intro hys6 (And.intro hsl (And.intro hkl (And.intro hoK hgK)))))))))
    clear hK6 hN6a hN6b hbx6 hbq6 hys6 hsl hkl hoK hgK hgc hgm hgz y2 y3 hin hlt ej
    go_upto_region 11 with (fail)
    clear x1 x3 z1 z3 y1 hkc6
    obtain ⟨bothK, hbK⟩ : ∃ x, x = a.2.2 ++ s :: b.2.2 := ⟨_, rfl⟩
    obtain ⟨bothI, hbI⟩ : ∃ x, x = (a.2.1 ++ b.2.1).map (pgT h') := ⟨_, rfl⟩
    have HBO := HoldT.mk (And.intro hbK hbI)
    clear hbK hbI
    go_cut [14] (fun s14 wx => ∃ (q14 : Nat) (e1 : Option Addr) (d1 : Nat) (m1 : Nat) (e3 : Option Addr) (n3 d3 : Nat), s14 = .pointer (some ⟨q14, 0, none⟩) /\ HoldT (Below w6.heap.size w6 wx /\ w6.heap.size <= q14 /\ wx.heap[q14]? = some (.cells #[.bool false, .slice e1 m1 d1, .slice none 0 0, .slice e3 n3 d3] 104 (0, 0)) /\ NOwn w6.heap.size wx (nodeN bothI bothK) (.slice e1 m1 d1) (.slice none 0 0) (.slice e3 n3 d3)))
    case first =>
     refine wp_region_mixC (KeepSC (fun b => b < w6.heap.size) w6) 23 rfl (by kernel_rfl) ?_
     have HDR := HoldT.mk ((Below.refl w6.heap.size w6).drew)
     generalize w6.drew = v4 at HDR |-
     refine mixl_seg (by kernel_rfl) (fun _ _ d _ _ h => by cases d <;> exact h) [0, 1, 2, 3, 4, 5, 6, 7, 8, 10, 11, 14, 15, 16, 17] [_, _, _, _, _, _, _, _, _, _, _, _, _, _, _] 8 23 rfl _ _ _ rfl (by kernel_rfl) (keepSC fun b hb => HDR.out.block b hb) ?_
     repeat (go_big_quiet_step (fail))
     refine wpQuiet_nil ?_
     clear g0 g1 g2 g3 g4 g5
     refine mixl_acts [9, 12, 13, 18, 19, 20, 21] edeps (fun wz => Below w6.heap.size w6 wz) (EF w6.heap.size (.slice sa sl sc) (.slice aka a1 akc) (.slice bka b1 bkc) (.slice aia a3 aic) (.slice bia b3 bic) bothK (bothI.map Int.ofNat)) 1 8 rfl _ _ _ (fun wz hz => keepSC fun b hb => hz.block b hb) (by kernel_rfl) ef_below ⟨⟨_, rfl, fun env v hv hd K hK => ?op9⟩, ⟨_, rfl, fun env v hv hd K hK => ?op12⟩, ⟨_, rfl, fun env v hv hd K hK => ?op13⟩, ⟨_, rfl, fun env v hv hd K hK => ?op18⟩, ⟨_, rfl, fun env v hv hd K hK => ?op19⟩, ⟨_, rfl, fun env v hv hd K hK => ?op20⟩, ⟨_, rfl, fun env v hv hd K hK => ?op21⟩, trivial⟩ HDR.out (fun env v hv hd => ?fin)
     case op9 =>
      have HV := HoldT.mk hv
      simp only [edeps, withD, Act.put, List.setIfInBounds_toArray, List.set_cons_succ, List.set_cons_zero] at hK |-
      clear hd hv
      go_wp2_with fail
      have hb : Below v.heap.size v (v.alloc (.cells #[.slice sa sl sc] 23)) := (Below.refl _ v).alloc (Nat.le_refl _) _
      exact hK _ _ (HV.out.trans (hb.mono HV.out.size)) hb ⟨v.heap.size, rfl, heap_alloc_new v _⟩
     case op12 =>
      have HV := HoldT.mk hv
      obtain ⟨h9, _⟩ := hd
      obtain ⟨s9, e9, h9⟩ : ∃ s : Nat, env 9 = .slice (some ⟨s, 0, none⟩) 1 1 /\ v.heap[s]? = some (.cells #[.slice sa sl sc] 23 (0, 0)) := h9
      simp only [edeps, withD, dstD, opAt, Option.bind_some, Option.getD_some, e9, Act.put, List.setIfInBounds_toArray, List.set_cons_succ, List.set_cons_zero] at hK |-
      have HE9 := HoldT.mk e9
      clear h9 hv e9
      go_wp2_with fail
      have hb : Below v.heap.size v (v.alloc (.cells #[.slice aka a1 akc, .slice (some ⟨s9, 0, none⟩) 1 1, .slice bka b1 bkc] 102)) := (Below.refl _ v).alloc (Nat.le_refl _) _
      exact hK _ _ (HV.out.trans (hb.mono HV.out.size)) hb ⟨v.heap.size, rfl, by show _ = some (Obj.cells #[_, env 9, _] _ _); rw [HE9.out]; exact heap_alloc_new v _⟩
     case op13 =>
      have HV := HoldT.mk hv
      obtain ⟨h9, h12, _⟩ := hd
      obtain ⟨s9, e9, h9⟩ : ∃ s : Nat, env 9 = .slice (some ⟨s, 0, none⟩) 1 1 /\ v.heap[s]? = some (.cells #[.slice sa sl sc] 23 (0, 0)) := h9
      obtain ⟨s12, e12, h12⟩ : ∃ s : Nat, env 12 = .slice (some ⟨s, 0, none⟩) 3 3 /\ v.heap[s]? = some (.cells #[.slice aka a1 akc, env 9, .slice bka b1 bkc] 102 (0, 0)) := h12
      rw [e9] at h12
      have fa := (shTS HI.out.2.2.2.1 (HK6.out.1.small HI.out.1)).few
      have fb := (shTS HI.out.2.2.2.2.1 (HK6.out.1.small HI.out.2.1)).few
      have HC := HoldT.mk (concatB_any (cfU w6) [a.2.2, [s], b.2.2] [.slice aka a1 akc, .slice (some ⟨s9, 0, none⟩) 1 1, .slice bka b1 bkc] s12 3 v (three_rows h12 (HK6.out.2.1.own.nat.keys.mono (RB_mono _) (cle_below hv)) (one_sat h9 HK6.out.2.2.2.2.2.1) (HK6.out.2.2.1.own.nat.keys.mono (RB_mono _) (cle_below hv)) (by have h : a.2.2.length <= 9000 := fa; omega) (by simp) (by have h : b.2.2.length <= 9000 := fb; omega)) rfl (by omega))
      simp only [edeps, withD, dstD, opAt, Option.bind_some, Option.getD_some, e9, e12, Act.put, List.setIfInBounds_toArray, List.set_cons_succ, List.set_cons_zero] at hK |-
      clear h9 h12 hv e9 e12 fa fb
      go_wp2_with fail
      refine HC.out.mono ?_
      rintro e v' ⟨sv, cs, rfl, ho, hg, hb⟩
      have hfl : ([a.2.2, [s], b.2.2] : List (List Bts)).flatten = bothK := by rw [HBO.out.1]; simp
      rw [hfl] at ho hg
      obtain ⟨s1a, s1c, rfl⟩ := own_shape ho
      refine hK _ _ (HV.out.trans (hb.mono HV.out.size)) hb ?_
      exact ⟨s1a, s1c, cs, rfl, (own_base ⟨ho, rfl, hg, hb.size⟩ HV.out.size).rep (RB_le (cfU_below (HV.out.trans (hb.mono HV.out.size))))⟩
     case op18 =>
      have HV := HoldT.mk hv
      simp only [edeps, withD, Act.put, List.setIfInBounds_toArray, List.set_cons_succ, List.set_cons_zero] at hK |-
      clear hd hv
      go_wp2_with fail
      have hb : Below v.heap.size v (v.alloc (.cells #[.slice aia a3 aic, .slice bia b3 bic] 47)) := (Below.refl _ v).alloc (Nat.le_refl _) _
      exact hK _ _ (HV.out.trans (hb.mono HV.out.size)) hb ⟨v.heap.size, rfl, heap_alloc_new v _⟩
     case op19 =>
      have HV := HoldT.mk hv
      obtain ⟨h9, _⟩ := hd
      obtain ⟨s9, e9, h9⟩ : ∃ s : Nat, env 18 = .slice (some ⟨s, 0, none⟩) 2 2 /\ v.heap[s]? = some (.cells #[.slice aia a3 aic, .slice bia b3 bic] 47 (0, 0)) := h9
      have fa := (shTS HI.out.2.2.2.1 (HK6.out.1.small HI.out.1)).fewN.kids
      have fb := (shTS HI.out.2.2.2.2.1 (HK6.out.1.small HI.out.2.1)).fewN.kids
      have HC := HoldT.mk (concatI_any [(ndT (h' + 1) a).kids.map Int.ofNat, (ndT (h' + 1) b).kids.map Int.ofNat] [.slice aia a3 aic, .slice bia b3 bic] s9 2 v (two_rows RI_mono (cle_below hv) h9 HK6.out.2.1.own.nat.kids HK6.out.2.2.1.own.nat.kids (by rw [List.length_map]; omega) (by rw [List.length_map]; omega)) rfl (by omega))
      simp only [edeps, withD, dstD, opAt, Option.bind_some, Option.getD_some, e9, Act.put, List.setIfInBounds_toArray, List.set_cons_succ, List.set_cons_zero] at hK |-
      clear h9 hv e9 fa fb
      go_wp2_with fail
      refine HC.out.mono ?_
      rintro e v' ⟨sv, cs, rfl, ho, hg, hb⟩
      have hfl : ([(ndT (h' + 1) a).kids.map Int.ofNat, (ndT (h' + 1) b).kids.map Int.ofNat] : List (List Int)).flatten = bothI.map Int.ofNat := by
       rw [HBO.out.2, List.map_append, List.map_append]
       simp only [List.flatten_cons, List.flatten_nil, List.append_nil]
       rfl
      rw [hfl] at ho hg
      obtain ⟨s1a, s1c, rfl⟩ := own_shape ho
      refine hK _ _ (HV.out.trans (hb.mono HV.out.size)) hb ?_
      exact ⟨s1a, s1c, cs, rfl, own_base ⟨ho, rfl, hg, hb.size⟩ HV.out.size⟩
     case op20 =>
      simp only [edeps, withD, dstD, opAt, Option.bind_some, Option.getD_some, Act.put, List.setIfInBounds_toArray, List.set_cons_succ, List.set_cons_zero] at hK |-
      obtain ⟨h13, h19, _⟩ := hd
      obtain ⟨g1, c1, cs1, e13, ho13⟩ : ∃ g c cs, env 13 = .slice g bothK.length c /\ OwnS 1 (RB (cfU v)) 23 w6.heap.size v (env 13) bothK.length bothK cs := h13
      obtain ⟨g3, c3, cs3, e19, ho19⟩ : ∃ g c cs, env 19 = .slice g (bothI.map Int.ofNat).length c /\ OwnS 1 RI 3 w6.heap.size v (env 19) (bothI.map Int.ofNat).length (bothI.map Int.ofNat) cs := h19
      simp only [List.map_cons, List.map_nil] at hK
      rw [e13, e19] at hK |-
      obtain ⟨m1, hm1⟩ : ∃ m, m = bothK.length := ⟨_, rfl⟩
      obtain ⟨n3, hn3⟩ : ∃ m, m = (bothI.map Int.ofNat).length := ⟨_, rfl⟩
      rw [<- hm1, <- hn3] at hK |-
      have HV := HoldT.mk hv
      clear hm1 hn3 ho13 ho19 e13 e19 hv
      go_wp2_with fail
      exact hK (.agg #[.bool false, .slice g1 m1 c1, .slice none 0 0, .slice g3 n3 c3]) _ HV.out (Below.refl _ _) rfl
     case op21 =>
      have HV := HoldT.mk hv
      simp only [edeps, withD, Act.put, List.setIfInBounds_toArray, List.set_cons_succ, List.set_cons_zero] at hK |-
      clear hd hv
      go_wp2_with fail
      have hb : Below v.heap.size v (v.alloc (.cells #[.bool false, .slice none 0 0, .slice none 0 0, .slice none 0 0] 104)) := (Below.refl _ v).alloc (Nat.le_refl _) _
      exact hK _ _ (HV.out.trans (hb.mono HV.out.size)) hb ⟨v.heap.size, rfl, HV.out.size, heap_alloc_new v _⟩
     case fin =>
      obtain ⟨_, _, h13, _, h19, h20, h21, _⟩ := hd
      obtain ⟨g1, d1, cs1, e13, ho13⟩ : ∃ g c cs, env 13 = .slice g bothK.length c /\ OwnS 1 (RB (cfU v)) 23 w6.heap.size v (env 13) bothK.length bothK cs := h13
      obtain ⟨g3, d3, cs3, e19, ho19⟩ : ∃ g c cs, env 19 = .slice g (bothI.map Int.ofNat).length c /\ OwnS 1 RI 3 w6.heap.size v (env 19) (bothI.map Int.ofNat).length (bothI.map Int.ofNat) cs := h19
      have e20 : env 20 = .agg #[.bool false, env 13, .slice none 0 0, env 19] := h20
      obtain ⟨q14, e21, hq14, hbq14⟩ : ∃ q : Nat, env 21 = .pointer (some ⟨q, 0, none⟩) /\ w6.heap.size <= q /\ v.heap[q]? = some (.cells #[.bool false, .slice none 0 0, .slice none 0 0, .slice none 0 0] 104 (0, 0)) := h21
      rw [e13, e19] at e20
      rw [e13] at ho13
      rw [e19] at ho19
      obtain ⟨m1, hm1⟩ : ∃ m, m = bothK.length := ⟨_, rfl⟩
      obtain ⟨n3, hn3⟩ : ∃ m, m = (bothI.map Int.ofNat).length := ⟨_, rfl⟩
      rw [<- hm1] at e13 ho13 e20
      rw [<- hn3] at e19 ho19 e20
      have hno : NOwn w6.heap.size v (nodeN bothI bothK) (.slice g1 m1 d1) (.slice none 0 0) (.slice g3 n3 d3) := ⟨⟨cs1, by rw [show (nodeN bothI bothK).keys.length = m1 from hm1.symm]; exact ho13⟩, ⟨[], OwnS.start 1 _ _ hv.size⟩, ⟨cs3, by rw [show (nodeN bothI bothK).kids.length = n3 by rw [hn3, List.length_map]; rfl]; exact ho19⟩, fun g _ e => by cases e⟩
      have HF := HoldT.mk (And.intro hno (And.intro hq14 hbq14))
      have HV := HoldT.mk hv
      have z0 : v.cell? ⟨q14, 0, none⟩ = some (.bool false) := by simp [World.cell?, hbq14]
      have z1 : v.cell? ⟨q14, 1, none⟩ = some (.slice none 0 0) := by simp [World.cell?, hbq14]
      have z2 : v.cell? ⟨q14, 2, none⟩ = some (.slice none 0 0) := by simp [World.cell?, hbq14]
      have z3 : v.cell? ⟨q14, 3, none⟩ = some (.slice none 0 0) := by simp [World.cell?, hbq14]
      have f0 : v.frozen? ⟨q14, 0, none⟩ = false := by simp [World.frozen?, hbq14]
      have f1 : v.frozen? ⟨q14, 1, none⟩ = false := by simp [World.frozen?, hbq14]
      have f2 : v.frozen? ⟨q14, 2, none⟩ = false := by simp [World.frozen?, hbq14]
      have f3 : v.frozen? ⟨q14, 3, none⟩ = false := by simp [World.frozen?, hbq14]
      simp only [withD, dstD, opAt, Option.bind_some, Option.getD_some, e13, e19, e20, e21, Act.put, List.setIfInBounds_toArray, List.set_cons_succ, List.set_cons_zero]
      clear ho13 ho19 e13 e19 e20 e21 hm1 hn3 hno hq14 hbq14 hv
      refine mixl_act (i := 22) rfl (by kernel_rfl) (keepSC fun b hb => HV.out.block b hb) rfl (fun K hK => ?_)
      go_wp2_with fail
      clear z0 z1 z2 z3 f0 f1 f2 f3
      obtain ⟨u4, hu4⟩ : ∃ u, u = set4 v q14 (.bool false) (.slice g1 m1 d1) (.slice none 0 0) (.slice g3 n3 d3) := ⟨_, rfl⟩
      have hu4' := hu4
      unfold set4 at hu4'
      rw [<- hu4']
      have hg4 : v.grownBy u4 (some q14) := by rw [hu4]; exact set4_grown _ _ _ _ _ _
      have h44 : u4.heap[q14]? = some (.cells #[.bool false, .slice g1 m1 d1, .slice none 0 0, .slice g3 n3 d3] 104 (0, 0)) := by rw [hu4]; exact set4_heap HF.out.2.2
      have hbu : Below w6.heap.size w6 u4 := HV.out.grown hg4 HV.out.size (fun x e => by cases e; exact HF.out.2.1)
      have HU := HoldT.mk (And.intro hbu (And.intro HF.out.2.1 (And.intro h44 (HF.out.1.grown HF.out.2.2 hg4).1)))
      clear hu4 hu4' hg4 h44 hbu
      refine mix_done (by kernel_rfl) (keepSC fun b hb => HU.out.1.block b hb) ?_
      go_wp2_with fail
      go_meet
      exact ⟨q14, g1, d1, m1, g3, n3, d3, rfl, HU⟩
    case rest =>
     obtain ⟨q14, e1, d1, m1, e3, n3, d3, rfl, HU⟩ := hcut
     generalize wc = v at *
     clear g0 g1 g2 g3 g4 g5
     obtain ⟨hbig, hle9⟩ := even_big HH.out.2.1 HH.out.2.2.2.2.1 HI.out.2.2.2.2.2.1 HI.out.2.2.2.2.2.2 HI.out.1 HI.out.2.1 HI.out.2.2.1 HH.out.2.2.1
     obtain ⟨ar1, ar2⟩ := HH.out.2.1.around HI.out.1 HI.out.2.1 HI.out.2.2.1
     have hko := HH.out.2.1.ok s (List.mem_of_getElem? HI.out.2.2.1)
     have hnok := join_node HI.out.2.2.2.1 HI.out.2.2.2.2.1 hko ar1 ar2
     rw [<- HBO.out.1] at hbig hle9 hnok
     have hil : bothI.length = bothK.length + 1 := by rw [HBO.out.2, List.length_map]; exact hnok.len
     have hpp : ∀ p ∈ bothI, p <= 2147483647 := fun p hp => by
      rw [HBO.out.2] at hp
      obtain ⟨x, hx, rfl⟩ := List.mem_map.1 hp
      rcases List.mem_append.1 hx with hx | hx
      ·exact HK6.out.1.small HI.out.1 _ (pages_kid (t := a) hx (pg_mem h' x))
      ·exact HK6.out.1.small HI.out.2.1 _ (pages_kid (t := b) hx (pg_mem h' x))
     have hso := split_node hil hnok.up hnok.ok hpp hle9 hbig
     have hshB : ShN (nodeN bothI bothK) := shNode hil hnok.up hnok.ok hpp (by have := len_node bothK; omega)
     have HSP := node_split HU.out.2.2.2.nat hshB hso.last
     have hbl : (nodeN bothI bothK).leaf = false := rfl
     unfold nodeV at HSP
     rw [hbl] at HSP
     have HSP := HoldT.mk HSP
     have HSO := HoldT.mk (And.intro hso (And.intro hil hnok.len))
     have hb14 := HU.out.2.2.1
     have z0 : v.cell? ⟨q14, 0, none⟩ = some (.bool false) := by simp [World.cell?, hb14]
     have z1 : v.cell? ⟨q14, 1, none⟩ = some (.slice e1 m1 d1) := by simp [World.cell?, hb14]
     have z2 : v.cell? ⟨q14, 2, none⟩ = some (.slice none 0 0) := by simp [World.cell?, hb14]
     have z3 : v.cell? ⟨q14, 3, none⟩ = some (.slice e3 n3 d3) := by simp [World.cell?, hb14]
     clear hbig hle9 ar1 ar2 hko hnok hil hpp hso hshB hbl hb14
     go_wp2_with fail
     refine HSP.out.mono ?_
     rintro e v2 ⟨j, k1, v1, i1, kw, k2, v2', i2, hj, rfl, hA, hy, hB, hb2⟩
     clear z0 z1 z2 z3
     rw [part_nodeA] at hA |-
     rw [part_nodeB] at hB |-
     obtain ⟨k1a, k1c, rfl⟩ := hA.nat.keys.form
     obtain ⟨v1a, v1c, rfl⟩ := hA.nat.vals.form
     obtain ⟨i1a, i1c, rfl⟩ := hA.nat.kids.form
     obtain ⟨k2a, k2c, rfl⟩ := hB.nat.keys.form
     obtain ⟨v2a, v2c, rfl⟩ := hB.nat.vals.form
     obtain ⟨i2a, i2c, rfl⟩ := hB.nat.kids.form
     obtain ⟨ya, yc, rfl⟩ := hy.form
     obtain ⟨key, hkey⟩ : ∃ x, x = (nodeN bothI bothK).keys.getD j [] := ⟨_, rfl⟩
     rw [<- hkey] at hy |-
     obtain ⟨yl, hyl⟩ : ∃ y, y = key.length := ⟨_, rfl⟩
     rw [<- hyl] at hy |-
     obtain ⟨nA, hnA⟩ : ∃ n, n = nodeN (bothI.take (j + 1)) (bothK.take j) := ⟨_, rfl⟩
     obtain ⟨nB, hnB⟩ : ∃ n, n = nodeN (bothI.drop (j + 1)) (bothK.drop (j + 1)) := ⟨_, rfl⟩
     have hlA : nA.leaf = false := by rw [hnA]; rfl
     have hlB : nB.leaf = false := by rw [hnB]; rfl
     rw [<- hnA] at hA |-
     rw [<- hnB] at hB |-
     obtain ⟨t1, ht1⟩ : ∃ m, m = nA.keys.length := ⟨_, rfl⟩
     obtain ⟨t2, ht2⟩ : ∃ m, m = nA.vals.length := ⟨_, rfl⟩
     obtain ⟨t3, ht3⟩ : ∃ m, m = (nA.kids.map Int.ofNat).length := ⟨_, rfl⟩
     obtain ⟨r1, hr1⟩ : ∃ m, m = nB.keys.length := ⟨_, rfl⟩
     obtain ⟨r2, hr2⟩ : ∃ m, m = nB.vals.length := ⟨_, rfl⟩
     obtain ⟨r3, hr3⟩ : ∃ m, m = (nB.kids.map Int.ofNat).length := ⟨_, rfl⟩
     unfold nodeV
     rw [hlA, hlB]
     rw [<- ht1, <- ht2, <- ht3] at hA |-
     rw [<- hr1, <- hr2, <- hr3] at hB |-
     have HS := HoldT.mk (And.intro hj (And.intro hkey (And.intro hyl (And.intro hnA (And.intro hnB (And.intro hlA (And.intro hlB (And.intro hA (And.intro hB (And.intro hy hb2))))))))))
     clear hj hkey hyl hnA hnB hlA hlB hA hB hy hb2 ht1 ht2 ht3 hr1 hr2 hr3
     go_upto_region 13 with (fail)
     obtain ⟨v3, hv3⟩ : ∃ x, x = v2.alloc (.cells #[.bool false, .slice k1a t1 k1c, .slice v1a t2 v1c, .slice i1a t3 i1c] 104) := ⟨_, rfl⟩
     obtain ⟨v4, hv4⟩ : ∃ x, x = v3.alloc (.cells #[.bool false, .slice k2a r1 k2c, .slice v2a r2 v2c, .slice i2a r3 i2c] 104) := ⟨_, rfl⟩
     obtain ⟨q15, hq15⟩ : ∃ x, x = v2.heap.size := ⟨_, rfl⟩
     obtain ⟨q17, hq17⟩ : ∃ x, x = q15 + 1 := ⟨_, rfl⟩
     rw [<- hv3, <- hv4, <- hq15, <- hq17]
     have hb3 : Below v2.heap.size v2 v3 := by rw [hv3]; exact (Below.refl _ v2).alloc (Nat.le_refl _) _
     have hb4 : Below v3.heap.size v3 v4 := by rw [hv4]; exact (Below.refl _ v3).alloc (Nat.le_refl _) _
     have hbb := hb3.trans (hb4.mono hb3.size)
     have hx15 : v4.heap[q15]? = some (.cells #[.bool false, .slice k1a t1 k1c, .slice v1a t2 v1c, .slice i1a t3 i1c] 104 (0, 0)) := kept (by rw [hv3, hq15]; exact heap_alloc_new v2 _) hb4
     have hx17 : v4.heap[q17]? = some (.cells #[.bool false, .slice k2a r1 k2c, .slice v2a r2 v2c, .slice i2a r3 i2c] 104 (0, 0)) := by
      have e : q17 = v3.heap.size := by rw [hv3, hq17, hq15]; simp
      rw [hv4, e]; exact heap_alloc_new v3 _
     have hb64 : Below w6.heap.size w6 v4 := HU.out.1.trans ((HS.out.2.2.2.2.2.2.2.2.2.2.trans (hbb.mono HS.out.2.2.2.2.2.2.2.2.2.2.size)).mono HU.out.1.size)
     have hY := HK6.out.1.toY.below hb64
     have hn15 : w6.heap.size <= q15 := by rw [hq15]; exact Nat.le_trans HU.out.1.size HS.out.2.2.2.2.2.2.2.2.2.2.size
     have hq15H : ¬ H5.all q15 := fun e => by have := HK6.out.1.pg.lt q15 e; omega
     have hq17H : ¬ H5.all q17 := fun e => by have := HK6.out.1.pg.lt q17 e; omega
     have hNA : NT H5 v.heap.size v4 nA (.slice k1a t1 k1c) (.slice v1a t2 v1c) (.slice i1a t3 i1c) := ⟨HS.out.2.2.2.2.2.2.2.1.below hbb, fun g hg e => by have h1 := (HS.out.2.2.2.2.2.2.2.1.low hg).1; have h2 := HK6.out.1.pg.lt g e; have h3 := HU.out.1.size; omega⟩
     have hNB : NT H5 v.heap.size v4 nB (.slice k2a r1 k2c) (.slice v2a r2 v2c) (.slice i2a r3 i2c) := ⟨HS.out.2.2.2.2.2.2.2.2.1.below hbb, fun g hg e => by have h1 := (HS.out.2.2.2.2.2.2.2.2.1.low hg).1; have h2 := HK6.out.1.pg.lt g e; have h3 := HU.out.1.size; omega⟩
     have hyy := HS.out.2.2.2.2.2.2.2.2.2.1.mono RY_mono (cfU_below hbb)
     have HV4 := HoldT.mk (And.intro hY (And.intro hNA (And.intro hNB (And.intro hyy (And.intro hx15 (And.intro hx17 (And.intro hq15H (And.intro hq17H hb64))))))))
     clear hv3 hv4 hq15 hq17 hb3 hb4 hbb hx15 hx17 hb64 hY hn15 hq15H hq17H hNA hNB hyy
     go_upto_region 15 with (fail)
     have hbx := HV4.out.2.2.2.2.1
     have hkr := HV4.out.1.krow
     obtain ⟨y1, y2, y3⟩ := HV4.out.1.cells
     have hki : (nodeN (ks.map (pgT (h' + 1))) keys).kids[i]? = some pa := by
      show (ks.map (pgT (h' + 1)))[i]? = _
      rw [List.getElem?_map, HI.out.1, HPG.out.1]; rfl
     have hki2 : (nodeN (ks.map (pgT (h' + 1))) keys).kids[i + 1]? = some pb := by
      show (ks.map (pgT (h' + 1)))[i + 1]? = _
      rw [List.getElem?_map, HI.out.2.1, HPG.out.2]; rfl
     have hkc := HV4.out.1.kc hki
     have z0 : v4.cell? ⟨q15, 0, none⟩ = some (.bool false) := by simp [World.cell?, hbx]
     have z1 : v4.cell? ⟨q15, 1, none⟩ = some (.slice k1a t1 k1c) := by simp [World.cell?, hbx]
     have z2 : v4.cell? ⟨q15, 2, none⟩ = some (.slice v1a t2 v1c) := by simp [World.cell?, hbx]
     have z3 : v4.cell? ⟨q15, 3, none⟩ = some (.slice i1a t3 i1c) := by simp [World.cell?, hbx]
     have pq : q15 < v4.heap.size /\ ¬ H5.all q15 := ⟨heap_lt hbx, HV4.out.2.2.2.2.2.2.1⟩
     have pr : r < v4.heap.size /\ ¬ H5.all r := ⟨heap_lt HV4.out.1.box, HV4.out.1.boxH⟩
     have pg : g < v4.heap.size /\ ¬ H5.all g := ⟨by obtain ⟨⟨_, e⟩, _⟩ := hkr; exact heap_lt e, hkr.2⟩
     have g0 := KeepS.cell (P := fun b => b < v4.heap.size /\ ¬ H5.all b) z0 pq
     have g1 := KeepS.cell (P := fun b => b < v4.heap.size /\ ¬ H5.all b) z1 pq
     have g2 := KeepS.cell (P := fun b => b < v4.heap.size /\ ¬ H5.all b) z2 pq
     have g3 := KeepS.cell (P := fun b => b < v4.heap.size /\ ¬ H5.all b) z3 pq
     have g4 := KeepS.cell (P := fun b => b < v4.heap.size /\ ¬ H5.all b) y3 pr
     have g5 := KeepS.cell (P := fun b => b < v4.heap.size /\ ¬ H5.all b) hkc pg
     have HKI := HoldT.mk (And.intro hki hki2)
     clear hbx hkr y1 y2 y3 hki hki2 hkc z0 z1 z2 z3 pq pr pg
     refine wp_region_mixC (KeepSC (fun b => b < v4.heap.size /\ ¬ H5.all b) v4) 21 rfl (by kernel_rfl) ?_
     have HDR := HoldT.mk ((Below.refl v4.heap.size v4).drew)
     generalize v4.drew = v5 at HDR |-
     refine mixl_seg (by kernel_rfl) (fun _ _ d _ _ h => by cases d <;> exact h) [0, 1, 2, 3, 4, 5, 6, 7, 8, 9, 10, 11, 12, 13] [_, _, _, _, _, _, _, _, _, _, _, _, _, _] 7 21 rfl _ _ _ rfl (by kernel_rfl) (keepSC fun b hb => HDR.out.block b hb.1) ?_
     repeat (go_big_quiet_step (fail))
     refine wpQuiet_nil ?_
     clear g0 g1 g2 g3 g4 g5
     have hY5 := HV4.out.1.below HDR.out
     obtain ⟨pt1, pt2, pt3, pt4⟩ := HSO.out.1.parts j HS.out.1
     rw [part_nodeA] at pt1 pt2
     rw [part_nodeB] at pt3 pt4
     rw [<- HS.out.2.2.2.1] at pt1 pt2
     rw [<- HS.out.2.2.2.2.1] at pt3 pt4
     have hfa : S5.is[pa]? = some 2 := by rw [HPG.out.1]; exact HK6.out.1.kin.fresh _ (kid_in HI.out.1 (pg_mem _ a))
     have HWR := tree_write hY5.pg hY5.tbx (by have := HH.out.2.2.2.1; have := H1'.out.2.2.2.1; have := H3'.out.2.2.2.1; have := H5'.out.2.2.2.1; omega) (HV4.out.2.1.below HDR.out).own.nat pt1 pt2 (.inl ⟨pa, rfl, hfa, rfl⟩)
     unfold nodeV at HWR
     rw [HS.out.2.2.2.2.2.1] at HWR
     have HWR := HoldT.mk HWR
     have HPT := HoldT.mk (And.intro pt3 pt4)
     clear hY5 pt1 pt2 pt3 pt4 hfa
     refine mixl_act (i := 14) rfl (by kernel_rfl) (keepSC fun b hb => HDR.out.block b hb.1) rfl (fun K hK => ?_)
     go_wp2_with fail
     refine HWR.out.mono ?_
     rintro e v6 ⟨m, H7, S7, p7, rfl, hG7, hM7, hlm, hc7, hT7, hp7⟩
     have hmm : pa = m := by have := hlm (by simp); simpa using this
     subst hmm
     have hY7 := (HV4.out.1.below HDR.out).turn hG7 hT7
     have H7' := HoldT.mk (And.intro hY7 (And.intro hM7 (And.intro hc7 (And.intro hT7 hp7))))
     have HC7 : HoldT (∀ b, b < v4.heap.size /\ ¬ H5.all b -> v6.heap[b]? = v4.heap[b]?) := ⟨fun b hb => (hT7.out b (Nat.lt_of_lt_of_le hb.1 HDR.out.size) hb.2).1.trans (HDR.out.block b hb.1)⟩
     have hsame := hY7.again HKI.out.1
     obtain ⟨cg, hcg⟩ := hY7.krow.1
     have f0 : v6.frozen? ⟨g, i, none⟩ = false := by simp [World.frozen?, hcg]
     have hkc := hY7.kc HKI.out.1
     clear hG7 hM7 hlm hc7 hT7 hp7 hY7 hcg
     simp only
     go_wp2_with fail
     refine mixl_seg (by kernel_rfl) (fun _ _ d _ _ h => by cases d <;> exact h) [15, 16, 17, 18] [_, _, _, _] 2 6 rfl _ _ _ rfl (by kernel_rfl) (keepSC HC7.out) ?_
     repeat (go_big_quiet_step (fail))
     refine wpQuiet_nil ?_
     refine mixl_act (i := 19) rfl (by kernel_rfl) (keepSC HC7.out) rfl (fun K hK => ?_)
     go_wp2_with fail
     clear hsame hkc f0
     refine mixl_seg (by kernel_rfl) (fun _ _ d _ _ h => by cases d <;> exact h) [20] [_] 0 1 rfl _ _ _ rfl (by kernel_rfl) (keepSC HC7.out) ?_
     repeat (go_big_quiet_step (fail))
     refine wpQuiet_nil ?_
     refine mix_done (by kernel_rfl) (keepSC HC7.out) ?_
     have hY7 := H7'.out.1
     obtain ⟨y1, y2, y3⟩ := hY7.cells
     obtain ⟨csk, hok7⟩ := hY7.nt.own.keys
     obtain ⟨ck7, hck7⟩ := own_kind hok7 rfl
     have f0 : v6.frozen? ⟨gk, i, none⟩ = false := by simp [World.frozen?, hck7]
     have hyk := (HV4.out.2.2.2.1.mono RY_mono (cfU_below HDR.out)).mono RY_mono (cfU_turn H7'.out.2.2.2.1 (HV4.out.1.below HDR.out).pg.noU)
     have HCK := HoldT.mk (And.intro hyk hck7)
     obtain ⟨jb, jo, sa7, sc7, ej7, hkc7, _⟩ := bat_cell hY7.nt.own.nat.keys (show (nodeN (ks.map (pgT (h' + 1))) keys).keys[i]? = some s from HI.out.2.2.1)
     obtain ⟨rfl, rfl⟩ : gk = jb /\ 0 = jo := by
      simp only [Option.some.injEq, Addr.mk.injEq, and_true] at ej7
      exact ej7
     rw [Nat.zero_add] at hkc7
     clear hY7 y2 y3 hok7 hck7 hyk ej7
     go_upto_region 19 with (fail)
     clear y1 f0 hkc7
     obtain ⟨v7, hv7⟩ : ∃ x, x = v6.setCell ⟨gk, i, none⟩ (.slice ya yl yc) := ⟨_, rfl⟩
     rw [<- hv7]
     obtain ⟨hYk, hu7, hst7, hTB7, hsz7⟩ := H7'.out.1.setKey (i := i) (x := key) (u := .slice ya yl yc) HK6.out.2.2.2.2.2.2.2.1 HCK.out.1 hv7
     have hq17k : q17 ≠ gk := fun e => by
      have h1 := HV4.out.2.2.2.2.2.1
      have h2 := HC7.out q17 ⟨heap_lt h1, HV4.out.2.2.2.2.2.2.2.1⟩
      rw [h1, e, HCK.out.2] at h2
      cases h2
     have hx17 : v7.heap[q17]? = some (.cells #[.bool false, .slice k2a r1 k2c, .slice v2a r2 v2c, .slice i2a r3 i2c] 104 (0, 0)) := (hst7 q17 hq17k).trans ((HC7.out q17 ⟨heap_lt HV4.out.2.2.2.2.2.1, HV4.out.2.2.2.2.2.2.2.1⟩).trans HV4.out.2.2.2.2.2.1)
     have hNB7 : NT H7 v.heap.size v7 nB (.slice k2a r1 k2c) (.slice v2a r2 v2c) (.slice i2a r3 i2c) := by
      have h1 := ((HV4.out.2.2.1.below HDR.out).turn H7'.out.2.2.2.1 (HV4.out.1.below HDR.out).pg.noU)
      have hgkl : gk < v.heap.size := Nat.lt_of_lt_of_le (heap_lt HK6.out.2.2.2.2.2.2.2.2.2) HU.out.1.size
      exact ⟨h1.own.stand hsz7 (fun g hg => hst7 g (fun e => by have := (h1.own.low hg).1; omega)) hu7, h1.off⟩
     have hq17H7 : ¬ H7.all q17 := fun e => ((H7'.out.2.2.2.1.out q17 (Nat.lt_of_lt_of_le (heap_lt HV4.out.2.2.2.2.2.1) HDR.out.size) HV4.out.2.2.2.2.2.2.2.1).2 e)
     have H8' := HoldT.mk (And.intro hYk (And.intro hNB7 (And.intro hTB7 hx17)))
     clear hv7 hu7 hst7 hq17k hYk hNB7 hTB7 hsz7
     have hkr := H8'.out.1.krow
     obtain ⟨y1, y2, y3⟩ := H8'.out.1.cells
     have hki2 : ({ nodeN (ks.map (pgT (h' + 1))) keys with keys := (nodeN (ks.map (pgT (h' + 1))) keys).keys.set i key } : ND).kids[i + 1]? = some pb := HKI.out.2
     have hkc := H8'.out.1.kc hki2
     rw [show ((⟨g, i + 1, none⟩ : Addr)) = ⟨g, i + 1, none⟩ from rfl] at hkc
     have z0 : v7.cell? ⟨q17, 0, none⟩ = some (.bool false) := by simp [World.cell?, hx17]
     have z1 : v7.cell? ⟨q17, 1, none⟩ = some (.slice k2a r1 k2c) := by simp [World.cell?, hx17]
     have z2 : v7.cell? ⟨q17, 2, none⟩ = some (.slice v2a r2 v2c) := by simp [World.cell?, hx17]
     have z3 : v7.cell? ⟨q17, 3, none⟩ = some (.slice i2a r3 i2c) := by simp [World.cell?, hx17]
     have pq : q17 < v7.heap.size /\ ¬ H7.all q17 := ⟨heap_lt hx17, hq17H7⟩
     have pr : r < v7.heap.size /\ ¬ H7.all r := ⟨heap_lt H8'.out.1.box, H8'.out.1.boxH⟩
     have pg : g < v7.heap.size /\ ¬ H7.all g := ⟨by obtain ⟨⟨_, e⟩, _⟩ := hkr; exact heap_lt e, hkr.2⟩
     have g0 := KeepS.cell (P := fun b => b < v7.heap.size /\ ¬ H7.all b) z0 pq
     have g1 := KeepS.cell (P := fun b => b < v7.heap.size /\ ¬ H7.all b) z1 pq
     have g2 := KeepS.cell (P := fun b => b < v7.heap.size /\ ¬ H7.all b) z2 pq
     have g3 := KeepS.cell (P := fun b => b < v7.heap.size /\ ¬ H7.all b) z3 pq
     have g4 := KeepS.cell (P := fun b => b < v7.heap.size /\ ¬ H7.all b) y3 pr
     have g5 := KeepS.cell (P := fun b => b < v7.heap.size /\ ¬ H7.all b) hkc pg
     clear hkr y1 y2 y3 hkc z0 z1 z2 z3 pq pr pg hx17 hq17H7
     have HKI2 := HoldT.mk hki2
     clear hki2
     refine wp_region_mixC (KeepSC (fun b => b < v7.heap.size /\ ¬ H7.all b) v7) 23 rfl (by kernel_rfl) ?_
     have HDR7 := HoldT.mk ((Below.refl v7.heap.size v7).drew)
     generalize v7.drew = v8 at HDR7 |-
     refine mixl_seg (by kernel_rfl) (fun _ _ d _ _ h => by cases d <;> exact h) [0, 1, 2, 3, 4, 5, 6, 7, 8, 9, 10, 11, 12, 13, 14, 15] [_, _, _, _, _, _, _, _, _, _, _, _, _, _, _, _] 7 23 rfl _ _ _ rfl (by kernel_rfl) (keepSC fun b hb => HDR7.out.block b hb.1) ?_
     repeat (go_big_quiet_step (fail))
     refine wpQuiet_nil ?_
     clear g0 g1 g2 g3 g4 g5
     have hY8 := H8'.out.1.below HDR7.out
     have hfa : S7.is[pb]? = some 2 := by
      have h1 := HK6.out.1.kin.around HI.out.1 HI.out.2.1
      refine (H7'.out.2.1.other (p := pb) ?_ ?_).2.2
      ·rw [List.mem_singleton, HPG.out.1, HPG.out.2]; exact fun e => h1.2.2.1 e.symm
      ·rw [HPG.out.2]; exact h1.2.2.2.2
     have HWR2 := tree_write hY8.pg hY8.tbx (by have := HH.out.2.2.2.1; have := H1'.out.2.2.2.1; have := H3'.out.2.2.2.1; have := H5'.out.2.2.2.1; have := H7'.out.2.2.2.2; omega) (H8'.out.2.1.below HDR7.out).own.nat HPT.out.1 HPT.out.2 (.inl ⟨pb, rfl, hfa, rfl⟩)
     unfold nodeV at HWR2
     rw [HS.out.2.2.2.2.2.2.1] at HWR2
     have HWR2 := HoldT.mk HWR2
     clear hY8 hfa
     refine mixl_act (i := 16) rfl (by kernel_rfl) (keepSC fun b hb => HDR7.out.block b hb.1) rfl (fun K hK => ?_)
     go_wp2_with fail
     refine HWR2.out.mono ?_
     rintro e v9 ⟨m, H9, S9, p9, rfl, hG9, hM9, hlm, hc9, hT9, hp9⟩
     have hmm : pb = m := by have := hlm (by simp); simpa using this
     subst hmm
     have hY9 := (H8'.out.1.below HDR7.out).turn hG9 hT9
     have H9' := HoldT.mk (And.intro hY9 (And.intro hM9 (And.intro hc9 (And.intro hT9 hp9))))
     have HC9 : HoldT (∀ b, b < v7.heap.size /\ ¬ H7.all b -> v9.heap[b]? = v7.heap[b]?) := ⟨fun b hb => (hT9.out b (Nat.lt_of_lt_of_le hb.1 HDR7.out.size) hb.2).1.trans (HDR7.out.block b hb.1)⟩
     have hsame := hY9.again HKI2.out
     obtain ⟨cg, hcg⟩ := hY9.krow.1
     have f0 : v9.frozen? ⟨g, i + 1, none⟩ = false := by simp [World.frozen?, hcg]
     have hkc := hY9.kc HKI2.out
     clear hG9 hM9 hlm hc9 hT9 hp9 hY9 hcg
     simp only
     go_wp2_with fail
     refine mixl_seg (by kernel_rfl) (fun _ _ d _ _ h => by cases d <;> exact h) [17, 18, 19, 20] [_, _, _, _] 2 6 rfl _ _ _ rfl (by kernel_rfl) (keepSC HC9.out) ?_
     repeat (go_big_quiet_step (fail))
     refine wpQuiet_nil ?_
     refine mixl_act (i := 21) rfl (by kernel_rfl) (keepSC HC9.out) rfl (fun K hK => ?_)
     go_wp2_with fail
     clear hsame hkc f0
     refine mixl_seg (by kernel_rfl) (fun _ _ d _ _ h => by cases d <;> exact h) [22] [_] 0 1 rfl _ _ _ rfl (by kernel_rfl) (keepSC HC9.out) ?_
     repeat (go_big_quiet_step (fail))
     refine wpQuiet_nil ?_
     refine mix_done (by kernel_rfl) (keepSC HC9.out) ?_
     go_wp2_with fail
     go_ret
     have hh2 : 2 <= ks.length := by have := HH.out.2.2.2.2.2.2.1; omega
     obtain ⟨res, hres, hkin, hMM, hpgs, hk2⟩ := even_res HK6.out.1.kin HH.out.2.2.2.2.1 HI.out.2.2.2.2.2.1 HI.out.2.2.2.2.2.2 hh2 HI.out.1 HI.out.2.1 HI.out.2.2.1 HBO.out.1 HBO.out.2 HSO.out.2.1 HS.out.1 HS.out.2.1 HPG.out.1 HPG.out.2 HS.out.2.2.2.1 HS.out.2.2.2.2.1 H7'.out.2.1 H7'.out.2.2.1 H9'.out.2.1 H9'.out.2.2.1
     have hSS : SameP S S5 := (H1'.out.2.1.trans H3'.out.2.1).trans H5'.out.2.1
     have hB6 : B <= w6.heap.size := HK6.out.1.base
     have hT06 : TurnB B H.all w H5.all w6 := (((((H1'.out.2.2.1.then HB2.out.1).trans H3'.out.2.2.1).then HB4.out.1).trans H5'.out.2.2.1).then HB6.out.1).toB HH.out.1.base
     have hT64 : TurnB B H5.all w6 H7.all v6 := ((TurnS.quiet HV4.out.2.2.2.2.2.2.2.2).trans ((TurnS.quiet HDR.out).trans H7'.out.2.2.2.1)).toB hB6
     have hT79 : TurnB B H7.all v7 H9.all v9 := ((TurnS.quiet HDR7.out).trans H9'.out.2.2.2.1).toB (Nat.le_trans hB6 (Nat.le_trans hT64.size H8'.out.2.2.1.size))
     have hp9 : p9 <= p + 40 := by have h1 := H1'.out.2.2.2.1; have h3 := H3'.out.2.2.2.1; have h5 := H5'.out.2.2.2.1; have h7 := H7'.out.2.2.2.2; have h9 := H9'.out.2.2.2.2; clear HH HK2 HK4 HK6 HBO HSO HS HV4 HKI HKI2; omega
     exact ⟨res, _, _, _, H9, S9, p9, rfl, hres, H9'.out.1.fin hpgs hk2 hkin, hMM.before hSS, ((hT06.trans hT64).trans H8'.out.2.2.1).trans hT79, hp9⟩
end Go.Proofs.YtmiphphombkpdaaGreat
