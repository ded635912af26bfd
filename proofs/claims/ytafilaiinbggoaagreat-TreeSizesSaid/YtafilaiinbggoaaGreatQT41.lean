import Derived.Test.YtafilaiinbggoaaGreatQT40
namespace Go.Proofs.YtafilaiinbggoaaGreat
open Go.RowKit Go.Maps
set_option maxHeartbeats 1000000 in
theorem tree_open {H : HS} {w : World} {pb : Nat} {root : Int} (hlt : ∀ b, H.all b -> b < w.heap.size) :
  Calls Tryz.prog 13 #[.pointer (some ⟨pb, 0, none⟩), .int .i64 root] w fun e w' => ∃ tb, e = .returned (.pointer (some ⟨tb, 0, none⟩)) /\ TB H w' tb pb root /\ Below w.heap.size w w' /\ w.heap.size <= tb := by
 have HL := HoldT.mk hlt
 clear hlt
 go_enter Tryz.func13, Tryz.ntmps13
 go_wp2_with fail
 go_ret
 refine ⟨w.heap.size, rfl, ⟨heap_alloc_new w _, fun e => by have := HL.out _ e; omega⟩, (Below.refl _ w).alloc (Nat.le_refl _) _, Nat.le_refl _⟩
end Go.Proofs.YtafilaiinbggoaaGreat
namespace Go.Proofs.YtafilaiinbggoaaGreat
open Go.RowKit Go.Maps
theorem getE_place {k : Bts} : ∀ {es : EL}, getE k es = if (es.map (·.1))[placeB k (es.map (·.1))]? = some k then (es.map (·.2))[placeB k (es.map (·.1))]? else none
 | [] => rfl
 | (x, y) :: l => by
  simp only [List.map_cons]
  by_cases e : ltB x k = true
  ·have p1 : placeB k (x :: l.map (·.1)) = placeB k (l.map (·.1)) + 1 := by show (if ltB x k = true then _ else _) = _; rw [if_pos e]
   rw [p1, List.getElem?_cons_succ, List.getElem?_cons_succ, show getE k ((x, y) :: l) = getE k l by show (if ltB x k = true then _ else _) = _; rw [if_pos e]]
   exact getE_place
  ·have p1 : placeB k (x :: l.map (·.1)) = 0 := by show (if ltB x k = true then _ else _) = _; rw [if_neg e]
   rw [p1]
   by_cases e2 : x = k
   ·subst e2
    rw [show getE x ((x, y) :: l) = some y by show (if ltB x x = true then _ else _) = _; rw [if_neg e, if_pos rfl]]
    simp
   ·rw [show getE k ((x, y) :: l) = none by show (if ltB x k = true then _ else _) = _; rw [if_neg e, if_neg e2]]
    simp [e2]
def TGetPost (Q : PQ) (R : Int -> Option Bts) (H : HS) (S : PS) (p c : Nat) (res : Option Bts) (w : World) (e : Ending) (w' : World) : Prop :=
 (∃ (va : Option Addr) (vl vc : Nat), e = .returned (.tuple #[.slice va vl vc, .bool res.isSome, .int .i64 0]) /\ ∀ v, res = some v -> YAt (cfU w') (.slice va vl vc) v) /\ Looked Q R H S p c w w'
set_option maxHeartbeats 8000000 in
set_option maxRecDepth 100000 in
theorem tree_get {Q : PQ} {R : Int -> Option Bts} {H : HS} {S : PS} {p tb : Nat} {root : Int} {o : Top} {k : Bts} {ks : Value} {w : World} (h : PG Q R H S p w) (ht : TB H w tb Q.pb root) (ho : TopIn S o root) (hp : p <= 999990000) (hhh : heightO o <= 20) (hyk : YAt (cfU w) ks k) :
  Calls Tryz.prog 16 #[.pointer (some ⟨tb, 0, none⟩), ks] w (TGetPost Q R H S p (4 * heightO o) (getE k (esO o)) w) := by
 obtain ⟨xa, xc, rfl⟩ := hyk.form
 obtain ⟨xl, hxl⟩ : ∃ x, x = k.length := ⟨_, rfl⟩
 rw [<- hxl] at hyk |-
 obtain ⟨x0, x1⟩ := ht.cells
 obtain ⟨hh, hhe⟩ : ∃ x, x = heightO o := ⟨_, rfl⟩
 obtain ⟨res, hres⟩ : ∃ x, x = getE k (esO o) := ⟨_, rfl⟩
 rw [<- hhe] at hhh |-
 rw [<- hres]
 have hst : (root = -1 /\ res = none) \/ ∃ (g : Nat) (t : Tree g), root = (pgT g t : Int) /\ 1 + g = hh /\ TreeIn S g t /\ getE k (esT g t) = res := by
  match o, ho, hres, hhe with
  | none, ho, hres, hhe => exact .inl ⟨ho, by rw [hres]; rfl⟩
  | some ⟨g, t⟩, ho, hres, hhe => exact .inr ⟨g, t, ho.1, by rw [hhe]; show 1 + g = g + 1; omega, ho.2, hres.symm⟩
 have HH := HoldT.mk (And.intro h (And.intro ht (And.intro hp (And.intro hyk hst))))
 clear h ht ho hp hyk hxl hhe hres hst
 go_enter Tryz.func16, Tryz.ntmps16
 go_wp2_with fail
 go_loopw [7, 8, 9, 10, 11, 12] (fun s7 s8 s9 s10 s11 s12 wr => ∃ (d : Nat) (n : Int), s8 = .int .i64 (d : Int) /\ s7 = .int .i64 n /\ d <= 21 /\ HoldT (((n = -1 /\ res = none) \/ ∃ (g : Nat) (t : Tree g), n = (pgT g t : Int) /\ d + g = hh /\ TreeIn S g t /\ getE k (esT g t) = res) /\ 1 <= d /\ (d - 1 <= hh) /\ Looked Q R H S p (4 * (d - 1)) w wr)) (fun _ s8 _ _ _ _ _ => 21 - (intOf s8).toNat)
 case atStart => exact ⟨1, root, rfl, rfl, by omega, ⟨HH.out.2.2.2.2, Nat.le_refl _, Nat.zero_le _, Looked.refl HH.out.1⟩⟩
 case round =>
  obtain ⟨d, n, rfl, rfl, hd, HJ⟩ := hrel
  rcases HJ.out.1 with ⟨rfl, he⟩ | ⟨g, t, rfl, he, hin, hge⟩
  ·go_wp2_with fail
   refine bodyPost_ret (v := .tuple #[.slice none 0 0, .bool false, .int .i64 0]) (by simp [results, Tryz.results16, go_sem]) rfl ?_
   exact ⟨⟨none, 0, 0, rfl, fun v e => by cases e⟩, by
    obtain ⟨H', S', p', a1, a2, a3, a4⟩ := HJ.out.2.2.2
    exact ⟨H', S', p', a1, a2, a3, by have := HJ.out.2.2.1; omega⟩⟩
  ·obtain ⟨H1, S1, p1, hG1, hS1, hT1, hp1⟩ := HJ.out.2.2.2
   have hin1 := hin.same hS1
   have hfr := hin1.fresh _ (pg_mem g t)
   have HRD := HoldT.mk (tree_read (deep := d) hG1 (HH.out.2.1.turn hT1) (by have := HH.out.2.2.1; omega) hfr (.inr rfl) (by omega) (shT hin1.wf fun q hq => low_page hG1 (hin1.fresh q hq)) (sz_tree hin1.wf) (sitsN hin1.wf hin1.sits))
   obtain ⟨pn, hpn⟩ : ∃ pn, pn = pgT g t := ⟨_, rfl⟩
   rw [<- hpn] at HRD |-
   have hyk1 := HH.out.2.2.2.1.mono RY_mono (cfU_turn hT1 HH.out.1.noU)
   have HG1 := HoldT.mk (And.intro hG1 (And.intro hS1 (And.intro hT1 (And.intro hp1 (And.intro hin1 (And.intro hyk1 (And.intro hge he)))))))
   have hb1 : decide ((pn : Int) = -1) = false := decide_eq_false (by omega)
   have hd2 : d <= 20 := by omega
   clear hG1 hS1 hT1 hp1 hin1 hfr hin hpn hge he hyk1
   go_wp2_with fail
   refine HRD.out.mono ?_
   rintro e w2 ⟨kv, vv, iv, H2, S2, p2, rfl, hN, hG2, hS2, hT2, hp2⟩
   obtain ⟨ka, kc, rfl⟩ := hN.own.nat.keys.form
   obtain ⟨va, vc, rfl⟩ := hN.own.nat.vals.form
   obtain ⟨ia, ic, rfl⟩ := hN.own.nat.kids.form
   have HLK : HoldT (Looked Q R H S p (4 * d) w w2) := ⟨H2, S2, p2, hG2, HG1.out.2.1.trans hS2, HG1.out.2.2.1.trans hT2, by have := HG1.out.2.2.2.1; have := HJ.out.2.1; omega⟩
   have hyk2 := HG1.out.2.2.2.2.2.1.mono RY_mono (cfU_turn hT2 HG1.out.1.noU)
   obtain ⟨nd, hnd⟩ : ∃ nd, nd = ndT g t := ⟨_, rfl⟩
   rw [<- hnd] at hN |-
   obtain ⟨m1, hm1⟩ : ∃ m, m = nd.keys.length := ⟨_, rfl⟩
   obtain ⟨m2, hm2⟩ : ∃ m, m = nd.vals.length := ⟨_, rfl⟩
   obtain ⟨m3, hm3⟩ : ∃ m, m = (nd.kids.map Int.ofNat).length := ⟨_, rfl⟩
   unfold nodeV
   rw [<- hm1, <- hm2, <- hm3] at hN |-
   obtain ⟨lf, hlf⟩ : ∃ l, l = nd.leaf := ⟨_, rfl⟩
   rw [<- hlf]
   have HN := HoldT.mk (And.intro hN (And.intro hnd (And.intro hm1 (And.intro hm2 (And.intro hm3 (And.intro hlf hyk2))))))
   clear hG2 hS2 hT2 hp2 hnd hm1 hm2 hm3 hlf hyk2 hN
   go_upto_region 10 with (fail)
   obtain ⟨w3, hw3⟩ : ∃ w3, w3 = w2.alloc (.cells #[.bool lf, .slice ka m1 kc, .slice va m2 vc, .slice ia m3 ic] 107) := ⟨_, rfl⟩
   obtain ⟨r, hr⟩ : ∃ r, r = w2.heap.size := ⟨_, rfl⟩
   rw [<- hw3, <- hr]
   have hb3 : Below w2.heap.size w2 w3 := by rw [hw3]; exact (Below.refl _ w2).alloc (Nat.le_refl _) _
   have hbr : w3.heap[r]? = some (.cells #[.bool lf, .slice ka m1 kc, .slice va m2 vc, .slice ia m3 ic] 107 (0, 0)) := by rw [hw3, hr]; exact heap_alloc_new w2 _
   have y0 : w3.cell? ⟨r, 0, none⟩ = some (.bool lf) := by simp [World.cell?, hbr]
   have y1 : w3.cell? ⟨r, 1, none⟩ = some (.slice ka m1 kc) := by simp [World.cell?, hbr]
   have y2 : w3.cell? ⟨r, 2, none⟩ = some (.slice va m2 vc) := by simp [World.cell?, hbr]
   have y3 : w3.cell? ⟨r, 3, none⟩ = some (.slice ia m3 ic) := by simp [World.cell?, hbr]
   have hN3 := HN.out.1.below hb3
   have hyk3 := HN.out.2.2.2.2.2.2.mono RY_mono (cfU_below hb3)
   have hup : upB nd.keys := by
    rw [HN.out.2.1]
    exact (shT HG1.out.2.2.2.2.1.wf fun q hq => low_page HG1.out.1 (HG1.out.2.2.2.2.1.fresh q hq)).up
   have hfew : nd.keys.length <= 9000 := by
    rw [HN.out.2.1]
    exact (shT HG1.out.2.2.2.2.1.wf fun q hq => low_page HG1.out.1 (HG1.out.2.2.2.2.1.fresh q hq)).few
   have HLK3 := HoldT.mk (HLK.out.below hb3)
   have H3 := HoldT.mk (And.intro hN3 (And.intro hyk3 (And.intro hup (And.intro hfew hbr))))
   clear hw3 hr hb3 hbr hN3 hyk3 hup hfew
   cases g with
   | zero =>
    have hlf : lf = true := by rw [HN.out.2.2.2.2.2.1, HN.out.2.1]; rfl
    subst hlf
    have HF := node_find H3.out.1.own.nat H3.out.2.2.1 H3.out.2.2.2.1 H3.out.2.1
    unfold nodeV at HF
    rw [<- HN.out.2.2.2.2.2.1] at HF
    unfold FindPost at HF
    obtain ⟨pl, hpl⟩ : ∃ x, x = placeB k nd.keys := ⟨_, rfl⟩
    obtain ⟨fd, hfd⟩ : ∃ fd, fd = decide (nd.keys[placeB k nd.keys]? = some k) := ⟨_, rfl⟩
    rw [<- hfd, <- hpl] at HF
    have HF := HoldT.mk HF
    have HPL := HoldT.mk (And.intro hpl hfd)
    clear hpl hfd
    go_wp2_with fail
    refine HF.out.mono ?_
    rintro e w4 ⟨rfl, hb4⟩
    have hbr4 := kept H3.out.2.2.2.2 hb4
    clear y0 y1 y2 y3
    have y2 : w4.cell? ⟨r, 2, none⟩ = some (.slice va m2 vc) := by simp [World.cell?, hbr4]
    have hN4 := H3.out.1.below hb4
    have HLK4 := HoldT.mk (HLK3.out.below hb4)
    have hgp : res = if nd.keys[placeB k nd.keys]? = some k then nd.vals[placeB k nd.keys]? else none := by
     have h1 := HG1.out.2.2.2.2.2.2.1
     have h2 : getE k (esT 0 t) = _ := getE_place
     rw [<- h1, h2, HN.out.2.1]; rfl
    cases fd with
    | true =>
     have hhit : nd.keys[placeB k nd.keys]? = some k := of_decide_eq_true HPL.out.2.symm
     rw [if_pos hhit] at hgp
     have hlt : placeB k nd.keys < nd.vals.length := by
      have h1 := (List.getElem?_eq_some_iff.1 hhit).1
      have h2 : nd.vals.length = nd.keys.length := by rw [HN.out.2.1]; show (t.2.map _).length = (t.2.map _).length; simp
      omega
     obtain ⟨vx, hvx⟩ : ∃ v, nd.vals[placeB k nd.keys]? = some v := ⟨_, List.getElem?_eq_getElem hlt⟩
     have hN4v := hN4.own.nat.vals
     rw [HN.out.2.2.2.1] at hN4v
     obtain ⟨b, off, za, zc, rfl, hc, hy⟩ := bat_cell hN4v hvx
     rw [<- HPL.out.1] at hc
     have hI : (pl : Int) < (m2 : Int) := by rw [HPL.out.1, HN.out.2.2.2.1]; omega
     have HGV := HoldT.mk (And.intro hgp (And.intro hvx hy))
     clear hgp hhit hlt hvx hy hb4 hbr4 hN4 hN4v
     go_wp2_with fail
     refine bodyPost_ret (v := .tuple #[.slice za vx.length zc, .bool true, .int .i64 0]) (by simp [results, Tryz.results16, go_sem]) rfl ?_
     obtain ⟨h1, h2, h3⟩ := HGV.out
     rw [h1, h2]
     refine ⟨⟨za, _, zc, rfl, fun v e => by cases e; exact h3⟩, ?_⟩
     obtain ⟨H', S', p', a1, a2, a3, a4⟩ := HLK4.out
     exact ⟨H', S', p', a1, a2, a3, by have := HG1.out.2.2.2.2.2.2.2; omega⟩
    | false =>
     have hmiss : ¬ nd.keys[placeB k nd.keys]? = some k := of_decide_eq_false HPL.out.2.symm
     rw [if_neg hmiss] at hgp
     have HGV := HoldT.mk hgp
     clear hmiss hb4 hbr4 hN4 hgp
     go_wp2_with fail
     refine bodyPost_ret (v := .tuple #[.slice none 0 0, .bool false, .int .i64 0]) (by simp [results, Tryz.results16, go_sem]) rfl ?_
     rw [HGV.out]
     refine ⟨⟨none, 0, 0, rfl, fun v e => by cases e⟩, ?_⟩
     obtain ⟨H', S', p', a1, a2, a3, a4⟩ := HLK4.out
     exact ⟨H', S', p', a1, a2, a3, by have := HG1.out.2.2.2.2.2.2.2; omega⟩
   | succ g =>
    have hlf : lf = false := by rw [HN.out.2.2.2.2.2.1, HN.out.2.1]; rfl
    subst hlf
    obtain ⟨z, hz, hkl⟩ := kid_at HG1.out.2.2.2.2.1.wf k
    obtain ⟨pl, hpl⟩ : ∃ x, x = kidB k nd.keys := ⟨_, rfl⟩
    have hpk : pl = kidB k t.2.2 := by rw [hpl, HN.out.2.1]; rfl
    have hkk : nd.kids[pl]? = some (pgT g z) := by
     rw [hpk, HN.out.2.1]
     show (t.2.1.map (pgT g))[_]? = _
     rw [List.getElem?_map, hz]; rfl
    have hI : (pl : Int) < (m3 : Int) := by
     have h1 := (List.getElem?_eq_some_iff.1 hkk).1
     rw [HN.out.2.2.2.2.1, List.length_map]; omega
    obtain ⟨jb, jo, rfl, hkc⟩ := sat_cell H3.out.1.own.nat.kids (mem_map_nat.2 hkk)
    have hkc : w3.cell? ⟨jb, jo + pl, none⟩ = some (.int .i64 (pgT g z : Int)) := hkc
    have hjl := lt_of_cell hkc
    have hrl := heap_lt H3.out.2.2.2.2
    have g0 := KeepS.cell (P := fun b => b < w3.heap.size) y0 hrl
    have g1 := KeepS.cell (P := fun b => b < w3.heap.size) y1 hrl
    have g2 := KeepS.cell (P := fun b => b < w3.heap.size) y2 hrl
    have g3 := KeepS.cell (P := fun b => b < w3.heap.size) y3 hrl
    have g4 := KeepS.cell (P := fun b => b < w3.heap.size) hkc hjl
    have HZ := HoldT.mk (And.intro hz hpk)
    clear hkk hkc hjl hrl hz hpk hpl hkl
    go_upto_region 14 with (fail)
    refine wp_region_mixC (KeepSC (fun b => b < w3.heap.size) w3) 8 rfl (by kernel_rfl) ?_
    have HDR := HoldT.mk ((Below.refl w3.heap.size w3).drew)
    have HST : HoldT (∀ q : Nat, w3.drew.heap[q]? = w3.heap[q]?) := ⟨fun _ => rfl⟩
    have hkid : HoldT (Calls Tryz.prog 35 #[.agg #[.bool false, .slice ka m1 kc, .slice va m2 vc, .slice (some ⟨jb, jo, none⟩) m3 ic], .slice xa xl xc] w3.drew fun e w' => e = .returned (.int .i64 (pl : Int)) /\ Below w3.drew.heap.size w3.drew w') := ⟨by
     have HF2 := tree_kid (H3.out.1.below HDR.out).own.nat H3.out.2.2.1 H3.out.2.2.2.1 (H3.out.2.1.mono RY_mono (cfU_below HDR.out))
     unfold nodeV at HF2
     rw [<- HN.out.2.2.2.2.2.1, show kidB k nd.keys = pl by rw [HZ.out.2, HN.out.2.1]; rfl] at HF2
     exact HF2⟩
    generalize w3.drew = v4 at HDR HST hkid |-
    refine mixl_seg (by kernel_rfl) (fun _ _ d _ _ h => by cases d <;> exact h) [0, 1, 2, 3] [_, _, _, _] 4 8 rfl _ _ _ rfl (by kernel_rfl) (keepSC fun q _ => HST.out q) ?_
    repeat (go_big_quiet_step (fail))
    refine wpQuiet_nil ?_
    refine mixl_act (i := 4) rfl (by kernel_rfl) (keepSC fun q _ => HST.out q) rfl (fun K hK => ?_)
    go_wp2_with fail
    refine hkid.out.mono ?_
    rintro e w5 ⟨rfl, hb5⟩
    have hq5 : ∀ b, b < w3.heap.size -> w5.heap[b]? = w3.heap[b]? := fun b hb => (hb5.block b (Nat.lt_of_lt_of_le hb HDR.out.size)).trans (HST.out b)
    have H5 := HoldT.mk (And.intro hq5 (HLK3.out.below (HDR.out.trans (hb5.mono HDR.out.size))))
    clear hq5 hb5
    simp only
    go_wp2_with fail
    refine mixl_seg (by kernel_rfl) (fun _ _ d _ _ h => by cases d <;> exact h) [5, 6, 7] [_, _, _] 0 3 rfl _ _ _ rfl (by kernel_rfl) (keepSC H5.out.1) ?_
    repeat (go_big_quiet_step (fail))
    refine wpQuiet_nil ?_
    refine mix_done (by kernel_rfl) (keepSC H5.out.1) ?_
    clear g0 g1 g2 g3 g4 y0 y1 y2 y3
    go_wp2_with fail
    refine ⟨⟨d + 1, (pgT g z : Int), by go_num, rfl, by omega, ⟨.inr ⟨g, z, rfl, by have := HG1.out.2.2.2.2.2.2.2; omega, (HG1.out.2.2.2.2.1.kid HZ.out.1).same ⟨HG1.out.2.1.1.symm, fun m => (HG1.out.2.1.2 m).symm⟩, ?_⟩, by omega, by have := HG1.out.2.2.2.2.2.2.2; omega, H5.out.2⟩⟩, by simp [intOf]; omega⟩
    have h1 : getE k (esT (g + 1) t) = getE k (esT g z) := get_kid HG1.out.2.2.2.2.1.wf HZ.out.1
    rw [<- h1]; exact HG1.out.2.2.2.2.2.2.1
end Go.Proofs.YtafilaiinbggoaaGreat
