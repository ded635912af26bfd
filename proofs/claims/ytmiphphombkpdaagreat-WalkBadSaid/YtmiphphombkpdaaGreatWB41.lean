import Derived.Test.YtmiphphombkpdaaGreatWB31
import Derived.Test.YtmiphphombkpdaaGreatWB40
namespace Go.Proofs.YtmiphphombkpdaaGreat
open Go.RowKit Go.Maps
theorem TopIn.same {S S' : PS} {o : Top} {root : Int} (h : TopIn S o root) (hs : SameP S S') : TopIn S' o root := by
 match o, h with
 | none, h => exact h
 | some ⟨g, t⟩, h => exact ⟨h.1, h.2.same hs⟩
theorem top_moves {S S' : PS} {o : Top} {root : Int} (h : TopIn S o root) (hs : SameP S S') : Moves S S' (pagesO o) (pagesO o) := by
 match o, h with
 | none, _ => exact hs.moves
 | some ⟨g, t⟩, h =>
  have h1 := hs.moves.wide h.2.nd (fun p _ e => by cases e) h.2.fresh
  rw [List.append_nil] at h1
  exact h1
def DelPost (Q : PQ) (R : Int -> Option Bts) (H : HS) (S : PS) (p tb : Nat) (o : Top) (k : Bts) (w : World) (e : Ending) (w' : World) : Prop :=
 ∃ (o' : Top) (root' : Int) (H' : HS) (S' : PS) (p' : Nat), e = .returned (.tuple #[.bool (getE k (esO o)).isSome, .int .i64 0]) /\ PG Q R H' S' p' w' /\ TB H' w' tb Q.pb root' /\ TopIn S' o' root' /\ ((getE k (esO o)).isSome = true -> CutTop o k o') /\ ((getE k (esO o)).isSome = false -> o' = o) /\ Moves S S' (pagesO o) (pagesO o') /\ TurnS (fun b => H.all b \/ b = tb) w (fun b => H'.all b \/ b = tb) w' /\ p' <= p + (200 * heightO o + 40)
structure DL (Q : PQ) (R : Int -> Option Bts) (H0 : HS) (S0 : PS) (tb : Nat) (o : Top) (k : Bts) (w : World) (pm g : Nat) (v : Tree g) (H : HS) (S : PS) (p : Nat) (w' : World) : Prop where
 pg : PG Q R H S p w'
 tbx : TB H w' tb Q.pb (pgT g v : Int)
 wf : WFS g v
 sits : sitsT (contP S) g v
 mv : Moves S0 S (pagesO o) (pagesT g v)
 turn : TurnS (fun b => H0.all b \/ b = tb) w (fun b => H.all b \/ b = tb) w'
 few : p <= pm
 lift : ¬ thinT g v -> CutTop o k (some ⟨g, v⟩)
theorem DL.post {Q : PQ} {R : Int -> Option Bts} {H0 H H' : HS} {S0 S S' : PS} {p0 tb : Nat} {o : Top} {k : Bts} {w w' w2 : World} {pm g : Nat} {v : Tree g} {p p' : Nat} (h : DL Q R H0 S0 tb o k w pm g v H S p w') (hth : ¬ thinT g v) (hs : (getE k (esO o)).isSome = true) (hG : PG Q R H' S' p' w2) (hS : SameP S S') (hT : TurnS H.all w' H'.all w2) (hp : p' <= p0 + (200 * heightO o + 40)) : DelPost Q R H0 S0 p0 tb o k w (.returned (.tuple #[.bool true, .int .i64 0])) w2 := by
 have hw := wft_of g h.wf hth
 refine ⟨some ⟨g, v⟩, _, H', S', p', by rw [hs], hG, h.tbx.turn hT, ⟨rfl, hw, sits_same g (fun q _ => hS.2 q) h.sits, h.mv.nd, fun q hq => by rw [hS.1]; exact h.mv.fresh q hq⟩, fun _ => h.lift hth, fun e => (by rw [hs] at e; cases e), ?_, h.turn.trans hT.wide, hp⟩
 have h1 := hS.moves.wide h.mv.nd (fun p _ e => by cases e) h.mv.fresh
 rw [List.append_nil] at h1
 exact h.mv.trans h1
theorem not_thin {g : Nat} {v : Tree g} (h : (ndT g v).leaf = true \/ 0 < (ndT g v).keys.length) : ¬ thinT g v := by
 cases g with
 | zero => exact fun e => e
 | succ g =>
  rcases h with e | e
  ·cases e
  ·exact fun e2 => by have h3 : v.2.2 = [] := e2; have h4 : 0 < v.2.2.length := e; rw [h3] at h4; simp at h4
theorem DL.down {Q : PQ} {R : Int -> Option Bts} {H0 H H' : HS} {S0 S : PS} {tb : Nat} {o : Top} {k : Bts} {w w' w2 : World} {pm g : Nat} {v : Tree (g + 1)} {z : Tree g} {p p' : Nat} (h : DL Q R H0 S0 tb o k w pm (g + 1) v H S p w') (hz : v.2.1[0]? = some z) (hth : v.2.2 = []) (hcut : CutTop o k (some ⟨g, z⟩)) {S' : PS} (hM : Moves S S' [v.1] []) (hG : PG Q R H' S' p' w2) (htb : TB H' w2 tb Q.pb (pgT g z : Int)) (hT : TurnS (fun b => H.all b \/ b = tb) w' (fun b => H'.all b \/ b = tb) w2) (hp : p' <= pm) : DL Q R H0 S0 tb o k w pm g z H' S' p' w2 := by
 have hl : v.2.1.length = v.2.2.length + 1 := h.wf.1
 have hv : v.2.1 = [z] := by
  rw [hth] at hl
  match hv : v.2.1, hl, hz with
  | [a], _, hz => have := Option.some.inj (by simpa [hv] using hz); rw [<- this]
 have hp1 : pagesT (g + 1) v = v.1 :: pagesT g z := by show v.1 :: v.2.1.flatMap (pagesT g) = _; rw [hv]; simp
 have hn := h.mv.nd
 rw [hp1] at hn
 obtain ⟨n1, n2⟩ := List.nodup_cons.1 hn
 have hf : ∀ q ∈ pagesT g z, S.is[q]? = some 2 := fun q hq => h.mv.fresh q (by rw [hp1]; exact List.mem_cons_of_mem _ hq)
 have hd : ∀ q ∈ pagesT g z, q ∉ [v.1] := fun q hq e => n1 (by rw [<- List.mem_singleton.1 e]; exact hq)
 have h1 : Moves S S' (pagesT g z ++ [v.1]) (pagesT g z ++ []) := hM.wide n2 hd hf
 have h2 : Moves S S' (pagesT (g + 1) v) (pagesT g z) := h1.perm (by rw [hp1]; exact List.perm_append_comm (l₁ := [v.1])) (by simp)
 have hmz : z ∈ v.2.1 := by rw [hv]; exact List.mem_singleton.2 rfl
 exact ⟨hG, htb, wfs_of g (h.wf.2.2.2.2.1 z hmz), hM.sits (h.sits.2 z hmz) hd hf, h.mv.trans h2, h.turn.trans hT, hp, fun _ => hcut⟩
theorem down_page {h g pt : Nat} {u : Tree h} {v : Tree g} (hg : g = h) (hv : HEq v u) (hp : pgT h u = pt) : pgT g v = pt := by
 subst hg
 obtain rfl := eq_of_heq hv
 exact hp
theorem down_cut {h g : Nat} {t u : Tree h} {v : Tree (g + 1)} {z : Tree g} {k : Bts} (hg : g + 1 = h) (hv : HEq v u) (hc : CutR h t k (some u)) (hth : v.2.2 = []) (hz : v.2.1[0]? = some z) : CutTop (some ⟨h, t⟩) k (some ⟨g, z⟩) := by
 subst hg
 obtain rfl := eq_of_heq hv
 exact ⟨some v, hc, .inr ⟨g, rfl, z, hth, hz, rfl⟩⟩
noncomputable def atRoot (tb : Nat) (u : Value) (w : World) : Nat := @ite _ (w.cell? ⟨tb, 1, none⟩ = some u) (Classical.propDecidable _) 1 0
theorem atRoot_1 {tb : Nat} {u : Value} {w : World} (h : w.cell? ⟨tb, 1, none⟩ = some u) : atRoot tb u w = 1 := if_pos h
theorem atRoot_0 {tb : Nat} {u : Value} {w : World} (h : w.cell? ⟨tb, 1, none⟩ ≠ some u) : atRoot tb u w = 0 := if_neg h
set_option maxHeartbeats 16000000 in
set_option maxRecDepth 100000 in
theorem tree_Delete {Q : PQ} {R : Int -> Option Bts} {H : HS} {S : PS} {p tb n : Nat} {root : Int} {o : Top} {k : Bts} {ks : Value} {w : World} (h : PG Q R H S p w) (ht : TB H w tb Q.pb root) (ho : TopIn S o root) (hp : p <= 999900000) (hhh : heightO o <= 19) (hok : okO n o) (hn : n <= 80) (hyk : YAt (cfU w) ks k) (hf : 2 * heightO o + 3 <= freeP S) :
  Calls Tryz.prog 29 #[.pointer (some ⟨tb, 0, none⟩), ks] w (DelPost Q R H S p tb o k w) := by
 have HRM := HoldT.mk (tree_room h ht ho.root (by omega) (by omega) hf)
 obtain ⟨xa, xc, rfl⟩ := hyk.form
 obtain ⟨xl, hxl⟩ : ∃ x, x = k.length := ⟨_, rfl⟩
 rw [<- hxl] at hyk |-
 obtain ⟨hh, hhe⟩ : ∃ x, x = heightO o := ⟨_, rfl⟩
 rw [<- hhe] at hhh
 have HH := HoldT.mk (And.intro h (And.intro ht (And.intro ho (And.intro hp (And.intro hok (And.intro hn (And.intro hyk hhe)))))))
 obtain ⟨fd, hfd⟩ : ∃ x, x = (getE k (esO o)).isSome := ⟨_, rfl⟩
 have HFD := HoldT.mk hfd
 clear h ht ho hp hok hn hyk hf hxl hhe hfd
 go_enter Tryz.func29, Tryz.ntmps29
 go_wp2_with fail
 refine HRM.out.mono ?_
 rintro e w1 ⟨rfl, H1, S1, p1, hG1, hS1, hT1, hp1⟩
 have hyk1 := HH.out.2.2.2.2.2.2.1.mono RY_mono (cfU_turn hT1 HH.out.1.noU)
 rw [<- HH.out.2.2.2.2.2.2.2] at hp1
 have HGT := tree_get hG1 (HH.out.2.1.turn hT1) (HH.out.2.2.1.same hS1) (by have := HH.out.2.2.2.1; omega) (by rw [<- HH.out.2.2.2.2.2.2.2]; omega) hyk1
 have HGT := HoldT.mk HGT
 have H1' := HoldT.mk (And.intro hG1 (And.intro hS1 (And.intro hT1 hp1)))
 clear hG1 hS1 hT1 hp1 hyk1
 go_wp2_with fail
 refine HGT.out.mono ?_
 rintro e w2 ⟨⟨va, vl, vc, rfl, _⟩, H2, S2, p2, hG2, hS2, hT2, hp2⟩
 rw [<- HH.out.2.2.2.2.2.2.2] at hp2
 rw [<- HFD.out]
 have hT02 : TurnS H.all w H2.all w2 := H1'.out.2.2.1.trans hT2
 have H2' := HoldT.mk (And.intro hG2 (And.intro (H1'.out.2.1.trans hS2) (And.intro hT02 (show p2 <= p + 8 * hh by have := H1'.out.2.2.2; omega))))
 clear hG2 hS2 hT2 hp2 hT02
 cases fd with
 | false =>
  have HFIN : HoldT (DelPost Q R H S p tb o k w (.returned (.tuple #[.bool false, .int .i64 0])) w2) := ⟨⟨o, root, H2, S2, p2, by rw [<- HFD.out], H2'.out.1, HH.out.2.1.turn H2'.out.2.2.1, HH.out.2.2.1.same H2'.out.2.1, fun e => (by rw [<- HFD.out] at e; cases e), fun _ => rfl, top_moves HH.out.2.2.1 H2'.out.2.1, H2'.out.2.2.1.wide, by have h1 := H2'.out.2.2.2; have h2 := HH.out.2.2.2.2.2.2.2; omega⟩⟩
  go_wp2_with fail
  refine bodyPost_ret (v := .tuple #[.bool false, .int .i64 0]) (by simp [results, Tryz.results29, go_sem]) rfl ?_
  exact HFIN.out
 | true =>
  obtain ⟨h, t, hot⟩ : ∃ h t, o = some ⟨h, t⟩ := by
   cases o with
   | none => have := HFD.out; cases this
   | some x => exact ⟨x.1, x.2, rfl⟩
  subst hot
  have hto := HH.out.2.2.1.same H2'.out.2.1
  have hrt : root = (pgT h t : Int) := hto.1
  subst hrt
  have hhh2 : hh = h + 1 := HH.out.2.2.2.2.2.2.2
  have hok : WFT h t /\ shortT h t /\ phiT h t <= n + 1 := HH.out.2.2.2.2.1
  have hci : CutIn Q R H2 S2 p2 tb (pgT h t : Int) 1 h t k (.slice xa xl xc) w2 := ⟨H2'.out.1, HH.out.2.1.turn H2'.out.2.2.1, by have h1 := H2'.out.2.2.2; have h2 := HH.out.2.2.2.1; omega, by omega, hto.2, hok.2.1, by have := HH.out.2.2.2.2.2.1; have := hok.2.2; omega, HH.out.2.2.2.2.2.2.1.mono RY_mono (cfU_turn H2'.out.2.2.1 HH.out.1.noU)⟩
  have HCT := HoldT.mk (tree_cut h hci)
  obtain ⟨x0, x1⟩ := (HH.out.2.1.turn H2'.out.2.2.1).cells
  have HOK := HoldT.mk (And.intro hok (And.intro hto hhh2))
  obtain ⟨pt, hpt⟩ : ∃ x, x = pgT h t := ⟨_, rfl⟩
  rw [<- hpt] at HCT x1
  have HPT := HoldT.mk hpt
  clear hci hok hto hhh2 hpt
  go_wp2_with fail
  refine HCT.out.mono ?_
  rintro e w3 ⟨c, H3, S3, p3, rfl, hCM, hG3, hT3, hp3⟩
  clear x0 x1
  have htb3 := (HH.out.2.1.turn H2'.out.2.2.1).turn hT3
  have hbx3 := htb3.box
  obtain ⟨x0, x1⟩ := htb3.cells
  have f1 : w3.frozen? ⟨tb, 1, none⟩ = false := by simp [World.frozen?, hbx3]
  have hco := cut_ok h HOK.out.1.1 HOK.out.1.2.1 (by have h1 := HOK.out.1.2.2; have h2 := HH.out.2.2.2.2.2.1; omega) hCM.1
  have H3' := HoldT.mk (And.intro hCM (And.intro hG3 (And.intro hT3 (And.intro hp3 (And.intro htb3 hco)))))
  clear hCM hG3 hT3 hp3 htb3 hbx3 hco
  obtain ⟨pc, hpc⟩ : ∃ x, x = pageO c := ⟨_, rfl⟩
  rw [<- hpc]
  have HPC := HoldT.mk hpc
  clear hpc
  go_upto_region 13 with (fail)
  obtain ⟨w4, hw4⟩ : ∃ x, x = w3.setCell ⟨tb, 1, none⟩ (.int .i64 pc) := ⟨_, rfl⟩
  rw [<- hw4]
  clear x0 x1 f1
  have hg4 : w3.grownBy w4 (some tb) := by rw [hw4]; exact set6_grown _ _
  have hb4 : w4.heap[tb]? = some (.cells #[.pointer (some ⟨Q.pb, 0, none⟩), .int .i64 pc] 95 (0, 0)) := by rw [hw4, set_selfT H3'.out.2.2.2.2.1.box]; rfl
  have hG4 : PG Q R H3 S3 p3 w4 := H3'.out.2.1.beside hg4 (fun b e => by cases e; exact ⟨H3'.out.2.2.2.2.1.off, fun ⟨_, _, e2⟩ => by rw [H3'.out.2.2.2.2.1.box] at e2; cases e2⟩)
  have hT04 : TurnS (fun b => H.all b \/ b = tb) w (fun b => H3.all b \/ b = tb) w4 := ((H2'.out.2.2.1.trans H3'.out.2.2.1).wide).trans (TurnS.grown hg4 fun b e => by cases e; exact .inl (.inr rfl))
  have htb4 : TB H3 w4 tb Q.pb pc := ⟨hb4, H3'.out.2.2.2.2.1.off⟩
  have hp34 : p3 <= p + (160 * hh + 0) := by have h1 := H2'.out.2.2.2; have h2 := H3'.out.2.2.2.1; have h3 := HOK.out.2.2; omega
  have hm03 := H3'.out.1.2.1.before H2'.out.2.1
  have H4' := HoldT.mk (And.intro hG4 (And.intro hT04 (And.intro htb4 (And.intro hp34 hm03))))
  clear hw4 hg4 hb4 hG4 hT04 htb4 hp34 hm03
  cases c with
  | none =>
   obtain rfl : pc = -1 := HPC.out
   have HFIN : HoldT (DelPost Q R H S p tb (some ⟨h, t⟩) k w (.returned (.tuple #[.bool true, .int .i64 0])) w4) := ⟨⟨none, -1, H3, S3, p3, by rw [<- HFD.out], H4'.out.1, H4'.out.2.2.1, rfl, fun _ => ⟨none, H3'.out.1.1, rfl⟩, fun e => (by rw [<- HFD.out] at e; cases e), H4'.out.2.2.2.2, H4'.out.2.1, by have h1 := H4'.out.2.2.2.1; have h2 : heightO (some ⟨h, t⟩) = h + 1 := rfl; have h3 := HOK.out.2.2; omega⟩⟩
   obtain ⟨x0, x1⟩ := H4'.out.2.2.1.cells
   have HX := HoldT.mk (And.intro x0 x1)
   clear x0 x1
   go_loopw [12, 13, 14] (fun s12 s13 s14 wr => wr = w4) (fun _ _ _ _ => 0)
   case atStart => rfl
   case round =>
    obtain rfl := hrel.symm
    obtain ⟨x0, x1⟩ := HX.out
    go_wp2_with fail
    refine bodyPost_ret (v := .tuple #[.bool true, .int .i64 0]) (by simp [results, Tryz.results29, go_sem]) rfl ?_
    exact HFIN.out
  | some u =>
   obtain ⟨hcw, hce, hcs, hcp⟩ : WFS h u /\ esT h u = delE k (esT h t) /\ shortT h u /\ phiT h u <= phiT h t := H3'.out.2.2.2.2.2
   have hpu : pgT h u = pt := ((H3'.out.1.2.2 u rfl).2).trans HPT.out.symm
   have hpcu : pc = (pgT h u : Int) := HPC.out
   have HDL0 : HoldT (DL Q R H S tb (some ⟨h, t⟩) k w (p + 160 * hh + 8) h u H3 S3 p3 w4) := ⟨⟨H4'.out.1, hpcu ▸ H4'.out.2.2.1, hcw, (H3'.out.1.2.2 u rfl).1, H4'.out.2.2.2.2, H4'.out.2.1, by have := H4'.out.2.2.2.1; omega, fun hth => ⟨some u, H3'.out.1.1, .inl ⟨hth, rfl⟩⟩⟩⟩
   have HCU := HoldT.mk (And.intro hcw hpu)
   clear hcw hce hcs hcp hpu hpcu
   go_loopw [12, 13, 14] (fun s12 s13 s14 wr => ∃ (f : Bool) (g : Nat) (v : Tree g) (H5 : HS) (S5 : PS) (p5 : Nat), HoldT (DL Q R H S tb (some ⟨h, t⟩) k w (p + 160 * hh + 8) g v H5 S5 p5 wr /\ (f = true -> p5 <= p + 160 * hh /\ g = h /\ HEq v u) /\ (f = false -> ¬ thinT g v /\ pgT g v ≠ pt))) (fun _ _ _ wr => atRoot tb (.int .i64 (pt : Int)) wr)
   case atStart => exact ⟨true, h, u, H3, S3, p3, ⟨HDL0.out, fun _ => ⟨by have := H4'.out.2.2.2.1; omega, rfl, HEq.rfl⟩, fun e => by cases e⟩⟩
   case round =>
    obtain ⟨f, g, v, H5, S5, p5, HJ⟩ := hrel
    obtain ⟨x0, x1⟩ := HJ.out.1.tbx.cells
    obtain ⟨pv, hpv⟩ : ∃ x, x = pgT g v := ⟨_, rfl⟩
    have hlow : ∀ q ∈ pagesT g v, q <= 2147483647 := fun q hq => low_page HJ.out.1.pg (HJ.out.1.mv.fresh q hq)
    have HRD := tree_read (deep := 1) HJ.out.1.pg HJ.out.1.tbx (by have h1 := HJ.out.1.few; have h2 := HH.out.2.2.2.1; omega) (HJ.out.1.mv.fresh _ (pg_mem g v)) (.inr rfl) (by omega) (shTS HJ.out.1.wf hlow) (sz_treeS HJ.out.1.wf) (sitsNS HJ.out.1.wf HJ.out.1.sits)
    rw [<- hpv] at HRD x1
    have HRD := HoldT.mk HRD
    have HPV := HoldT.mk (And.intro hpv hlow)
    have hpv1 : ¬ ((pv : Int) = -1) := by omega
    have HX1 := HoldT.mk x1
    clear hpv hlow
    go_wp2_with fail
    refine HRD.out.mono ?_
    rintro e w6 ⟨kv, vv, iv, H6, S6, p6, rfl, hN, hG6, hS6, hT6, hp6⟩
    clear x0 x1
    obtain ⟨ka, kc, rfl⟩ := hN.own.nat.keys.form
    obtain ⟨wa, wc, rfl⟩ := hN.own.nat.vals.form
    obtain ⟨ia, ic, rfl⟩ := hN.own.nat.kids.form
    rw [List.length_map] at hN |-
    obtain ⟨lv, hlv⟩ : ∃ x, x = (ndT g v).leaf := ⟨_, rfl⟩
    obtain ⟨c1, hc1⟩ : ∃ x, x = (ndT g v).keys.length := ⟨_, rfl⟩
    obtain ⟨c2, hc2⟩ : ∃ x, x = (ndT g v).vals.length := ⟨_, rfl⟩
    obtain ⟨c3, hc3⟩ : ∃ x, x = (ndT g v).kids.length := ⟨_, rfl⟩
    unfold nodeV
    rw [<- hc1, <- hc2, <- hc3] at hN |-
    rw [<- hlv]
    have hc19 : c1 <= 9000 := by rw [hc1]; exact (shTS HJ.out.1.wf HPV.out.2).few
    have hc39 : c3 <= 10001 := by rw [hc3]; exact (shTS HJ.out.1.wf HPV.out.2).fewN.kids
    have H6' := HoldT.mk (And.intro hG6 (And.intro hS6 (And.intro hT6 (And.intro hp6 (And.intro hN (And.intro hlv (And.intro hc1 hc3)))))))
    clear hN hG6 hS6 hT6 hp6 hlv hc1 hc2 hc3
    go_upto_region 17 with (fail)
    obtain ⟨w7, hw7⟩ : ∃ x, x = w6.alloc (.cells #[.bool lv, .slice ka c1 kc, .slice wa c2 wc, .slice ia c3 ic] 104) := ⟨_, rfl⟩
    obtain ⟨q12, hq12⟩ : ∃ x, x = w6.heap.size := ⟨_, rfl⟩
    rw [<- hw7, <- hq12]
    have hb7 : Below w6.heap.size w6 w7 := by rw [hw7]; exact (Below.refl _ w6).alloc (Nat.le_refl _) _
    have hbq : w7.heap[q12]? = some (.cells #[.bool lv, .slice ka c1 kc, .slice wa c2 wc, .slice ia c3 ic] 104 (0, 0)) := by rw [hw7, hq12]; exact heap_alloc_new w6 _
    have HB7 := HoldT.mk (And.intro hb7 (And.intro hbq hq12))
    have hG7 := H6'.out.1.below hb7
    have hT7 : TurnS H5.all wr H6.all w7 := H6'.out.2.2.1.then hb7
    have HFIN : HoldT ((lv = true \/ 0 < c1) -> DelPost Q R H S p tb (some ⟨h, t⟩) k w (.returned (.tuple #[.bool true, .int .i64 0])) w7) := ⟨fun hx => HJ.out.1.post (not_thin (by rw [<- H6'.out.2.2.2.2.2.1, <- H6'.out.2.2.2.2.2.2.1]; exact hx)) HFD.out.symm hG7 H6'.out.2.1 hT7 (by have h1 := HJ.out.1.few; have h2 := H6'.out.2.2.2.1; have h3 : heightO (some ⟨h, t⟩) = h + 1 := rfl; have h4 := HOK.out.2.2; omega)⟩
    have H7' := HoldT.mk (And.intro hG7 hT7)
    have z0 : w7.cell? ⟨q12, 0, none⟩ = some (.bool lv) := by simp [World.cell?, hbq]
    have z1 : w7.cell? ⟨q12, 1, none⟩ = some (.slice ka c1 kc) := by simp [World.cell?, hbq]
    clear hw7 hq12 hb7 hbq hG7 hT7
    cases lv with
    | true =>
     go_wp2_with fail
     refine bodyPost_ret (v := .tuple #[.bool true, .int .i64 0]) (by simp [results, Tryz.results29, go_sem]) rfl ?_
     exact HFIN.out (.inl (by simp))
    | false =>
     by_cases hc0 : 0 < c1
     ·have hcI : (0 : Int) < (c1 : Int) := by omega
      go_wp2_with fail
      refine bodyPost_ret (v := .tuple #[.bool true, .int .i64 0]) (by simp [results, Tryz.results29, go_sem]) rfl ?_
      exact HFIN.out (.inr hc0)
     ·obtain rfl : c1 = 0 := by omega
      obtain ⟨g', rfl⟩ : ∃ g', g = g' + 1 := by
       cases g with
       | zero => exact absurd H6'.out.2.2.2.2.2.1 (fun e => by cases e)
       | succ g => exact ⟨g, rfl⟩
      have hth : v.2.2 = [] := List.length_eq_zero_iff.1 H6'.out.2.2.2.2.2.2.1.symm
      cases f with
      | false => exact absurd hth (HJ.out.2.2 rfl).1
      | true =>
       have hjt := HJ.out.2.1 rfl
       obtain ⟨z, hz⟩ : ∃ z, v.2.1[0]? = some z := ⟨_, List.getElem?_eq_getElem (by have h1 : v.2.1.length = v.2.2.length + 1 := HJ.out.1.wf.1; omega)⟩
       have hzm := List.mem_of_getElem? hz
       have hzw : WFT g' z := HJ.out.1.wf.2.2.2.2.1 z hzm
       have hvp : pgT (g' + 1) v = pt := down_page hjt.2.1 hjt.2.2 HCU.out.2
       have hpvt : pv = pt := HPV.out.1.trans hvp
       have hzp : pgT g' z ≠ pt := fun e => by
        have h1 : (v.1 :: v.2.1.flatMap (pagesT g')).Nodup := HJ.out.1.mv.nd
        refine (List.nodup_cons.1 h1).1 ?_
        have h2 : v.1 = pt := hvp
        rw [h2, <- e]
        exact List.mem_flatMap.2 ⟨z, hzm, pg_mem g' z⟩
       have hcz : CutTop (some ⟨h, t⟩) k (some ⟨g', z⟩) := down_cut hjt.2.1 hjt.2.2 H3'.out.1.1 hth hz
       have htb7 := HJ.out.1.tbx.turn H7'.out.2
       rw [<- HPV.out.1] at htb7
       obtain ⟨x0, x1⟩ := htb7.cells
       have pt7 : tb < w7.heap.size /\ ¬ H6.all tb := ⟨heap_lt htb7.box, htb7.off⟩
       have hfr7 : S6.is[pv]? = some 2 := by rw [H6'.out.2.1.1, HPV.out.1]; exact HJ.out.1.mv.fresh _ (pg_mem (g' + 1) v)
       have g0 := KeepS.cell (P := fun b => b < w7.heap.size /\ ¬ H6.all b) x0 pt7
       have g1 := KeepS.cell (P := fun b => b < w7.heap.size /\ ¬ H6.all b) x1 pt7
       have HZ := HoldT.mk (And.intro hz (And.intro hzw (And.intro hzp (And.intro hcz (And.intro hth (And.intro htb7 (And.intro hfr7 (And.intro hpvt hjt.1))))))))
       clear hz hzw hzp hcz hth htb7 hfr7 hpvt hjt hvp hzm x0 x1 pt7
       go_upto_region 18 with (fail)
       clear z0 z1
       refine wp_region_mixC (KeepSC (fun b => b < w7.heap.size /\ ¬ H6.all b) w7) 10 rfl (by kernel_rfl) ?_
       have HDR := HoldT.mk ((Below.refl w7.heap.size w7).drew)
       generalize w7.drew = w8 at HDR |-
       refine mixl_seg (by kernel_rfl) (fun _ _ d _ _ h => by cases d <;> exact h) [0, 1, 2, 3, 4, 5, 6, 7] [_, _, _, _, _, _, _, _] 2 10 rfl _ _ _ rfl (by kernel_rfl) (keepSC fun b hb => HDR.out.block b hb.1) ?_
       repeat (go_big_quiet_step (fail))
       refine wpQuiet_nil ?_
       clear g0 g1
       have HFR := HoldT.mk (pages_free (H7'.out.1.below HDR.out) HZ.out.2.2.2.2.2.2.1 (.inl ⟨rfl, rfl⟩))
       refine mixl_act (i := 8) rfl (by kernel_rfl) (keepSC fun b hb => HDR.out.block b hb.1) rfl (fun K hK => ?_)
       go_wp2_with fail
       refine HFR.out.mono ?_
       rintro e w9 ⟨rfl, hG9, hT9⟩
       have hG9 : PG Q R H6 (freeAt pv S6) p6 w9 := hG9
       have HC9 : HoldT (∀ b, b < w7.heap.size /\ ¬ H6.all b -> w9.heap[b]? = w7.heap[b]?) := ⟨fun b hb => (hT9.out b (Nat.lt_of_lt_of_le hb.1 HDR.out.size) hb.2).1.trans (HDR.out.block b hb.1)⟩
       have hN9 := ((H6'.out.2.2.2.2.1.below HB7.out.1).below HDR.out).turn hT9 (H7'.out.1.below HDR.out).noU
       have hq9 : w9.heap[q12]? = some (.cells #[.bool false, .slice ka 0 kc, .slice wa c2 wc, .slice ia c3 ic] 104 (0, 0)) := (HC9.out q12 ⟨heap_lt HB7.out.2.1, fun e => by have := H6'.out.1.lt q12 e; have := HB7.out.2.2; omega⟩).trans HB7.out.2.1
       have htb9 : TB H6 w9 tb Q.pb (pv : Int) := (HZ.out.2.2.2.2.2.1.below HDR.out).turn hT9
       have HY9 := HoldT.mk (And.intro hG9 (And.intro hT9 (And.intro hN9 htb9)))
       simp only
       go_wp2_with fail
       refine mixl_seg (by kernel_rfl) (fun _ _ d _ _ h => by cases d <;> exact h) [9] [_] 0 1 rfl _ _ _ rfl (by kernel_rfl) (keepSC HC9.out) ?_
       repeat (go_big_quiet_step (fail))
       refine wpQuiet_nil ?_
       refine mix_done (by kernel_rfl) (keepSC HC9.out) ?_
       have hkz : (ndT (g' + 1) v).kids[0]? = some (pgT g' z) := by
        show (v.2.1.map (pgT g'))[0]? = _
        rw [List.getElem?_map, HZ.out.1]; rfl
       obtain ⟨jb, jo, ej, hkc⟩ := sat_cell hN9.own.nat.kids (mem_map_nat.2 hkz)
       have hc30 : 0 < c3 := by rw [H6'.out.2.2.2.2.2.2.2]; exact (List.getElem?_eq_some_iff.1 hkz).1
       subst ej
       obtain ⟨pz, hpz⟩ : ∃ x, x = pgT g' z := ⟨_, rfl⟩
       rw [<- hpz] at hkc
       have hkc2 : w9.cell? ⟨jb, jo, none⟩ = some (.int .i64 (pz : Int)) := hkc
       have HPZ := HoldT.mk hpz
       have y3 : w9.cell? ⟨q12, 3, none⟩ = some (.slice (some ⟨jb, jo, none⟩) c3 ic) := by simp [World.cell?, hq9]
       obtain ⟨x0, x1⟩ := htb9.cells
       have hbx9 := htb9.box
       have f1 : w9.frozen? ⟨tb, 1, none⟩ = false := by simp [World.frozen?, hbx9]
       have hcI : (0 : Int) < (c3 : Int) := by omega
       clear hG9 hT9 hN9 hq9 htb9 hkz hpz hbx9
       obtain ⟨w10, hw10⟩ : ∃ x, x = w9.setCell ⟨tb, 1, none⟩ (.int .i64 (pz : Int)) := ⟨_, rfl⟩
       have hg10 : w9.grownBy w10 (some tb) := by rw [hw10]; exact set6_grown _ _
       have hb10 : w10.heap[tb]? = some (.cells #[.pointer (some ⟨Q.pb, 0, none⟩), .int .i64 (pz : Int)] 95 (0, 0)) := by rw [hw10, set_selfT HY9.out.2.2.2.box]; rfl
       have hG10 : PG Q R H6 (freeAt pv S6) p6 w10 := HY9.out.1.beside hg10 (fun b e => by cases e; exact ⟨HY9.out.2.2.2.off, fun ⟨_, _, e2⟩ => by rw [HY9.out.2.2.2.box] at e2; cases e2⟩)
       have hT10 : TurnS (fun b => H5.all b \/ b = tb) wr (fun b => H6.all b \/ b = tb) w10 := (((H7'.out.2.then HDR.out).trans HY9.out.2.1).wide).trans (TurnS.grown hg10 fun b e => by cases e; exact .inl (.inr rfl))
       have hMv : Moves S5 (freeAt pv S6) [v.1] [] := by
        have h1 := (free_moves H6'.out.1.inv HZ.out.2.2.2.2.2.2.1).2.before H6'.out.2.1
        have h2 : [pv] = [v.1] := congrArg (fun x => [x]) HPV.out.1
        rw [h2] at h1
        exact h1
       have hdn : DL Q R H S tb (some ⟨h, t⟩) k w (p + 160 * hh + 8) g' z H6 (freeAt pv S6) p6 w10 := HJ.out.1.down HZ.out.1 HZ.out.2.2.2.2.1 HZ.out.2.2.2.1 hMv hG10 (by rw [<- HPZ.out]; exact ⟨hb10, HY9.out.2.2.2.off⟩) hT10 (by have h1 := HZ.out.2.2.2.2.2.2.2.2; have h2 := H6'.out.2.2.2.1; omega)
       have ha1 : atRoot tb (.int .i64 (pt : Int)) wr = 1 := atRoot_1 (by rw [HX1.out, HZ.out.2.2.2.2.2.2.2.1])
       have ha0 : atRoot tb (.int .i64 (pt : Int)) w10 = 0 := atRoot_0 (by
        have h1 : w10.cell? ⟨tb, 1, none⟩ = some (.int .i64 (pz : Int)) := by simp [World.cell?, hb10]
        rw [h1, HPZ.out]
        exact fun e => HZ.out.2.2.1 (by simp only [Option.some.injEq, Value.int.injEq, true_and] at e; omega))
       have HND := HoldT.mk (And.intro hdn (And.intro ha1 ha0))
       have HW10 := HoldT.mk hw10
       clear hw10 hg10 hb10 hG10 hT10 hMv hdn ha1 ha0
       go_wp2_with fail
       rw [<- HW10.out]
       exact ⟨⟨false, g', z, H6, freeAt pv S6, p6, ⟨HND.out.1, fun e => (by cases e), fun _ => ⟨wft_thin g' HZ.out.2.1, HZ.out.2.2.1⟩⟩⟩, by rw [HND.out.2.1, HND.out.2.2]; decide⟩
end Go.Proofs.YtmiphphombkpdaaGreat
