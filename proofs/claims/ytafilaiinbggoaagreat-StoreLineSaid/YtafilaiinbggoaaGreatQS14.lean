import Derived.Test.YtafilaiinbggoaaGreatQS13
namespace Go.Proofs.YtafilaiinbggoaaGreat
open Go.RowKit Go.Maps
theorem pages_lost' {w : World} {H : BS} {Q : PQ} {S : PS} (h : PP H Q S w) : Calls Tryz.prog 82 #[.pointer (some ⟨Q.pb, 0, none⟩)] w fun e w' => e = .returned (.bool false) /\ w' = w := by
 obtain ⟨⟨_, _, _, _, _, h1, _⟩, _⟩ := h
 exact pages_lost h1
theorem pages_of' {w : World} {H : BS} {Q : PQ} {S : PS} {n s : Nat} (h : PP H Q S w) (hn : S.is[n]? = some s) : Calls Tryz.prog 81 #[.pointer (some ⟨Q.pb, 0, none⟩), .int .i64 (n : Int)] w fun e w' => e = .returned (.int .i64 (s : Int)) /\ w' = w := by
 obtain ⟨⟨_, _, _, _, _, h1, h2, _⟩, _⟩ := h
 exact pages_of h1 h2 hn
theorem drop_drop {pool n : Nat} {S : PS} (h : PInv pool S) : dropP n (dropP n S) = dropP n S := drop_none (drop_inv h) (if_pos rfl)
theorem put_drop {pool n : Nat} {b : Bts} {d : Bool} {S : PS} (h : PInv pool S) : putP pool n b d (dropP n S) = putP pool n b d S := by
 unfold putP
 rw [drop_drop h]
theorem row_base {B B' n m : Nat} {w : World} {T : TypeId} {sv : Value} {cs : List Value} (h : w.ownsRow B T n sv m cs) (hB : B' <= B) : w.ownsRow B' T n sv m cs := by
 refine ⟨h.1, ?_⟩
 rcases h.2 with e | ⟨g, cap, cur, e, e1, e2⟩
 ·exact .inl e
 ·exact .inr ⟨g, cap, cur, e, Nat.le_trans hB e1, e2⟩
theorem PG.widen {Q : PQ} {R : Int -> Option Bts} {H : HS} {S : PS} {p : Nat} {w : World} (h : PG Q R H S p w) {fb : Nat} {cs : Array Value} (hf : w.heap[fb]? = some (.cells cs 173 (0, 0))) (hn : ¬ H.d fb) : PG Q R ⟨H.d, fun q => H.p q \/ q = fb⟩ S p w := by
 obtain ⟨⟨ib, fm, uv, g, us, h1, h2, h3, h4, h5, h6, h7, h8, h9⟩, d1, d2, d3⟩ := h.own
 refine ⟨h.disk, ⟨⟨ib, fm, uv, g, us, h1, h2, h3, h4, h5, .inl h6, .inl h7, fun gb e => .inl (h8 gb e), fun k fb2 e => .inl (h9 k fb2 e)⟩, .inl d1, fun b hb => ?_, fun b hb => ?_⟩, fun b hb hp => ?_, h.inv, h.len, h.fit, h.pool1, h.poolm, h.inside⟩
 ·rcases hb with hb | rfl
  ·exact d2 b hb
  ·exact heap_lt hf
 ·rcases hb with hb | rfl
  ·exact d3 b hb
  ·rintro ⟨c2, fr, e⟩
   rw [hf] at e
   cases e
 ·rcases hp with hp | rfl
  ·exact h.apart b hb hp
  ·exact hn hb
def GetPost (Q : PQ) (R : Int -> Option Bts) (H : HS) (S : PS) (p n : Nat) (w : World) (e : Ending) (w' : World) : Prop :=
 ∃ sv cs H' p' d, e = .returned (.tuple #[sv, .int .i64 0]) /\ OwnS 1 RY 5 w.heap.size w' sv 1024 (contP S n) cs /\ PG Q R H' (putP Q.pool n (contP S n) d S) p' w' /\ (d = false -> contP S n = discP S n) /\ TurnS H.all w H'.all w' /\ p' <= p + 4
set_option maxHeartbeats 8000000 in
set_option maxRecDepth 100000 in
theorem pages_get_hit {Q : PQ} {R : Int -> Option Bts} {H : HS} {S : PS} {p n s : Nat} {w : World} {b : Bts} {d : Bool} (h : PG Q R H S p w) (hp : p <= 999999980) (hs : S.is[n]? = some s) (hs2 : s = 1 \/ s = 2) (hfr : S.fr n = some (b, d)) :
  Calls Tryz.prog 57 #[.pointer (some ⟨Q.pb, 0, none⟩), .int .i64 (n : Int)] w (GetPost Q R H S p n w) := by
 have hnc : n < Q.count := by rw [<- h.len]; exact (List.getElem?_eq_some_iff.1 hs).1
 have hsm := h.small
 have HLO := HoldT.mk (pages_lost' h.own)
 have HOF := HoldT.mk (pages_of' h.own hs)
 have HDROP := HoldT.mk (pages_drop (n := n) h.own h.inv hsm.2.2 (by omega))
 obtain ⟨fm, g, hX⟩ := h.own.open
 obtain ⟨hb, fb, fa, fc, r1, r2, r3⟩ := frat_some hX.fr hfr
 obtain ⟨ga, oa, rfl⟩ := yat_addr r3 (by omega)
 have hwf : WfI (n : Int) := WfI_small (by omega) (by omega)
 have hl := hX.map.look_ok Tryz.underlying94 (show (zeroValue 171).run Tryz.prog w = .ok (.pointer none) w by kernel_rfl) hwf
 rw [r1] at hl
 have hl2 : (Instr.lookup 94 (.map (some fm)) (.int .i64 (n : Int)) true).run Tryz.prog w = .ok (.tuple #[.pointer (some ⟨fb, 0, none⟩), .bool true]) w := hl
 obtain ⟨ib, uv, us, q1, q2, q3, q4, q5⟩ := hX.ex
 have c4 := q1.cell.2.2.2.2.1
 have HH := HoldT.mk (And.intro h (And.intro hp (And.intro hfr (And.intro hb (And.intro r1 (And.intro r2 (And.intro r3 (And.intro hX hnc))))))))
 clear h hp hfr hb r1 r2 r3 hX hnc hsm hl q1 q2 q3 q4 q5 hwf hs
 rcases hs2 with rfl | rfl
 all_goals
  go_enter Tryz.func57, Tryz.ntmps57
  go_wp2_with (first | (go_at_call 82; refine HLO.out.mono ?_; rintro e w' ⟨rfl, hw⟩; obtain rfl := hw.symm) | (go_at_call 81; refine HOF.out.mono ?_; rintro e w' ⟨rfl, hw⟩; obtain rfl := hw.symm))
  refine HDROP.out.mono ?_
  rintro e w1 ⟨rfl, hP1, hT1, hF1⟩
  obtain ⟨h, hp, hfr, hb, r1, r2, r3, hX, hnc⟩ := HH.out
  obtain ⟨hG1, hT1a⟩ := h.dropped hP1 hT1
  have hf1 := hF1 _ _ _ r2
  have hy1 := r3.mono RY_mono (cfU_turn hT1 h.own.noU)
  have HPUT := HoldT.mk (pages_put hG1 hnc hp hb (fun e => by subst e; exact h.inv.clean n b hfr) hf1 hy1 (hX.hfr _ _ r1))
  have HG1 := HoldT.mk (And.intro hT1a (And.intro hf1 (And.intro hy1 hG1)))
  clear h hp hfr hb r1 r2 r3 hX hnc hG1 hT1a hf1 hy1 hP1 hT1 hF1
  go_wp2_with fail
  refine HPUT.out.mono ?_
  rintro e w2 ⟨rfl, hf2, H2, p2, hG2, hT2, hp2⟩
  have hf2' := hf2.trans HG1.out.2.1
  have f1 : w2.cell? ⟨fb, 1, none⟩ = some (.slice (some ⟨ga, oa, none⟩) 1024 fc) := by simp [World.cell?, hf2']
  have hy2 : YAt (cfU w2) (.slice (some ⟨ga, oa, none⟩) 1024 fc) b := HG1.out.2.2.1.mono RY_mono (cfU_turn hT2 HG1.out.2.2.2.noU)
  have HCL := HoldT.mk (cloneY_any b (.slice (some ⟨ga, oa, none⟩) 1024 fc) (cf w2) w2 (fun _ _ _ h => h) (hy2.mono RY_mono (cfU_cf _)) (by rw [HH.out.2.2.2.1]; omega))
  have HG2 := HoldT.mk (And.intro hG2 (And.intro hT2 hp2))
  clear hf2 hf2' hy2 hG2 hT2 hp2
  go_wp2_with fail
  refine HCL.out.mono ?_
  rintro e w3 ⟨sv, cs, rfl, ho, hgr, hbl⟩
  have hcont : contP S n = b := by unfold contP; rw [HH.out.2.2.1]
  have HP : HoldT (GetPost Q R H S p n w (.returned (.tuple #[sv, .int .i64 0])) w3) := ⟨by
   obtain ⟨hG2, hT2, hp2⟩ := HG2.out
   obtain ⟨h, hp, hfr, hb, r1, r2, r3, hX, hnc⟩ := HH.out
   rw [put_drop h.inv] at hG2
   have hT := HG1.out.1.trans hT2
   refine ⟨sv, cs, H2, p2, d, rfl, ⟨?_, by rw [hcont]; exact hb, by rw [hcont]; exact hgr, Nat.le_trans hT.size hbl.size⟩, by rw [hcont]; exact hG2.below hbl, fun e => by rw [hcont]; subst e; exact h.inv.clean n b hfr, hT.trans (TurnS.quiet hbl), hp2⟩
   rw [<- hb]
   exact row_base ho hT.size⟩
  clear ho hgr hbl
  go_wp2_with fail
  go_ret2
  exact HP.out
end Go.Proofs.YtafilaiinbggoaaGreat
namespace Go.Proofs.YtafilaiinbggoaaGreat
open Go.RowKit Go.Maps
def discJ (S : PS) (n j : Nat) : Bts := ((List.range j).map fun i => secP S (4 * n + i)).flatten
theorem discJ_succ (S : PS) (n j : Nat) : discJ S n (j + 1) = discJ S n j ++ secP S (4 * n + j) := by
 unfold discJ
 rw [List.range_succ, List.map_append, List.flatten_append]
 simp
theorem discJ_four (S : PS) (n : Nat) : discJ S n 4 = discP S n := by
 rw [discJ_succ, discJ_succ, discJ_succ, discJ_succ]
 unfold discJ discP
 simp
theorem discJ_len {pool : Nat} {S : PS} (h : PInv pool S) (n : Nat) : ∀ j, (discJ S n j).length = 256 * j
 | 0 => rfl
 | j + 1 => by rw [discJ_succ, List.length_append, discJ_len h n j, h.seclen]; omega
theorem secD_dOf {Q : PQ} {R : Int -> Option Bts} {S : PS} {n j : Nat} (hn : n < Q.count) (hj : j < 4) : secD (dOf Q R S) ((Q.fr0 : Int) + 4 * n + j) = secP S (4 * n + j) := by
 unfold secD dOf secP
 rw [if_pos (by omega)]
 have : ((Q.fr0 : Int) + 4 * n + j - Q.fr0).toNat = 4 * n + j := by omega
 rw [this]
 rfl
theorem DG.cnt {H : BS} {db size : Nat} {D : Int -> Option Bts} {p : Nat} {w : World} (h : DG H db size D p w) : Counted db w w := by
 obtain ⟨⟨nb, lb, pend, a0, a1, a2, f, fl, xs, cs, g1, _⟩, _⟩ := h
 exact ⟨_, a0, g1, g1⟩
theorem own_satN {T : TypeId} {B : Nat} {w : World} {sv sl : Value} {n : Nat} {xs : Bts} {cs : List Value} (h : OwnS 1 RY T B w sv n xs cs) (hs : ∀ g, sl.ownBlock = some g -> g < B) : SAt 1 RY (cfN sl w) sv xs :=
 (h.atA h.row).mono RY_mono (cfA_cfN hs)
set_option maxHeartbeats 8000000 in
set_option maxRecDepth 100000 in
theorem pages_get_miss {Q : PQ} {R : Int -> Option Bts} {H : HS} {S : PS} {p n s : Nat} {w : World} (h : PG Q R H S p w) (hp : p <= 999999980) (hs : S.is[n]? = some s) (hs2 : s = 1 \/ s = 2) (hfr : S.fr n = none) :
  Calls Tryz.prog 57 #[.pointer (some ⟨Q.pb, 0, none⟩), .int .i64 (n : Int)] w (GetPost Q R H S p n w) := by
 have hnc : n < Q.count := by rw [<- h.len]; exact (List.getElem?_eq_some_iff.1 hs).1
 have hsm := h.small
 have HLO := HoldT.mk (pages_lost' h.own)
 have HOF := HoldT.mk (pages_of' h.own hs)
 obtain ⟨fm, g, hX⟩ := h.own.open
 have r1 := frat_none hX.fr hfr
 have hwf : WfI (n : Int) := WfI_small (by omega) (by omega)
 have hl := hX.map.look_ok Tryz.underlying94 (show (zeroValue 171).run Tryz.prog w = .ok (.pointer none) w by kernel_rfl) hwf
 rw [r1] at hl
 have hl2 : (Instr.lookup 94 (.map (some fm)) (.int .i64 (n : Int)) true).run Tryz.prog w = .ok (.tuple #[.pointer none, .bool false]) w := hl
 obtain ⟨ib, uv, us, q1, q2, q3, q4, q5⟩ := hX.ex
 have c4 := q1.cell.2.2.2.2.1
 have hsz := h.disk.few
 have hfit := h.fit
 have HH := HoldT.mk (And.intro h (And.intro hp (And.intro hfr (And.intro hX (And.intro hnc (And.intro q1 (And.intro hsz hfit)))))))
 clear h hp hfr r1 hX hnc hsm hl q1 q2 q3 q4 q5 hwf hs
 rcases hs2 with rfl | rfl
 all_goals
  go_enter Tryz.func57, Tryz.ntmps57
  go_wp2_with (first | (go_at_call 82; refine HLO.out.mono ?_; rintro e w' ⟨rfl, hw⟩; obtain rfl := hw.symm) | (go_at_call 81; refine HOF.out.mono ?_; rintro e w' ⟨rfl, hw⟩; obtain rfl := hw.symm))
  clear c4 hl2
  go_loopw [9, 10, 11, 12, 45] (fun s9 s10 s11 s12 i wr => ∃ j : Nat, i = .int .i64 j /\ j <= 4 /\ ∃ cs, HoldT (OwnS 1 RY 5 w.heap.size wr s9 (256 * j) (discJ S n j) cs /\ w.grownBy wr (some Q.db) /\ Counted Q.db w wr)) (fun _ _ _ _ i _ => 4 - (intOf i).toNat)
  case atStart => exact ⟨0, rfl, Nat.zero_le _, [], ⟨OwnS.start _ _ _ (Nat.le_refl _), World.grownBy.refl _ _, HH.out.1.disk.cnt⟩⟩
  case round =>
   obtain ⟨j, rfl, hj, cs, HJ⟩ := hrel
   have HDJ : HoldT (DG H.d Q.db Q.size (dOf Q R S) p wr /\ TurnS H.d w H.d wr) := ⟨HH.out.1.disk.counted HJ.out.2.1 HJ.out.2.2, TurnS.grown HJ.out.2.1 fun b e => .inl (by cases e; exact HH.out.1.disk.box)⟩
   have hpb : PBox wr Q.pb Q.db (Q.fr0 : Int) Q.pool (.slice (some ⟨ib, 0, none⟩) S.is.length S.is.length) fm uv := (HDJ.out.2.kept HH.out.2.2.2.2.2.1 (fun e => HH.out.1.apart _ e HH.out.2.2.2.1.box)).1
   by_cases hlt : j < 4
   ·have b1 : decide ((j : Int) < 4) = true := decide_eq_true (by omega)
    have c0 := hpb.cell.1
    have c1 := hpb.cell.2.1
    have g0 := KeepS.cell (P := fun q => q = Q.pb) c0 rfl
    have g1 := KeepS.cell (P := fun q => q = Q.pb) c1 rfl
    have hn1 : n <= 16384 := by have := HH.out.1.small; have := HH.out.2.2.2.2.1; omega
    have hfr0 : Q.fr0 <= 65536 := HH.out.1.small.2.1
    have HPB := HoldT.mk hpb
    clear c0 c1 hpb
    go_upto_region 15 with (fail)
    refine wp_region_mixC (KeepSC (fun q => q = Q.pb) wr) 19 rfl (by kernel_rfl) ?_
    have HDR := HoldT.mk (And.intro ((Below.refl wr.heap.size wr).drew) HDJ.out.1.drew)
    have HST : HoldT (∀ q : Nat, wr.drew.heap[q]? = wr.heap[q]?) := ⟨fun _ => rfl⟩
    generalize wr.drew = v9 at HDR HST |-
    refine mixl_seg (by kernel_rfl) (fun _ _ d _ _ h => by cases d <;> exact h) [0, 1, 2, 3, 4, 5, 6, 7, 8, 9, 10, 11, 12] [_, _, _, _, _, _, _, _, _, _, _, _, _] 6 19 rfl _ _ _ rfl (by kernel_rfl) (keepSC fun q _ => HST.out q) ?_
    repeat (go_big_quiet_step (fail))
    refine wpQuiet_nil ?_
    clear g0 g1
    have HGT := HoldT.mk (disk_get (s := (Q.fr0 : Int) + 4 * (n : Int) + (j : Int)) HDR.out.2 (by omega) (by have h1 := HH.out.2.2.2.2.1; have h2 := HH.out.2.2.2.2.2.2.2; omega))
    refine mixl_act (i := 13) rfl (by kernel_rfl) (keepSC fun q _ => HST.out q) rfl (fun K hK => ?_)
    go_wp2_with fail
    refine HGT.out.mono ?_
    rintro e w4 ⟨sv, ds, rfl, ho4, hd4, ht4, hg4, hc4⟩
    simp only
    have hk4 : ∀ q, q = Q.pb -> w4.heap[q]? = wr.heap[q]? := fun q hq => by
     subst hq
     exact (ht4.kept ((HST.out Q.pb).trans HPB.out) (fun e => HH.out.1.apart _ e HH.out.2.2.2.1.box)).1.trans HPB.out.symm
    obtain ⟨sa, sc, hsv⟩ := own_shape ho4.own
    have HJ2 := HoldT.mk (And.intro ho4 (And.intro hg4 (And.intro hc4 hk4)))
    clear ho4 hd4 ht4 hg4 hc4
    subst hsv
    go_wp2_with fail
    refine mixl_seg (by kernel_rfl) (fun _ _ d _ _ h => by cases d <;> exact h) [14, 15, 16, 17, 18] [_, _, _, _, _] 0 5 rfl _ _ _ rfl (by kernel_rfl) (keepSC hk4) ?_
    repeat (go_big_quiet_step (fail))
    refine wpQuiet_nil ?_
    refine mix_done (by kernel_rfl) (keepSC hk4) ?_
    clear hk4
    have HOW : HoldT (OwnS 1 RY 5 w.heap.size w4 u9 (256 * j) (discJ S n j) cs) := ⟨own_keep (fun _ _ _ _ h => h) (HJ.out.1.quiet RY_mono HDR.out.1) HJ2.out.2.1 (fun gq e e2 => by
     have h1 := (HJ.out.1.low gq e).1
     obtain rfl := Option.some.inj e2
     have := HH.out.1.disk.lt _ HH.out.1.disk.box
     omega)⟩
    have hsec : secD (dOf Q R S) ((Q.fr0 : Int) + 4 * (n : Int) + (j : Int)) = secP S (4 * n + j) := secD_dOf HH.out.2.2.2.2.1 hlt
    have HSA : HoldT (SAt 1 RY (cfN u9 w4) (.slice sa 256 sc) (secP S (4 * n + j))) := ⟨by
     rw [<- hsec]
     refine own_satN HJ2.out.1 (fun gq hq => ?_)
     have h1 := (HJ.out.1.low gq hq).2
     have h2 := HDR.out.1.size
     omega⟩
    have hsl : (secP S (4 * n + j)).length = 256 := HH.out.1.inv.seclen _
    obtain ⟨za, zc, rfl⟩ := HJ.out.1.shape
    have HG4 : HoldT (w.grownBy w4 (some Q.db) /\ Counted Q.db w w4) := ⟨grown_below HJ.out.2.1 HDR.out.1 |>.trans HJ2.out.2.1, (HJ.out.2.2.same (HST.out _)).trans HJ2.out.2.2.1⟩
    have hj16 : 256 * j <= 1024 := by omega
    go_wp2_with (at_builtin; refine push_src RY_mono RY_one rfl _ _ rfl infoY Tryz.underlying23 rfl (by decide) w.heap.size _ (.slice za (256 * j) zc) (256 * j) (discJ S n j) cs HOW.out rfl (.slice sa 256 sc) (secP S (4 * n + j)) HSA.out rfl (by omega) (by decide) ?_)
    intro sl5 w5 cs5 ho5 hg5
    obtain ⟨ya, yc, rfl⟩ := ho5.shape
    have HP5 : HoldT (OwnS 1 RY 5 w.heap.size w5 (.slice ya (256 * j + 256) yc) (256 * (j + 1)) (discJ S n (j + 1)) cs5 /\ w.grownBy w5 (some Q.db) /\ Counted Q.db w w5) := ⟨by
     have hlow : ∀ g, (Value.slice za (256 * j) zc).ownBlock = some g -> w.heap.size <= g := fun g hg => (HOW.out.low g hg).1
     have hdb := HH.out.1.disk.lt _ HH.out.1.disk.box
     refine ⟨by rw [discJ_succ, show 256 * (j + 1) = 256 * j + 256 by omega]; exact ho5, ⟨hg5.by_.os.trans HG4.out.1.os, hg5.by_.tape.trans HG4.out.1.tape, hg5.by_.output.trans HG4.out.1.output, Nat.le_trans HG4.out.1.size hg5.by_.size, fun q hq hne => (hg5.by_.block q (Nat.lt_of_lt_of_le hq HG4.out.1.size) (fun e => by have := hlow q e.symm; omega)).trans (HG4.out.1.block q hq hne)⟩, HG4.out.2.same (hg5.by_.block _ (Nat.lt_of_lt_of_le hdb HG4.out.1.size) (fun e => by have := hlow _ e.symm; omega))⟩⟩
    clear ho5 hg5
    go_wp2_with fail
    exact ⟨⟨j + 1, by go_num, by omega, cs5, HP5⟩, by simp [intOf]; omega⟩
   ·obtain rfl : j = 4 := by omega
    obtain ⟨za, zc, rfl⟩ := HJ.out.1.shape
    have hG : PG Q R H S p wr := by
     have hk : ∀ b, H.p b -> wr.heap[b]? = w.heap[b]? := fun b hb => HJ.out.2.1.block b (HH.out.1.own.lt b hb) (fun e => HH.out.1.apart Q.db HH.out.1.disk.box (Option.some.inj e ▸ hb))
     exact ⟨HDJ.out.1, HH.out.1.own.stand HJ.out.2.1.size hk (cfU_turn HDJ.out.2 HH.out.1.disk.noU), HH.out.1.apart, HH.out.1.inv, HH.out.1.len, HH.out.1.fit, HH.out.1.pool1, HH.out.1.poolm, HH.out.1.inside⟩
    have hT1 : TurnS H.all w H.all wr := HDJ.out.2.wide
    have hlen : (discJ S n 4).length = 1024 := discJ_len HH.out.1.inv n 4
    have hcl := (HJ.out.1.yat)
    obtain ⟨zb, zo, rfl⟩ := yat_addr hcl (by omega)
    have hcont : contP S n = discJ S n 4 := by rw [discJ_four]; unfold contP; rw [HH.out.2.2.1]
    obtain ⟨fb, hfbE⟩ : ∃ fb, fb = wr.heap.size := ⟨_, rfl⟩
    obtain ⟨w1, hw1⟩ : ∃ w1, w1 = wr.alloc (.cells #[.int .i64 (n : Int), .slice (some ⟨zb, zo, none⟩) 1024 zc, .bool false] 173) := ⟨_, rfl⟩
    have hb1 : Below wr.heap.size wr w1 := by rw [hw1]; exact (Below.refl _ wr).alloc (Nat.le_refl _) _
    have hf1 : w1.heap[fb]? = some (.cells #[.int .i64 (n : Int), .slice (some ⟨zb, zo, none⟩) 1024 zc, .bool false] 173 (0, 0)) := by rw [hw1, hfbE]; exact heap_alloc_new wr _
    have hG1 := (hG.below hb1).widen hf1 (fun hd => by have := hG.disk.lt fb hd; omega)
    have hy1 := hcl.mono RY_mono (cfU_below hb1)
    have HPUT := HoldT.mk (pages_put hG1 HH.out.2.2.2.2.1 HH.out.2.1 hlen (fun _ => discJ_four S n) hf1 hy1 (.inr rfl))
    have hT2 : TurnS H.all w (HS.all ⟨H.d, fun q => H.p q \/ q = fb⟩) w1 := (hT1.trans (TurnS.quiet hb1)).more fun b hb => by
     rcases hb with hb | hb | hb
     ·exact .inl (.inl hb)
     ·exact .inl (.inr hb)
     ·exact .inr (by rw [hb, hfbE]; exact hT1.size)
    have HZ := HoldT.mk (And.intro hG1 (And.intro hy1 (And.intro hT2 (And.intro hlen hcont))))
    rw [<- hfbE] at hb1
    clear hG hT1 hcl hf1 hG1 hy1 hT2 hlen hcont hb1 hpb
    have HW1 := HoldT.mk (And.intro hw1 hfbE)
    clear hw1 hfbE
    go_wp2_with fail
    rw [<- HW1.out.1, <- HW1.out.2]
    refine HPUT.out.mono ?_
    rintro e w2 ⟨rfl, hf2, H2, p2, hG2, hT2, hp2⟩
    simp only
    have hy2 : YAt (cfU w2) (.slice (some ⟨zb, zo, none⟩) (256 * 4) zc) (discJ S n 4) := HZ.out.2.1.mono RY_mono (cfU_turn hT2 HZ.out.1.noU)
    have HCL := HoldT.mk (cloneY_any (discJ S n 4) (.slice (some ⟨zb, zo, none⟩) (256 * 4) zc) (cf w2) w2 (fun _ _ _ h => h) (hy2.mono RY_mono (cfU_cf _)) (by rw [HZ.out.2.2.2.1]; omega))
    have HG2 := HoldT.mk (And.intro hG2 (And.intro hT2 hp2))
    clear hf2 hy2 hG2 hT2 hp2
    go_wp2_with fail
    refine HCL.out.mono ?_
    rintro e w3 ⟨sv, cs3, rfl, ho, hgr, hbl⟩
    have HP : HoldT (GetPost Q R H S p n w (.returned (.tuple #[sv, .int .i64 0])) w3) := ⟨by
     obtain ⟨hG2, hT2, hp2⟩ := HG2.out
     obtain ⟨hG1, hy1, hT1, hlen, hcont⟩ := HZ.out
     have hT := hT1.trans hT2
     refine ⟨sv, cs3, H2, p2, false, rfl, ⟨?_, by rw [hcont]; exact hlen, by rw [hcont]; exact hgr, Nat.le_trans hT.size hbl.size⟩, by rw [hcont]; exact hG2.below hbl, fun _ => by rw [hcont]; exact discJ_four S n, hT.trans (TurnS.quiet hbl), hp2⟩
     rw [<- hlen]
     exact row_base ho hT.size⟩
    clear ho hgr hbl
    go_wp2_with fail
    go_ret2
    exact HP.out
theorem pages_get {Q : PQ} {R : Int -> Option Bts} {H : HS} {S : PS} {p n s : Nat} {w : World} (h : PG Q R H S p w) (hp : p <= 999999980) (hs : S.is[n]? = some s) (hs2 : s = 1 \/ s = 2) :
  Calls Tryz.prog 57 #[.pointer (some ⟨Q.pb, 0, none⟩), .int .i64 (n : Int)] w (GetPost Q R H S p n w) := by
 cases hfr : S.fr n with
 | none => exact pages_get_miss h hp hs hs2 hfr
 | some x =>
  obtain ⟨b, d⟩ := x
  exact pages_get_hit h hp hs hs2 hfr
end Go.Proofs.YtafilaiinbggoaaGreat
