import Derived.Test.YtafilaiinbggoaaGreatQS14
namespace Go.Proofs.YtafilaiinbggoaaGreat
open Go.RowKit Go.Maps
def zerosN (n : Nat) : Bts := List.replicate n 0
theorem zerosN_len (n : Nat) : (zerosN n).length = n := List.length_replicate ..
theorem zeros_rowN (c : CF) (n : Nat) : GRow 1 RY c (zerosN n) (List.replicate n (.int .u8 0)) := by
 refine ⟨by rw [zerosN_len, List.length_replicate]; omega, fun i x hx => ?_⟩
 have hi := (List.getElem?_eq_some_iff.1 hx).1
 have hx' : x = 0 := List.eq_of_mem_replicate (List.mem_of_getElem? hx)
 rw [zerosN_len] at hi
 subst hx'
 refine ⟨[.int .u8 0], rfl, fun j u hu => ?_, rfl⟩
 match j, hu with
 | 0, hu =>
  cases hu
  rw [List.getElem?_replicate, if_pos (by omega)]
theorem IsRow.set {w : World} {ib : Nat} {is : List Nat} (h : IsRow w ib is) (n s : Nat) : IsRow (w.setCell ⟨ib, n, none⟩ (.int .i64 (s : Int))) ib (is.set n s) := by
 unfold IsRow at h |-
 rw [set_selfT h, List.map_set]
 simp [Array.set!_eq_setIfInBounds]
theorem PG.state {Q : PQ} {R : Int -> Option Bts} {H : HS} {S : PS} {p : Nat} {w : World} (h : PG Q R H S p w) {ib fm : Nat} {uv : Value} (q1 : PBox w Q.pb Q.db Q.fr0 Q.pool (.slice (some ⟨ib, 0, none⟩) S.is.length S.is.length) fm uv) (q2 : IsRow w ib S.is) (n s : Nat) :
  PG Q R H { S with is := S.is.set n s } p (w.setCell ⟨ib, n, none⟩ (.int .i64 (s : Int))) /\ TurnS H.all w H.all (w.setCell ⟨ib, n, none⟩ (.int .i64 (s : Int))) := by
 obtain ⟨⟨ib', fm', uv', g, us, h1, h2, h3, h4, h5, h6, h7, h8, h9⟩, d1, d2, d3⟩ := h.own
 have e0 : ib = ib' /\ fm = fm' /\ uv = uv' := by
  have h1' := h1
  have q1' := q1
  unfold PBox at h1' q1'
  rw [h1'] at q1'
  simp only [Option.some.injEq, Obj.cells.injEq, Array.mk.injEq, List.cons.injEq, Value.slice.injEq, Addr.mk.injEq, Value.map.injEq, and_true, true_and] at q1'
  exact ⟨q1'.1.symm, q1'.2.1.symm, q1'.2.2.symm⟩
 obtain ⟨rfl, rfl, rfl⟩ := e0
 have hg : w.grownBy (w.setCell ⟨ib, n, none⟩ (.int .i64 (s : Int))) (some ib) := set6_grown _ _
 have hne : ∀ q, q ≠ ib -> (w.setCell ⟨ib, n, none⟩ (.int .i64 (s : Int))).heap[q]? = w.heap[q]? := fun q hq => Below.heap_setCell _ _ _ _ hq
 have hu : CLe (cfU w) (cfU (w.setCell ⟨ib, n, none⟩ (.int .i64 (s : Int)))) := cfU_set (d3 ib h6)
 refine ⟨⟨h.disk.stand hg.size (fun b hb => hne b (fun e => h.apart b hb (e ▸ h6))) hu, ⟨⟨ib, fm, uv, g, us, ?_, q2.set n s, h3.same (hne fm (fun e => by subst e; exact map_not h3 h2)), own_keep (fun _ _ _ _ h => h) h4 hg (fun gb e e2 => ?_), h5.keep (fun m fb e => hne fb (fun e2 => ?_)) hu, h6, h7, h8, h9⟩, d1, fun b hb => Nat.lt_of_lt_of_le (d2 b hb) hg.size, fun b hb hu2 => d3 b hb (isU_set hu2 (d3 ib h6)).1⟩, h.apart, ⟨h.inv.nd, h.inv.mem, h.inv.few, h.inv.len, h.inv.clean, h.inv.sec⟩, ?_, h.fit, h.pool1, h.poolm, h.inside⟩, TurnS.grown hg fun b e => .inl (by cases e; exact .inr h6)⟩
 ·show PBox _ _ _ _ _ (.slice (some ⟨ib, 0, none⟩) (S.is.set n s).length (S.is.set n s).length) _ _
  rw [List.length_set]
  exact (hne _ (kind_ne q1 q2 (by decide))).trans q1
 ·obtain ⟨cur, hc⟩ := own_kind h4 e
  exact kind_ne hc q2 (by decide) (Option.some.inj e2).symm
 ·obtain ⟨k, ek, hk⟩ := (frat_dom h5 (k := (m : Int))).1 (by rw [e]; rfl)
  obtain ⟨⟨b2, d2⟩, hbd⟩ := Option.isSome_iff_exists.1 hk
  obtain ⟨_, fb3, a3, c3, r1, r2, _⟩ := frat_some h5 hbd
  rw [<- ek, e] at r1
  cases r1
  exact kind_ne r2 q2 (by decide) e2
 ·show (S.is.set n s).length = _
  rw [List.length_set]
  exact h.len
theorem idxI_nat {l : List Nat} {x : Nat} (h : x ∈ l) : ∃ k : Nat, l[k]? = some x /\ idxI (l.map Int.ofNat) x = k := by
 obtain ⟨k, h1, _, h2⟩ := idx_of h
 exact ⟨k, h1, h2⟩
theorem is_sat {w : World} {ib : Nat} {is : List Nat} (h : IsRow w ib is) (hl : is.length <= 1000000) : SAt 1 RI (cf w) (.slice (some ⟨ib, 0, none⟩) is.length is.length) (is.map Int.ofNat) := by
 refine ⟨some ⟨ib, 0, none⟩, is.length, by rw [List.length_map], by rw [List.length_map]; exact Nat.le_refl _, by omega, fun i x hx => ?_⟩
 rw [List.getElem?_map] at hx
 cases e : is[i]? with
 | none => rw [e] at hx; cases hx
 | some m =>
  rw [e] at hx
  cases hx
  refine ⟨ib, 0, [.int .i64 (m : Int)], rfl, rfl, fun j u hu => ?_, rfl⟩
  match j, hu with
  | 0, hu =>
   cases hu
   have := h.cell e
   unfold cf
   rw [Nat.zero_add, Nat.mul_one, Nat.add_zero]
   exact this
def AllocPost (Q : PQ) (R : Int -> Option Bts) (H : HS) (S : PS) (p : Nat) (w : World) (e : Ending) (w' : World) : Prop :=
 ∃ (n : Nat) (H' : HS) (p' : Nat), S.is[n]? = some 0 /\ e = .returned (.tuple #[.int .i64 (n : Int), .int .i64 0]) /\ PG Q R H' (allocP Q.pool n S) p' w' /\ TurnS H.all w H'.all w' /\ p' <= p + 4
set_option maxHeartbeats 8000000 in
set_option maxRecDepth 100000 in
theorem pages_alloc {Q : PQ} {R : Int -> Option Bts} {H : HS} {S : PS} {p : Nat} {w : World} (h : PG Q R H S p w) (hp : p <= 999999980) (hs : 0 ∈ S.is) :
  Calls Tryz.prog 54 #[.pointer (some ⟨Q.pb, 0, none⟩)] w (AllocPost Q R H S p w) := by
 have hsm := h.small
 have HLO := HoldT.mk (pages_lost' h.own)
 obtain ⟨n, hn, hix⟩ := idxI_nat hs
 have hnc : n < Q.count := by rw [<- h.len]; exact (List.getElem?_eq_some_iff.1 hn).1
 obtain ⟨fm, g, hX⟩ := h.own.open
 obtain ⟨ib, uv, us, q1, q2, q3, q4, q5⟩ := hX.ex
 have hln : S.is.length <= 1000000 := by rw [h.len]; omega
 have HIX := HoldT.mk (indexS_any (S.is.map Int.ofNat) _ ((0 : Nat) : Int) w (is_sat q2 hln) (by rw [List.length_map]; exact hln))
 rw [hix] at HIX
 have c3 := q1.cell.2.2.2.1
 have HH := HoldT.mk (And.intro h (And.intro hp (And.intro hn hnc)))
 clear h hp hn hnc hix hs hX q1 q2 q3 q4 q5 hln
 go_enter Tryz.func54, Tryz.ntmps54
 go_wp2_with (first | (go_at_call 82; refine HLO.out.mono ?_; rintro e w' ⟨rfl, hw⟩; obtain rfl := hw.symm) | (go_at_call 83; refine HIX.out.mono ?_; rintro e w' ⟨rfl, hw⟩; obtain rfl := hw.symm))
 obtain ⟨w1, hmk, hown, hgr⟩ := run_make_zeros (base := w.heap.size) 1024 (by omega) w (Nat.le_refl _)
 rw [show ((1024 : Nat) : Int) = 1024 from rfl] at hmk
 rw [hmk]
 clear hmk
 obtain ⟨z0, hz0⟩ : ∃ z0, z0 = w.heap.size := ⟨_, rfl⟩
 rw [<- hz0] at hown |-
 have hy1 : OwnS 1 RY 5 w.heap.size w1 (.slice (some ⟨z0, 0, none⟩) 1024 1024) 1024 (zerosN 1024) (List.replicate 1024 (.int .u8 0)) := ⟨by rw [<- hz0]; exact hown, zerosN_len _, zeros_rowN _ _, hgr.size⟩
 have HY := HoldT.mk hy1
 have hb1 : Below w.heap.size w w1 := ⟨hgr.os, hgr.tape, hgr.output, hgr.size, fun q hq => hgr.block q hq (by simp)⟩
 obtain ⟨fb, hfb⟩ : ∃ fb, fb = w1.heap.size := ⟨_, rfl⟩
 obtain ⟨w2, hw2⟩ : ∃ w2, w2 = w1.alloc (.cells #[.int .i64 (n : Int), .slice (some ⟨z0, 0, none⟩) 1024 1024, .bool true] 173) := ⟨_, rfl⟩
 have hb2 : Below w1.heap.size w1 w2 := by rw [hw2]; exact (Below.refl _ w1).alloc (Nat.le_refl _) _
 have hf2 : w2.heap[fb]? = some (.cells #[.int .i64 (n : Int), .slice (some ⟨z0, 0, none⟩) 1024 1024, .bool true] 173 (0, 0)) := by rw [hw2, hfb]; exact heap_alloc_new w1 _
 have hG2 := ((HH.out.1.below hb1).below hb2).widen hf2 (fun hd => by have := HH.out.1.disk.lt fb hd; have := hb1.size; omega)
 have hy2 := hy1.yat.mono RY_mono (cfU_below hb2)
 have HPUT := HoldT.mk (pages_put hG2 HH.out.2.2.2 HH.out.2.1 (zerosN_len 1024) (fun e => by cases e) hf2 hy2 (.inr rfl))
 have hT2 : TurnS H.all w (HS.all ⟨H.d, fun q => H.p q \/ q = fb⟩) w2 := ((TurnS.quiet hb1).trans (TurnS.quiet hb2)).more fun b hb => by
  rcases hb with hb | hb | hb
  ·exact .inl (.inl hb)
  ·exact .inl (.inr hb)
  ·exact .inr (by rw [hb, hfb]; exact hb1.size)
 have HT2 := HoldT.mk hT2
 have HW2 := HoldT.mk (And.intro hw2 hfb)
 clear hown hgr hy1 hb1 hb2 hf2 hG2 hy2 hT2 hw2 hfb hz0
 go_wp2_with fail
 rw [<- HW2.out.1, <- HW2.out.2]
 refine HPUT.out.mono ?_
 rintro e w3 ⟨rfl, hf3, H3, p3, hG3, hT3, hp3⟩
 simp only
 obtain ⟨fm3, g3, hX3⟩ := hG3.own.open
 obtain ⟨ib3, uv3, us3, q13, q23, q33, q43, q53⟩ := hX3.ex
 have hps : (putP Q.pool n (zerosN 1024) true S).is = S.is := (put_pool HH.out.1.pool1 HH.out.1.inv (zerosN_len 1024) (fun e => by cases e)).2.2
 have c3' := q13.cell.2.2.2.1
 have hst := hG3.state q13 q23 n 2
 rw [hps] at c3' q23 hst
 have hlt : (n : Int) < (S.is.length : Int) := by have := (List.getElem?_eq_some_iff.1 HH.out.2.2.1).1; omega
 have hz3 : w3.frozen? ⟨ib3, n, none⟩ = false := by
  have := q23
  unfold IsRow at this
  simp [World.frozen?, this]
 have hcn := q23.cell HH.out.2.2.1
 have HP := HoldT.mk (And.intro hst (And.intro hT3 hp3))
 clear hf3 hG3 hT3 hp3 hX3 q13 q23 q33 q43 q53 hps hst
 go_wp2_with fail
 go_ret2
 obtain ⟨⟨hG4, hT4⟩, hT3, hp3⟩ := HP.out
 refine ⟨n, H3, p3, HH.out.2.2.1, rfl, ?_, (HT2.out.trans hT3).trans hT4, hp3⟩
 exact hG4
end Go.Proofs.YtafilaiinbggoaaGreat
namespace Go.Proofs.YtafilaiinbggoaaGreat
open Go.RowKit Go.Maps
set_option maxHeartbeats 8000000 in
set_option maxRecDepth 100000 in
theorem pages_putp {Q : PQ} {R : Int -> Option Bts} {H : HS} {S : PS} {p n : Nat} {w : World} {b : Bts} {va : Option Addr} {vc : Nat} (h : PG Q R H S p w) (hp : p <= 999999980) (hs : S.is[n]? = some 2) (hb : b.length = 1024) (hy : YAt (cfU w) (.slice va 1024 vc) b) :
  Calls Tryz.prog 56 #[.pointer (some ⟨Q.pb, 0, none⟩), .int .i64 (n : Int), .slice va 1024 vc] w fun e w' => e = .returned (.int .i64 0) /\ ∃ H' p', PG Q R H' (putP Q.pool n b true S) p' w' /\ TurnS H.all w H'.all w' /\ p' <= p + 4 := by
 have hnc : n < Q.count := by rw [<- h.len]; exact (List.getElem?_eq_some_iff.1 hs).1
 have HLO := HoldT.mk (pages_lost' h.own)
 have HOF := HoldT.mk (pages_of' h.own hs)
 have HCL := HoldT.mk (cloneY_any b (.slice va 1024 vc) (cf w) w (fun _ _ _ h => h) (hy.mono RY_mono (cfU_cf _)) (by rw [hb]; omega))
 have HH := HoldT.mk (And.intro h (And.intro hp (And.intro hnc hb)))
 clear h hp hs hnc hb hy
 go_enter Tryz.func56, Tryz.ntmps56
 go_wp2_with (first | (go_at_call 82; refine HLO.out.mono ?_; rintro e w' ⟨rfl, hw⟩; obtain rfl := hw.symm) | (go_at_call 81; refine HOF.out.mono ?_; rintro e w' ⟨rfl, hw⟩; obtain rfl := hw.symm))
 refine HCL.out.mono ?_
 rintro e w1 ⟨sv, cs, rfl, ho, hgr, hbl⟩
 have ho1 : OwnS 1 RY 5 w.heap.size w1 sv 1024 b cs := ⟨by rw [<- HH.out.2.2.2]; exact ho, HH.out.2.2.2, hgr, hbl.size⟩
 obtain ⟨za, zc, rfl⟩ := ho1.shape
 obtain ⟨zb, zo, rfl⟩ := yat_addr ho1.yat (by rw [HH.out.2.2.2]; omega)
 obtain ⟨fb, hfb⟩ : ∃ fb, fb = w1.heap.size := ⟨_, rfl⟩
 obtain ⟨w2, hw2⟩ : ∃ w2, w2 = w1.alloc (.cells #[.int .i64 (n : Int), .slice (some ⟨zb, zo, none⟩) 1024 zc, .bool true] 173) := ⟨_, rfl⟩
 have hb2 : Below w1.heap.size w1 w2 := by rw [hw2]; exact (Below.refl _ w1).alloc (Nat.le_refl _) _
 have hf2 : w2.heap[fb]? = some (.cells #[.int .i64 (n : Int), .slice (some ⟨zb, zo, none⟩) 1024 zc, .bool true] 173 (0, 0)) := by rw [hw2, hfb]; exact heap_alloc_new w1 _
 have hG2 := ((HH.out.1.below hbl).below hb2).widen hf2 (fun hd => by have := HH.out.1.disk.lt fb hd; have := hbl.size; omega)
 have hy2 := ho1.yat.mono RY_mono (cfU_below hb2)
 have HPUT := HoldT.mk (pages_put hG2 HH.out.2.2.1 HH.out.2.1 HH.out.2.2.2 (fun e => by cases e) hf2 hy2 (.inr rfl))
 have hT2 : TurnS H.all w (HS.all ⟨H.d, fun q => H.p q \/ q = fb⟩) w2 := ((TurnS.quiet hbl).trans (TurnS.quiet hb2)).more fun b hb => by
  rcases hb with hb | hb | hb
  ·exact .inl (.inl hb)
  ·exact .inl (.inr hb)
  ·exact .inr (by rw [hb, hfb]; exact hbl.size)
 have HT2 := HoldT.mk hT2
 have HW2 := HoldT.mk (And.intro hw2 hfb)
 clear ho hgr hbl ho1 hb2 hf2 hG2 hy2 hT2 hw2 hfb
 go_wp2_with fail
 rw [<- HW2.out.1, <- HW2.out.2]
 refine HPUT.out.mono ?_
 rintro e w3 ⟨rfl, hf3, H3, p3, hG3, hT3, hp3⟩
 simp only
 have HP := HoldT.mk (And.intro hG3 (And.intro hT3 hp3))
 clear hf3 hG3 hT3 hp3
 go_wp2_with fail
 go_ret
 obtain ⟨hG3, hT3, hp3⟩ := HP.out
 exact ⟨rfl, H3, p3, hG3, HT2.out.trans hT3, hp3⟩
end Go.Proofs.YtafilaiinbggoaaGreat
namespace Go.Proofs.YtafilaiinbggoaaGreat
open Go.RowKit Go.Maps
def PS.open (count fr0 : Nat) (D : Int -> Option Bts) : PS := ⟨List.replicate count 0, [], fun _ => none, fun s => D ((fr0 : Int) + s)⟩
theorem infoSt : (Tryz.prog.info? 97).map (fun i => (i.zero, i.size, i.bytes)) = some (some (.int .i64 0), 1, 8) := by kernel_rfl
theorem run_make_states (n : Nat) (hn : n <= 1000000) (w : World) : ∃ w', (Instr.makeSlice 93 (.int .i64 (n : Int)) (.int .i64 (n : Int))).run Tryz.prog w = .ok (.slice (some ⟨w.heap.size, 0, none⟩) n n) w' /\ IsRow w' w.heap.size (List.replicate n 0) /\ w.grownBy w' none /\ w.heap.size < w'.heap.size := by
 obtain ⟨i0, hi, hz0, hz1, hz2⟩ := info_parts infoSt
 obtain ⟨w', h1, h2, h3⟩ := run_make_full w w.heap.size 93 97 i0 (.int .i64 0) 1 Tryz.underlying93 hi hz0 hz1 .i64 .i64 n (by rw [hz2]; omega) (by unfold maxLen; omega) (Nat.le_refl _)
 have e : (madeCells (Value.int .i64 0).cells (n * 1)).toList = List.replicate n (.int .i64 0) := by rw [Nat.mul_one]; exact toList_madeCells_one _ _
 rw [e] at h2
 refine ⟨w', h1, ?_, h3, ?_⟩
 ·rcases h2.2 with ⟨hv, _⟩ | ⟨g, cap, cur, hv, _, hg, _, _, hc, ht⟩
  ·cases hv
  ·cases hv
   unfold IsRow
   rw [hg]
   have h5 : cur.toList = List.replicate n (.int .i64 0) := by
    rw [<- ht, List.take_of_length_le (by rw [Array.length_toList, hc]; exact Nat.le_refl _)]
   have h6 : cur = ((List.replicate n 0).map fun (s : Nat) => Value.int .i64 (s : Int)).toArray := by
    apply Array.toList_inj.1
    rw [h5, List.map_replicate]
    rfl
   rw [h6]
 ·rcases h2.2 with ⟨hv, _⟩ | ⟨g, cap, cur, hv, _, hg, _⟩
  ·cases hv
  ·cases hv
   exact heap_lt hg
set_option maxHeartbeats 8000000 in
set_option maxRecDepth 100000 in
theorem pages_open {HD : BS} {db size : Nat} {D : Int -> Option Bts} {p fr0 count pool : Nat} {w : World} (h : DG HD db size D p w) (hpool : 1 <= pool) (hpm : pool <= 1000000) (hfit : fr0 + 4 * count <= size) :
  Calls Tryz.prog 12 #[.pointer (some ⟨db, 0, none⟩), .int .i64 (fr0 : Int), .int .i64 (count : Int), .int .i64 (pool : Int), .slice none 0 0] w fun e w' => ∃ pb HP, e = .returned (.tuple #[.pointer (some ⟨pb, 0, none⟩), .int .i64 0]) /\ w.heap.size <= pb /\ PG ⟨pb, db, fr0, count, pool, size⟩ D ⟨HD, HP⟩ (PS.open count fr0 D) p w' /\ Below w.heap.size w w' /\ ∀ b, HP b -> w.heap.size <= b := by
 have hsz := h.few
 have HDD := HoldT.mk h
 have HSZ : HoldT (Calls Tryz.prog 27 #[.pointer (some ⟨db, 0, none⟩)] w fun e w' => e = .returned (.int .i64 (size : Int)) /\ w = w') := ⟨by
  obtain ⟨⟨nb, lb, pend, a0, a1, a2, f, fl, xs, cs, g1, _⟩, _⟩ := h
  exact disk_size g1⟩
 have b1 : decide ((fr0 : Int) < 0) = false := decide_eq_false (by omega)
 have b2 : decide ((count : Int) < 0) = false := decide_eq_false (by omega)
 have b3 : decide ((pool : Int) < 1) = false := decide_eq_false (by omega)
 have b4 : decide ((size : Int) < (fr0 : Int)) = false := decide_eq_false (by omega)
 have c1 : (fr0 : Int) <= (size : Int) := by omega
 have c2 : (fr0 : Int) + 4 * (count : Int) <= (size : Int) := by omega
 clear h
 go_enter Tryz.func12, Tryz.ntmps12
 go_wp2_with (go_at_call 27; refine HSZ.out.mono ?_; rintro e w' ⟨rfl, hw⟩; obtain rfl := hw)
 have hmm := @run_makeMap Tryz.prog
 obtain ⟨w1, hmk, hisr, hgr, hlt1⟩ := run_make_states count (by omega) w
 rw [hmk]
 clear hmk
 obtain ⟨ib, hib⟩ : ∃ ib, ib = w.heap.size := ⟨_, rfl⟩
 rw [<- hib] at hisr |-
 obtain ⟨fm, hfm⟩ : ∃ fm, fm = w1.heap.size := ⟨_, rfl⟩
 obtain ⟨w2, hw2⟩ : ∃ w2, w2 = w1.alloc (.map #[] 0) := ⟨_, rfl⟩
 obtain ⟨pb, hpb⟩ : ∃ pb, pb = w2.heap.size := ⟨_, rfl⟩
 obtain ⟨w3, hw3⟩ : ∃ w3, w3 = w2.alloc (.cells #[.pointer (some ⟨db, 0, none⟩), .int .i64 (fr0 : Int), .int .i64 (pool : Int), .slice (some ⟨ib, 0, none⟩) count count, .map (some fm), .slice none 0 0, .bool false] 96) := ⟨_, rfl⟩
 have hpb2 : w1.heap.size + 1 = pb := by rw [hpb, hw2]; simp
 have HP : HoldT (∃ HP, PG ⟨pb, db, fr0, count, pool, size⟩ D ⟨HD, HP⟩ (PS.open count fr0 D) p w3 /\ Below w.heap.size w w3 /\ (∀ b, HP b -> w.heap.size <= b) /\ w.heap.size <= pb) := ⟨by
  have hb1 : Below w.heap.size w w1 := ⟨hgr.os, hgr.tape, hgr.output, hgr.size, fun q hq => hgr.block q hq (by simp)⟩
  have hb2 : Below w1.heap.size w1 w2 := by rw [hw2]; exact (Below.refl _ w1).alloc (Nat.le_refl _) _
  have hb3 : Below w2.heap.size w2 w3 := by rw [hw3]; exact (Below.refl _ w2).alloc (Nat.le_refl _) _
  have hbb : Below w.heap.size w w3 := (hb1.trans (hb2.mono hb1.size)).trans (hb3.mono (Nat.le_trans hb1.size hb2.size))
  have i1 := hb2.size
  have i0 := hb1.size
  have hm2 : MapI fm (fun _ => none) w2 := by rw [hw2, hfm]; exact MapI.start w1
  have hpx : PBox w3 pb db (fr0 : Int) (pool : Int) (.slice (some ⟨ib, 0, none⟩) count count) fm (.slice none 0 0) := by rw [hw3, hpb]; exact heap_alloc_new w2 _
  have hix : IsRow w3 ib (List.replicate count 0) := (hb3.block ib (by rw [hib]; omega)).trans ((hb2.block ib (by rw [hib]; exact hlt1)).trans hisr)
  have hm3 : MapI fm (fun _ => none) w3 := hm2.same (hb3.block fm hm2.lt)
  refine ⟨fun b => b = ib \/ b = fm \/ b = pb, ⟨?_, ⟨⟨ib, fm, .slice none 0 0, fun _ => none, [], ?_, hix, hm3, OwnS.start _ _ _ (Nat.zero_le _), ⟨fun _ _ => rfl, fun _ => rfl⟩, .inl rfl, .inr (.inl rfl), fun gb e => (by cases e), fun k fb e => (by cases e)⟩, .inr (.inr rfl), fun b hb => ?_, fun b hb => ?_⟩, fun b hb hq => ?_, ?_, List.length_replicate, hfit, hpool, hpm, fun n hn => (by cases hn)⟩, hbb, fun b hb => ?_, ?_⟩
  ·have e0 : dOf ⟨pb, db, fr0, count, pool, size⟩ D (PS.open count fr0 D) = D := funext fun k => by
    unfold dOf PS.open
    split
    ·rename_i hk
     have h1 : (fr0 : Int) <= k := hk.1
     have e1 : (fr0 : Int) + ((k - (fr0 : Int)).toNat : Int) = k := by omega
     simp only [e1]
    ·rfl
   rw [e0]
   exact HDD.out.below hbb
  ·show PBox w3 pb db (fr0 : Int) (pool : Int) (.slice (some ⟨ib, 0, none⟩) (List.replicate count 0).length (List.replicate count 0).length) fm (.slice none 0 0)
   rw [List.length_replicate]
   exact hpx
  ·rcases hb with rfl | rfl | rfl
   ·exact heap_lt hix
   ·exact hm3.lt
   ·exact heap_lt hpx
  ·rcases hb with rfl | rfl | rfl
   ·exact isrow_noU hix
   ·exact fun ⟨_, _, e⟩ => map_not hm3 e
   ·exact pbox_noU hpx
  ·have := HDD.out.lt b hb
   omega
  ·refine ⟨List.nodup_nil, fun n => ?_, Nat.zero_le _, fun n b d e => (by cases e), fun n b e => (by cases e), fun s b e => ?_⟩
   ·exact ⟨fun hn => (by cases hn), fun hn => (by cases hn)⟩
   ·obtain ⟨⟨nb, lb, pend, a0, a1, a2, f, fl, xs, cs, g1, g2, g3, g4, g5, g6, g7, g8, g9, g10, g11, g12⟩, _⟩ := HDD.out
    exact (secat_some g11 e).1
  ·rcases hb with rfl | rfl | rfl
   all_goals omega
  ·omega⟩
 have HW := HoldT.mk (And.intro hw2 (And.intro hw3 hfm))
 clear hw2 hw3 hisr hgr hlt1 hpb hfm hib
 go_wp2_with fail
 rw [<- HW.out.2.2, <- HW.out.1, <- HW.out.2.1]
 go_loopw [14, 50] (fun y i wr => i = .int .i64 0 /\ wr = w3) (fun _ i _ => 0)
 case atStart => exact ⟨rfl, rfl⟩
 case round =>
  obtain ⟨rfl, rfl⟩ := hrel
  go_wp2_with fail
  go_ret2
  obtain ⟨HP9, k1, k2, k3, k4⟩ := HP.out
  exact ⟨_, HP9, rfl, k4, k1, k2, k3⟩
end Go.Proofs.YtafilaiinbggoaaGreat
namespace Go.Proofs.YtafilaiinbggoaaGreat
open Go.RowKit Go.Maps
structure ND where
 leaf : Bool
 keys : List Bts
 vals : List Bts
 kids : List Nat
def leafN (es : EL) : ND := ⟨true, es.map (·.1), es.map (·.2), []⟩
def nodeN (kids : List Nat) (keys : List Bts) : ND := ⟨false, keys, [], kids⟩
def entN (n : ND) (i : Nat) : Nat := if n.leaf = true then 3 + (n.keys.getD i []).length + (n.vals.getD i []).length else 5 + (n.keys.getD i []).length
def sizeJ (n : ND) (j : Nat) : Nat := (if n.leaf = true then 3 else 7) + ((List.range j).map (entN n)).sum
def sizeN (n : ND) : Nat := sizeJ n n.keys.length
theorem sizeJ_succ (n : ND) (j : Nat) : sizeJ n (j + 1) = sizeJ n j + entN n j := by
 unfold sizeJ
 rw [List.range_succ, List.map_append, List.sum_append]
 simp
 omega
theorem range_map_get {α : Type} (f : Nat -> Nat) (g : α -> Nat) : ∀ (l : List α), (∀ i x, l[i]? = some x -> f i = g x) -> (List.range l.length).map f = l.map g := fun l h => by
 refine List.ext_getElem (by simp) fun i h1 h2 => ?_
 rw [List.getElem_map, List.getElem_range, List.getElem_map]
 have hi : i < l.length := by simpa using h2
 exact h i _ (List.getElem?_eq_getElem hi)
theorem size_leaf (es : EL) : sizeN (leafN es) = szLeaf es := by
 unfold sizeN sizeJ szLeaf
 have h1 : (leafN es).keys.length = es.length := List.length_map ..
 rw [h1, range_map_get (entN (leafN es)) szE es fun i x hx => ?_]
 ·rfl
 ·unfold entN leafN szE
  simp [List.getD, hx]
theorem size_node (kids : List Nat) (keys : List Bts) : sizeN (nodeN kids keys) = szNode keys := by
 unfold sizeN sizeJ szNode
 rw [range_map_get (entN (nodeN kids keys)) szK (nodeN kids keys).keys fun i x hx => ?_]
 ·rfl
 ·have hx' : keys[i]? = some x := hx
  unfold entN nodeN szK
  simp [List.getD, hx']
def RB (c : CF) : Rep Bts := fun _ x d => ∃ sv, d = [sv] /\ YAt c sv x
theorem RB_mono (c : CF) : Mono (RB c) := fun _ _ _ _ _ h => h
theorem RB_le {c c' : CF} (hc : CLe c c') : ∀ (m : CF) (x : Bts) (d : List Value), RB c m x d -> RB c' m x d := fun _ _ _ ⟨sv, e, h⟩ => ⟨sv, e, h.mono RY_mono hc⟩
theorem RB_one (c : CF) : ∀ (m : CF) (x : Bts) (d : List Value), RB c m x d -> ∀ u ∈ d, u.oneCell' = true := fun _ _ _ ⟨sv, e, h⟩ u hu => by
 rw [e] at hu
 obtain rfl := List.mem_singleton.1 hu
 obtain ⟨a, cap, rfl, _⟩ := h
 rfl
theorem SAt.rep {α : Type} {n : Nat} {R R' : Rep α} {c : CF} {v : Value} {xs : List α} (h : SAt n R c v xs) (hr : ∀ m x d, R m x d -> R' m x d) : SAt n R' c v xs := by
 obtain ⟨a, cap, e, h1, h2, h3⟩ := h
 refine ⟨a, cap, e, h1, h2, fun i x hx => ?_⟩
 obtain ⟨b, off, d, ea, hd, hc, hR⟩ := h3 i x hx
 exact ⟨b, off, d, ea, hd, hc, hr _ _ _ hR⟩
theorem OwnS.rep {α : Type} {n : Nat} {R R' : Rep α} {T : TypeId} {B : Nat} {w : World} {sl : Value} {p : Nat} {xs : List α} {cs : List Value} (h : OwnS n R T B w sl p xs cs) (hr : ∀ m x d, R m x d -> R' m x d) : OwnS n R' T B w sl p xs cs :=
 ⟨h.own, h.len, ⟨h.row.1, fun i x hx => by
  obtain ⟨d, h1, h2, h3⟩ := h.row.2 i x hx
  exact ⟨d, h1, h2, hr _ _ _ h3⟩⟩, h.le⟩
abbrev BAt (w : World) (v : Value) (l : List Bts) : Prop := SAt 1 (RB (cfU w)) (cf w) v l
theorem BAt.below {w w' : World} {v : Value} {l : List Bts} (h : BAt w v l) (hb : Below w.heap.size w w') : BAt w' v l := (h.mono (RB_mono _) (cle_below hb)).rep (RB_le (cfU_below hb))
theorem bat_cell {w : World} {a : Option Addr} {n cap : Nat} {l : List Bts} (h : BAt w (.slice a n cap) l) {j : Nat} {x : Bts} (hx : l[j]? = some x) : ∃ b off xa xc, a = some ⟨b, off, none⟩ /\ w.cell? ⟨b, off + j, none⟩ = some (.slice xa x.length xc) /\ YAt (cfU w) (.slice xa x.length xc) x := by
 obtain ⟨a2, cap2, e, _, _, h3⟩ := h
 simp only [Value.slice.injEq] at e
 obtain ⟨b, off, d, ea, hd, hc, sv, hr, hy⟩ := h3 j x hx
 obtain ⟨xa, xc, rfl, h4⟩ := id hy
 refine ⟨b, off, xa, xc, by rw [e.1, ea], ?_, hy⟩
 have := hc 0 _ (by rw [hr]; rfl)
 rw [Nat.mul_one, Nat.add_zero] at this
 exact this
abbrev IAt (w : World) (v : Value) (l : List Nat) : Prop := SAt 1 RI (cf w) v (l.map Int.ofNat)
theorem IAt.below {w w' : World} {v : Value} {l : List Nat} (h : IAt w v l) (hb : Below w.heap.size w w') : IAt w' v l := h.mono RI_mono (cle_below hb)
structure NAt (w : World) (n : ND) (kv vv iv : Value) : Prop where
 keys : BAt w kv n.keys
 vals : BAt w vv n.vals
 kids : IAt w iv n.kids
theorem NAt.below {w w' : World} {n : ND} {kv vv iv : Value} (h : NAt w n kv vv iv) (hb : Below w.heap.size w w') : NAt w' n kv vv iv := ⟨h.keys.below hb, h.vals.below hb, h.kids.below hb⟩
abbrev nodeV (n : ND) (kv vv iv : Value) : Value := .agg #[.bool n.leaf, kv, vv, iv]
structure FewN (n : ND) : Prop where
 keys : n.keys.length <= 10000
 vals : n.vals.length <= 10000
 kids : n.kids.length <= 10001
 key : ∀ k ∈ n.keys, k.length <= 10000
 val : ∀ v ∈ n.vals, v.length <= 10000
 alike : n.leaf = true -> n.vals.length = n.keys.length
theorem nat_getD {α : Type} {l : List α} {i : Nat} {x d : α} (h : l[i]? = some x) : l.getD i d = x := by simp [List.getD, h]
set_option maxHeartbeats 4000000 in
set_option maxRecDepth 100000 in
theorem node_entry {w : World} {n : ND} {kv vv iv : Value} {i : Nat} (h : NAt w n kv vv iv) (hf : FewN n) (hi : i < n.keys.length) :
  Calls Tryz.prog 70 #[nodeV n kv vv iv, .int .i64 (i : Int)] w fun e w' => e = .returned (.int .i64 (entN n i : Int)) /\ Below w.heap.size w w' := by
 obtain ⟨leaf, keys, vals, kids⟩ := n
 obtain ⟨ka, kc, rfl⟩ := h.keys.form
 obtain ⟨va, vc, rfl⟩ := h.vals.form
 obtain ⟨ia, ic, rfl⟩ := h.kids.form
 simp only at hi
 obtain ⟨k, hk⟩ : ∃ k, keys[i]? = some k := ⟨keys[i], List.getElem?_eq_getElem hi⟩
 obtain ⟨b, off, xa, xc, rfl, hc, hy⟩ := bat_cell h.keys hk
 have hkl := hf.key k (List.mem_of_getElem? hk)
 have hc' : ∀ o, (w.alloc o).cell? ⟨b, off + i, none⟩ = some (.slice xa k.length xc) := fun o => Lib.cell?_alloc_some _ hc
 have hii : (i : Int) < (keys.length : Int) := by omega
 have hkl2 := hf.keys
 have hbb : ∀ o, Below w.heap.size w (w.alloc o) := fun o => (Below.refl _ w).alloc (Nat.le_refl _) _
 cases leaf with
 | false =>
  have he : entN ⟨false, keys, vals, kids⟩ i = 5 + k.length := by unfold entN; rw [if_neg (by simp), nat_getD hk]
  rw [he]
  have HB := HoldT.mk hbb
  clear hbb h hk he hy hc hf
  go_enter Tryz.func70, Tryz.ntmps70
  go_wp2
  go_ret
  exact ⟨by simp, HB.out _⟩
 | true =>
  have hal : vals.length = keys.length := hf.alike rfl
  obtain ⟨v, hv⟩ : ∃ v, vals[i]? = some v := ⟨vals[i]'(by omega), List.getElem?_eq_getElem (by omega)⟩
  obtain ⟨b2, off2, ya, yc, rfl, hc2, hy2⟩ := bat_cell h.vals hv
  have hvl := hf.val v (List.mem_of_getElem? hv)
  have hc2' : ∀ o, (w.alloc o).cell? ⟨b2, off2 + i, none⟩ = some (.slice ya v.length yc) := fun o => Lib.cell?_alloc_some _ hc2
  have he : entN ⟨true, keys, vals, kids⟩ i = 3 + k.length + v.length := by unfold entN; rw [if_pos rfl, nat_getD hk, nat_getD hv]
  rw [he]
  have hvv : (i : Int) < (vals.length : Int) := by omega
  have hiv : i < vals.length := by omega
  have HB := HoldT.mk hbb
  clear hbb h hk he hy hc hf hv hy2 hc2 hal
  go_enter Tryz.func70, Tryz.ntmps70
  go_wp2
  obtain ⟨w1, hw1⟩ : ∃ w1, w1 = w.alloc (.cells #[.bool true, .slice (some ⟨b, off, none⟩) keys.length kc, .slice (some ⟨b2, off2, none⟩) vals.length vc, .slice ia kids.length ic] 107) := ⟨_, rfl⟩
  have hbx : w1.heap[w.heap.size]? = some (.cells #[.bool true, .slice (some ⟨b, off, none⟩) keys.length kc, .slice (some ⟨b2, off2, none⟩) vals.length vc, .slice ia kids.length ic] 107 (0, 0)) := by rw [hw1]; exact heap_alloc_new w _
  have x1 : w1.cell? ⟨w.heap.size, 1, none⟩ = some (.slice (some ⟨b, off, none⟩) keys.length kc) := by simp [World.cell?, hbx]
  have x2 : w1.cell? ⟨w.heap.size, 2, none⟩ = some (.slice (some ⟨b2, off2, none⟩) vals.length vc) := by simp [World.cell?, hbx]
  have y1 : w1.cell? ⟨b, off + i, none⟩ = some (.slice xa k.length xc) := by rw [hw1]; exact hc' _
  have y2 : w1.cell? ⟨b2, off2 + i, none⟩ = some (.slice ya v.length yc) := by rw [hw1]; exact hc2' _
  have g1 := KeepS.cell (P := fun _ => True) x1 trivial
  have g2 := KeepS.cell (P := fun _ => True) x2 trivial
  have g3 := KeepS.cell (P := fun _ => True) y1 trivial
  have g4 := KeepS.cell (P := fun _ => True) y2 trivial
  have hb1 : Below w.heap.size w w1 := by rw [hw1]; exact HB.out _
  have HB1 := HoldT.mk hb1
  rw [<- hw1]
  clear hw1 hbx x1 x2 y1 y2 hb1 hc' hc2'
  refine wp_region_mixC (KeepSC (fun _ => True) w1) 15 rfl (by kernel_rfl) ?_
  have HDR := HoldT.mk ((Below.refl w1.heap.size w1).drew)
  have HST : HoldT (∀ q : Nat, w1.drew.heap[q]? = w1.heap[q]?) := ⟨fun _ => rfl⟩
  generalize w1.drew = v9 at HDR HST |-
  refine mixl_seg (by kernel_rfl) (fun _ _ d _ _ h => by cases d <;> exact h) [0, 1, 2, 3, 4, 5, 6, 7, 8, 9, 10, 11, 12, 13, 14] [_, _, _, _, _, _, _, _, _, _, _, _, _, _, _] 0 15 rfl _ _ _ rfl (by kernel_rfl) (keepSC fun q _ => HST.out q) ?_
  repeat (go_big_quiet_step (fail))
  refine wpQuiet_nil ?_
  refine mix_done (by kernel_rfl) (keepSC fun q _ => HST.out q) ?_
  clear g1 g2 g3 g4
  go_wp2_with fail
  go_ret
  exact ⟨by simp, HB1.out.trans (HDR.out.mono HB1.out.size)⟩
end Go.Proofs.YtafilaiinbggoaaGreat
namespace Go.Proofs.YtafilaiinbggoaaGreat
open Go.RowKit Go.Maps
theorem sizeJ_le {n : ND} (hf : FewN n) : ∀ j, j <= n.keys.length -> sizeJ n j <= 7 + 30000 * j
 | 0, _ => by unfold sizeJ; simp; split <;> omega
 | j + 1, hj => by
  rw [sizeJ_succ]
  have h1 := sizeJ_le hf j (by omega)
  have hk : (n.keys.getD j []).length <= 10000 := by rw [nat_getD (List.getElem?_eq_getElem hj)]; exact hf.key _ (List.getElem_mem _)
  have hv : (n.vals.getD j []).length <= 10000 := by
   by_cases hl : j < n.vals.length
   ·rw [nat_getD (List.getElem?_eq_getElem hl)]; exact hf.val _ (List.getElem_mem _)
   ·have : n.vals.getD j [] = [] := by simp [List.getD, List.getElem?_eq_none (by omega : n.vals.length <= j)]
    rw [this]; simp
  have h2 : entN n j <= 20010 := by unfold entN; split <;> omega
  omega
def NBox (w : World) (q : Nat) (n : ND) (kv vv iv : Value) : Prop := w.heap[q]? = some (.cells #[.bool n.leaf, kv, vv, iv] 107 (0, 0))
theorem NBox.cell {w : World} {q : Nat} {n : ND} {kv vv iv : Value} (h : NBox w q n kv vv iv) : w.cell? ⟨q, 0, none⟩ = some (.bool n.leaf) /\ w.cell? ⟨q, 1, none⟩ = some kv /\ w.cell? ⟨q, 2, none⟩ = some vv /\ w.cell? ⟨q, 3, none⟩ = some iv := by
 unfold NBox at h
 refine ⟨?_, ?_, ?_, ?_⟩ <;> simp [World.cell?, h]
set_option maxHeartbeats 4000000 in
set_option maxRecDepth 100000 in
theorem node_size {w : World} {n : ND} {kv vv iv : Value} (h : NAt w n kv vv iv) (hf : FewN n) :
  Calls Tryz.prog 48 #[nodeV n kv vv iv] w fun e w' => e = .returned (.int .i64 (sizeN n : Int)) /\ Below w.heap.size w w' := by
 obtain ⟨ka, kc, rfl⟩ := h.keys.form
 obtain ⟨va, vc, rfl⟩ := h.vals.form
 obtain ⟨ia, ic, rfl⟩ := h.kids.form
 obtain ⟨w1, hw1⟩ : ∃ w1, w1 = w.alloc (.cells #[.bool n.leaf, .slice ka n.keys.length kc, .slice va n.vals.length vc, .slice ia (n.kids.map Int.ofNat).length ic] 107) := ⟨_, rfl⟩
 have hb1 : Below w.heap.size w w1 := by rw [hw1]; exact (Below.refl _ w).alloc (Nat.le_refl _) _
 have hbx : NBox w1 w.heap.size n (.slice ka n.keys.length kc) (.slice va n.vals.length vc) (.slice ia (n.kids.map Int.ofNat).length ic) := by rw [hw1]; exact heap_alloc_new w _
 have HH := HoldT.mk (And.intro (h.below hb1) (And.intro hf (And.intro hb1 hbx)))
 have HW := HoldT.mk hw1
 obtain ⟨kl, hkl⟩ : ∃ kl, kl = n.keys.length := ⟨_, rfl⟩
 have hk2 : kl <= 10000 := by rw [hkl]; exact hf.keys
 have HKL := HoldT.mk hkl
 obtain ⟨lf, hlf⟩ : ∃ lf, lf = n.leaf := ⟨_, rfl⟩
 have HLF := HoldT.mk hlf
 obtain ⟨il, hil⟩ : ∃ il, il = (n.kids.map Int.ofNat).length := ⟨_, rfl⟩
 have HIL := HoldT.mk hil
 rw [show nodeV n (.slice ka n.keys.length kc) (.slice va n.vals.length vc) (.slice ia (n.kids.map Int.ofNat).length ic) = .agg #[.bool lf, .slice ka kl kc, .slice va n.vals.length vc, .slice ia il ic] by rw [hkl, hlf, hil]]
 clear h hf hw1 hb1 hbx hkl hlf hil
 cases lf
 all_goals
  go_enter Tryz.func48, Tryz.ntmps48
  go_wp2
  have hw := HW.out
  rw [<- HLF.out, <- HKL.out, <- HIL.out] at hw
  rw [<- hw]
  clear hw
  go_loopw [3, 4, 11] (fun s y i wr => ∃ j : Nat, i = .int .i64 j /\ j <= kl /\ s = .int .i64 (sizeJ n j : Int) /\ HoldT (Below w1.heap.size w1 wr)) (fun _ _ i _ => kl - (intOf i).toNat)
  case atStart =>
   refine ⟨0, rfl, Nat.zero_le _, ?_, ⟨Below.refl _ _⟩⟩
   unfold sizeJ
   rw [<- HLF.out]
   rfl
  case round =>
   obtain ⟨j, rfl, hj, rfl, HB⟩ := hrel
   by_cases hlt : j < kl
   ·have b1 : decide ((j : Int) < (kl : Int)) = true := decide_eq_true (by omega)
    have hbx : NBox wr w.heap.size n _ _ _ := kept HH.out.2.2.2 HB.out
    obtain ⟨x0, x1, x2, x3⟩ := hbx.cell
    rw [<- HLF.out] at x0
    rw [<- HKL.out] at x1
    rw [<- HIL.out] at x3
    have HE := HoldT.mk (node_entry (HH.out.1.below HB.out) HH.out.2.1 (i := j) (by rw [<- HKL.out]; exact hlt))
    have hn : nodeV n (.slice ka n.keys.length kc) (.slice va n.vals.length vc) (.slice ia (n.kids.map Int.ofNat).length ic) = .agg #[.bool n.leaf, .slice ka kl kc, .slice va n.vals.length vc, .slice ia il ic] := by rw [<- HKL.out, <- HIL.out]
    rw [hn, <- HLF.out] at HE
    have hs1 := sizeJ_le HH.out.2.1 j (by rw [<- HKL.out]; exact hj)
    have hs2 := sizeJ_le HH.out.2.1 (j + 1) (by rw [<- HKL.out]; exact hlt)
    have hsu := sizeJ_succ n j
    clear hbx hn
    go_wp2_with fail
    refine HE.out.mono ?_
    rintro e w2 ⟨rfl, hb2⟩
    have HB2 := HoldT.mk (HB.out.trans (hb2.mono HB.out.size))
    clear hb2
    go_wp2_with fail
    exact ⟨⟨j + 1, by go_num, hlt, by rw [hsu]; simp, HB2⟩, by simp [intOf]; omega⟩
   ·obtain rfl : j = kl := by omega
    have he : sizeJ n j = sizeN n := by unfold sizeN; rw [HKL.out]
    go_wp2_with fail
    go_ret
    exact ⟨by rw [he]; rfl, HH.out.2.2.1.trans (HB.out.mono HH.out.2.2.1.size)⟩
end Go.Proofs.YtafilaiinbggoaaGreat
