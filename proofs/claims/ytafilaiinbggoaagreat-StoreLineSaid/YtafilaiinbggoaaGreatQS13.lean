import Derived.Test.YtafilaiinbggoaaGreatQS12
namespace Go.Proofs.YtafilaiinbggoaaGreat
open Go.RowKit Go.Maps
theorem PPg.len {H : BS} {Q : PQ} {S : PS} {fm : Nat} {g : Int -> Option Value} {w : World} (h : PPg H Q S fm g w) (hi : PInv Q.pool S) (ty : TypeId) (e : KeepS H w) :
  (Builtin.len_ #[94] ty #[.map (some fm)]).run Tryz.prog e.val = .ok (.int .i64 S.used.length) e.val := by
 have hn : (S.used.map Int.ofNat).Nodup := List.pairwise_map.2 (hi.nd.imp fun hne e => hne (Int.ofNat.inj e))
 have h2 := (h.map.same (e.property fm h.hm)).len Tryz.underlying94 ty (l := S.used.map Int.ofNat) hn (fun k => by
  rw [frat_dom h.fr, List.mem_map]
  exact ⟨fun ⟨n, h1, h2⟩ => ⟨n, h2.symm, (hi.mem n).1 h1⟩, fun ⟨n, h1, h2⟩ => ⟨n, (hi.mem n).2 h2, h1.symm⟩⟩)
 rw [List.length_map] at h2
 exact h2
theorem PG.dropped {Q : PQ} {R : Int -> Option Bts} {H : HS} {S : PS} {p n : Nat} {w w' : World} (h : PG Q R H S p w) (hp : PP H.p Q (dropP n S) w') (ht : TurnS H.p w H.p w') : PG Q R H (dropP n S) p w' /\ TurnS H.all w H.all w' := by
 have h1 : ∀ b, H.d b -> w'.heap[b]? = w.heap[b]? := fun b hb => (ht.out b (h.disk.lt b hb) (h.apart b hb)).1
 refine ⟨⟨h.disk.stand ht.size h1 (cfU_turn ht h.own.noU), hp, h.apart, drop_inv h.inv, h.len, h.fit, h.pool1, h.poolm, fun m hm => h.inside m (List.mem_of_mem_erase hm)⟩, ?_⟩
 exact (ht.wide (K := H.d)).congr (fun b => Or.comm) (fun b => Or.comm)
theorem PG.inserted {Q : PQ} {R : Int -> Option Bts} {H : HS} {S : PS} {p : Nat} {w : World} (h : PG Q R H S p w) {fm : Nat} {g : Int -> Option Value} (hX : PPg H.p Q S fm g w) {ib : Nat} {uv : Value} {us : List Value} (q1 : PBox w Q.pb Q.db Q.fr0 Q.pool (.slice (some ⟨ib, 0, none⟩) S.is.length S.is.length) fm uv) (q2 : IsRow w ib S.is) (q3 : OwnS 1 RI 3 0 w uv S.used.length (S.used.map Int.ofNat) us) (q4 : H.p ib) (q5 : ∀ gb, uv.ownBlock = some gb -> H.p gb)
  {w6 : World} {n fb : Nat} {a : Option Addr} {cap : Nat} {b : Bts} {d : Bool} {uv' : Value} {us' : List Value} (hos : w6.os = w.os) (htp : w6.tape = w.tape) (hout : w6.output = w.output) (hsz : w.heap.size <= w6.heap.size) (hk : ∀ b, b < w.heap.size -> b ≠ fm -> b ≠ Q.pb -> uv.ownBlock ≠ some b -> w6.heap[b]? = w.heap[b]?)
  (m6 : MapI fm (fun j => if j = (n : Int) then some (.pointer (some ⟨fb, 0, none⟩)) else g j) w6) (b6 : PBox w6 Q.pb Q.db Q.fr0 Q.pool (.slice (some ⟨ib, 0, none⟩) S.is.length S.is.length) fm uv') (o6 : OwnS 1 RI 3 0 w6 uv' (S.used.length + 1) ((n :: S.used).map Int.ofNat) us') (hnew : ∀ g, uv'.ownBlock = some g -> uv.ownBlock = some g \/ w.heap.size <= g)
  (hf : w.heap[fb]? = some (.cells #[.int .i64 n, .slice a 1024 cap, .bool d] 173 (0, 0))) (hy : YAt (cfU w) (.slice a 1024 cap) b) (hfb : H.p fb) (hb : b.length = 1024) (hn : n < Q.count) (hi : PInv Q.pool { S with used := n :: S.used, fr := fun m => if m = n then some (b, d) else S.fr m }) :
  ∃ H', PG Q R H' { S with used := n :: S.used, fr := fun m => if m = n then some (b, d) else S.fr m } p w6 /\ TurnS H.all w H'.all w6 := by
 have hcur : ∀ gb, uv.ownBlock = some gb -> ∃ cur, w.heap[gb]? = some (.cells cur 3 (0, 0)) := fun gb e => own_kind q3 e
 have hu : CLe (cfU w) (cfU w6) := cfU_le fun q hq => hk q hq.lt (fun e => h.own.noU q (e ▸ hX.hm) hq) (fun e => h.own.noU q (e ▸ hX.box) hq) (fun e => h.own.noU q (q5 q e) hq)
 have hF : FrStand w w6 := fun q cs fr e => (hk q (heap_lt e) (fun e2 => by subst e2; exact map_not hX.map e) (kind_ne e q1 (by decide)) (fun e2 => by
  obtain ⟨cur, hc⟩ := hcur q e2
  exact kind_ne e hc (by decide) rfl)).trans e
 have hib : w6.heap[ib]? = w.heap[ib]? := hk ib (heap_lt q2) (fun e => by subst e; exact map_not hX.map q2) (kind_ne q2 q1 (by decide)) (fun e2 => by
  obtain ⟨cur, hc⟩ := hcur ib e2
  exact kind_ne q2 hc (by decide) rfl)
 have hd6 : ∀ q, H.d q -> w6.heap[q]? = w.heap[q]? := fun q hq => hk q (h.disk.lt q hq) (fun e => h.apart q hq (e ▸ hX.hm)) (fun e => h.apart q hq (e ▸ hX.box)) (fun e => h.apart q hq (q5 q e))
 refine ⟨⟨H.d, fun q => (H.p q /\ uv.ownBlock ≠ some q) \/ uv'.ownBlock = some q⟩, ⟨h.disk.stand hsz hd6 hu, ⟨⟨ib, fm, uv', _, us', b6, hib.trans q2, m6, o6, (hX.fr.fs hF hu).ins hb (hF _ _ _ hf) (hy.mono RY_mono hu), .inl ⟨q4, fun e => ?_⟩, .inl ⟨hX.hm, fun e => ?_⟩, fun gb e => .inr e, fun k fb2 e => ?_⟩, .inl ⟨hX.box, fun e => ?_⟩, fun q hq => ?_, fun q hq hu2 => ?_⟩, fun q hq hp => ?_, hi, h.len, h.fit, h.pool1, h.poolm, fun m hm => ?_⟩, hos, htp, hout, hsz, fun q hq hn => ?_⟩
 ·obtain ⟨cur, hc⟩ := hcur ib e
  exact kind_ne q2 hc (by decide) rfl
 ·obtain ⟨cur, hc⟩ := hcur fm e
  exact map_not hX.map hc
 ·have hne : ∀ q cs, w.heap[q]? = some (.cells cs 173 (0, 0)) -> uv.ownBlock ≠ some q := fun q cs e1 e2 => by
   obtain ⟨cur, hc⟩ := hcur q e2
   exact kind_ne e1 hc (by decide) rfl
  by_cases ek : k = (n : Int)
  ·simp only [if_pos ek, Option.some.injEq, Value.pointer.injEq, Addr.mk.injEq, and_true] at e
   subst e
   exact .inl ⟨hfb, hne _ _ hf⟩
  ·simp only [if_neg ek] at e
   obtain ⟨m, em, hm⟩ := (frat_dom hX.fr (k := k)).1 (by rw [e]; rfl)
   obtain ⟨⟨b2, d2⟩, hbd⟩ := Option.isSome_iff_exists.1 hm
   obtain ⟨_, fb3, a3, c3, r1, r2, _⟩ := frat_some hX.fr hbd
   subst em
   rw [e] at r1
   cases r1
   exact .inl ⟨hX.hfr _ _ e, hne _ _ r2⟩
 ·obtain ⟨cur, hc⟩ := hcur Q.pb e
  exact kind_ne q1 hc (by decide) rfl
 ·rcases hq with ⟨hq, _⟩ | hq
  ·exact Nat.lt_of_lt_of_le (h.own.lt q hq) hsz
  ·exact (o6.low q hq).2
 ·by_cases hq2 : uv'.ownBlock = some q
  ·obtain ⟨cur, hc⟩ := own_kind o6 hq2
   obtain ⟨_, _, hu2⟩ := hu2
   rw [hc] at hu2
   cases hu2
  ·obtain ⟨hq, hq3⟩ := hq.resolve_right hq2
   by_cases e1 : q = fm
   ·subst e1
    obtain ⟨_, _, hu2⟩ := hu2
    exact map_not m6 hu2
   ·by_cases e2 : q = Q.pb
    ·subst e2; exact pbox_noU b6 hu2
    ·obtain ⟨cs, fr, hu2⟩ := hu2
     exact h.own.noU q hq ⟨cs, fr, (hk q (h.own.lt q hq) e1 e2 hq3).symm.trans hu2⟩
 ·rcases hp with ⟨hp, _⟩ | hp
  ·exact h.apart q hq hp
  ·rcases hnew q hp with h1 | h1
   ·exact h.apart q hq (q5 q h1)
   ·have := h.disk.lt q hq; omega
 ·rcases List.mem_cons.1 hm with rfl | hm
  ·exact hn
  ·exact h.inside m hm
 ·refine ⟨hk q hq (fun e => hn (.inr (e ▸ hX.hm))) (fun e => hn (.inr (e ▸ hX.box))) (fun e => hn (.inr (q5 q e))), fun e => ?_⟩
  rcases e with e | ⟨e, _⟩ | e
  ·exact hn (.inl e)
  ·exact hn (.inr e)
  ·rcases hnew q e with h1 | h1
   ·exact hn (.inr (q5 q h1))
   ·omega
set_option maxHeartbeats 8000000 in
set_option maxRecDepth 100000 in
theorem pages_put {Q : PQ} {R : Int -> Option Bts} {H : HS} {S : PS} {p n fb g0 off cap : Nat} {w : World} {b : Bts} {d : Bool} (h : PG Q R H S p w) (hn : n < Q.count) (hp : p <= 999999980) (hb : b.length = 1024) (hd : d = false -> b = discP S n)
  (hf : w.heap[fb]? = some (.cells #[.int .i64 n, .slice (some ⟨g0, off, none⟩) 1024 cap, .bool d] 173 (0, 0))) (hy : YAt (cfU w) (.slice (some ⟨g0, off, none⟩) 1024 cap) b) (hfb : H.p fb) :
  Calls Tryz.prog 84 #[.pointer (some ⟨Q.pb, 0, none⟩), .pointer (some ⟨fb, 0, none⟩)] w fun e w' => e = .returned (.bool true) /\ w'.heap[fb]? = w.heap[fb]? /\ ∃ H' p', PG Q R H' (putP Q.pool n b d S) p' w' /\ TurnS H.all w H'.all w' /\ p' <= p + 4 := by
 have hsm := h.small
 have HDROP := HoldT.mk (pages_drop (n := n) h.own h.inv hsm.2.2 (by omega))
 have HH := HoldT.mk (And.intro h (And.intro hb (And.intro hd (And.intro hfb (And.intro hp hsm)))))
 have HF := HoldT.mk (And.intro hf hy)
 have f0 : w.cell? ⟨fb, 0, none⟩ = some (.int .i64 n) := by simp [World.cell?, hf]
 clear h hsm hd hfb hp hf hy hb
 go_enter Tryz.func84, Tryz.ntmps84
 go_wp2_with (go_at_call 85; refine HDROP.out.mono ?_; rintro e w1 ⟨rfl, hP1, hT1, hF1⟩)
 obtain ⟨hG1, hT1a⟩ := HH.out.1.dropped hP1 hT1
 have hf1 := hF1 _ _ _ HF.out.1
 have hy1 := HF.out.2.mono RY_mono (cfU_turn hT1 HH.out.1.own.noU)
 obtain ⟨S1, hS1⟩ : ∃ S1, S1 = dropP n S := ⟨_, rfl⟩
 rw [<- hS1] at hG1
 obtain ⟨fm, g, hX⟩ := hG1.own.open
 have hfn : S1.fr n = none := by rw [hS1]; exact if_pos rfl
 obtain ⟨ib, uv, us, q1, q2, q3, q4, q5⟩ := hX.ex
 have c2 := q1.cell.2.2.1
 have c4 := q1.cell.2.2.2.2.1
 have c5 := q1.cell.2.2.2.2.2.1
 have g2 := KeepS.cell c2 hX.box
 have g4 := KeepS.cell c4 hX.box
 have gl := hX.len hG1.inv 3
 have HG1 := HoldT.mk (And.intro hG1 (And.intro hT1a (And.intro hf1 (And.intro hy1 (And.intro hS1 (And.intro hX hfn))))))
 clear hP1 hT1 hF1 hT1a hf1 hy1 hS1 hG1 hX hfn c2 c4 q1 q2 q3 q4 q5 f0 HDROP c5
 refine wp_region_mixC (KeepSC H.p w1) 10 rfl (by kernel_rfl) ?_
 have HDR := HoldT.mk ((Below.refl w1.heap.size w1).drew)
 have HST : HoldT (∀ q : Nat, w1.drew.heap[q]? = w1.heap[q]?) := ⟨fun _ => rfl⟩
 generalize w1.drew = v1 at HDR HST |-
 refine mixl_seg (by kernel_rfl) (fun _ _ d _ _ h => by cases d <;> exact h) [0, 1, 2, 3, 4, 5, 6, 7, 8, 9] [_, _, _, _, _, _, _, _, _, _] 0 10 rfl _ _ _ rfl (by kernel_rfl) (keepSC fun q _ => HST.out q) ?_
 repeat (go_big_quiet_step (fail))
 refine wpQuiet_nil ?_
 refine mix_done (by kernel_rfl) (keepSC fun q _ => HST.out q) ?_
 clear g2 g4 gl
 rcases Nat.lt_or_ge S1.used.length Q.pool with hev | hev
 case' inl =>
  have b1 : decide (Q.pool <= S1.used.length) = false := decide_eq_false (by omega)
  obtain ⟨wx, H2, S2, p2, HE⟩ : ∃ wx H2 S2 p2, HoldT (wx = v1 /\ PG Q R H2 S2 p2 wx /\ TurnS H.all w H2.all wx /\ p2 <= p + 4 /\ wx.heap[fb]? = some (.cells #[.int .i64 n, .slice (some ⟨g0, off, none⟩) 1024 cap, .bool d] 173 (0, 0)) /\ YAt (cfU wx) (.slice (some ⟨g0, off, none⟩) 1024 cap) b /\ S2 = evictP Q.pool S1 /\ H2.p fb) := by
   obtain ⟨hG1, hT1a, hf1, hy1, hS1, hX, hfn⟩ := HG1.out
   have hu := cfU_below HDR.out
   exact ⟨v1, H, S1, p, ⟨rfl, hG1.below HDR.out, hT1a.trans (TurnS.quiet HDR.out), by omega, (HST.out fb).trans hf1, hy1.mono RY_mono hu, by unfold evictP; rw [if_pos hev], HH.out.2.2.2.1⟩⟩
  obtain rfl := HE.out.1
  clear hev
  rw [b1]
  clear b1
  go_upto_region 7 with (fail)
 case' inr =>
  have b1 : decide (Q.pool <= S1.used.length) = true := decide_eq_true (by omega)
  rw [b1]
  clear b1
  go_upto_region 3 with (fail)
  obtain ⟨k, hk⟩ : ∃ k, S1.used.length = k + 1 := ⟨S1.used.length - 1, by have := HG1.out.1.pool1; omega⟩
  have hkb : k <= 1000000 := by have h1 := HG1.out.1.inv.few; have h2 := HG1.out.1.poolm; omega
  have hX1 : PPg H.p Q S1 fm g v1 := HG1.out.2.2.2.2.2.1.stand HDR.out.size (fun q _ => HST.out q) (cfU_below HDR.out)
  obtain ⟨ib, uv, us, q1, q2, q3, q4, q5⟩ := hX1.ex
  obtain ⟨gb, cap2, huv⟩ : ∃ gb cap2, uv = .slice (some ⟨gb, 0, none⟩) (k + 1) cap2 := by
   rcases id q3.own.2 with ⟨_, hz⟩ | ⟨gb, cap2, cur, hv, _⟩
   ·omega
   ·exact ⟨gb, cap2, by rw [hv, hk]⟩
  subst huv
  obtain ⟨l, hl⟩ : ∃ l, S1.used[k]? = some l := ⟨S1.used[k]'(by omega), List.getElem?_eq_getElem (by omega)⟩
  have hlu : S1.used.getLast? = some l := by rw [List.getLast?_eq_getElem?, hk]; exact hl
  have hlm : l ∈ S1.used := List.mem_of_getElem? hl
  have hlc : l < Q.count := HG1.out.1.inside l hlm
  obtain ⟨⟨bl, dl⟩, hfl⟩ := Option.isSome_iff_exists.1 ((HG1.out.1.inv.mem l).1 hlm)
  obtain ⟨hbl, fl, fa, fc, r1, r2, r3⟩ := frat_some hX1.fr hfl
  have c4 := q1.cell.2.2.2.2.1
  have c5 := q1.cell.2.2.2.2.2.1
  obtain ⟨b9, off9, e9, cl⟩ := sat_cell (q3.at_ RI_mono) (mem_map_nat.2 hl)
  cases e9
  unfold cf at cl
  rw [Nat.zero_add] at cl
  have g4 := KeepS.cell c4 hX1.box
  have g5 := KeepS.cell c5 hX1.box
  have g6 := KeepS.cell cl (q5 gb rfl)
  have hwf : WfI (l : Int) := WfI_small (by omega) (by have := HH.out.2.2.2.2.2.1; omega)
  have hX1' := HoldT.mk (And.intro hX1 (And.intro q1 (And.intro q2 (And.intro q3 (And.intro q4 q5)))))
  have HL := HoldT.mk (And.intro hlu (And.intro hlm (And.intro hlc (And.intro hfl (And.intro hbl (And.intro r1 (And.intro r2 (And.intro r3 hwf))))))))
  clear q1 q2 q3 q4 q5 hX1 hl hlu hlm hlc hfl hbl r1 r2 r3 hwf c4 c5 cl
  refine wp_region_mixC (KeepSC H.p v1) 18 rfl (by kernel_rfl) ?_
  have HDR2 := HoldT.mk ((Below.refl v1.heap.size v1).drew)
  have HST2 : HoldT (∀ q : Nat, v1.drew.heap[q]? = v1.heap[q]?) := ⟨fun _ => rfl⟩
  generalize v1.drew = v2 at HDR2 HST2 |-
  refine mixl_seg (by kernel_rfl) (fun _ _ d _ _ h => by cases d <;> exact h) [0, 1, 2, 3, 4, 5, 6, 7, 8, 9, 10, 11, 12, 13, 14, 15] [_, _, _, _, _, _, _, _, _, _, _, _, _, _, _, _] 2 18 rfl _ _ _ rfl (by kernel_rfl) (keepSC fun q _ => HST2.out q) ?_
  repeat (go_big_quiet_step (fail))
  refine wpQuiet_nil ?_
  clear g4 g5 g6
  obtain ⟨hlu, hlm, hlc, hfl, hbl, r1, r2, r3, hwf⟩ := HL.out
  have hlk := (hX1'.out.1.map.same (HST2.out fm)).look Tryz.underlying94 (show (zeroValue 171).run Tryz.prog v2 = .ok (.pointer none) v2 by kernel_rfl) hwf
  rw [r1] at hlk
  have hlk2 : (Instr.lookup 94 (.map (some fm)) (.int .i64 (l : Int)) false).run Tryz.prog v2 = .ok (.pointer (some ⟨fl, 0, none⟩)) v2 := hlk
  clear hlu hlm hlc hfl hbl r1 r2 r3 hwf hlk
  refine mixl_act (i := 16) rfl (by kernel_rfl) (keepSC fun q _ => HST2.out q) rfl (fun K hK => ?_)
  go_wp2_with fail
  refine mixl_seg (by kernel_rfl) (fun _ _ d _ _ h => by cases d <;> exact h) [17] [_] 0 1 rfl _ _ _ rfl (by kernel_rfl) (keepSC fun q _ => HST2.out q) ?_
  repeat (go_big_quiet_step (fail))
  refine wpQuiet_nil ?_
  refine mix_done (by kernel_rfl) (keepSC fun q _ => HST2.out q) ?_
  clear hlk2
  have hr2 := HL.out.2.2.2.2.2.2.1
  have d2 : v2.cell? ⟨fl, 2, none⟩ = some (.bool dl) := by
   have : v2.heap[fl]? = some (.cells #[.int .i64 l, .slice fa 1024 fc, .bool dl] 173 (0, 0)) := (HST2.out fl).trans hr2
   simp [World.cell?, this]
  have hr0 : v2.cell? ⟨fl, 0, none⟩ = some (.int .i64 l) := by
   have : v2.heap[fl]? = some (.cells #[.int .i64 l, .slice fa 1024 fc, .bool dl] 173 (0, 0)) := (HST2.out fl).trans hr2
   simp [World.cell?, this]
  clear hr2
  have HB2 : HoldT (Below w1.heap.size w1 v2) := ⟨HDR.out.trans (HDR2.out.mono HDR.out.size)⟩
  have HK2 : HoldT (∀ q : Nat, v2.heap[q]? = w1.heap[q]?) := ⟨fun q => (HST2.out q).trans (HST.out q)⟩
  have HG2 : HoldT (PG Q R H S1 p v2 /\ PPg H.p Q S1 fm g v2 /\ TurnS H.all w H.all v2 /\ v2.heap[fb]? = some (.cells #[.int .i64 n, .slice (some ⟨g0, off, none⟩) 1024 cap, .bool d] 173 (0, 0)) /\ YAt (cfU v2) (.slice (some ⟨g0, off, none⟩) 1024 cap) b /\ fb ≠ fl) := by
   obtain ⟨hG1, hT1a, hf1, hy1, hS1, hX, hfn⟩ := HG1.out
   have hf2 := (HK2.out fb).trans hf1
   refine ⟨hG1.below HB2.out, hX.stand HB2.out.size (fun q _ => HK2.out q) (cfU_below HB2.out), hT1a.trans (TurnS.quiet HB2.out), hf2, hy1.mono RY_mono (cfU_below HB2.out), fun e => ?_⟩
   have h2 := (HST2.out fl).trans HL.out.2.2.2.2.2.2.1
   subst e
   rw [hf2] at h2
   simp only [Option.some.injEq, Obj.cells.injEq, Array.mk.injEq, List.cons.injEq, Value.int.injEq] at h2
   have hnl : n = l := by omega
   have hfl := HL.out.2.2.2.1
   rw [<- hnl, hfn] at hfl
   cases hfl
  cases dl
  case' true =>
   have HWR : HoldT (∃ ga oa, fa = some ⟨ga, oa, none⟩) := ⟨yat_addr HL.out.2.2.2.2.2.2.2.1 (by rw [HL.out.2.2.2.2.1]; omega)⟩
   obtain ⟨ga, oa, rfl⟩ := HWR.out
   obtain ⟨ib9, uv9, us9, q19, q29, q39, q49, q59⟩ := HG2.out.2.1.ex
   have HPW := HoldT.mk (pages_write q19 HG2.out.1.disk (fun e => HG2.out.1.apart _ e HG2.out.2.1.box) ((HST2.out fl).trans HL.out.2.2.2.2.2.2.1) (fun e => HG2.out.1.apart _ e (HG2.out.2.1.hfr _ _ HL.out.2.2.2.2.2.1)) (HL.out.2.2.2.2.2.2.2.1.mono RY_mono (cfU_below HDR2.out)) HL.out.2.2.2.2.1 (by have h1 := HG2.out.1.fit; have h2 := HL.out.2.2.1; omega) (by have := HH.out.2.2.2.2.1; omega))
   clear q19 q29 q39 q49 q59
   go_wp2_with fail
   refine HPW.out.mono ?_
   rintro e w3 ⟨rfl, HD', w2', hD', hT', hw3⟩
   obtain ⟨k1, k2, k3⟩ := HG2.out.1.cleaned HG2.out.2.1 HL.out.2.2.1 HL.out.2.2.2.1 HL.out.2.2.2.2.2.1 hD' hT'
   have kf : w3.heap[fb]? = some (.cells #[.int .i64 n, .slice (some ⟨g0, off, none⟩) 1024 cap, .bool d] 173 (0, 0)) := by
    rw [hw3, Below.heap_setCell _ _ _ _ HG2.out.2.2.2.2.2]
    exact (hT'.kept HG2.out.2.2.2.1 (fun e => HG2.out.1.apart _ e HH.out.2.2.2.1)).1
   have k0 : w3.cell? ⟨fl, 0, none⟩ = some (.int .i64 l) := by
    rw [hw3]
    have h1 := (hT'.kept ((HST2.out fl).trans HL.out.2.2.2.2.2.2.1) (fun e => HG2.out.1.apart _ e (HG2.out.2.1.hfr _ _ HL.out.2.2.2.2.2.1))).1
    have h2 := set_selfT (o := 2) (c := .bool false) h1
    simp [World.cell?, h2]
   rw [<- hw3] at k1 k2 k3
   have HK3 := HoldT.mk (And.intro k1 (And.intro k2 (And.intro k3 kf)))
   clear k1 k2 k3 kf hw3 hD' hT' HPW
   have HDP := HoldT.mk (pages_drop (n := l) HK3.out.1.own HK3.out.1.inv HK3.out.1.small.2.2 (by have := HL.out.2.2.1; have := HG2.out.1.small; omega))
   go_wp2_with fail
   refine HDP.out.mono ?_
   rintro e w4 ⟨rfl, hP4, hT4, hF4⟩
   obtain ⟨wx, H2, S2, p2, HE⟩ : ∃ wx H2 S2 p2, HoldT (wx = w4 /\ PG Q R H2 S2 p2 wx /\ TurnS H.all w H2.all wx /\ p2 <= p + 4 /\ wx.heap[fb]? = some (.cells #[.int .i64 n, .slice (some ⟨g0, off, none⟩) 1024 cap, .bool d] 173 (0, 0)) /\ YAt (cfU wx) (.slice (some ⟨g0, off, none⟩) 1024 cap) b /\ S2 = evictP Q.pool S1 /\ H2.p fb) := by
    obtain ⟨h4, ht4⟩ := HK3.out.1.dropped hP4 hT4
    refine ⟨w4, ⟨HD', H.p⟩, dropP l (writeP l bl S1), p + 4, ⟨rfl, h4, (HG2.out.2.2.1.trans HK3.out.2.2.1).trans ht4, by omega, hF4 _ _ _ HK3.out.2.2.2, (HG2.out.2.2.2.2.1.mono RY_mono (cfU_turn HK3.out.2.2.1 HG2.out.1.noU)).mono RY_mono (cfU_turn hT4 HK3.out.1.own.noU), ?_, HH.out.2.2.2.1⟩⟩
    unfold evictP
    rw [if_neg (by omega), HL.out.1]
    simp only [HL.out.2.2.2.1]
   obtain rfl := HE.out.1
   clear hP4 hT4 hF4 k0 d2 hr0
   go_wp2_with fail
  case' false =>
   have HDP := HoldT.mk (pages_drop (n := l) HG2.out.1.own HG2.out.1.inv HG2.out.1.small.2.2 (by have := HL.out.2.2.1; have := HG2.out.1.small; omega))
   go_wp2_with (go_at_call 85; refine HDP.out.mono ?_; rintro e w4 ⟨rfl, hP4, hT4, hF4⟩)
   obtain ⟨wx, H2, S2, p2, HE⟩ : ∃ wx H2 S2 p2, HoldT (wx = w4 /\ PG Q R H2 S2 p2 wx /\ TurnS H.all w H2.all wx /\ p2 <= p + 4 /\ wx.heap[fb]? = some (.cells #[.int .i64 n, .slice (some ⟨g0, off, none⟩) 1024 cap, .bool d] 173 (0, 0)) /\ YAt (cfU wx) (.slice (some ⟨g0, off, none⟩) 1024 cap) b /\ S2 = evictP Q.pool S1 /\ H2.p fb) := by
    obtain ⟨hG2, hX2, hT2, hf2, hy2, hne⟩ := HG2.out
    obtain ⟨h4, ht4⟩ := hG2.dropped hP4 hT4
    refine ⟨w4, H, dropP l S1, p, ⟨rfl, h4, hT2.trans ht4, by omega, hF4 _ _ _ hf2, hy2.mono RY_mono (cfU_turn hT4 hG2.own.noU), ?_, HH.out.2.2.2.1⟩⟩
    unfold evictP
    rw [if_neg (by omega), HL.out.1]
    simp only [HL.out.2.2.2.1]
   obtain rfl := HE.out.1
   clear hP4 hT4 hF4 d2 hr0
 all_goals
  obtain ⟨_, hG3, hT3, hp3, hf3, hy3, hS2, hfb3⟩ := HE.out
  obtain ⟨fm9, g9, hX3⟩ := hG3.own.open
  obtain ⟨ib3, uv3, us3, q13, q23, q33, q43, q53⟩ := hX3.ex
  have hn2 : S2.fr n = none := by
   rw [hS2]
   exact ((evict_ok hG3.pool1 HG1.out.1.inv).2.2.2.2 n HG1.out.2.2.2.2.2.2).1
  have hsu : ∀ k, (g9 k).isSome = true -> k ∈ S2.used.map Int.ofNat := fun k hk => by
   obtain ⟨m, rfl, hm⟩ := (frat_dom hX3.fr).1 hk
   exact List.mem_map.2 ⟨m, (hG3.inv.mem m).2 hm, rfl⟩
  have hul : S2.used.length <= 1000000 := hG3.small.2.2
  have c4 := q13.cell.2.2.2.2.1
  have f0 : wx.cell? ⟨fb, 0, none⟩ = some (.int .i64 n) := by simp [World.cell?, hf3]
  have g4 := KeepS.cell (P := fun q => q = Q.pb \/ q = fb) c4 (.inl rfl)
  have g0' := KeepS.cell (P := fun q => q = Q.pb \/ q = fb) f0 (.inr rfl)
  have hwn : WfI (n : Int) := WfI_small (by omega) (by have := HH.out.2.2.2.2.2.1; omega)
  have hne1 : fm9 ≠ Q.pb := fun e => by subst e; exact map_not hX3.map q13
  have hne2 : fm9 ≠ fb := fun e => by subst e; exact map_not hX3.map hf3
  have HM3 := HoldT.mk (And.intro hX3 (And.intro q13 (And.intro q23 (And.intro q33 (And.intro q43 q53)))))
  have HM4 := HoldT.mk (And.intro hn2 (And.intro hsu (And.intro hwn (And.intro hne1 hne2))))
  have HUL := HoldT.mk hul
  clear hG3 hT3 hp3 hf3 hy3 hS2 hfb3 q13 q23 q33 q43 q53 c4 f0 hn2 hsu hwn hne1 hne2 hX3 hul
  refine wp_region_mixC (KeepSC (fun q => q = Q.pb \/ q = fb) wx) 10 rfl (by kernel_rfl) ?_
  have HDR7 := HoldT.mk ((Below.refl wx.heap.size wx).drew)
  have HST7 : HoldT (∀ q : Nat, wx.drew.heap[q]? = wx.heap[q]?) := ⟨fun _ => rfl⟩
  generalize wx.drew = v7 at HDR7 HST7 |-
  refine mixl_seg (by kernel_rfl) (fun _ _ d _ _ h => by cases d <;> exact h) [0, 1, 2, 3, 4, 5, 6, 7, 8] [_, _, _, _, _, _, _, _, _] 1 10 rfl _ _ _ rfl (by kernel_rfl) (keepSC fun q _ => HST7.out q) ?_
  repeat (go_big_quiet_step (fail))
  refine wpQuiet_nil ?_
  clear g4 g0'
  obtain ⟨w8, hup, m8, ht8⟩ := (HM3.out.1.map.same (HST7.out fm9)).put Tryz.underlying94 HM4.out.2.2.1 (.pointer (some ⟨fb, 0, none⟩)) HM4.out.2.1 (by rw [List.length_map]; exact HUL.out)
  refine mixl_act (i := 9) rfl (by kernel_rfl) (keepSC fun q _ => HST7.out q) rfl (fun K hK => ?_)
  go_wp2_with fail
  have HG8 := HoldT.mk (World.mapTurned.grown ht8)
  have hk8 : ∀ q, q = Q.pb \/ q = fb -> w8.heap[q]? = wx.heap[q]? := fun q hq => by
   have hlt : q < v7.heap.size := by
    have h1 := HDR7.out.size
    rcases hq with rfl | rfl
    ·have := heap_lt HM3.out.2.1; omega
    ·have := HE.out.2.2.2.2.1; have := heap_lt this; omega
   refine (HG8.out.block q hlt (fun e => ?_)).trans (HST7.out q)
   rcases hq with rfl | rfl
   ·exact HM4.out.2.2.2.1 (Option.some.inj e).symm
   ·exact HM4.out.2.2.2.2 (Option.some.inj e).symm
  have HM8 := HoldT.mk (And.intro m8 hk8)
  clear hup ht8 m8
  refine mix_done (by kernel_rfl) (keepSC hk8) ?_
  clear hk8
  go_upto_region 8 with (fail)
  obtain ⟨ua, uc, hus⟩ := HM3.out.2.2.2.1.shape
  have c5 : w8.cell? ⟨Q.pb, 5, none⟩ = some uv3 := by
   have h1 : PBox w8 _ _ _ _ _ _ _ := (HM8.out.2 Q.pb (.inl rfl)).trans HM3.out.2.1
   exact h1.cell.2.2.2.2.2.1
  have f0 : w8.cell? ⟨fb, 0, none⟩ = some (.int .i64 n) := by
   have h1 := (HM8.out.2 fb (.inr rfl)).trans HE.out.2.2.2.2.1
   simp [World.cell?, h1]
  have HUS := HoldT.mk hus
  rw [hus] at c5
  clear hus
  have g0' := KeepS.cell (P := fun q => q = fb) f0 rfl
  clear f0
  refine wp_region_mixC (KeepSC (fun q => q = fb) w8) 14 rfl (by kernel_rfl) ?_
  have HDR9 := HoldT.mk ((Below.refl w8.heap.size w8).drew)
  have HST9 : HoldT (∀ q : Nat, w8.drew.heap[q]? = w8.heap[q]?) := ⟨fun _ => rfl⟩
  have c5' : w8.drew.cell? ⟨Q.pb, 5, none⟩ = some (.slice ua S2.used.length uc) := c5
  clear c5
  generalize w8.drew = v9 at HDR9 HST9 c5' |-
  refine mixl_seg (by kernel_rfl) (fun _ _ d _ _ h => by cases d <;> exact h) [0, 1, 2, 3, 5, 6, 7, 8] [_, _, _, _, _, _, _, _] 6 14 rfl _ _ _ rfl (by kernel_rfl) (keepSC fun q _ => HST9.out q) ?_
  repeat (go_big_quiet_step (fail))
  refine wpQuiet_nil ?_
  clear g0'
  have hHk : ∀ (o : Obj) (q : Nat), q = fb -> (v9.alloc o).heap[q]? = w8.heap[q]? := fun o q hq => by
   subst hq
   have h1 := (HM8.out.2 q (.inr rfl)).trans HE.out.2.2.2.2.1
   rw [h1]
   exact kept ((HST9.out q).trans h1) ((Below.refl _ v9).alloc (Nat.le_refl _) _)
  have c5'' : ∀ o, (v9.alloc o).cell? ⟨Q.pb, 5, none⟩ = some (.slice ua S2.used.length uc) := fun o => Lib.cell?_alloc_some _ c5'
  refine mixl_two (i := 4) (j := 9) rfl rfl (by kernel_rfl) (keepSC fun q _ => HST9.out q) rfl rfl (fun K hK => ?_) (fun K hK => ?_)
  case' refine_1 =>
   go_wp2_with fail
   refine mixl_act (i := 9) rfl (by kernel_rfl) (keepSC fun q _ => HST9.out q) rfl (fun K hK => ?_)
   go_wp2_with fail
  case' refine_2 =>
   go_wp2_with fail
   refine mixl_act (i := 4) rfl (by kernel_rfl) (keepSC (hHk _)) rfl (fun K hK => ?_)
   go_wp2_with fail
  all_goals
   have hbd : Below wx.heap.size wx v7 := HDR7.out
   have hb89 : v7.grownBy w8 (some fm9) := HG8.out
   obtain ⟨wA, hwA⟩ : ∃ wA, wA = v9.alloc (.cells #[.int .i64 (n : Int)] 3) := ⟨_, rfl⟩
   have hA9 : Below v9.heap.size v9 wA := by rw [hwA]; exact (Below.refl _ v9).alloc (Nat.le_refl _) _
   have hAn : wA.heap[v9.heap.size]? = some (.cells [Value.int .i64 (n : Int)].toArray 3 (0, 0)) := by rw [hwA]; exact heap_alloc_new v9 _
   have hAf : ∀ q, q = fb -> wA.heap[q]? = w8.heap[q]? := by rw [hwA]; exact hHk _
   have hgwA : wx.grownBy wA (some fm9) := grown_below (grown_below (World.grownBy.trans ⟨hbd.os, hbd.tape, hbd.output, hbd.size, fun q hq _ => hbd.block q hq⟩ hb89) HDR9.out) hA9
   rw [<- hwA]
   obtain ⟨s0, hs0⟩ : ∃ s0, s0 = v9.heap.size := ⟨_, rfl⟩
   have hsz0 : wx.heap.size <= s0 := by rw [hs0]; exact Nat.le_trans hbd.size (Nat.le_trans hb89.size HDR9.out.size)
   have o9 : OwnS 1 RI 3 0 wA (.slice ua S2.used.length uc) S2.used.length (S2.used.map Int.ofNat) us3 := by
    rw [<- HUS.out]
    refine own_keep (fun _ _ _ _ h => h) HM3.out.2.2.2.1 hgwA (fun gq e e2 => ?_)
    obtain ⟨cur, hc⟩ := own_kind HM3.out.2.2.2.1 e
    obtain rfl := Option.some.inj e2
    exact map_not HM3.out.1.map hc
   have husE : us3 = (S2.used.map Int.ofNat).map fun x => .int .i64 x := ri_cells HM3.out.2.2.2.1.row
   have HIN := HoldT.mk (insInt_any 0 wA (.slice ua S2.used.length uc) S2.used.length us3 o9.own 0 (Nat.zero_le _) s0 [.int .i64 (n : Int)] (by rw [hs0]; exact hAn) rfl (by intro u hu; simp at hu; rw [hu]; rfl) (by intro u hu; rw [husE] at hu; obtain ⟨x, _, rfl⟩ := List.mem_map.1 hu; rfl) (Nat.zero_le _) HUL.out (fun e => by
    have := (HM3.out.2.2.2.1.low s0 (by rw [HUS.out]; exact e)).2
    omega))
   have hA8 : ∀ q, q < w8.heap.size -> wA.heap[q]? = w8.heap[q]? := fun q hq => (hA9.block q (Nat.lt_of_lt_of_le hq HDR9.out.size)).trans (HST9.out q)
   have HA8 := HoldT.mk hA8
   have HA := HoldT.mk (And.intro hAf (And.intro hgwA (And.intro hsz0 (And.intro o9 husE))))
   rw [<- hs0]
   clear hbd hb89 hwA hA8 hA9 hAn hAf hgwA hs0 hsz0 o9 husE hHk c5' c5''
   refine mixl_act (i := 10) rfl (by kernel_rfl) (keepSC HA.out.1) rfl (fun K hK => ?_)
   go_wp2_with fail
   refine HIN.out.mono ?_
   rintro e wB ⟨uv', rfl, hownB, hgB, hnB⟩
   obtain ⟨va, vc, rfl⟩ := own_shape hownB
   simp only
   have hB0 : ∀ q, q < wx.heap.size -> q ≠ fm9 -> uv3.ownBlock ≠ some q -> wB.heap[q]? = wx.heap[q]? := fun q h1 h2 h3 => by
    have e1 := HA.out.2.1.block q h1 (fun e => h2 (Option.some.inj e))
    have e2 := hgB.block q (Nat.lt_of_lt_of_le h1 HA.out.2.1.size) (fun e => h3 (by rw [HUS.out]; exact e.symm))
    exact e2.trans e1
   have hpbB : PBox wB Q.pb Q.db Q.fr0 Q.pool (.slice (some ⟨ib3, 0, none⟩) S2.is.length S2.is.length) fm9 uv3 := (hB0 Q.pb (heap_lt HM3.out.2.1) (fun e => HM4.out.2.2.2.1 e.symm) (fun e => by
    obtain ⟨cur, hc⟩ := own_kind HM3.out.2.2.2.1 e
    exact kind_ne HM3.out.2.1 hc (by decide) rfl)).trans HM3.out.2.1
   have hfbB : wB.heap[fb]? = w8.heap[fb]? := ((hB0 fb (heap_lt HE.out.2.2.2.2.1) (fun e => HM4.out.2.2.2.2 e.symm) (fun e => by
    obtain ⟨cur, hc⟩ := own_kind HM3.out.2.2.2.1 e
    exact kind_ne HE.out.2.2.2.2.1 hc (by decide) rfl))).trans (HM8.out.2 fb (.inr rfl)).symm
   have hz5 := hpbB.free 5
   have hx5 := hpbB.cell.2.2.2.2.2.1
   have HB := HoldT.mk (And.intro hownB (And.intro hgB (And.intro hnB (And.intro hB0 (And.intro hpbB hfbB)))))
   clear hownB hgB hnB hB0 hpbB
   go_wp2_with fail
   refine mixl_seg (by kernel_rfl) (fun _ _ d _ _ h => by cases d <;> exact h) [11, 12] [_, _] 1 3 rfl _ _ _ rfl (by kernel_rfl) (keepSC fun q hq => by rw [hq]; exact hfbB) ?_
   repeat (go_big_quiet_step (fail))
   refine wpQuiet_nil ?_
   refine mixl_act (i := 13) rfl (by kernel_rfl) (keepSC fun q hq => by rw [hq]; exact hfbB) rfl (fun K hK => ?_)
   go_wp2_with fail
   have hnef : fb ≠ Q.pb := kind_ne HE.out.2.2.2.2.1 HM3.out.2.1 (by decide)
   refine mix_done (by kernel_rfl) (keepSC fun q hq => by rw [hq, Below.heap_setCell _ _ _ _ hnef]; exact hfbB) ?_
   clear hz5 hx5
   go_wp2_with fail
   go_ret
   obtain ⟨_, hG3, hT3, hp3, hf3, hy3, hS2, hfb3⟩ := HE.out
   obtain ⟨hX3, q13, q23, q33, q43, q53⟩ := HM3.out
   obtain ⟨hownB, hgB, hnB, hB0, hpbB, _⟩ := HB.out
   have hgS : wB.grownBy (wB.setCell ⟨Q.pb, 5, none⟩ (.slice va (S2.used.length + 1) vc)) (some Q.pb) := set6_grown _ _
   have hfm : (wB.setCell ⟨Q.pb, 5, none⟩ (.slice va (S2.used.length + 1) vc)).heap[fm9]? = w8.heap[fm9]? := by
    have e1 := HA8.out fm9 HM8.out.1.lt
    have e2 := hgB.block fm9 (Nat.lt_of_lt_of_le hX3.map.lt HA.out.2.1.size) (fun e => by
     obtain ⟨cur, hc⟩ := own_kind q33 (g := fm9) (by rw [HUS.out]; exact e.symm)
     exact map_not hX3.map hc)
    rw [Below.heap_setCell _ _ _ _ HM4.out.2.2.2.1]
    exact e2.trans e1
   have ho6 : OwnS 1 RI 3 0 wB (.slice va (S2.used.length + 1) vc) (S2.used.length + 1) ((n :: S2.used).map Int.ofNat) (us3.take (0 * 1) ++ [.int .i64 (n : Int)] ++ us3.drop (0 * 1)) := by
    refine ⟨hownB, by simp, ?_, Nat.zero_le _⟩
    have e0 : us3.take (0 * 1) ++ [Value.int .i64 (n : Int)] ++ us3.drop (0 * 1) = ((n :: S2.used).map Int.ofNat).map fun x => .int .i64 x := by
     rw [HA.out.2.2.2.2]
     simp
    rw [e0]
    exact ri_row _ _
   have hput : putP Q.pool n b d S = { S2 with used := n :: S2.used, fr := fun m => if m = n then some (b, d) else S2.fr m } := by
    rw [hS2, HG1.out.2.2.2.2.1]; rfl
   have hPI : PInv Q.pool (putP Q.pool n b d S) := (put_pool HH.out.1.pool1 HH.out.1.inv HH.out.2.1 HH.out.2.2.1).1
   rw [hput] at hPI
   obtain ⟨H', r1, r2⟩ := hG3.inserted hX3 q13 q23 q33 q43 q53 (w6 := wB.setCell ⟨Q.pb, 5, none⟩ (.slice va (S2.used.length + 1) vc)) (uv' := .slice va (S2.used.length + 1) vc) (us' := us3.take (0 * 1) ++ [.int .i64 (n : Int)] ++ us3.drop (0 * 1))
    (hgS.os.trans (hgB.os.trans HA.out.2.1.os)) (hgS.tape.trans (hgB.tape.trans HA.out.2.1.tape)) (hgS.output.trans (hgB.output.trans HA.out.2.1.output)) (Nat.le_trans HA.out.2.1.size (Nat.le_trans hgB.size hgS.size)) (fun q h1 h2 h3 h4 => (hgS.block q (Nat.lt_of_lt_of_le h1 (Nat.le_trans HA.out.2.1.size hgB.size)) (fun e => h3 (Option.some.inj e))).trans (hB0 q h1 h2 h4)) (HM8.out.1.same hfm) (pbox5 hpbB) (own_keep (fun _ _ _ _ h => h) ho6 hgS (fun gq e e2 => by
     obtain ⟨cur, hc⟩ := own_kind ho6 e
     obtain rfl := Option.some.inj e2
     exact kind_ne hc hpbB (by decide) rfl)) (fun q e => by
     rcases hnB q e with h1 | h1
     ·exact .inl (by rw [HUS.out]; exact h1)
     ·exact .inr (Nat.le_trans HA.out.2.1.size h1)) hf3 hy3 hfb3 HH.out.2.1 hn hPI
   refine ⟨rfl, ?_, H', p2, by rw [hput]; exact r1, hT3.trans r2, hp3⟩
   rw [HF.out.1, Below.heap_setCell _ _ _ _ hnef, hfbB]
   exact (HM8.out.2 fb (.inr rfl)).trans hf3
end Go.Proofs.YtafilaiinbggoaaGreat
