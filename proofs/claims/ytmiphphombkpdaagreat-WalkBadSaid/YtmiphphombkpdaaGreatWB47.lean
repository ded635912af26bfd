import Derived.Test.YtmiphphombkpdaaGreatWB33
import Derived.Test.YtmiphphombkpdaaGreatWB34
import Derived.Test.YtmiphphombkpdaaGreatWB44
import Derived.Test.YtmiphphombkpdaaGreatWB46
namespace Go.Proofs.YtmiphphombkpdaaGreat
open Go.RowKit Go.Maps
structure Got (u : CF) (w wr : World) (s : Value) (ls : EL) : Prop where
 row : ∃ cs, OwnS 2 (RE u) 46 w.heap.size wr s ls.length ls cs
 bel : Below w.heap.size w wr
theorem Got.quiet {u : CF} {w wr w2 : World} {s : Value} {ls : EL} (h : Got u w wr s ls) (hb : Below wr.heap.size wr w2) : Got u w w2 s ls := by
 obtain ⟨cs, ho⟩ := h.row
 exact ⟨⟨cs, ho.quiet (RE_mono _) hb⟩, h.bel.trans (hb.mono h.bel.size)⟩
end Go.Proofs.YtmiphphombkpdaaGreat
namespace Go.Proofs.YtmiphphombkpdaaGreat
open Go.RowKit Go.Maps
def RangePost (Q : PQ) (R : Int -> Option Bts) (H : HS) (S : PS) (p c : Nat) (es : EL) (w : World) (e : Ending) (w' : World) : Prop :=
 ∃ (sl : Value) (H' : HS) (S' : PS) (p' : Nat), e = .returned (.tuple #[sl, .int .i64 0]) /\ (∃ cs, OwnS 2 (RE (cfU w')) 42 w.heap.size w' sl es.length es cs) /\ (∀ g, sl.ownBlock = some g -> ¬ H'.all g) /\ PG Q R H' S' p' w' /\ SameP S S' /\ TurnS H.all w H'.all w' /\ p' <= p + c
theorem range_post {Q : PQ} {R : Int -> Option Bts} {H : HS} {S : PS} {p c sb : Nat} {es : EL} {w w1 w' : World} {e : Ending} (hb : Below w.heap.size w w1) (hs : w.heap.size <= sb) (hp : ListPost Q R H S p c sb es w1 e w') : RangePost Q R H S p c es w e w' := by
 obtain ⟨sl, H', S', p', h1, ⟨cs, h2⟩, h3, h4, h5, h6, h7⟩ := hp
 refine ⟨sl, H', S', p', h1, ⟨cs, own_base h2 hb.size⟩, h3, h4, h5, ⟨h6.os.trans hb.os, h6.tape.trans hb.tape, h6.output.trans hb.output, Nat.le_trans hb.size h6.size, fun b hbl hn => ?_⟩, h7⟩
 obtain ⟨c1, c2⟩ := h6.out b (Nat.lt_of_lt_of_le hbl hb.size) (fun e => e.elim hn (fun e => by omega))
 exact ⟨c1.trans (hb.block b hbl), fun e => c2 (.inl e)⟩
set_option maxHeartbeats 8000000 in
set_option maxRecDepth 100000 in
theorem walk_Up {A : Nat} {Q : PQ} {R : Int -> Option Bts} {H : HS} {S : PS} {p : Nat} {f t : Bts} {fv tv : Value} {root most : Int} {o : Top} {w : World} (h : PG Q R H S p w) (hA : A <= w.heap.size /\ ∀ b, H.all b -> A <= b) (hf : YAt (cfL A w) fv f) (ht : YAt (cfL A w) tv t) (ho : TopIn S o root) (hp : p + 4 * (pagesO o).length <= 999999900) (hhh : heightO o <= 20) (hl : (esO o).length <= 1000000) :
  Calls Tryz.prog 12 #[.pointer (some ⟨Q.pb, 0, none⟩), .int .i64 root, fv, tv, .int .i64 most] w (RangePost Q R H S p (4 * (pagesO o).length) (listE false f t most o) w) := by
 obtain ⟨fa, fc, rfl⟩ := hf.form
 obtain ⟨ta, tc, rfl⟩ := ht.form
 obtain ⟨fl, hfl⟩ : ∃ x, x = f.length := ⟨_, rfl⟩
 obtain ⟨tl, htl⟩ : ∃ x, x = t.length := ⟨_, rfl⟩
 rw [<- hfl] at hf |-
 rw [<- htl] at ht |-
 obtain ⟨sb, hsb⟩ : ∃ q, q = w.heap.size := ⟨_, rfl⟩
 obtain ⟨w1, hw1⟩ : ∃ w1, w1 = w.alloc (.cells #[.pointer (some ⟨Q.pb, 0, none⟩), .slice fa fl fc, .slice ta tl tc, .bool false, .nilFunc] 77) := ⟨_, rfl⟩
 have hb1 : Below w.heap.size w w1 := by rw [hw1]; exact (Below.refl _ w).alloc (Nat.le_refl _) _
 have hbx : w1.heap[sb]? = some (.cells #[.pointer (some ⟨Q.pb, 0, none⟩), .slice fa fl fc, .slice ta tl tc, .bool false, .nilFunc] 77 (0, 0)) := by rw [hw1, hsb]; exact heap_alloc_new w _
 have hu : CLe (cfL A w) (cfL A w1) := cfL_below hb1
 have HL := HoldT.mk (list_any (most := most) (h.below hb1) ⟨hbx, hf.mono RY_mono (hu.trans (cfL_cf A w1)), ht.mono RY_mono (hu.trans (cfL_cf A w1))⟩ ⟨Nat.le_trans hA.1 hb1.size, hA.2⟩ (by have := hA.1; omega) (hf.mono RY_mono hu) (ht.mono RY_mono hu) (fun e => by have := h.lt sb e; omega) ho hp hhh hl)
 have HB := HoldT.mk (And.intro hb1 (show w.heap.size <= sb by omega))
 have HW := HoldT.mk (And.intro hsb hw1)
 clear h hA hf ht ho hp hhh hl hsb hw1 hb1 hbx hu hfl htl
 go_enter Tryz.func12, Tryz.ntmps12
 go_upto_region 2 with (fail)
 rw [<- HW.out.1, <- HW.out.2]
 go_wp2_with fail
 refine HL.out.mono ?_
 rintro e w2 hpost
 have HP := HoldT.mk (range_post HB.out.1 HB.out.2 hpost)
 obtain ⟨sl, H', S', p', rfl, hr⟩ := hpost
 clear hr
 go_wp2_with fail
 refine bodyPost_ret (v := .tuple #[sl, .int .i64 0]) (by simp [results, Tryz.results12, go_sem]) rfl ?_
 exact HP.out
end Go.Proofs.YtmiphphombkpdaaGreat
namespace Go.Proofs.YtmiphphombkpdaaGreat
open Go.RowKit Go.Maps
theorem disk_made {n : Nat} (hn : n <= 60000) (w : World) :
  Calls Tryz.prog 21 #[.int .i64 (n : Int)] w fun e w' => ∃ (db : Nat) (HD : BS), e = .returned (.pointer (some ⟨db, 0, none⟩)) /\ DG HD db n (fun _ => none) 0 w' /\ Below w.heap.size w w' /\ ∀ b, HD b -> w.heap.size <= b := by
 refine (disk_new (n : Int) w (by omega) (by omega)).mono ?_
 rintro e w3 ⟨rfl, hw3⟩
 obtain ⟨nb, hnb⟩ : ∃ q, q = w.heap.size := ⟨_, rfl⟩
 obtain ⟨w1, hw1⟩ : ∃ w1, w1 = w.alloc (.map #[] 0) := ⟨_, rfl⟩
 obtain ⟨w2, hw2⟩ : ∃ w2, w2 = w1.alloc (.map #[] 0) := ⟨_, rfl⟩
 rw [<- hw1, <- hw2, <- hnb] at hw3
 rw [<- hnb]
 have hb1 : Below w.heap.size w w1 := by rw [hw1]; exact (Below.refl _ w).alloc (Nat.le_refl _) _
 have hm1 : MapI nb (fun _ => none) w1 := by rw [hw1, hnb]; exact MapI.start w
 have hb2 : Below w1.heap.size w1 w2 := by rw [hw2]; exact (Below.refl _ w1).alloc (Nat.le_refl _) _
 have h12 : w1.heap.size = nb + 1 := by rw [hw1, hnb]; simp
 have hm2 : MapI (nb + 1) (fun _ => none) w2 := by rw [hw2, <- h12]; exact MapI.start w1
 have hm12 : MapI nb (fun _ => none) w2 := hm1.same (hb2.block nb (by omega))
 have hb3 : Below w2.heap.size w2 w3 := by rw [hw3]; exact (Below.refl _ w2).alloc (Nat.le_refl _) _
 have h23 : w2.heap.size = nb + 2 := by rw [hw2]; simp [h12]
 have hbx : DBox w3 (nb + 2) (n : Int) nb (nb + 1) (.slice none 0 0) 0 0 0 := by rw [hw3, <- h23]; exact heap_alloc_new w2 _
 have hs3 : w3.heap.size = nb + 3 := by rw [hw3]; simp [h23]
 have hm13 : MapI nb (fun _ => none) w3 := hm12.same (hb3.block nb (by omega))
 have hm23 : MapI (nb + 1) (fun _ => none) w3 := hm2.same (hb3.block (nb + 1) (by omega))
 have hbb : Below nb w w3 := by rw [hnb]; exact (hb1.trans (hb2.mono hb1.size)).trans (hb3.mono (Nat.le_trans hb1.size hb2.size))
 refine ⟨nb + 2, fun b => b = nb \/ b = nb + 1 \/ b = nb + 2, rfl, ⟨⟨nb, nb + 1, _, _, _, _, _, _, [], [], hbx, hm13, hm23, by omega, by omega, .inl rfl, .inr (.inl rfl), OwnS.start 2 _ _ (Nat.zero_le _), fun x hx => (by cases hx), fun g e => (by cases e), fun k => rfl, fun k e => (by cases e)⟩, fun k e => (by cases e), by omega, .inr (.inr rfl), fun b hb => (by omega), fun b hb hu => ?_⟩, hbb, fun b hb => by omega⟩
 obtain ⟨_, _, e2⟩ := hu
 rcases hb with rfl | rfl | rfl
 ·exact map_not hm13 e2
 ·exact map_not hm23 e2
 ·rw [hbx] at e2; cases e2
end Go.Proofs.YtmiphphombkpdaaGreat
namespace Go.Proofs.YtmiphphombkpdaaGreat
open Go.RowKit Go.Maps
theorem es_phi : ∀ (h : Nat) (t : Tree h), (esT h t).length <= phiT h t
 | 0, t => by
  show t.2.length <= max t.2.length 2
  omega
 | h + 1, t => by
  show (t.2.1.flatMap (esT h)).length <= (t.2.1.map (phiT h)).sum
  rw [List.length_flatMap]
  exact sum_le fun x _ => es_phi h x
theorem okO_few {j : Nat} {o : Top} (h : okO j o) (hj : j <= 80) : heightO o <= 6 /\ (pagesO o).length <= 79 /\ (esO o).length <= 81 := by
 match o, h with
 | none, _ => exact ⟨Nat.zero_le _, Nat.zero_le _, Nat.zero_le _⟩
 | some ⟨g, t⟩, h =>
  have h1 := low_tree h.1 (by have := h.2.2; omega)
  have h2 := es_phi g t
  have h3 := h.2.2
  exact ⟨by show g + 1 <= 6; omega, h1.2, by show (esT g t).length <= 81; omega⟩
theorem okO_more {j : Nat} {o : Top} (h : okO j o) : okO (j + 1) o := by
 match o, h with
 | none, h => exact h
 | some ⟨g, t⟩, h => exact ⟨h.1, h.2.1, by have := h.2.2; omega⟩
theorem okO_up {j : Nat} {o : Top} (h : okO j o) : upB ((esO o).map (·.1)) := by
 match o, h with
 | none, _ => exact List.Pairwise.nil
 | some ⟨g, t⟩, h => exact es_up g h.1
structure LS (Q : PQ) (R : Int -> Option Bts) (H : HS) (S : PS) (p tb mb : Nat) (o : Top) (root : Int) (sl : Value) (es : EL) (j : Nat) (w0 w : World) : Prop where
 pg : PG Q R H S p w
 tbx : TB H w tb Q.pb root
 top : TopIn S o root
 ok : okO j o
 only : Only S (pagesO o)
 len : S.is.length = 300
 few : p <= 2000 * j
 map : RM w mb sl es
 apart : ∀ b, mapX mb sl b -> ¬ (H.all b \/ b = tb)
 bel : Below w0.heap.size w0 w
 new : ∀ b, H.all b \/ b = tb \/ mapX mb sl b -> w0.heap.size <= b
theorem LS.noU {Q : PQ} {R : Int -> Option Bts} {H : HS} {S : PS} {p tb mb : Nat} {o : Top} {root : Int} {sl : Value} {es : EL} {j : Nat} {w0 w : World} (h : LS Q R H S p tb mb o root sl es j w0 w) : ∀ b, H.all b \/ b = tb -> ¬ IsU w b := fun b hb => hb.elim (h.pg.noU b) (fun e ⟨_, _, e2⟩ => by rw [e, h.tbx.box] at e2; cases e2)
theorem LS.free {Q : PQ} {R : Int -> Option Bts} {H : HS} {S : PS} {p tb mb : Nat} {o : Top} {root : Int} {sl : Value} {es : EL} {j : Nat} {w0 w : World} (h : LS Q R H S p tb mb o root sl es j w0 w) (hj : j <= 80) : 2 * heightO o + 3 <= freeP S := by
 obtain ⟨h1, h2, _⟩ := okO_few h.ok hj
 have h3 := h.only.free
 have h4 := h.len
 omega
theorem LS.quiet {Q : PQ} {R : Int -> Option Bts} {H : HS} {S : PS} {p tb mb : Nat} {o : Top} {root : Int} {sl : Value} {es : EL} {j : Nat} {w0 w w' : World} (h : LS Q R H S p tb mb o root sl es j w0 w) (hb : Below w.heap.size w w') : LS Q R H S p tb mb o root sl es j w0 w' :=
 ⟨h.pg.below hb, h.tbx.below hb, h.top, h.ok, h.only, h.len, h.few, h.map.below hb, h.apart, h.bel.trans (hb.mono h.bel.size), h.new⟩
theorem LS.turned {Q : PQ} {R : Int -> Option Bts} {H H' : HS} {S S' : PS} {p p' tb mb : Nat} {o o' : Top} {root root' : Int} {sl : Value} {es : EL} {j j' : Nat} {w0 w w' : World} (h : LS Q R H S p tb mb o root sl es j w0 w) (hG : PG Q R H' S' p' w') (hB : TB H' w' tb Q.pb root') (hI : TopIn S' o' root') (hok : okO j' o') (hM : Moves S S' (pagesO o) (pagesO o')) (hT : TurnS (fun b => H.all b \/ b = tb) w (fun b => H'.all b \/ b = tb) w') (hp : p' <= 2000 * j') : LS Q R H' S' p' tb mb o' root' sl es j' w0 w' /\ CLe (cfU w) (cfU w') := by
 have hu := cfU_turn hT h.noU
 obtain ⟨m1, m2⟩ := h.map.turn hT h.apart h.noU
 have hnew : ∀ b, b < w0.heap.size -> ¬ (H.all b \/ b = tb) := fun b hb e => by
  have := h.new b (e.elim .inl (fun e => .inr (.inl e)))
  omega
 refine ⟨⟨hG, hB, hI, hok, h.only.moves hM, hM.len.trans h.len, hp, m1, m2, ⟨hT.os.trans h.bel.os, hT.tape.trans h.bel.tape, hT.output.trans h.bel.output, Nat.le_trans h.bel.size hT.size, fun b hb => ?_⟩, fun b hb => ?_⟩, hu⟩
 ·exact (hT.out b (Nat.lt_of_lt_of_le hb h.bel.size) (hnew b hb)).1.trans (h.bel.block b hb)
 ·by_cases e : w0.heap.size <= b
  ·exact e
  ·have h1 := hT.out b (Nat.lt_of_lt_of_le (by omega) h.bel.size) (hnew b (by omega))
   rcases hb with hb | hb | hb
   ·exact absurd (.inl hb) h1.2
   ·exact absurd (.inr hb) h1.2
   ·exact h.new b (.inr (.inr hb))
theorem LS.put {Q : PQ} {R : Int -> Option Bts} {H : HS} {S : PS} {p tb mb : Nat} {o : Top} {root : Int} {sl : Value} {es : EL} {j : Nat} {w0 w w' : World} {k v : Bts} {e : Ending} (h : LS Q R H S p tb mb o root sl es j w0 w) (hj : j <= 80) (hk : keyOk k) (hk4 : k.length <= 40) (hv : v.length <= 260) (hp : PutPost Q R H S p tb o k v w e w') :
  e = .returned (.int .i64 0) /\ ∃ H' S' p' o' root', LS Q R H' S' p' tb mb o' root' sl es (j + 1) w0 w' /\ esO o' = putE k v (esO o) /\ CLe (cfU w) (cfU w') := by
 obtain ⟨o', root', H', S', p', rfl, hG, hB, hI, hT, hM, hU, hq⟩ := hp
 obtain ⟨h1, h2⟩ := put_top h.ok hk hk4 hv hT
 obtain ⟨h3, _, _⟩ := okO_few h.ok hj
 have h4 := h.few
 obtain ⟨h5, h6⟩ := h.turned hG hB hI h1 hM hU (by omega)
 exact ⟨rfl, H', S', p', o', root', h5, h2, h6⟩
theorem delE_no {k : Bts} {es : EL} (h : (getE k es).isSome = false) : delE k es = es := by rw [delE_parts, found_get, if_neg (by rw [h]; decide)]
theorem LS.del {Q : PQ} {R : Int -> Option Bts} {H : HS} {S : PS} {p tb mb : Nat} {o : Top} {root : Int} {sl : Value} {es : EL} {j : Nat} {w0 w w' : World} {k : Bts} {e : Ending} (h : LS Q R H S p tb mb o root sl es j w0 w) (hj : j <= 80) (hp : DelPost Q R H S p tb o k w e w') :
  e = .returned (.tuple #[.bool (getE k (esO o)).isSome, .int .i64 0]) /\ ∃ H' S' p' o' root', LS Q R H' S' p' tb mb o' root' sl es (j + 1) w0 w' /\ esO o' = delE k (esO o) /\ CLe (cfU w) (cfU w') := by
 obtain ⟨o', root', H', S', p', rfl, hG, hB, hI, hT, hN, hM, hU, hq⟩ := hp
 obtain ⟨h3, _, _⟩ := okO_few h.ok hj
 have h4 := h.few
 cases hs : (getE k (esO o)).isSome with
 | true =>
  obtain ⟨h1, h2⟩ := cut_top hj h.ok (hT hs)
  obtain ⟨h5, h6⟩ := h.turned hG hB hI (okO_more h1) hM hU (by omega)
  exact ⟨rfl, H', S', p', o', root', h5, h2, h6⟩
 | false =>
  obtain rfl := hN hs
  obtain ⟨h5, h6⟩ := h.turned hG hB hI (okO_more h.ok) hM hU (by omega)
  exact ⟨rfl, H', S', p', o', root', h5, (delE_no hs).symm, h6⟩
theorem LS.mapped {Q : PQ} {R : Int -> Option Bts} {H : HS} {S : PS} {p tb mb : Nat} {o : Top} {root : Int} {sl : Value} {es es' : EL} {j : Nat} {w0 w w' : World} {v : Value} {e : Ending} (h : LS Q R H S p tb mb o root sl es j w0 w) (hp : MapPost v mb sl es' w e w') :
  e = .returned v /\ ∃ sl', LS Q R H S p tb mb o root sl' es' j w0 w' := by
 obtain ⟨sl', rfl, hR, hT⟩ := hp
 have hu := cfU_turn hT h.map.noU
 have hnew : ∀ b, b < w0.heap.size -> ¬ mapX mb sl b := fun b hb e => by
  have := h.new b (.inr (.inr e))
  omega
 have hk : ∀ b, H.all b \/ b = tb -> w'.heap[b]? = w.heap[b]? /\ ¬ mapX mb sl' b := fun b hb => hT.out b (hb.elim (h.pg.lt b) (fun e => by rw [e]; exact heap_lt h.tbx.box)) (fun e => h.apart b e hb)
 refine ⟨rfl, sl', h.pg.stand hT.size (fun b hb => (hk b (.inl hb)).1) hu, ⟨(hk tb (.inr rfl)).1.trans h.tbx.box, h.tbx.off⟩, h.top, h.ok, h.only, h.len, h.few, hR, fun b hb e => (hk b e).2 hb, ⟨hT.os.trans h.bel.os, hT.tape.trans h.bel.tape, hT.output.trans h.bel.output, Nat.le_trans h.bel.size hT.size, fun b hb => ?_⟩, fun b hb => ?_⟩
 ·exact (hT.out b (Nat.lt_of_lt_of_le hb h.bel.size) (hnew b hb)).1.trans (h.bel.block b hb)
 ·rcases hb with hb | hb | hb
  ·exact h.new b (.inl hb)
  ·exact h.new b (.inr (.inl hb))
  ·by_cases e : w0.heap.size <= b
   ·exact e
   ·exact absurd hb (hT.out b (Nat.lt_of_lt_of_le (by omega) h.bel.size) (hnew b (by omega))).2
end Go.Proofs.YtmiphphombkpdaaGreat
namespace Go.Proofs.YtmiphphombkpdaaGreat
open Go.RowKit Go.Maps
abbrev LOp := UInt8 × Int × Int × Bool
def ROp12 : Rep LOp := fun _ x d => d = [.int .u8 (x.1.toNat : Int), .int .i64 x.2.1, .int .i64 x.2.2.1, .bool x.2.2.2]
theorem ROp12_mono : Mono ROp12 := fun _ _ _ _ _ h => h
def remU (n : Int) (k : Nat) : Nat := (wrap64 ((IntKind.u64.wrap n).tmod k)).toNat
theorem remU_lt (n : Int) {k : Nat} (h1 : 1 <= k) (h2 : k <= 1000) : wrap64 ((IntKind.u64.wrap n).tmod k) = (remU n k : Int) /\ remU n k < k := by
 have h0 : 0 <= IntKind.u64.wrap n := by
  have : IntKind.u64.wrap n = n % 18446744073709551616 := by simp [IntKind.wrap, IntKind.signed, IntKind.bits]
  omega
 have h3 := Int.tmod_nonneg (k : Int) h0
 have h4 := Int.tmod_lt_of_pos (IntKind.u64.wrap n) (show (0 : Int) < k by omega)
 have h5 : wrap64 ((IntKind.u64.wrap n).tmod k) = (IntKind.u64.wrap n).tmod k := by unfold wrap64; omega
 unfold remU
 rw [h5]
 omega
def keyOf (x : LOp) : Bts := List.replicate (remU x.2.1 40 + 1) x.1
def valOf (x : LOp) : Bts := List.replicate (remU x.2.2.1 261) 0
theorem keyOf_ok (x : LOp) : keyOk (keyOf x) /\ (keyOf x).length <= 40 := by
 have := (remU_lt x.2.1 (k := 40) (by omega) (by omega)).2
 unfold keyOf keyOk
 rw [List.length_replicate]
 omega
theorem valOf_ok (x : LOp) : (valOf x).length <= 260 := by
 have := (remU_lt x.2.2.1 (k := 261) (by omega) (by omega)).2
 unfold valOf
 rw [List.length_replicate]
 omega
def stepE (es : EL) (x : LOp) : EL := if x.2.2.2 = true then delE (keyOf x) es else putE (keyOf x) (valOf x) es
def runE12 (l : List LOp) : EL := l.foldl stepE []
theorem runE_next {l : List LOp} {j : Nat} {x : LOp} (h : l[j]? = some x) : runE12 (l.take (j + 1)) = stepE (runE12 (l.take j)) x := by
 unfold runE12
 rw [take_succ h, List.foldl_append]
 rfl
def BuiltPost (l : List LOp) (w0 : World) (e : Ending) (w' : World) : Prop :=
 ∃ Q R H S p tb mb o root sl, e = .returned (.tuple #[.pointer (some ⟨Q.pb, 0, none⟩), .int .i64 root, .pointer (some ⟨mb, 0, none⟩)]) /\ LS Q R H S p tb mb o root sl (esO o) l.length w0 w' /\ esO o = runE12 l
def bdeps : Nat -> List Nat
 | 14 => [4]
 | 15 => [13]
 | _ => []
def BF (k v : Bts) : Nat -> List Value -> Value -> World -> Prop := fun i _ x w => if i = 4 \/ i = 14 then ∃ a c, x = .slice a k.length c /\ YAt (cfU w) x k else ∃ a c, x = .slice a v.length c /\ YAt (cfU w) x v
theorem bf_below {k v : Bts} : ∀ (i : Nat) (ds : List Value) (x : Value) (w w' : World), BF k v i ds x w -> Below w.heap.size w w' -> BF k v i ds x w' := fun i ds x w w' h hb => by
 unfold BF at h |-
 split at h
 ·rename_i e
  obtain ⟨a, c, h1, h2⟩ := h
  rw [if_pos e]
  exact ⟨a, c, h1, h2.mono RY_mono (cfU_below hb)⟩
 ·rename_i e
  obtain ⟨a, c, h1, h2⟩ := h
  rw [if_neg e]
  exact ⟨a, c, h1, h2.mono RY_mono (cfU_below hb)⟩
theorem zeros_yat {w w' : World} {n : Nat} (hg : w.grownBy w' none) (ho : w'.ownsRow w.heap.size 5 1 (.slice (some ⟨w.heap.size, 0, none⟩) n n) n (List.replicate n (.int .u8 0))) : YAt (cfU w') (.slice (some ⟨w.heap.size, 0, none⟩) n n) (List.replicate n 0) := by
 have h1 : OwnS 1 RY 5 w.heap.size w' (.slice (some ⟨w.heap.size, 0, none⟩) n n) n (List.replicate n 0) (List.replicate n (.int .u8 0)) := by
  refine ⟨ho, List.length_replicate, ⟨by rw [List.length_replicate, List.length_replicate, Nat.mul_one], fun i x hx => ?_⟩, hg.size⟩
  have hi := (List.getElem?_eq_some_iff.1 hx).1
  rw [List.length_replicate] at hi
  obtain rfl : x = 0 := List.eq_of_mem_replicate (List.mem_of_getElem? hx)
  refine ⟨[.int .u8 0], rfl, fun j u hu => ?_, rfl⟩
  match j, hu with
  | 0, hu =>
   cases hu
   rw [List.getElem?_replicate, if_pos (by omega)]
 exact h1.yat
theorem ls_start {w0 w1 w2 w3 w4 : World} {db pb tb mb : Nat} {HD HP : BS} (hb1 : Below w0.heap.size w0 w1) (hHD : ∀ b, HD b -> w0.heap.size <= b) (hG : PG ⟨pb, db, 0, 300, 7, 1200⟩ (fun _ => none) ⟨HD, HP⟩ (PS.open 300 0 fun _ => none) 0 w2) (hb2 : Below w1.heap.size w1 w2) (hHP : ∀ b, HP b -> w1.heap.size <= b) (hT : TB ⟨HD, HP⟩ w3 tb pb (-1)) (hb3 : Below w2.heap.size w2 w3) (htb : w2.heap.size <= tb) (hw4 : w4 = w3.alloc (.cells #[.slice none 0 0] 67)) (hmb : mb = w3.heap.size) : LS ⟨pb, db, 0, 300, 7, 1200⟩ (fun _ => none) ⟨HD, HP⟩ (PS.open 300 0 fun _ => none) 0 tb mb none (-1) (.slice none 0 0) [] 0 w0 w4 := by
 have hb4 : Below w3.heap.size w3 w4 := by rw [hw4]; exact (Below.refl _ w3).alloc (Nat.le_refl _) _
 have hbm : w4.heap[mb]? = some (.cells #[.slice none 0 0] 67 (0, 0)) := by rw [hw4, hmb]; exact heap_alloc_new w3 _
 have s1 := hb1.size
 have s2 := hb2.size
 have s3 := hb3.size
 have hlt := heap_lt hT.box
 refine ⟨(hG.below hb3).below hb4, hT.below hb4, rfl, trivial, ⟨List.nodup_nil, fun p hp => (by cases hp), fun p s hp _ => ?_⟩, by unfold PS.open; rw [List.length_replicate], Nat.le_refl _, ⟨hbm, [], OwnS.start 2 _ _ (Nat.zero_le _)⟩, fun b hb => ?_, ((hb1.trans (hb2.mono s1)).trans (hb3.mono (by omega))).trans (hb4.mono (by omega)), fun b hb => ?_⟩
 ·unfold PS.open at hp
  exact List.eq_of_mem_replicate (List.mem_of_getElem? hp)
 ·rcases hb with rfl | hb
  ·rintro (e | e)
   ·have := hG.lt b e
    omega
   ·omega
  ·cases hb
 ·rcases hb with (hb | hb) | hb | hb | hb
  ·exact hHD b hb
  ·have := hHP b hb
   omega
  ·omega
  ·omega
  ·cases hb
set_option maxHeartbeats 16000000 in
set_option maxRecDepth 100000 in
theorem law_built {w0 : World} {l : List LOp} {lv : Value} (hl : SAt 4 ROp12 (cf w0) lv l) (hn : l.length <= 80) :
  Calls Tryz.prog 11 #[lv] w0 (BuiltPost l w0) := by
 obtain ⟨la, lc, rfl⟩ := hl.form
 obtain ⟨n, hnn⟩ : ∃ n, n = l.length := ⟨_, rfl⟩
 rw [<- hnn] at hl hn |-
 have HLS := HoldT.mk (And.intro hl hnn)
 clear hl hnn
 have HD := HoldT.mk (disk_made (n := 1200) (by omega) w0)
 go_enter Tryz.func11, Tryz.ntmps11
 go_wp2_with fail
 refine HD.out.mono ?_
 rintro e w1 ⟨db, HDB, rfl, hdg, hb1, hHD⟩
 have HPO := HoldT.mk (pages_open (fr0 := 0) (count := 300) (pool := 7) hdg (by omega) (by omega) (by omega))
 have H1 := HoldT.mk (And.intro hb1 hHD)
 clear hdg hb1 hHD HD
 go_wp2_with fail
 refine HPO.out.mono ?_
 rintro e w2 ⟨pb, HP, rfl, hpb, hG, hb2, hHP⟩
 have HTO := HoldT.mk (tree_open (H := ⟨HDB, HP⟩) (pb := pb) (root := -1) hG.lt)
 have H2 := HoldT.mk (And.intro hG (And.intro hb2 hHP))
 clear hpb hG hb2 hHP HPO
 go_wp2_with fail
 refine HTO.out.mono ?_
 rintro e w3 ⟨tb, rfl, hT, hb3, htb⟩
 obtain ⟨mb, hmb⟩ : ∃ mb, mb = w3.heap.size := ⟨_, rfl⟩
 obtain ⟨w4, hw4⟩ : ∃ w4, w4 = w3.alloc (.cells #[.slice none 0 0] 67) := ⟨_, rfl⟩
 have HSt := HoldT.mk (ls_start H1.out.1 H1.out.2 H2.out.1 H2.out.2.1 H2.out.2.2 hT hb3 htb hw4 hmb)
 have HW := HoldT.mk (And.intro hmb hw4)
 clear hT hb3 htb hmb hw4 HTO H1 H2
 go_upto_region 3 with (fail)
 rw [<- HW.out.1, <- HW.out.2]
 clear HW
 go_wp2_with fail
 obtain ⟨Q, hQ⟩ : ∃ Q : PQ, Q = ⟨pb, db, 0, 300, 7, 1200⟩ := ⟨_, rfl⟩
 obtain ⟨R, hR⟩ : ∃ R : Int -> Option Bts, R = fun _ => none := ⟨_, rfl⟩
 have HQ := HoldT.mk (show pb = Q.pb by rw [hQ])
 rw [<- hQ, <- hR] at HSt
 clear hQ hR
 go_loopw [9, 10, 11, 12, 13] (fun s9 s10 s11 s12 s13 wr => ∃ (j : Nat) (H : HS) (S : PS) (p : Nat) (o : Top) (root : Int) (sl : Value), s9 = .int .i64 (j : Int) /\ j <= n /\ HoldT (LS Q R H S p tb mb o root sl (esO o) j w0 wr /\ esO o = runE12 (l.take j))) (fun s9 _ _ _ _ _ => n - (intOf s9).toNat)
 case atStart => exact ⟨0, _, _, _, _, _, _, rfl, Nat.zero_le _, ⟨HSt.out, rfl⟩⟩
 case round =>
  obtain ⟨j, H, S, p, o, root, sl, rfl, hj, HL⟩ := hrel
  clear HSt
  by_cases hlt : j < n
  ·obtain ⟨x, hx⟩ : ∃ x, l[j]? = some x := ⟨l[j]'(by rw [<- HLS.out.2]; exact hlt), List.getElem?_eq_getElem _⟩
   obtain ⟨kb, N, M, gone⟩ := x
   obtain ⟨_, _, e9, _, _, hel⟩ := HLS.out.1
   simp only [Value.slice.injEq] at e9
   obtain ⟨b, off, d, ea, hd, hc, hr⟩ := hel j _ hx
   obtain rfl : la = some ⟨b, off, none⟩ := e9.1.trans ea
   have hr' : d = [.int .u8 (kb.toNat : Int), .int .i64 N, .int .i64 M, .bool gone] := hr
   subst hr'
   have hbl : Below w0.heap.size w0 wr := HL.out.1.bel
   have c0 := cle_below hbl _ _ _ (hc 0 _ rfl)
   have c1 := cle_below hbl _ _ _ (hc 1 _ rfl)
   have c2 := cle_below hbl _ _ _ (hc 2 _ rfl)
   have c3 := cle_below hbl _ _ _ (hc 3 _ rfl)
   have hbs : b < w0.heap.size := lt_of_cell (hc 0 _ rfl)
   rw [Nat.add_zero] at c0
   unfold cf at c0 c1 c2 c3
   have HX := HoldT.mk (And.intro hx (And.intro c3 hbs))
   clear hx e9 hel ea hd hc hr hbl
   have HK : HoldT (∀ wz : World, Below wr.heap.size wr wz -> ∀ q, q = b -> wz.heap[q]? = wr.heap[q]?) := ⟨fun wz hz q hq => hz.block q (by rw [hq]; have := HL.out.1.bel.size; have := HX.out.2.2; omega)⟩
   have g0 := KeepS.cell (P := fun q => q = b) c0 rfl
   have g1 := KeepS.cell (P := fun q => q = b) c1 rfl
   have g2 := KeepS.cell (P := fun q => q = b) c2 rfl
   have g3 := KeepS.cell (P := fun q => q = b) c3 rfl
   obtain ⟨hm1, hm2⟩ := remU_lt N (k := 40) (by omega) (by omega)
   obtain ⟨hv1, hv2⟩ := remU_lt M (k := 261) (by omega) (by omega)
   obtain ⟨km, hkm⟩ : ∃ km, km = remU N 40 := ⟨_, rfl⟩
   obtain ⟨vm, hvm⟩ : ∃ vm, vm = remU M 261 := ⟨_, rfl⟩
   rw [<- hkm] at hm1 hm2
   rw [<- hvm] at hv1 hv2
   have hv1' : wrap64 ((IntKind.u64.wrap M).tmod 261) = (vm : Int) := hv1
   have HKV := HoldT.mk (And.intro (show keyOf (kb, N, M, gone) = List.replicate (km + 1) kb by unfold keyOf; rw [<- hkm]) (And.intro (show valOf (kb, N, M, gone) = List.replicate vm 0 by unfold valOf; rw [<- hvm]) (And.intro hm1 hm2)))
   have b1 : (j : Int) < (n : Int) := by omega
   clear c0 c1 c2 c3 hm1 hkm hvm hv1
   go_upto_region 6 with (fail)
   refine wp_region_mixC (KeepSC (fun q => q = b) wr) 16 rfl (by kernel_rfl) ?_
   have HDR := HoldT.mk ((Below.refl wr.heap.size wr).drew)
   generalize wr.drew = v4 at HDR |-
   refine mixl_seg (by kernel_rfl) (fun _ _ d _ _ h => by cases d <;> exact h) [0, 1, 2, 3, 5, 6, 7, 8, 9, 10, 11, 12] [_, _, _, _, _, _, _, _, _, _, _, _] 4 16 rfl _ _ _ rfl (by kernel_rfl) (keepSC (HK.out _ HDR.out)) ?_
   repeat (go_big_quiet_step (fail))
   refine wpQuiet_nil ?_
   clear g0 g1 g2 g3
   have HVM := HoldT.mk hv2
   have HVE := HoldT.mk hv1'
   try rw [HVE.out]
   clear hv1'
   refine mixl_acts [4, 13, 14, 15] bdeps (fun wz => Below wr.heap.size wr wz) (BF (List.replicate (km + 1) kb) (List.replicate vm 0)) 0 4 rfl _ _ _ (fun wz hz => keepSC (HK.out _ hz)) (by kernel_rfl) bf_below ⟨⟨_, rfl, fun env v hv hd K hK => ?op4⟩, ⟨_, rfl, fun env v hv hd K hK => ?op13⟩, ⟨_, rfl, fun env v hv hd K hK => ?op14⟩, ⟨_, rfl, fun env v hv hd K hK => ?op15⟩, trivial⟩ HDR.out (fun env v hv hd => ?fin)
   case op4 =>
    have HC := HoldT.mk (law_key kb N M gone km HKV.out.2.2.1 HKV.out.2.2.2 v)
    have HV := HoldT.mk hv
    simp only [bdeps, withD, Act.put, List.setIfInBounds_toArray, List.set_cons_succ, List.set_cons_zero] at hK |-
    clear hd hv
    go_wp2_with fail
    refine HC.out.mono ?_
    rintro e v' ⟨sl', cs, rfl, ho, hb⟩
    obtain ⟨s1a, s1c, rfl⟩ := ho.shape
    refine hK _ _ (HV.out.trans (hb.mono HV.out.size)) hb ?_
    unfold BF
    rw [if_pos (.inl rfl)]
    exact ⟨s1a, s1c, by rw [List.length_replicate], ho.yat⟩
   case op13 =>
    have HV := HoldT.mk hv
    obtain ⟨v', hmk, hown, hgr⟩ := run_make_zeros (base := v.heap.size) vm (by have := HVM.out; omega) v (Nat.le_refl _)
    have hb : Below v.heap.size v v' := ⟨hgr.os, hgr.tape, hgr.output, hgr.size, fun q hq => hgr.block q hq (by simp)⟩
    have HY := HoldT.mk (And.intro (zeros_yat hgr hown) hb)
    simp only [bdeps, withD, Act.put, List.setIfInBounds_toArray, List.set_cons_succ, List.set_cons_zero] at hK |-
    clear hd hv hown hgr hb
    go_wp2_with fail
    try rw [hmk]
    go_wp2_with fail
    refine hK _ _ (HV.out.trans (HY.out.2.mono HV.out.size)) HY.out.2 ?_
    unfold BF
    rw [if_neg (by decide)]
    exact ⟨_, _, by rw [List.length_replicate], HY.out.1⟩
   case op14 =>
    have HV := HoldT.mk hv
    obtain ⟨h4, _⟩ := hd
    obtain ⟨a4, c4, e4, y4⟩ : ∃ a c, env 4 = .slice a (List.replicate (km + 1) kb).length c /\ YAt (cfU v) (env 4) (List.replicate (km + 1) kb) := h4
    have HY := HoldT.mk (And.intro e4 y4)
    simp only [bdeps, withD, dstD, opAt, Option.bind_some, Option.getD_some, e4, Act.put, List.setIfInBounds_toArray, List.set_cons_succ, List.set_cons_zero] at hK |-
    clear hv e4 y4
    go_wp2_with fail
    refine hK _ _ HV.out (Below.refl _ _) ?_
    unfold BF
    rw [if_pos (.inr rfl)]
    refine ⟨a4, c4, rfl, ?_⟩
    rw [<- HY.out.1]
    exact HY.out.2
   case op15 =>
    have HV := HoldT.mk hv
    obtain ⟨h4, _⟩ := hd
    obtain ⟨a4, c4, e4, y4⟩ : ∃ a c, env 13 = .slice a (List.replicate vm 0).length c /\ YAt (cfU v) (env 13) (List.replicate vm 0) := h4
    have HY := HoldT.mk (And.intro e4 y4)
    simp only [bdeps, withD, dstD, opAt, Option.bind_some, Option.getD_some, e4, Act.put, List.setIfInBounds_toArray, List.set_cons_succ, List.set_cons_zero] at hK |-
    clear hv e4 y4
    go_wp2_with fail
    refine hK _ _ HV.out (Below.refl _ _) ?_
    unfold BF
    rw [if_neg (by decide)]
    refine ⟨a4, c4, rfl, ?_⟩
    rw [<- HY.out.1]
    exact HY.out.2
   case fin =>
    obtain ⟨_, _, h14, h15, _⟩ := hd
    obtain ⟨ka, kc, e14, y14⟩ : ∃ a c, env 14 = .slice a (List.replicate (km + 1) kb).length c /\ YAt (cfU v) (env 14) (List.replicate (km + 1) kb) := h14
    obtain ⟨va, vc, e15, y15⟩ : ∃ a c, env 15 = .slice a (List.replicate vm (0 : UInt8)).length c /\ YAt (cfU v) (env 15) (List.replicate vm 0) := h15
    rw [List.length_replicate] at e14 e15
    rw [e14] at y14
    rw [e15] at y15
    rw [<- HKV.out.1] at y14
    rw [<- HKV.out.2.1] at y15
    have HY := HoldT.mk (And.intro y14 y15)
    have HV := HoldT.mk hv
    have hL2 := HL.out.1.quiet hv
    have HLL := HoldT.mk hL2
    have hfr := hL2.free (show j <= 80 by omega)
    have hfw := hL2.few
    have hok := okO_few hL2.ok (show j <= 80 by omega)
    have c3 := cle_below hv _ _ _ (show cf wr b (off + j * 4 + 3) = some (.bool gone) from HX.out.2.1)
    unfold cf at c3
    simp only [withD, dstD, opAt, Option.bind_some, Option.getD_some, e14, e15, Act.put, List.setIfInBounds_toArray, List.set_cons_succ, List.set_cons_zero]
    clear hv e14 e15 y14 y15
    refine mix_done (by kernel_rfl) (keepSC (HK.out _ HV.out)) ?_
    cases gone with
    | false =>
     have HP := HoldT.mk (tree_Put hL2.pg hL2.tbx hL2.top (by omega) (by omega) (keyOf_ok (kb, N, M, false)).1 (valOf_ok (kb, N, M, false)) HY.out.1 HY.out.2 hfr)
     clear hL2 hfr hfw hok
     go_wp2_with fail
     refine HP.out.mono ?_
     intro e w5 hpost
     obtain ⟨rfl, H', S', p', o', root', hL5, he5, hu5⟩ := HLL.out.put (show j <= 80 by omega) (keyOf_ok (kb, N, M, false)).1 (keyOf_ok (kb, N, M, false)).2 (valOf_ok (kb, N, M, false)) hpost
     have HL5 := HoldT.mk (And.intro hL5 he5)
     have HM := HoldT.mk (ref_Put hL5.map (HY.out.1.mono RY_mono hu5) (HY.out.2.mono RY_mono hu5) (keyOf_ok (kb, N, M, false)).1 (valOf_ok (kb, N, M, false)) (by have := (okO_few HLL.out.ok (show j <= 80 by omega)).2.2; omega))
     clear hpost hL5 he5 hu5 c3
     go_wp2_with fail
     refine HM.out.mono ?_
     intro e w6 hpost
     obtain ⟨rfl, sl', hL6⟩ := HL5.out.1.mapped hpost
     have HL6 := HoldT.mk (show LS Q R H' S' p' tb mb o' root' sl' (esO o') (j + 1) w0 w6 /\ esO o' = runE12 (l.take (j + 1)) from ⟨by rw [HL5.out.2]; exact hL6, by rw [HL5.out.2, runE_next HX.out.1, <- HL.out.2]; rfl⟩)
     clear hpost hL6
     go_wp2_with fail
     exact ⟨⟨j + 1, H', S', p', o', root', sl', by go_num, hlt, HL6⟩, by simp [intOf]; omega⟩
    | true =>
     have HP := HoldT.mk (tree_Delete hL2.pg hL2.tbx hL2.top (by omega) (by omega) hL2.ok (show j <= 80 by omega) HY.out.1 hfr)
     clear hL2 hfr hfw hok
     go_wp2_with fail
     refine HP.out.mono ?_
     intro e w5 hpost
     obtain ⟨rfl, H', S', p', o', root', hL5, he5, hu5⟩ := HLL.out.del (show j <= 80 by omega) hpost
     have HL5 := HoldT.mk (And.intro hL5 he5)
     have HM := HoldT.mk (ref_Delete hL5.map (HY.out.1.mono RY_mono hu5) (by have := (okO_few HLL.out.ok (show j <= 80 by omega)).2.2; omega))
     obtain ⟨fb, hfb⟩ : ∃ fb, fb = (getE (keyOf (kb, N, M, true)) (esO o)).isSome := ⟨_, rfl⟩
     rw [<- hfb] at HM |-
     clear hfb
     cases fb
     all_goals
      clear hpost hL5 he5 hu5 c3
      go_wp2_with fail
      refine HM.out.mono ?_
      intro e w6 hpost
      obtain ⟨rfl, sl', hL6⟩ := HL5.out.1.mapped hpost
      have HL6 := HoldT.mk (show LS Q R H' S' p' tb mb o' root' sl' (esO o') (j + 1) w0 w6 /\ esO o' = runE12 (l.take (j + 1)) from ⟨by rw [HL5.out.2]; exact hL6, by rw [HL5.out.2, runE_next HX.out.1, <- HL.out.2]; rfl⟩)
      clear hpost hL6
      go_wp2_with fail
      exact ⟨⟨j + 1, H', S', p', o', root', sl', by go_num, hlt, HL6⟩, by simp [intOf]; omega⟩
  ·obtain rfl : j = n := by omega
   have HT := HoldT.mk (tree_root HL.out.1.tbx)
   have HFIN := HoldT.mk (show BuiltPost l w0 (.returned (.tuple #[.pointer (some ⟨pb, 0, none⟩), .int .i64 root, .pointer (some ⟨mb, 0, none⟩)])) wr from ⟨Q, R, H, S, p, tb, mb, o, root, sl, by rw [HQ.out], by rw [<- HLS.out.2]; exact HL.out.1, by rw [HL.out.2, List.take_of_length_le (by rw [<- HLS.out.2]; exact Nat.le_refl _)]⟩)
   have b1 : ¬ (j : Int) < (j : Int) := by omega
   go_wp2_with fail
   refine HT.out.mono ?_
   rintro e w5 ⟨rfl, hw5⟩
   obtain rfl := hw5.symm
   go_wp2_with fail
   exact bodyPost_ret (v := .tuple #[.pointer (some ⟨pb, 0, none⟩), .int .i64 root, .pointer (some ⟨mb, 0, none⟩)]) (by simp [results, Tryz.results11, go_sem]) rfl HFIN.out
end Go.Proofs.YtmiphphombkpdaaGreat
