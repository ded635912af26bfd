import Derived.Test.YtafilaiinbggoaaGreatQT41
import Derived.Test.YtafilaiinbggoaaGreatQT42
import Derived.Test.YtafilaiinbggoaaGreatQT46
import Derived.Lib.SlBytesConst
namespace Go.Proofs.YtafilaiinbggoaaGreat
open Go.RowKit Go.Maps
theorem ord_length {α : Type} (b : Bool) (l : List α) : (ordE b l).length = l.length := by cases b <;> simp [ordE]
section
variable {Q : PQ} {R : Int -> Option Bts} {H : HS} {S : PS} {p B sb ob mb most : Nat} {back : Bool} {f t : Bts} {fv tv fn : Value} {es l : EL} {kv vv iv : Value} {r B0 : Nat} {X : BS} {w : World} {j : Nat} {wr w' : World} {sl' sl2 : Value} {es' : EL} {x : Bts × Bts}
end
end Go.Proofs.YtafilaiinbggoaaGreat
namespace Go.Proofs.YtafilaiinbggoaaGreat
open Go.RowKit Go.Maps
theorem flat_upto {α β : Type} {l : List α} {j : Nat} {x : α} (hx : l[j]? = some x) (g : α -> List β) : ((l.take (j + 1)).flatMap g).length = ((l.take j).flatMap g).length + (g x).length /\ ((l.take j).flatMap g).length + (g x).length <= (l.flatMap g).length := by
 constructor
 ·rw [List.take_add_one, hx, List.flatMap_append, List.length_append]; simp
 ·rw [flat_at hx g, List.length_append, List.length_append]; omega
theorem flat_ord {α β : Type} (b : Bool) (l : List α) (g : α -> List β) : ((ordE b l).flatMap g).length = (l.flatMap g).length := by
 cases b with
 | false => rfl
 | true =>
  show (l.reverse.flatMap g).length = _
  rw [List.length_flatMap, List.length_flatMap, List.map_reverse, List.sum_reverse]
structure NodeL (Q : PQ) (R : Int -> Option Bts) (S : PS) (p B sb ob mb most : Nat) (back : Bool) (f t : Bts) (fv tv fn : Value) (es : EL) (h : Nat) (ks : List (Tree h)) (keys : List Bts) (kv vv iv : Value) (r B0 : Nat) (X : BS) (w : World) (j : Nat) (H' : HS) (S' : PS) (p' : Nat) (sl' : Value) (es' : EL) (wr : World) : Prop where
 vis : visit f t most es (((ordE back ks).take j).flatMap fun x => ordE back (esT h x)) = (es', true)
 room : es'.length < most
 si : SI Q R H' S' p' B sb ob mb most back f t fv tv fn sl' es' wr
 nt : NT H' B0 wr (nodeN (ks.map (pgT h)) keys) kv vv iv
 box : wr.heap[r]? = some (.cells #[.bool false, kv, vv, iv] 107 (0, 0))
 off : ¬ XS H' ob sl' r
 same : SameP S S'
 turn : TurnS X w (XS H' ob sl') wr
 few : p' <= p + 4 * (1 + (((ordE back ks).take j).flatMap (pagesT h)).length)
section
variable {Q : PQ} {R : Int -> Option Bts} {S : PS} {p B sb ob mb most : Nat} {back : Bool} {f t : Bts} {fv tv fn : Value} {es : EL} {h : Nat} {ks : List (Tree h)} {keys : List Bts} {kv vv iv : Value} {r B0 : Nat} {X : BS} {w : World} {j : Nat} {H' : HS} {S' : PS} {p' : Nat} {sl' : Value} {es' : EL} {wr : World} {x : Tree h}
theorem NodeL.next (k : NodeL Q R S p B sb ob mb most back f t fv tv fn es h ks keys kv vv iv r B0 X w j H' S' p' sl' es' wr) (hx : (ordE back ks)[j]? = some x) {H2 : HS} {S2 : PS} {p2 : Nat} {sl2 : Value} {es2 : EL} {w2 : World} (hv : visit f t most es' (ordE back (esT h x)) = (es2, true)) (hI : SI Q R H2 S2 p2 B sb ob mb most back f t fv tv fn sl2 es2 w2) (hS : SameP S' S2) (hT : TurnS (XS H' ob sl') wr (XS H2 ob sl2) w2) (hp : p2 <= p' + 4 * (pagesT h x).length) : NodeL Q R S p B sb ob mb most back f t fv tv fn es h ks keys kv vv iv r B0 X w (j + 1) H2 S2 p2 sl2 es2 w2 := by
 have hk := hT.kept k.box k.off
 have h1 := visit_next es hx (by rw [k.vis])
 rw [k.vis] at h1
 have hro := visit_on (f := f) (t := t) (most := most) k.room (by rw [hv])
 rw [hv] at hro
 exact ⟨h1.trans hv, hro, hI, k.nt.walk k.si.out hT (cfU_turn hT k.si.noU), hk.1, hk.2, k.same.trans hS, k.turn.trans hT, by have := (flat_upto hx (pagesT h)).1; have := k.few; omega⟩
theorem NodeL.all (k : NodeL Q R S p B sb ob mb most back f t fv tv fn es h ks keys kv vv iv r B0 X w ks.length H' S' p' sl' es' wr) : visit f t most es (ordE back (ks.flatMap (esT h))) = (es', true) /\ p' <= p + 4 * (1 + (ks.flatMap (pagesT h)).length) := by
 have h1 := k.vis
 have h2 := k.few
 rw [List.take_of_length_le (by rw [ord_length]; exact Nat.le_refl _)] at h1 h2
 rw [flat_ord] at h2
 rw [ord_flat]
 exact ⟨h1, h2⟩
end
end Go.Proofs.YtafilaiinbggoaaGreat
namespace Go.Proofs.YtafilaiinbggoaaGreat
open Go.RowKit Go.Maps
theorem disk_made {n : Nat} (hn : n <= 60000) (w : World) :
  Calls Tryz.prog 11 #[.int .i64 (n : Int)] w fun e w' => ∃ (db : Nat) (HD : BS), e = .returned (.pointer (some ⟨db, 0, none⟩)) /\ DG HD db n (fun _ => none) 0 w' /\ Below w.heap.size w w' /\ ∀ b, HD b -> w.heap.size <= b := by
 refine (disk_new (n : Int) w (by omega) (by omega)).mono ?_
 rintro e w3 ⟨rfl, hw3⟩
 obtain ⟨nb, hnb⟩ : ∃ q, q = w.heap.size := ⟨_, rfl⟩
 obtain ⟨w1, hw1⟩ : ∃ w1, w1 = w.alloc (.map #[] 0) := ⟨_, rfl⟩
 obtain ⟨w2, hw2⟩ : ∃ w2, w2 = w1.alloc (.map #[] 0) := ⟨_, rfl⟩
 rw [<- hw1, <- hw2, <- hnb] at hw3
 rw [<- hnb]
 have hb1 : Below w.heap.size w w1 := by rw [hw1]; exact (Below.refl _ w).alloc (Nat.le_refl _) _
 have hm1 : MapI nb (fun _ => none) w1 := by rw [hw1, hnb]; exact MapI.start w
 have hb2 : Below w1.heap.size w1 w2 := by rw [hw2]; exact (Below.refl _ w1).alloc (Nat.le_refl _) _
 have h12 : w1.heap.size = nb + 1 := by rw [hw1, hnb]; simp
 have hm2 : MapI (nb + 1) (fun _ => none) w2 := by rw [hw2, <- h12]; exact MapI.start w1
 have hm12 : MapI nb (fun _ => none) w2 := hm1.same (hb2.block nb (by omega))
 have hb3 : Below w2.heap.size w2 w3 := by rw [hw3]; exact (Below.refl _ w2).alloc (Nat.le_refl _) _
 have h23 : w2.heap.size = nb + 2 := by rw [hw2]; simp [h12]
 have hbx : DBox w3 (nb + 2) (n : Int) nb (nb + 1) (.slice none 0 0) 0 0 0 := by rw [hw3, <- h23]; exact heap_alloc_new w2 _
 have hs3 : w3.heap.size = nb + 3 := by rw [hw3]; simp [h23]
 have hm13 : MapI nb (fun _ => none) w3 := hm12.same (hb3.block nb (by omega))
 have hm23 : MapI (nb + 1) (fun _ => none) w3 := hm2.same (hb3.block (nb + 1) (by omega))
 have hbb : Below nb w w3 := by rw [hnb]; exact (hb1.trans (hb2.mono hb1.size)).trans (hb3.mono (Nat.le_trans hb1.size hb2.size))
 refine ⟨nb + 2, fun b => b = nb \/ b = nb + 1 \/ b = nb + 2, rfl, ⟨⟨nb, nb + 1, _, _, _, _, _, _, [], [], hbx, hm13, hm23, by omega, by omega, .inl rfl, .inr (.inl rfl), OwnS.start 2 _ _ (Nat.zero_le _), fun x hx => (by cases hx), fun g e => (by cases e), fun k => rfl, fun k e => (by cases e)⟩, fun k e => (by cases e), by omega, .inr (.inr rfl), fun b hb => (by omega), fun b hb hu => ?_⟩, hbb, fun b hb => by omega⟩
 obtain ⟨_, _, e2⟩ := hu
 rcases hb with rfl | rfl | rfl
 ·exact map_not hm13 e2
 ·exact map_not hm23 e2
 ·rw [hbx] at e2; cases e2
end Go.Proofs.YtafilaiinbggoaaGreat
namespace Go.Proofs.YtafilaiinbggoaaGreat
open Go.RowKit Go.Maps
structure LT (Q : PQ) (R : Int -> Option Bts) (H : HS) (S : PS) (p tb : Nat) (o : Top) (root : Int) (n cnt : Nat) (w0 w : World) : Prop where
 pg : PG Q R H S p w
 tbx : TB H w tb Q.pb root
 top : TopIn S o root
 ok : okW n o
 only : Only S (pagesO o)
 len : S.is.length = cnt
 bel : Below w0.heap.size w0 w
 new : ∀ b, H.all b \/ b = tb -> w0.heap.size <= b
theorem LT.noU {Q : PQ} {R : Int -> Option Bts} {H : HS} {S : PS} {p tb : Nat} {o : Top} {root : Int} {n cnt : Nat} {w0 w : World} (h : LT Q R H S p tb o root n cnt w0 w) : ∀ b, H.all b \/ b = tb -> ¬ IsU w b := fun b hb => hb.elim (h.pg.noU b) (fun e ⟨_, _, e2⟩ => by rw [e, h.tbx.box] at e2; cases e2)
theorem LT.free {Q : PQ} {R : Int -> Option Bts} {H : HS} {S : PS} {p tb : Nat} {o : Top} {root : Int} {n cnt : Nat} {w0 w : World} (h : LT Q R H S p tb o root n cnt w0 w) (hn : n <= 63) (hc : 2 * n + 15 <= cnt) : 2 * heightO o + 3 <= freeP S /\ heightO o <= 6 := by
 obtain ⟨h1, h2⟩ := okW_few h.ok hn
 have h3 := h.only.free
 have h4 := h.len
 exact ⟨by omega, h1⟩
theorem LT.quiet {Q : PQ} {R : Int -> Option Bts} {H : HS} {S : PS} {p tb : Nat} {o : Top} {root : Int} {n cnt : Nat} {w0 w w' : World} (h : LT Q R H S p tb o root n cnt w0 w) (hb : Below w.heap.size w w') : LT Q R H S p tb o root n cnt w0 w' :=
 ⟨h.pg.below hb, h.tbx.below hb, h.top, h.ok, h.only, h.len, h.bel.trans (hb.mono h.bel.size), h.new⟩
theorem LT.turned {Q : PQ} {R : Int -> Option Bts} {H H' : HS} {S S' : PS} {p p' tb : Nat} {o o' : Top} {root root' : Int} {n n' cnt : Nat} {w0 w w' : World} (h : LT Q R H S p tb o root n cnt w0 w) (hG : PG Q R H' S' p' w') (hB : TB H' w' tb Q.pb root') (hI : TopIn S' o' root') (hok : okW n' o') (hM : Moves S S' (pagesO o) (pagesO o')) (hT : TurnS (fun b => H.all b \/ b = tb) w (fun b => H'.all b \/ b = tb) w') : LT Q R H' S' p' tb o' root' n' cnt w0 w' /\ CLe (cfU w) (cfU w') := by
 have hu := cfU_turn hT h.noU
 have hnew : ∀ b, b < w0.heap.size -> ¬ (H.all b \/ b = tb) := fun b hb e => by
  have := h.new b e
  omega
 exact ⟨⟨hG, hB, hI, hok, h.only.moves hM, hM.len.trans h.len, ⟨hT.os.trans h.bel.os, hT.tape.trans h.bel.tape, hT.output.trans h.bel.output, Nat.le_trans h.bel.size hT.size, fun b hb => (hT.out b (Nat.lt_of_lt_of_le hb h.bel.size) (hnew b hb)).1.trans (h.bel.block b hb)⟩, hT.above h.new h.bel.size⟩, hu⟩
theorem LT.put {Q : PQ} {R : Int -> Option Bts} {H : HS} {S : PS} {p tb : Nat} {o : Top} {root : Int} {n cnt : Nat} {w0 w w' : World} {k v : Bts} {e : Ending} (h : LT Q R H S p tb o root n cnt w0 w) (hn : n <= 63) (hk : keyOk k) (hv : v.length <= 260) (hp : PutPost Q R H S p tb o k v w e w') :
  e = .returned (.int .i64 0) /\ ∃ H' S' p' o' root', LT Q R H' S' p' tb o' root' (n + 1) cnt w0 w' /\ esO o' = putE k v (esO o) /\ CLe (cfU w) (cfU w') /\ p' <= p + 200 /\ TurnS (fun b => H.all b \/ b = tb) w (fun b => H'.all b \/ b = tb) w' := by
 obtain ⟨o', root', H', S', p', rfl, hG, hB, hI, hT, hM, hU, hq⟩ := hp
 obtain ⟨h1, h2⟩ := put_topW h.ok hk hv hT
 obtain ⟨h3, _⟩ := okW_few h.ok hn
 obtain ⟨h5, h6⟩ := h.turned hG hB hI h1 hM hU
 exact ⟨rfl, H', S', p', o', root', h5, h2, h6, by omega, hU⟩
theorem top_same {S S' : PS} {o : Top} {root : Int} (h : TopIn S o root) (hs : SameP S S') : TopIn S' o root /\ Moves S S' (pagesO o) (pagesO o) := by
 match o, h with
 | none, h => exact ⟨h, hs.moves⟩
 | some ⟨g, t⟩, h =>
  have h1 := hs.moves.wide h.2.nd (fun p _ e => by cases e) h.2.fresh
  rw [List.append_nil] at h1
  exact ⟨⟨h.1, h.2.same hs⟩, h1⟩
theorem LT.read {Q : PQ} {R : Int -> Option Bts} {H H' : HS} {S S' : PS} {p p' tb : Nat} {o : Top} {root : Int} {n cnt : Nat} {w0 w w' : World} (h : LT Q R H S p tb o root n cnt w0 w) (hG : PG Q R H' S' p' w') (hS : SameP S S') (hT : TurnS H.all w H'.all w') : LT Q R H' S' p' tb o root n cnt w0 w' /\ CLe (cfU w) (cfU w') := by
 obtain ⟨h1, h2⟩ := top_same h.top hS
 exact h.turned hG (h.tbx.turn hT) h1 h.ok h2 hT.wide
theorem one_u8 {w : World} {b : Nat} {c : UInt8} {fr : Nat × Nat} (h : w.heap[b]? = some (.cells #[.int .u8 (c.toNat : Int)] 5 fr)) : YAt (cfU w) (.slice (some ⟨b, 0, none⟩) 1 1) [c] := by
 refine ⟨_, _, rfl, Nat.le_refl _, by decide, fun i x hx => ?_⟩
 match i, hx with
 | 0, hx =>
  cases hx
  refine ⟨b, 0, _, rfl, rfl, fun j u hu => ?_, rfl⟩
  match j, hu with
  | 0, hu =>
   cases hu
   rw [cfU_at ⟨_, _, h⟩]
   simp [World.cell?, h]
theorem yat_len {c : CF} {a : Option Addr} {n cap : Nat} {l : Bts} (h : YAt c (.slice a n cap) l) : n = l.length := by
 obtain ⟨_, _, e⟩ := h.form
 simp only [Value.slice.injEq] at e
 exact e.2.1
theorem lt_start {w0 w1 w2 w3 : World} {db pb tb size cnt pool : Nat} {HD HP : BS} (hb1 : Below w0.heap.size w0 w1) (hHD : ∀ b, HD b -> w0.heap.size <= b) (hG : PG ⟨pb, db, 0, cnt, pool, size⟩ (fun _ => none) ⟨HD, HP⟩ (PS.open cnt 0 fun _ => none) 0 w2) (hb2 : Below w1.heap.size w1 w2) (hHP : ∀ b, HP b -> w1.heap.size <= b) (hT : TB ⟨HD, HP⟩ w3 tb pb (-1)) (hb3 : Below w2.heap.size w2 w3) (htb : w2.heap.size <= tb) : LT ⟨pb, db, 0, cnt, pool, size⟩ (fun _ => none) ⟨HD, HP⟩ (PS.open cnt 0 fun _ => none) 0 tb none (-1) 0 cnt w0 w3 := by
 have s1 := hb1.size
 have s2 := hb2.size
 refine ⟨hG.below hb3, hT, rfl, trivial, ⟨List.nodup_nil, fun p hp => (by cases hp), fun p s hp _ => ?_⟩, by unfold PS.open; rw [List.length_replicate], (hb1.trans (hb2.mono s1)).trans (hb3.mono (by omega)), fun b hb => ?_⟩
 ·unfold PS.open at hp
  exact List.eq_of_mem_replicate (List.mem_of_getElem? hp)
 ·rcases hb with (hb | hb) | hb
  ·exact hHD b hb
  ·have := hHP b hb
   omega
  ·omega
set_option maxHeartbeats 8000000 in
set_option maxRecDepth 100000 in
theorem law11_awake (w : World) : Calls Tryz.prog 10 #[] w fun e w' => e = .returned (.bool true) /\ Below w.heap.size w w' := by
 have HD := HoldT.mk (disk_made (n := 80) (by omega) w)
 have kc := fun (w : World) (C : Array Value) (n c : Nat) => Lib.run_convert_bytes_const (P := Tryz.prog) w 23 5 C n c Tryz.underlying23 Tryz.underlying5
 have kc2 : ∀ (w : World) (C0 C : Array Value) (m : Nat × Nat) (n c : Nat), (convert 23 23 (.slice (some ⟨w.heap.size + 1, 0, none⟩) n c)).run Tryz.prog ((w.alloc (.cells C0 5 m)).alloc (.cells C 5)) = .ok (.slice (some ⟨w.heap.size + 1, 0, none⟩) n c) ((w.alloc (.cells C0 5 m)).alloc (.cells C 5 (C.size, C.size + 1))) := fun w C0 C m n c => by
  have h := kc (w.alloc (.cells C0 5 m)) C n c
  rw [show (w.alloc (.cells C0 5 m)).heap.size = w.heap.size + 1 by simp] at h
  exact h
 go_enter Tryz.func10, Tryz.ntmps10
 go_wp2_with fail
 refine HD.out.mono ?_
 rintro e w1 ⟨db, HDB, rfl, hdg, hb1, hHD⟩
 have HPO := HoldT.mk (pages_open (fr0 := 0) (count := 20) (pool := 4) hdg (by omega) (by omega) (by omega))
 have H1 := HoldT.mk (And.intro hb1 hHD)
 clear hdg hb1 hHD HD
 go_wp2_with fail
 refine HPO.out.mono ?_
 rintro e w2 ⟨pb, HP, rfl, hpb, hG, hb2, hHP⟩
 have HTO := HoldT.mk (tree_open (H := ⟨HDB, HP⟩) (pb := pb) (root := -1) hG.lt)
 have H2 := HoldT.mk (And.intro hG (And.intro hb2 hHP))
 clear hpb hG hb2 hHP HPO
 go_wp2_with fail
 refine HTO.out.mono ?_
 rintro e w3 ⟨tb, rfl, hT, hb3, htb⟩
 have hL := lt_start H1.out.1 H1.out.2 H2.out.1 H2.out.2.1 H2.out.2.2 hT hb3 htb
 obtain ⟨q1, hq1⟩ : ∃ q, q = w3.heap.size := ⟨_, rfl⟩
 obtain ⟨w4, hw4⟩ : ∃ w, w = w3.alloc (.cells #[.int .u8 97] 5 (1, 2)) := ⟨_, rfl⟩
 have hb4 : Below w3.heap.size w3 w4 := by rw [hw4]; exact (Below.refl _ w3).alloc (Nat.le_refl _) _
 have h4 : w4.heap[q1]? = some (.cells #[.int .u8 97] 5 (1, 2)) := by rw [hw4, hq1]; exact heap_alloc_new w3 _
 obtain ⟨w5, hw5⟩ : ∃ w, w = w4.alloc (.cells #[.int .u8 98] 5 (1, 2)) := ⟨_, rfl⟩
 obtain ⟨q2, hq2⟩ : ∃ q, q = w4.heap.size := ⟨_, rfl⟩
 have hb5 : Below w4.heap.size w4 w5 := by rw [hw5]; exact (Below.refl _ w4).alloc (Nat.le_refl _) _
 have h5 : w5.heap[q2]? = some (.cells #[.int .u8 98] 5 (1, 2)) := by rw [hw5, hq2]; exact heap_alloc_new w4 _
 have hq12 : q1 + 1 = q2 := by rw [hq2, hw4, hq1]; simp
 have hL5 := (hL.quiet hb4).quiet hb5
 have hk : keyOk [97] := by unfold keyOk; decide
 have HPU := HoldT.mk (tree_Put (k := [97]) (v := [98]) hL5.pg hL5.tbx hL5.top (by omega) (by decide) hk (by decide) (one_u8 (c := 97) (kept h4 hb5)) (one_u8 (c := 98) h5) (hL5.free (by omega) (by omega)).1)
 have HL := HoldT.mk (And.intro hL5 hk)
 have HW := HoldT.mk (And.intro hq1 (And.intro hw4 (And.intro hq12 hw5)))
 clear hT hb3 htb HTO H1 H2 hL hq1 hw4 hb4 h4 hw5 hq2 hb5 h5 hq12 hL5 hk
 go_wp2_with fail
 rw [<- HW.out.1, HW.out.2.2.1, <- HW.out.2.1, <- HW.out.2.2.2]
 refine HPU.out.mono ?_
 intro e w6 hpost
 obtain ⟨rfl, H6, S6, p6, o6, r6, hL6, he6, _, hp6, _⟩ := HL.out.1.put (by omega) HL.out.2 (by decide) hpost
 have HL6 := HoldT.mk (And.intro hL6 (And.intro he6 hp6))
 clear hL6 he6 hp6 hpost HPU HL HW
 obtain ⟨q3, hq3⟩ : ∃ q, q = w6.heap.size := ⟨_, rfl⟩
 obtain ⟨w7, hw7⟩ : ∃ w, w = w6.alloc (.cells #[.int .u8 97] 5 (1, 2)) := ⟨_, rfl⟩
 have hb7 : Below w6.heap.size w6 w7 := by rw [hw7]; exact (Below.refl _ w6).alloc (Nat.le_refl _) _
 have h7 : w7.heap[q3]? = some (.cells #[.int .u8 97] 5 (1, 2)) := by rw [hw7, hq3]; exact heap_alloc_new w6 _
 have hL7 := HL6.out.1.quiet hb7
 have HG := HoldT.mk (tree_get (k := [97]) hL7.pg hL7.tbx hL7.top (by have := HL6.out.2.2; omega) (by have := (okW_few hL7.ok (by omega)).1; omega) (one_u8 (c := 97) h7))
 have hres : getE [97] (esO o6) = some [98] := by rw [HL6.out.2.1]; decide
 rw [hres] at HG
 have HB7 := HoldT.mk hL7
 have HW := HoldT.mk (And.intro hq3 hw7)
 clear hres hL7 h7 hb7 hq3 hw7 HL6
 go_wp2_with fail
 rw [<- HW.out.1, <- HW.out.2]
 refine HG.out.mono ?_
 rintro e w8 ⟨⟨va, vl, vc, rfl, hv⟩, H8, S8, p8, hG8, hS8, hT8, hp8⟩
 have hy := hv [98] rfl
 obtain rfl : vl = 1 := yat_len hy
 have hcv := run_bytes_strY w8 _ [98] (hy.mono RY_mono (cfU_cf _))
 have HF := HoldT.mk (HB7.out.read hG8 hS8 hT8).1.bel
 clear HG HB7 HW hG8 hS8 hT8 hp8 hv hy
 go_wp2_with fail
 go_ret
 exact ⟨by simp, HF.out⟩
end Go.Proofs.YtafilaiinbggoaaGreat
namespace Go.Proofs.YtafilaiinbggoaaGreat
open Go.RowKit Go.Maps
def someB (k : UInt8) (n : Nat) : Bts := k :: List.replicate (n - 1) (k / 2)
theorem someB_len (k : UInt8) {n : Nat} (h : 1 <= n) : (someB k n).length = n := by
 unfold someB
 rw [List.length_cons, List.length_replicate]
 omega
theorem run_make_room16 (w : World) : ∃ w', (Instr.makeSlice 23 (.int .i64 0) (.int .i64 16)).run Tryz.prog w = .ok (.slice (some ⟨w.heap.size, 0, none⟩) 0 16) w' /\ OwnS 1 RY 5 w.heap.size w' (.slice (some ⟨w.heap.size, 0, none⟩) 0 16) 0 [] [] /\ Below w.heap.size w w' := by
 obtain ⟨i0, hi, hz0, hz1, hz2⟩ := info_parts infoY
 have hr := run_make (P := Tryz.prog) w 23 5 i0 (.int .u8 0) Tryz.underlying23 hi hz0 .i64 .i64 0 16 (by omega) (by omega) (by rw [hz2]; omega) (by omega)
 refine ⟨_, hr, ⟨⟨by simp, .inr ⟨w.heap.size, 16, _, rfl, Nat.le_refl _, heap_alloc_new w _, by omega, by unfold maxLen; omega, ?_, rfl⟩⟩, rfl, GRow.nil _ _ _, ?_⟩, ?_⟩
 ·rw [hz1]
  have := congrArg List.length (toList_madeCells_one (Value.int IntKind.u8 0) 16)
  rw [List.length_replicate] at this
  exact this
 ·exact ((Below.refl _ w).alloc (Nat.le_refl _) _).size
 ·exact (Below.refl _ w).alloc (Nat.le_refl _) _
set_option maxHeartbeats 4000000 in
set_option maxRecDepth 100000 in
theorem law_some (k : UInt8) (n : Nat) (h1 : 1 <= n) (h2 : n <= 100000) (w : World) :
  Calls Tryz.prog 15 #[.int .u8 (k.toNat : Int), .int .i64 (n : Int)] w fun e w' => ∃ sv cs, e = .returned sv /\ OwnS 1 RY 5 w.heap.size w' sv n (someB k n) cs /\ Below w.heap.size w w' := by
 obtain ⟨w1, hmk, ho1, hb1⟩ := run_make_room16 w
 have HO1 := HoldT.mk ho1
 have HB1 := HoldT.mk hb1
 obtain ⟨k2, hk2⟩ : ∃ k2, k2 = k / 2 := ⟨_, rfl⟩
 have hkd : ((k.toNat : Int)).tdiv 2 = (k2.toNat : Int) := by rw [hk2, UInt8.toNat_div]; rfl
 have hkd2 : ((k.toNat : Int)) / 2 = (k2.toNat : Int) := by rw [hk2, UInt8.toNat_div]; rfl
 have hk256 : (k2.toNat : Int) % 256 = (k2.toNat : Int) := by have := k2.toNat_lt; omega
 have HK := HoldT.mk hk2
 clear ho1 hb1 hk2
 go_enter Tryz.func15, Tryz.ntmps15
 go_wp2_with (at_builtin; refine push_new RY_mono rfl _ _ rfl infoY Tryz.underlying23 rfl (by decide) w.heap.size _ _ 0 _ _ HO1.out rfl _ [.int .u8 (k.toNat : Int)] rfl rfl (by simp [Value.oneCell']) k rfl _ rfl rfl (by omega) (by decide) ?_)
 intro sl2 w2 ho2 hg2
 obtain ⟨a2, c2, rfl⟩ := ho2.shape
 have HO2 := HoldT.mk (And.intro ho2 (HB1.out.trans (HO1.out.below hg2)))
 clear ho2 hg2 hmk
 go_wp2_with fail
 go_loopw [5, 6] (fun s5 s6 wr => ∃ j : Nat, s6 = .int .i64 (j : Int) /\ 1 <= j /\ j <= n /\ HoldT (∃ cs, OwnS 1 RY 5 w.heap.size wr s5 j (k :: List.replicate (j - 1) k2) cs /\ Below w.heap.size w wr)) (fun _ s6 _ => n - (intOf s6).toNat)
 case atStart => exact ⟨1, rfl, Nat.le_refl _, h1, ⟨_, HO2.out.1, HO2.out.2⟩⟩
 case round =>
  obtain ⟨j, rfl, hj1, hj, HJ⟩ := hrel
  obtain ⟨cs, ho, hb⟩ := HJ.out
  obtain ⟨a3, c3, rfl⟩ := ho.shape
  have HO := HoldT.mk (And.intro ho hb)
  clear ho hb HJ
  by_cases hlt : j < n
  ·have b1 : decide ((j : Int) < (n : Int)) = true := decide_eq_true (by omega)
   go_wp2_with (at_builtin; refine push_new RY_mono rfl _ _ rfl infoY Tryz.underlying23 rfl (by decide) w.heap.size _ _ j _ _ HO.out.1 rfl _ [.int .u8 (k2.toNat : Int)] rfl rfl (by simp [Value.oneCell']) k2 rfl _ rfl rfl (by omega) (by decide) ?_)
   intro sl4 w4 ho4 hg4
   obtain ⟨a4, c4, rfl⟩ := ho4.shape
   have HE := HoldT.mk (show ∃ cs, OwnS 1 RY 5 w.heap.size w4 (.slice a4 (j + 1) c4) (j + 1) (k :: List.replicate (j + 1 - 1) k2) cs /\ Below w.heap.size w w4 from ⟨_, by
    rw [show j + 1 - 1 = j - 1 + 1 by omega, List.replicate_succ', <- List.cons_append]
    exact ho4, HO.out.2.trans (HO.out.1.below hg4)⟩)
   clear ho4 hg4
   go_wp2_with fail
   exact ⟨⟨j + 1, by go_num, by omega, hlt, HE⟩, by simp [intOf]; omega⟩
  ·obtain rfl : j = n := by omega
   have b1 : ¬ (j : Int) < (j : Int) := by omega
   go_wp2_with fail
   go_ret
   exact ⟨_, rfl, ⟨cs, by unfold someB; rw [<- HK.out]; exact HO.out.1⟩, HO.out.2⟩
end Go.Proofs.YtafilaiinbggoaaGreat
