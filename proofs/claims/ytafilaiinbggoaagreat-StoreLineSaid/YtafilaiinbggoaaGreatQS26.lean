import Derived.Test.YtafilaiinbggoaaGreatQS25
namespace Go.Proofs.YtafilaiinbggoaaGreat
open Go.RowKit Go.Maps
def ndT : (h : Nat) -> Tree h -> ND
 | 0, t => leafN t.2
 | h + 1, t => nodeN (t.2.1.map (pgT h)) t.2.2
theorem sz_tree {h : Nat} {t : Tree h} (hw : WFT h t) : sizeN (ndT h t) <= 1024 := by
 cases h with
 | zero => rw [show ndT 0 t = leafN t.2 from rfl, size_leaf]; exact hw.2.2.2
 | succ h => rw [show ndT (h + 1) t = nodeN (t.2.1.map (pgT h)) t.2.2 from rfl, size_node]; exact hw.2.2.2.2.1
theorem len_leaf (es : EL) : es.length * 3 <= szLeaf es := by
 unfold szLeaf
 have : ∀ es : EL, es.length * 3 <= (es.map szE).sum := fun es => by
  induction es with
  | nil => exact Nat.le_refl _
  | cons a l ih => simp only [List.map_cons, List.sum_cons, List.length_cons, szE]; omega
 have := this es
 omega
theorem len_node (keys : List Bts) : keys.length * 5 <= szNode keys := by
 unfold szNode
 have : ∀ es : List Bts, es.length * 5 <= (es.map szK).sum := fun es => by
  induction es with
  | nil => exact Nat.le_refl _
  | cons a l ih => simp only [List.map_cons, List.sum_cons, List.length_cons, szK]; omega
 have := this keys
 omega
theorem shLeaf {es : EL} (h2 : upB (es.map (·.1))) (h3 : ∀ e ∈ es, keyOk e.1 /\ e.2.length <= 260) (hf : es.length <= 9000) : ShN (leafN es) :=
 ⟨fun k hk => by obtain ⟨e, he, rfl⟩ := List.mem_map.1 hk; exact (h3 e he).1, h2, fun _ => ⟨by show (es.map _).length = (es.map _).length; simp, rfl, fun v hv => by obtain ⟨e, he, rfl⟩ := List.mem_map.1 hv; exact (h3 e he).2⟩, fun e => (by cases e), by show (es.map _).length <= _; rw [List.length_map]; exact hf⟩
theorem shNode {kids : List Nat} {keys : List Bts} (h1 : kids.length = keys.length + 1) (h2 : upB keys) (h3 : ∀ k ∈ keys, keyOk k) (h4 : ∀ p ∈ kids, p <= 2147483647) (hf : keys.length <= 9000) : ShN (nodeN kids keys) :=
 ⟨h3, h2, fun e => (by cases e), fun _ => ⟨rfl, h1, h4⟩, hf⟩
theorem shT {h : Nat} {t : Tree h} (hw : WFT h t) (hp : ∀ p ∈ pagesT h t, p <= 2147483647) : ShN (ndT h t) := by
 cases h with
 | zero =>
  obtain ⟨h1, h2, h3, h4⟩ := hw
  exact shLeaf h2 h3 (by have := len_leaf t.2; omega)
 | succ h =>
  obtain ⟨h1, h2, h3, h4, h5, h6, h7⟩ := hw
  exact shNode (by rw [List.length_map]; exact h2) h3 h4 (fun p hpp => by
   obtain ⟨x, hx, rfl⟩ := List.mem_map.1 hpp
   exact hp _ (pages_kid (t := t) hx (pg_mem h x))) (by have := len_node t.2.2; omega)
theorem sitsN {C : Nat -> Bts} {h : Nat} {t : Tree h} (hw : WFT h t) (hs : sitsT C h t) : C (pgT h t) = encN (ndT h t) := by
 cases h with
 | zero => exact hs.trans (enc_leaf _).symm
 | succ h => exact hs.1.trans (enc_node (by rw [List.length_map]; exact hw.2.1)).symm
def SameP (S S' : PS) : Prop := S'.is = S.is /\ ∀ m, contP S' m = contP S m
theorem SameP.refl (S : PS) : SameP S S := ⟨rfl, fun _ => rfl⟩
theorem SameP.trans {S S1 S2 : PS} (h : SameP S S1) (k : SameP S1 S2) : SameP S S2 := ⟨k.1.trans h.1, fun m => (k.2 m).trans (h.2 m)⟩
theorem SameP.moves {S S' : PS} (h : SameP S S') : Moves S S' [] [] := ⟨List.nodup_nil, fun p _ _ => h.2 p, fun p _ _ => by rw [h.1], fun p hp => by simp at hp, fun p hp => by simp at hp, fun p hp => by simp at hp, by rw [h.1]⟩
theorem TurnS.own {H H' : BS} {w w1 w2 : World} {q : Nat} (h : TurnS H w H' w1) (hg : w1.grownBy w2 (some q)) (hq : w.heap.size <= q) : TurnS H w H' w2 :=
 ⟨hg.os.trans h.os, hg.tape.trans h.tape, hg.output.trans h.output, Nat.le_trans h.size hg.size, fun b hb hn => by
  obtain ⟨h1, h2⟩ := h.out b hb hn
  exact ⟨(hg.block b (Nat.lt_of_lt_of_le hb h.size) (fun e => by have := Option.some.inj e; omega)).trans h1, h2⟩⟩
theorem TurnS.then {H H' : BS} {w w1 w2 : World} (h : TurnS H w H' w1) (hb : Below w1.heap.size w1 w2) : TurnS H w H' w2 := h.trans (TurnS.quiet hb)
structure TB (H : HS) (w : World) (tb pb : Nat) (root : Int) : Prop where
 box : w.heap[tb]? = some (.cells #[.pointer (some ⟨pb, 0, none⟩), .int .i64 root] 99 (0, 0))
 off : ¬ H.all tb
theorem TB.turn {H H' : HS} {w w' : World} {tb pb : Nat} {root : Int} (h : TB H w tb pb root) (ht : TurnS H.all w H'.all w') : TB H' w' tb pb root := by
 obtain ⟨h1, h2⟩ := ht.kept h.box h.off
 exact ⟨h1, h2⟩
theorem TB.below {H : HS} {w w' : World} {tb pb : Nat} {root : Int} (h : TB H w tb pb root) (hb : Below w.heap.size w w') : TB H w' tb pb root := ⟨kept h.box hb, h.off⟩
theorem TB.cells {H : HS} {w : World} {tb pb : Nat} {root : Int} (h : TB H w tb pb root) : w.cell? ⟨tb, 0, none⟩ = some (.pointer (some ⟨pb, 0, none⟩)) /\ w.cell? ⟨tb, 1, none⟩ = some (.int .i64 root) := by
 have := h.box
 constructor <;> simp [World.cell?, this]
structure NT (H : HS) (B : Nat) (w : World) (n : ND) (kv vv iv : Value) : Prop where
 own : NOwn B w n kv vv iv
 off : ∀ g, kv.ownBlock = some g \/ vv.ownBlock = some g \/ iv.ownBlock = some g -> ¬ H.all g
theorem NT.turn {H H' : HS} {B : Nat} {w w' : World} {n : ND} {kv vv iv : Value} (h : NT H B w n kv vv iv) (ht : TurnS H.all w H'.all w') (hu : ∀ b, H.all b -> ¬ IsU w b) : NT H' B w' n kv vv iv :=
 ⟨h.own.stand ht.size (fun g hg => (ht.out g (h.own.low hg).2.1 (h.off g hg)).1) (cfU_turn ht hu), fun g hg => (ht.out g (h.own.low hg).2.1 (h.off g hg)).2⟩
theorem NT.below {H : HS} {B : Nat} {w w' : World} {n : ND} {kv vv iv : Value} (h : NT H B w n kv vv iv) (hb : Below w.heap.size w w') : NT H B w' n kv vv iv := ⟨h.own.below hb, h.off⟩
def TReadPost (Q : PQ) (R : Int -> Option Bts) (H : HS) (S : PS) (p : Nat) (n : ND) (w : World) (e : Ending) (w' : World) : Prop :=
 ∃ kv vv iv H' S' p', e = .returned (.tuple #[nodeV n kv vv iv, .int .i64 0]) /\ NT H' w.heap.size w' n kv vv iv /\ PG Q R H' S' p' w' /\ SameP S S' /\ TurnS H.all w H'.all w' /\ p' <= p + 4
set_option maxHeartbeats 8000000 in
set_option maxRecDepth 100000 in
theorem tree_read {Q : PQ} {R : Int -> Option Bts} {H : HS} {S : PS} {p n s deep : Nat} {tb : Nat} {root : Int} {nd : ND} {w : World} (h : PG Q R H S p w) (ht : TB H w tb Q.pb root) (hp : p <= 999999980) (hs : S.is[n]? = some s) (hs2 : s = 1 \/ s = 2) (hd : deep <= 20) (hsh : ShN nd) (hz : sizeN nd <= 1024) (hc : contP S n = encN nd) :
  Calls Tryz.prog 33 #[.pointer (some ⟨tb, 0, none⟩), .int .i64 (n : Int), .int .i64 (deep : Int)] w (TReadPost Q R H S p nd w) := by
 obtain ⟨q, hq⟩ : ∃ q, q = w.heap.size := ⟨_, rfl⟩
 obtain ⟨w1, hw1⟩ : ∃ w1, w1 = w.alloc (.cells #[.bool false, .slice none 0 0, .slice none 0 0, .slice none 0 0] 107) := ⟨_, rfl⟩
 have hb1 : Below w.heap.size w w1 := by rw [hw1]; exact (Below.refl _ w).alloc (Nat.le_refl _) _
 have hbq : w1.heap[q]? = some (.cells #[.bool false, .slice none 0 0, .slice none 0 0, .slice none 0 0] 107 (0, 0)) := by rw [hw1, hq]; exact heap_alloc_new w _
 have HG := HoldT.mk (pages_get (h.below hb1) hp hs hs2)
 have ht1 := (ht.below hb1).cells
 have HH := HoldT.mk (And.intro h (And.intro hsh (And.intro hz (And.intro hc (And.intro hb1 (And.intro hbq hq))))))
 have HW := HoldT.mk hw1
 have bd : decide (20 < (deep : Int)) = false := decide_eq_false (by omega)
 clear h ht hp hs hs2 hsh hz hc hb1 hbq hw1 hd
 obtain ⟨x0, x1⟩ := ht1
 go_enter Tryz.func33, Tryz.ntmps33
 go_upto_region 1 with (fail)
 rw [<- HW.out, <- hq]
 clear hq
 go_wp2_with fail
 refine HG.out.mono ?_
 rintro e w2 ⟨sv, cs, H', p', d, rfl, ho, hG2, hdc, hT2, hp2⟩
 obtain ⟨sa, sc, rfl⟩ := ho.shape
 have hpi := (put_pool HH.out.1.pool1 HH.out.1.inv (HH.out.1.inv.contlen n) hdc)
 have hy := ho.yat
 rw [HH.out.2.2.2.1] at hy
 have HR := HoldT.mk (node_read HH.out.2.1 HH.out.2.2.1 hy)
 have hq2 := hT2.kept HH.out.2.2.2.2.2.1 (fun e => by have := HH.out.1.lt q e; have := HH.out.2.2.2.2.2.2; omega)
 have HP := HoldT.mk (And.intro hG2 (And.intro hT2 (And.intro hp2 (And.intro hpi hq2))))
 clear ho hG2 hdc hT2 hp2 hpi hy hq2
 go_wp2_with fail
 refine HR.out.mono ?_
 rintro e w3 ⟨kv, vv, iv, rfl, hno, hb3⟩
 obtain ⟨ka, kc, rfl⟩ := hno.nat.keys.form
 obtain ⟨va, vc, rfl⟩ := hno.nat.vals.form
 obtain ⟨ia, ic, rfl⟩ := hno.nat.kids.form
 have h3 := kept HP.out.2.2.2.2.1 hb3
 have HN := HoldT.mk (And.intro hno (And.intro hb3 h3))
 clear hno hb3
 obtain ⟨m1, hm1⟩ : ∃ m, m = nd.keys.length := ⟨_, rfl⟩
 obtain ⟨m2, hm2⟩ : ∃ m, m = nd.vals.length := ⟨_, rfl⟩
 obtain ⟨m3, hm3⟩ : ∃ m, m = (nd.kids.map Int.ofNat).length := ⟨_, rfl⟩
 obtain ⟨lf, hlf⟩ : ∃ l, l = nd.leaf := ⟨_, rfl⟩
 unfold nodeV
 rw [<- hm1, <- hm2, <- hm3, <- hlf]
 have HM := HoldT.mk (And.intro hm1 (And.intro hm2 (And.intro hm3 hlf)))
 clear hm1 hm2 hm3 hlf
 have z0 : w3.cell? ⟨q, 0, none⟩ = some (.bool false) := by simp [World.cell?, h3]
 have z1 : w3.cell? ⟨q, 1, none⟩ = some (.slice none 0 0) := by simp [World.cell?, h3]
 have z2 : w3.cell? ⟨q, 2, none⟩ = some (.slice none 0 0) := by simp [World.cell?, h3]
 have z3 : w3.cell? ⟨q, 3, none⟩ = some (.slice none 0 0) := by simp [World.cell?, h3]
 have f0 : w3.frozen? ⟨q, 0, none⟩ = false := by simp [World.frozen?, h3]
 have f1 : w3.frozen? ⟨q, 1, none⟩ = false := by simp [World.frozen?, h3]
 have f2 : w3.frozen? ⟨q, 2, none⟩ = false := by simp [World.frozen?, h3]
 have f3 : w3.frozen? ⟨q, 3, none⟩ = false := by simp [World.frozen?, h3]
 clear h3
 go_wp2_with fail
 clear z0 z1 z2 z3 f0 f1 f2 f3
 obtain ⟨u4, hu4⟩ : ∃ u, u = set4 w3 q (.bool lf) (.slice ka m1 kc) (.slice va m2 vc) (.slice ia m3 ic) := ⟨_, rfl⟩
 have hu4' := hu4
 unfold set4 at hu4'
 rw [<- hu4']
 have hg4 : w3.grownBy u4 (some q) := by rw [hu4]; exact set4_grown _ _ _ _ _ _
 have h44 : u4.heap[q]? = some (.cells #[.bool lf, .slice ka m1 kc, .slice va m2 vc, .slice ia m3 ic] 107 (0, 0)) := by rw [hu4]; exact set4_heap HN.out.2.2
 clear hu4 hu4'
 have c0 : u4.cell? ⟨q, 0, none⟩ = some (.bool lf) := by simp [World.cell?, h44]
 have c1 : u4.cell? ⟨q, 1, none⟩ = some (.slice ka m1 kc) := by simp [World.cell?, h44]
 have c2 : u4.cell? ⟨q, 2, none⟩ = some (.slice va m2 vc) := by simp [World.cell?, h44]
 have c3 : u4.cell? ⟨q, 3, none⟩ = some (.slice ia m3 ic) := by simp [World.cell?, h44]
 refine bodyPost_ret (v := .tuple #[.agg #[.bool lf, .slice ka m1 kc, .slice va m2 vc, .slice ia m3 ic], .int .i64 0]) (by simp [results, Tryz.results33, go_sem, c0, c1, c2, c3]) rfl ?_
 obtain ⟨hno, hb3, hq3⟩ := HN.out
 obtain ⟨hG2, hT2, hp2, hpi, hq2⟩ := HP.out
 obtain ⟨n4, u4'⟩ := hno.grown hq3 hg4
 have hqH : ¬ H'.all q := hq2.2
 have hs1 := HH.out.2.2.2.2.1.size
 have hs2 := hT2.size
 obtain ⟨m1', m2', m3', lf'⟩ := HM.out
 rw [m1', m2', m3', lf']
 refine ⟨_, _, _, H', _, p', rfl, ⟨n4.base (Nat.le_trans hs1 hs2), fun g hg e => ?_⟩, (hG2.below hb3).beside hg4 (fun b e => by cases e; exact ⟨hqH, fun ⟨_, _, e2⟩ => by rw [hq3] at e2; cases e2⟩), ⟨hpi.2.2, fun m => ?_⟩, ?_, hp2⟩
 ·have h1 := (n4.low hg).1
  have h2 := hG2.lt g e
  omega
 ·rw [hpi.2.1]
  split
  ·rename_i e; rw [e]
  ·rfl
 ·have h1 : TurnS H.all w H.all w1 := TurnS.quiet HH.out.2.2.2.2.1
  have h2 : TurnS H'.all w2 H'.all w3 := TurnS.quiet hb3
  exact ((h1.trans hT2).trans h2).own hg4 (by have := HH.out.2.2.2.2.2.2; omega)
end Go.Proofs.YtafilaiinbggoaaGreat
namespace Go.Proofs.YtafilaiinbggoaaGreat
open Go.RowKit Go.Maps
set_option maxHeartbeats 1000000 in
theorem pages_of_none {w : World} {pb : Nat} :
  Calls Tryz.prog 81 #[.pointer (some ⟨pb, 0, none⟩), .int .i64 (-1)] w fun e w' => e = .returned (.int .i64 0) /\ w' = w := by
 go_enter Tryz.func81, Tryz.ntmps81
 go_wp2
 go_ret
 exact ⟨rfl, rfl⟩
set_option maxHeartbeats 1000000 in
theorem pages_fresh_none {w : World} {pb : Nat} :
  Calls Tryz.prog 53 #[.pointer (some ⟨pb, 0, none⟩), .int .i64 (-1)] w fun e w' => e = .returned (.bool false) /\ w' = w := by
 have HO := Lib.hid (pages_of_none (w := w) (pb := pb))
 go_enter Tryz.func53, Tryz.ntmps53
 go_wp2_with (go_at_call 81; refine HO.out.mono ?_; rintro e w' ⟨rfl, rfl⟩)
 go_ret
 exact ⟨rfl, rfl⟩
theorem pages_fresh' {w : World} {H : BS} {Q : PQ} {S : PS} {n : Nat} (h : PP H Q S w) (hn : S.is[n]? = some 2) : Calls Tryz.prog 53 #[.pointer (some ⟨Q.pb, 0, none⟩), .int .i64 (n : Int)] w fun e w' => e = .returned (.bool true) /\ w' = w := by
 obtain ⟨⟨_, _, _, _, _, h1, h2, _⟩, _⟩ := h
 exact pages_fresh h1 h2 hn
def OldOk (S : PS) (old : Int) (l : List Nat) : Prop := (∃ n : Nat, old = (n : Int) /\ S.is[n]? = some 2 /\ l = [n]) \/ (old = -1 /\ l = [] /\ 0 ∈ S.is)
def TWritePost (Q : PQ) (R : Int -> Option Bts) (H : HS) (S : PS) (p : Nat) (n : ND) (l : List Nat) (w : World) (e : Ending) (w' : World) : Prop :=
 ∃ (m : Nat) (H' : HS) (S' : PS) (p' : Nat), e = .returned (.tuple #[.int .i64 (m : Int), .int .i64 0]) /\ PG Q R H' S' p' w' /\ Moves S S' l [m] /\ (l ≠ [] -> l = [m]) /\ contP S' m = encN n /\ TurnS H.all w H'.all w' /\ p' <= p + 8
set_option maxHeartbeats 8000000 in
set_option maxRecDepth 100000 in
theorem tree_write {Q : PQ} {R : Int -> Option Bts} {H : HS} {S : PS} {p : Nat} {tb : Nat} {root old : Int} {l : List Nat} {nd : ND} {kv vv iv : Value} {w : World} (h : PG Q R H S p w) (ht : TB H w tb Q.pb root) (hp : p <= 999999970) (hn : NAt w nd kv vv iv) (hsh : ShN nd) (hz : sizeN nd <= 1024) (ho : OldOk S old l) :
  Calls Tryz.prog 32 #[.pointer (some ⟨tb, 0, none⟩), nodeV nd kv vv iv, .int .i64 old] w (TWritePost Q R H S p nd l w) := by
 obtain ⟨q, hq⟩ : ∃ q, q = w.heap.size := ⟨_, rfl⟩
 obtain ⟨ka, kc, rfl⟩ := hn.keys.form
 obtain ⟨va, vc, rfl⟩ := hn.vals.form
 obtain ⟨ia, ic, rfl⟩ := hn.kids.form
 obtain ⟨m1, hm1⟩ : ∃ m, m = nd.keys.length := ⟨_, rfl⟩
 obtain ⟨m2, hm2⟩ : ∃ m, m = nd.vals.length := ⟨_, rfl⟩
 obtain ⟨m3, hm3⟩ : ∃ m, m = (nd.kids.map Int.ofNat).length := ⟨_, rfl⟩
 obtain ⟨lf, hlf⟩ : ∃ l, l = nd.leaf := ⟨_, rfl⟩
 obtain ⟨w1, hw1⟩ : ∃ w1, w1 = w.alloc (.cells #[.bool lf, .slice ka m1 kc, .slice va m2 vc, .slice ia m3 ic] 107) := ⟨_, rfl⟩
 have hb1 : Below w.heap.size w w1 := by rw [hw1]; exact (Below.refl _ w).alloc (Nat.le_refl _) _
 have hbq : w1.heap[q]? = some (.cells #[.bool lf, .slice ka m1 kc, .slice va m2 vc, .slice ia m3 ic] 107 (0, 0)) := by rw [hw1, hq]; exact heap_alloc_new w _
 have HWR := node_write (hn.below hb1) hsh hz
 unfold nodeV at HWR |-
 rw [<- hm1, <- hm2, <- hm3, <- hlf] at HWR |-
 have HWR := HoldT.mk HWR
 have ht1 := (ht.below hb1)
 have hG1 := h.below hb1
 have HH := HoldT.mk (And.intro hG1 (And.intro ht1 (And.intro hb1 (And.intro hp (And.intro h.pool1 h.inv)))))
 have HW := HoldT.mk hw1
 have y0 : w1.cell? ⟨q, 0, none⟩ = some (.bool lf) := by simp [World.cell?, hbq]
 have y1 : w1.cell? ⟨q, 1, none⟩ = some (.slice ka m1 kc) := by simp [World.cell?, hbq]
 have y2 : w1.cell? ⟨q, 2, none⟩ = some (.slice va m2 vc) := by simp [World.cell?, hbq]
 have y3 : w1.cell? ⟨q, 3, none⟩ = some (.slice ia m3 ic) := by simp [World.cell?, hbq]
 clear h ht hp hn hsh hz hb1 hbq hw1 hm1 hm2 hm3 hlf hG1 ht1
 go_enter Tryz.func32, Tryz.ntmps32
 go_upto_region 1 with (fail)
 rw [<- HW.out, <- hq]
 clear hq
 go_wp2_with fail
 refine HWR.out.mono ?_
 rintro e w2 ⟨g, rfl, hg, hy, hb2⟩
 clear y0 y1 y2 y3
 have HB2 := HoldT.mk (And.intro hg (And.intro hy hb2))
 have hG2 := HH.out.1.below hb2
 have ht2 := HH.out.2.1.below hb2
 obtain ⟨x0, x1⟩ := ht2.cells
 have HT2 := HoldT.mk (And.intro hG2 ht2)
 have hpy : (encN nd).length = 1024 := by
  obtain ⟨_, _, e, _⟩ := hy
  simp only [Value.slice.injEq] at e
  exact e.2.1.symm
 have HPY := HoldT.mk hpy
 clear hg hy hb2 hG2 ht2 hpy
 rcases ho with ⟨n, rfl, hs, rfl⟩ | ⟨rfl, rfl, hs⟩
 ·have HF := HoldT.mk (pages_fresh' HT2.out.1.own hs)
  have HP := HoldT.mk (pages_putp HT2.out.1 (by have := HH.out.2.2.2.1; omega) hs HPY.out HB2.out.2.1)
  have HS := HoldT.mk hs
  clear hs
  go_wp2_with fail
  refine HF.out.mono ?_
  rintro e w3 ⟨rfl, hw⟩
  obtain rfl := hw.symm
  clear hw
  go_wp2_with fail
  refine HP.out.mono ?_
  rintro e w4 ⟨rfl, H', p', hG4, hT4, hp4⟩
  have HD := HoldT.mk (And.intro hG4 (And.intro hT4 hp4))
  clear hG4 hT4 hp4
  go_wp2_with fail
  refine bodyPost_ret (v := .tuple #[.int .i64 (n : Int), .int .i64 0]) (by simp [results, Tryz.results32, go_sem]) rfl ?_
  obtain ⟨hG4, hT4, hp4⟩ := HD.out
  obtain ⟨_, k2, k3⟩ := put_moves HH.out.2.2.2.2.1 HH.out.2.2.2.2.2 HPY.out HS.out
  exact ⟨n, H', _, p', rfl, hG4, k2, fun _ => rfl, k3, ((TurnS.quiet HH.out.2.2.1).trans (TurnS.quiet HB2.out.2.2)).trans hT4, by omega⟩
 ·have HF := HoldT.mk (pages_fresh_none (w := w2) (pb := Q.pb))
  have HA := HoldT.mk (pages_alloc HT2.out.1 (by have := HH.out.2.2.2.1; omega) hs)
  clear hs
  go_wp2_with fail
  refine HF.out.mono ?_
  rintro e w3 ⟨rfl, hw⟩
  obtain rfl := hw.symm
  clear hw
  go_wp2_with fail
  refine HA.out.mono ?_
  rintro e w4 ⟨n, H4, p4, hn0, rfl, hG4, hT4, hp4⟩
  obtain ⟨a1, a2⟩ := alloc_moves HH.out.2.2.2.2.1 HH.out.2.2.2.2.2 hn0
  have ht4 := HT2.out.2.turn hT4
  have hy4 := HB2.out.2.1.mono RY_mono (cfU_turn hT4 HT2.out.1.noU)
  have hs4 : (allocP Q.pool n S).is[n]? = some 2 := a2.fresh n (List.mem_singleton.2 rfl)
  have HP := HoldT.mk (pages_putp hG4 (by have := HH.out.2.2.2.1; omega) hs4 HPY.out hy4)
  obtain ⟨x0, x1⟩ := ht4.cells
  have HD := HoldT.mk (And.intro hG4 (And.intro hT4 (And.intro hp4 (And.intro a1 (And.intro a2 hs4)))))
  clear hG4 hT4 hp4 a1 a2 ht4 hy4 hs4 hn0
  go_wp2_with fail
  refine HP.out.mono ?_
  rintro e w5 ⟨rfl, H', p', hG5, hT5, hp5⟩
  have HD5 := HoldT.mk (And.intro hG5 (And.intro hT5 hp5))
  clear hG5 hT5 hp5
  go_wp2_with fail
  refine bodyPost_ret (v := .tuple #[.int .i64 (n : Int), .int .i64 0]) (by simp [results, Tryz.results32, go_sem]) rfl ?_
  obtain ⟨hG5, hT5, hp5⟩ := HD5.out
  obtain ⟨_, k2, k3⟩ := put_moves HH.out.2.2.2.2.1 HD.out.2.2.2.1 HPY.out HD.out.2.2.2.2.2
  exact ⟨n, H', _, p', rfl, hG5, HD.out.2.2.2.2.1.trans k2, fun e => absurd rfl e, k3, (((TurnS.quiet HH.out.2.2.1).trans (TurnS.quiet HB2.out.2.2)).trans HD.out.2.1).trans hT5, by have := HD.out.2.2.1; omega⟩
end Go.Proofs.YtafilaiinbggoaaGreat
