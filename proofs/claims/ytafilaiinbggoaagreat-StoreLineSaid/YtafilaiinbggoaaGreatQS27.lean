import Derived.Test.YtafilaiinbggoaaGreatQS26
namespace Go.Proofs.YtafilaiinbggoaaGreat
open Go.RowKit Go.Maps
theorem free_range (S : PS) : freeP S = ((List.range S.is.length).filter fun p => S.is[p]? == some 0).length := by
 have e1 : S.is = (List.range S.is.length).map fun p => (S.is[p]?).getD 0 := by
  refine List.ext_getElem (by simp) fun i h1 h2 => ?_
  rw [List.getElem_map, List.getElem_range, List.getElem?_eq_getElem h1]
  rfl
 unfold freeP
 conv => lhs; rw [e1]
 rw [List.countP_map, <- List.countP_eq_length_filter]
 refine List.countP_congr fun p hp => ?_
 have hl := List.mem_range.1 hp
 have hs : S.is[p]? = some (S.is[p]'hl) := List.getElem?_eq_getElem hl
 show (((S.is[p]?).getD 0 == 0) = true) ↔ ((S.is[p]? == some 0) = true)
 rw [hs]
 simp
theorem Moves.free {S S' : PS} {old new : List Nat} (h : Moves S S' old new) : freeP S <= freeP S' + new.length := by
 rw [free_range, free_range, h.len]
 obtain ⟨L, hL⟩ : ∃ L, L = (List.range S.is.length).filter fun p => S.is[p]? == some 0 := ⟨_, rfl⟩
 rw [<- hL]
 have hn : L.Nodup := by rw [hL]; exact List.nodup_range.filter _
 have h1 : L.length = (L.filter fun p => decide (p ∈ new)).length + (L.filter fun p => !decide (p ∈ new)).length := by
  have := List.length_eq_countP_add_countP (l := L) (p := fun p => decide (p ∈ new))
  rw [List.countP_eq_length_filter, List.countP_eq_length_filter] at this
  rw [this]
  congr 2
  exact List.filter_congr fun p _ => by simp
 have h2 : (L.filter fun p => decide (p ∈ new)).length <= new.length := by
  have hp : (L.filter fun p => decide (p ∈ new)).Perm (new.filter fun p => decide (p ∈ L)) := by
   refine (List.perm_ext_iff_of_nodup (hn.filter _) (h.nd.filter _)).2 fun p => ?_
   simp only [List.mem_filter, decide_eq_true_eq]
   exact ⟨fun ⟨a, b⟩ => ⟨b, a⟩, fun ⟨a, b⟩ => ⟨b, a⟩⟩
  rw [hp.length_eq]
  exact List.length_filter_le ..
 have h3 : (L.filter fun p => !decide (p ∈ new)).length <= ((List.range S.is.length).filter fun p => S'.is[p]? == some 0).length := by
  rw [hL, List.filter_filter]
  refine (List.Sublist.length_le ?_)
  have : (List.range S.is.length).filter (fun p => (!decide (p ∈ new)) && (S.is[p]? == some 0)) = ((List.range S.is.length).filter fun p => S'.is[p]? == some 0).filter (fun p => (!decide (p ∈ new)) && (S.is[p]? == some 0)) := by
   rw [List.filter_filter]
   refine List.filter_congr fun p hp => ?_
   by_cases e : p ∈ new
   ·simp [e]
   ·by_cases e2 : S.is[p]? = some 0
    ·have : S'.is[p]? = some 0 := by
      by_cases ho : p ∈ old
      ·exact h.left p ho e
      ·rw [h.same p ho e]; exact e2
     simp [e, e2, this]
    ·simp [e, e2]
  rw [this]
  exact List.filter_sublist
 omega
theorem free_in {S : PS} (h : 1 <= freeP S) : 0 ∈ S.is := by
 unfold freeP at h
 obtain ⟨x, hx, e⟩ := List.countP_pos_iff.1 h
 have : x = 0 := by simpa using e
 exact this ▸ hx
structure SplitOk (nd : ND) : Prop where
 last : 1 <= lastN nd
 parts : ∀ j, bestAt (maxN nd) (lastN nd) j -> ShN (partA nd j) /\ sizeN (partA nd j) <= 1024 /\ ShN (partB nd j) /\ sizeN (partB nd j) <= 1024
def LayPost (Q : PQ) (R : Int -> Option Bts) (H : HS) (S : PS) (p : Nat) (nd : ND) (l : List Nat) (w : World) (e : Ending) (w' : World) : Prop :=
 ∃ (m : Nat) (H' : HS) (S' : PS) (p' : Nat), PG Q R H' S' p' w' /\ (l ≠ [] -> l = [m]) /\ TurnS H.all w H'.all w' /\ p' <= p + 16 /\
  ((sizeN nd <= 1024 /\ e = .returned (.tuple #[.agg #[.int .i64 (m : Int), .slice none 0 0, .int .i64 (-1)], .int .i64 0]) /\ Moves S S' l [m] /\ contP S' m = encN nd) \/
  (1024 < sizeN nd /\ ∃ (j m2 : Nat) (ks : Value), bestAt (maxN nd) (lastN nd) j /\ e = .returned (.tuple #[.agg #[.int .i64 (m : Int), ks, .int .i64 (m2 : Int)], .int .i64 0]) /\ YAt (cfU w') ks (nd.keys.getD j []) /\ Moves S S' l [m2, m] /\ contP S' m = encN (partA nd j) /\ contP S' m2 = encN (partB nd j)))
def set3 (w : World) (q : Nat) (a b c : Value) : World := ((w.setCell ⟨q, 0, none⟩ a).setCell ⟨q, 1, none⟩ b).setCell ⟨q, 2, none⟩ c
theorem set3_heap {w : World} {q : Nat} {a b c a' b' c' : Value} {T : TypeId} (h : w.heap[q]? = some (.cells #[a, b, c] T (0, 0))) : (set3 w q a' b' c').heap[q]? = some (.cells #[a', b', c'] T (0, 0)) := by
 have h1 := set_selfT (o := 0) (c := a') h
 have h2 := set_selfT (o := 1) (c := b') h1
 have h3 := set_selfT (o := 2) (c := c') h2
 exact h3
theorem set3_grown (w : World) (q : Nat) (a b c : Value) : w.grownBy (set3 w q a b c) (some q) :=
 ((set6_grown (w := w) (db := q) a 0).trans (set6_grown b 1)).trans (set6_grown c 2)
set_option maxHeartbeats 8000000 in
set_option maxRecDepth 100000 in
theorem tree_lay {Q : PQ} {R : Int -> Option Bts} {H : HS} {S : PS} {p : Nat} {tb : Nat} {root old : Int} {l : List Nat} {nd : ND} {kv vv iv : Value} {w : World} (h : PG Q R H S p w) (ht : TB H w tb Q.pb root) (hp : p <= 999999960) (hn : NAt w nd kv vv iv) (hsh : ShN nd) (hz : 1024 < sizeN nd -> SplitOk nd) (ho : OldOk S old l) (hf : 2 <= freeP S) :
  Calls Tryz.prog 30 #[.pointer (some ⟨tb, 0, none⟩), nodeV nd kv vv iv, .int .i64 old] w (LayPost Q R H S p nd l w) := by
 obtain ⟨q, hq⟩ : ∃ q, q = w.heap.size := ⟨_, rfl⟩
 obtain ⟨q6, hq6⟩ : ∃ q6, q6 = q + 1 := ⟨_, rfl⟩
 obtain ⟨ka, kc, rfl⟩ := hn.keys.form
 obtain ⟨va, vc, rfl⟩ := hn.vals.form
 obtain ⟨ia, ic, rfl⟩ := hn.kids.form
 obtain ⟨m1, hm1⟩ : ∃ m, m = nd.keys.length := ⟨_, rfl⟩
 obtain ⟨m2, hm2⟩ : ∃ m, m = nd.vals.length := ⟨_, rfl⟩
 obtain ⟨m3, hm3⟩ : ∃ m, m = (nd.kids.map Int.ofNat).length := ⟨_, rfl⟩
 obtain ⟨lf, hlf⟩ : ∃ l, l = nd.leaf := ⟨_, rfl⟩
 obtain ⟨w1, hw1⟩ : ∃ w1, w1 = w.alloc (.cells #[.bool lf, .slice ka m1 kc, .slice va m2 vc, .slice ia m3 ic] 107) := ⟨_, rfl⟩
 obtain ⟨w2, hw2⟩ : ∃ w2, w2 = w1.alloc (.cells #[.int .i64 0, .slice none 0 0, .int .i64 0] 103) := ⟨_, rfl⟩
 have hb1 : Below w.heap.size w w1 := by rw [hw1]; exact (Below.refl _ w).alloc (Nat.le_refl _) _
 have hb2 : Below w1.heap.size w1 w2 := by rw [hw2]; exact (Below.refl _ w1).alloc (Nat.le_refl _) _
 have hb := hb1.trans (hb2.mono hb1.size)
 have hs1 : w1.heap.size = q6 := by rw [hw1, hq6, hq]; simp
 have hbq : w2.heap[q]? = some (.cells #[.bool lf, .slice ka m1 kc, .slice va m2 vc, .slice ia m3 ic] 107 (0, 0)) := kept (by rw [hw1, hq]; exact heap_alloc_new w _) hb2
 have hbq6 : w2.heap[q6]? = some (.cells #[.int .i64 0, .slice none 0 0, .int .i64 0] 103 (0, 0)) := by rw [hw2, <- hs1]; exact heap_alloc_new w1 _
 have hn2 := hn.below hb
 have HSZ := node_size hn2 hsh.fewN
 have HSP := fun h => node_split hn2 hsh h
 have hnv : nodeV nd (.slice ka nd.keys.length kc) (.slice va nd.vals.length vc) (.slice ia (nd.kids.map Int.ofNat).length ic) = .agg #[.bool lf, .slice ka m1 kc, .slice va m2 vc, .slice ia m3 ic] := by unfold nodeV; rw [hm1, hm2, hm3, hlf]
 rw [hnv] at HSZ HSP |-
 have HSZ := HoldT.mk HSZ
 have HSP := HoldT.mk HSP
 have hqH : ¬ H.all q := fun e => by have := h.lt q e; omega
 have hqH6 : ¬ H.all q6 := fun e => by have := h.lt q6 e; omega
 have HH := HoldT.mk (And.intro (h.below hb) (And.intro (ht.below hb) (And.intro hb (And.intro hp (And.intro hn2 (And.intro hsh (And.intro hz (And.intro hnv (And.intro hbq (And.intro hbq6 (And.intro hq (And.intro hq6 (And.intro hqH hqH6)))))))))))))
 have HW := HoldT.mk (And.intro hw1 hw2)
 have y0 : w2.cell? ⟨q, 0, none⟩ = some (.bool lf) := by simp [World.cell?, hbq]
 have y1 : w2.cell? ⟨q, 1, none⟩ = some (.slice ka m1 kc) := by simp [World.cell?, hbq]
 have y2 : w2.cell? ⟨q, 2, none⟩ = some (.slice va m2 vc) := by simp [World.cell?, hbq]
 have y3 : w2.cell? ⟨q, 3, none⟩ = some (.slice ia m3 ic) := by simp [World.cell?, hbq]
 obtain ⟨sz, hsz⟩ : ∃ sz, sz = sizeN nd := ⟨_, rfl⟩
 have hsz9 : sz <= 400000000 := by rw [hsz]; exact sizeN_le hsh.fewN
 rw [<- hsz] at HSZ
 have HSS := HoldT.mk hsz
 clear h ht hp hn hsh hz hb1 hb2 hb hs1 hbq hbq6 hn2 hw1 hw2 hm1 hm2 hm3 hlf hnv hqH hqH6
 go_enter Tryz.func30, Tryz.ntmps30
 go_upto_region 1 with (fail)
 rw [<- HW.out.1, <- HW.out.2, <- hq, <- hq6]
 clear hq hq6 hsz
 go_wp2_with fail
 refine HSZ.out.mono ?_
 rintro e w3 ⟨rfl, hb3⟩
 clear y0 y1 y2 y3
 have hbq := kept HH.out.2.2.2.2.2.2.2.2.1 hb3
 have y0 : w3.cell? ⟨q, 0, none⟩ = some (.bool lf) := by simp [World.cell?, hbq]
 have y1 : w3.cell? ⟨q, 1, none⟩ = some (.slice ka m1 kc) := by simp [World.cell?, hbq]
 have y2 : w3.cell? ⟨q, 2, none⟩ = some (.slice va m2 vc) := by simp [World.cell?, hbq]
 have y3 : w3.cell? ⟨q, 3, none⟩ = some (.slice ia m3 ic) := by simp [World.cell?, hbq]
 have HB3 := HoldT.mk hb3
 clear hbq
 by_cases hle : sz <= 1024
 ·have hz : sizeN nd <= 1024 := by rw [<- HSS.out]; exact hle
  have bl : decide ((sz : Int) <= 1024) = true := decide_eq_true (by omega)
  have HWR := tree_write (HH.out.1.below hb3) (HH.out.2.1.below hb3) (by have := HH.out.2.2.2.1; omega) (HH.out.2.2.2.2.1.below hb3) HH.out.2.2.2.2.2.1 hz ho
  rw [HH.out.2.2.2.2.2.2.2.1] at HWR
  have HWR := HoldT.mk HWR
  have HZ := HoldT.mk hz
  clear hb3 hz ho
  go_wp2_with fail
  refine HWR.out.mono ?_
  rintro e w4 ⟨m, H', S', p', rfl, hG4, hM, hlm, hc, hT4, hp4⟩
  have h3 := hT4.kept (kept HH.out.2.2.2.2.2.2.2.2.2.1 HB3.out) HH.out.2.2.2.2.2.2.2.2.2.2.2.2.2
  have HP := HoldT.mk (And.intro hG4 (And.intro hM (And.intro hlm (And.intro hc (And.intro hT4 (And.intro hp4 h3))))))
  have h3 := h3.1
  clear hG4 hM hlm hc hT4 hp4 y0 y1 y2 y3
  have z0 : w4.cell? ⟨q6, 0, none⟩ = some (.int .i64 0) := by simp [World.cell?, h3]
  have z1 : w4.cell? ⟨q6, 1, none⟩ = some (.slice none 0 0) := by simp [World.cell?, h3]
  have z2 : w4.cell? ⟨q6, 2, none⟩ = some (.int .i64 0) := by simp [World.cell?, h3]
  have f0 : w4.frozen? ⟨q6, 0, none⟩ = false := by simp [World.frozen?, h3]
  have f1 : w4.frozen? ⟨q6, 1, none⟩ = false := by simp [World.frozen?, h3]
  have f2 : w4.frozen? ⟨q6, 2, none⟩ = false := by simp [World.frozen?, h3]
  clear h3
  go_wp2_with fail
  obtain ⟨u5, hu5⟩ : ∃ u, u = set3 w4 q6 (.int .i64 (m : Int)) (.slice none 0 0) (.int .i64 (-1)) := ⟨_, rfl⟩
  have hu5' := hu5
  unfold set3 at hu5'
  rw [<- hu5']
  obtain ⟨hG4, hM, hlm, hc, hT4, hp4, h3⟩ := HP.out
  have hg5 : w4.grownBy u5 (some q6) := by rw [hu5]; exact set3_grown _ _ _ _ _
  have h55 : u5.heap[q6]? = some (.cells #[.int .i64 (m : Int), .slice none 0 0, .int .i64 (-1)] 103 (0, 0)) := by rw [hu5]; exact set3_heap h3.1
  have c0 : u5.cell? ⟨q6, 0, none⟩ = some (.int .i64 (m : Int)) := by simp [World.cell?, h55]
  have c1 : u5.cell? ⟨q6, 1, none⟩ = some (.slice none 0 0) := by simp [World.cell?, h55]
  have c2 : u5.cell? ⟨q6, 2, none⟩ = some (.int .i64 (-1)) := by simp [World.cell?, h55]
  refine bodyPost_ret (v := .tuple #[.agg #[.int .i64 (m : Int), .slice none 0 0, .int .i64 (-1)], .int .i64 0]) (by simp [results, Tryz.results30, go_sem, c0, c1, c2]) rfl ?_
  refine ⟨m, H', S', p', hG4.beside hg5 (fun b e => by cases e; exact ⟨h3.2, fun ⟨_, _, e2⟩ => by rw [h3.1] at e2; cases e2⟩), hlm, ?_, by omega, .inl ⟨HZ.out, rfl, hM, hc⟩⟩
  exact (((TurnS.quiet HH.out.2.2.1).then HB3.out).trans hT4).own hg5 (by have := HH.out.2.2.2.2.2.2.2.2.2.2.1; have := HH.out.2.2.2.2.2.2.2.2.2.2.2.1; omega)
 ·have hz' : 1024 < sizeN nd := by rw [<- HSS.out]; omega
  have bl : decide ((sz : Int) <= 1024) = false := decide_eq_false (by omega)
  have HZ := HoldT.mk (HH.out.2.2.2.2.2.2.1 hz')
  have hn3 := HH.out.2.2.2.2.1.below hb3
  have HSP := node_split hn3 HH.out.2.2.2.2.2.1 HZ.out.last
  rw [HH.out.2.2.2.2.2.2.2.1] at HSP
  have HSP := HoldT.mk HSP
  have HZ' := HoldT.mk hz'
  clear hn3 hb3 hz'
  go_wp2_with fail
  refine HSP.out.mono ?_
  rintro e w4 ⟨j, k1, v1, i1, ks, k2, v2, i2, hj, rfl, hA, hy, hB, hb4⟩
  obtain ⟨pA, hpA⟩ : ∃ p, p = partA nd j := ⟨_, rfl⟩
  obtain ⟨pB, hpB⟩ : ∃ p, p = partB nd j := ⟨_, rfl⟩
  rw [<- hpA] at hA |-
  rw [<- hpB] at hB |-
  obtain ⟨k1a, k1c, rfl⟩ := hA.nat.keys.form
  obtain ⟨v1a, v1c, rfl⟩ := hA.nat.vals.form
  obtain ⟨i1a, i1c, rfl⟩ := hA.nat.kids.form
  obtain ⟨k2a, k2c, rfl⟩ := hB.nat.keys.form
  obtain ⟨v2a, v2c, rfl⟩ := hB.nat.vals.form
  obtain ⟨i2a, i2c, rfl⟩ := hB.nat.kids.form
  obtain ⟨ya, yc, rfl⟩ := hy.form
  obtain ⟨yl, hyl⟩ : ∃ y, y = (nd.keys.getD j []).length := ⟨_, rfl⟩
  rw [<- hyl]
  have hva : nodeV pA (.slice k1a pA.keys.length k1c) (.slice v1a pA.vals.length v1c) (.slice i1a (pA.kids.map Int.ofNat).length i1c) = .agg #[.bool pA.leaf, .slice k1a pA.keys.length k1c, .slice v1a pA.vals.length v1c, .slice i1a (pA.kids.map Int.ofNat).length i1c] := rfl
  have hvb : nodeV pB (.slice k2a pB.keys.length k2c) (.slice v2a pB.vals.length v2c) (.slice i2a (pB.kids.map Int.ofNat).length i2c) = .agg #[.bool pB.leaf, .slice k2a pB.keys.length k2c, .slice v2a pB.vals.length v2c, .slice i2a (pB.kids.map Int.ofNat).length i2c] := rfl
  obtain ⟨n1, hn1⟩ : ∃ m, m = pA.keys.length := ⟨_, rfl⟩
  obtain ⟨n2, hn2⟩ : ∃ m, m = pA.vals.length := ⟨_, rfl⟩
  obtain ⟨n3, hn3⟩ : ∃ m, m = (pA.kids.map Int.ofNat).length := ⟨_, rfl⟩
  obtain ⟨o1, ho1⟩ : ∃ m, m = pB.keys.length := ⟨_, rfl⟩
  obtain ⟨o2, ho2⟩ : ∃ m, m = pB.vals.length := ⟨_, rfl⟩
  obtain ⟨o3, ho3⟩ : ∃ m, m = (pB.kids.map Int.ofNat).length := ⟨_, rfl⟩
  obtain ⟨la, hla⟩ : ∃ l, l = pA.leaf := ⟨_, rfl⟩
  obtain ⟨lb, hlb⟩ : ∃ l, l = pB.leaf := ⟨_, rfl⟩
  rw [<- hn1, <- hn2, <- hn3, <- hla] at hva
  rw [<- ho1, <- ho2, <- ho3, <- hlb] at hvb
  rw [<- hn1, <- hn2, <- hn3, hva, <- ho1, <- ho2, <- ho3, hvb]
  rw [<- hn1, <- hn2, <- hn3] at hA
  rw [<- ho1, <- ho2, <- ho3] at hB
  have hG4 := (HH.out.1.below HB3.out).below hb4
  have ht4 := (HH.out.2.1.below HB3.out).below hb4
  have hbx := kept (kept HH.out.2.2.2.2.2.2.2.2.2.1 HB3.out) hb4
  have hNA : NT H w3.heap.size w4 pA (.slice k1a n1 k1c) (.slice v1a n2 v1c) (.slice i1a n3 i1c) := ⟨hA, fun g hg e => by have h1 := (hA.low hg).1; have h2 := (HH.out.1.below HB3.out).lt g e; omega⟩
  have hNB : NT H w3.heap.size w4 pB (.slice k2a o1 k2c) (.slice v2a o2 v2c) (.slice i2a o3 i2c) := ⟨hB, fun g hg e => by have h1 := (hB.low hg).1; have h2 := (HH.out.1.below HB3.out).lt g e; omega⟩
  have HN := HoldT.mk (And.intro hj (And.intro hpA (And.intro hpB (And.intro hva (And.intro hvb (And.intro hyl (And.intro hNA (And.intro hNB hy))))))))
  have HP := HoldT.mk (And.intro hG4 (And.intro ht4 (And.intro hbx hb4)))
  clear hj hpA hpB hva hvb hA hy hB hb4 hyl hn1 hn2 hn3 ho1 ho2 ho3 hla hlb hG4 ht4 hbx hNA hNB y0 y1 y2 y3
  go_upto_region 5 with (fail)
  obtain ⟨w5, hw5⟩ : ∃ w5, w5 = w4.alloc (.cells #[.bool la, .slice k1a n1 k1c, .slice v1a n2 v1c, .slice i1a n3 i1c] 107) := ⟨_, rfl⟩
  obtain ⟨w6, hw6⟩ : ∃ w6, w6 = w5.alloc (.cells #[.bool lb, .slice k2a o1 k2c, .slice v2a o2 v2c, .slice i2a o3 i2c] 107) := ⟨_, rfl⟩
  obtain ⟨r1, hr1⟩ : ∃ r1, r1 = w4.heap.size := ⟨_, rfl⟩
  obtain ⟨r2, hr2⟩ : ∃ r2, r2 = r1 + 1 := ⟨_, rfl⟩
  rw [<- hw5, <- hw6, <- hr1, <- hr2]
  have hb5 : Below w4.heap.size w4 w5 := by rw [hw5]; exact (Below.refl _ w4).alloc (Nat.le_refl _) _
  have hb6 : Below w5.heap.size w5 w6 := by rw [hw6]; exact (Below.refl _ w5).alloc (Nat.le_refl _) _
  have hb46 := hb5.trans (hb6.mono hb5.size)
  have h61 : w6.heap[r1]? = some (.cells #[.bool la, .slice k1a n1 k1c, .slice v1a n2 v1c, .slice i1a n3 i1c] 107 (0, 0)) := kept (by rw [hw5, hr1]; exact heap_alloc_new w4 _) hb6
  have h62 : w6.heap[r2]? = some (.cells #[.bool lb, .slice k2a o1 k2c, .slice v2a o2 v2c, .slice i2a o3 i2c] 107 (0, 0)) := by
   have e : r2 = w5.heap.size := by rw [hw5, hr2, hr1]; simp
   rw [hw6, e]; exact heap_alloc_new w5 _
  have y0 : w6.cell? ⟨r1, 0, none⟩ = some (.bool la) := by simp [World.cell?, h61]
  have y1 : w6.cell? ⟨r1, 1, none⟩ = some (.slice k1a n1 k1c) := by simp [World.cell?, h61]
  have y2 : w6.cell? ⟨r1, 2, none⟩ = some (.slice v1a n2 v1c) := by simp [World.cell?, h61]
  have y3 : w6.cell? ⟨r1, 3, none⟩ = some (.slice i1a n3 i1c) := by simp [World.cell?, h61]
  have hr2H : ¬ H.all r2 := fun e => by have := HP.out.1.lt r2 e; omega
  have hsz46 := hb46.size
  obtain ⟨bA1, bA2, bB1, bB2⟩ := HZ.out.parts j HN.out.1
  rw [<- HN.out.2.1] at bA1 bA2
  rw [<- HN.out.2.2.1] at bB1 bB2
  have HWR := tree_write (HP.out.1.below hb46) (HP.out.2.1.below hb46) (by have := HH.out.2.2.2.1; omega) (HN.out.2.2.2.2.2.2.1.own.nat.below hb46) bA1 bA2 ho
  rw [HN.out.2.2.2.1] at HWR
  have HWR := HoldT.mk HWR
  have HA := HoldT.mk (And.intro hb46 (And.intro h62 (And.intro hr2H (And.intro bB1 bB2))))
  clear hw5 hw6 hr1 hr2 hb5 hb6 hb46 h61 h62 hr2H hsz46 bA1 bA2 bB1 bB2 ho
  go_wp2_with fail
  refine HWR.out.mono ?_
  rintro e w7 ⟨m, H7, S7, p7, rfl, hG7, hM7, hlm, hc7, hT7, hp7⟩
  clear y0 y1 y2 y3
  have h72 := hT7.kept HA.out.2.1 HA.out.2.2.1
  have hNB := (HN.out.2.2.2.2.2.2.2.1.below HA.out.1).turn hT7 (HP.out.1.below HA.out.1).noU
  have hy7 := (HN.out.2.2.2.2.2.2.2.2.mono RY_mono (cfU_below HA.out.1)).mono RY_mono (cfU_turn hT7 (HP.out.1.below HA.out.1).noU)
  have ht7 := (HP.out.2.1.below HA.out.1).turn hT7
  have hbx7 := hT7.kept (kept HP.out.2.2.1 HA.out.1) HH.out.2.2.2.2.2.2.2.2.2.2.2.2.2
  have y0 : w7.cell? ⟨r2, 0, none⟩ = some (.bool lb) := by simp [World.cell?, h72.1]
  have y1 : w7.cell? ⟨r2, 1, none⟩ = some (.slice k2a o1 k2c) := by simp [World.cell?, h72.1]
  have y2 : w7.cell? ⟨r2, 2, none⟩ = some (.slice v2a o2 v2c) := by simp [World.cell?, h72.1]
  have y3 : w7.cell? ⟨r2, 3, none⟩ = some (.slice i2a o3 i2c) := by simp [World.cell?, h72.1]
  have hf7 : 1 <= freeP S7 := by have := hM7.free; simp at this; omega
  have HWR2 := tree_write (old := -1) (l := []) hG7 ht7 (by have := HH.out.2.2.2.1; omega) hNB.own.nat HA.out.2.2.2.1 HA.out.2.2.2.2 (.inr ⟨rfl, rfl, free_in hf7⟩)
  rw [HN.out.2.2.2.2.1] at HWR2
  have HWR2 := HoldT.mk HWR2
  have H7' := HoldT.mk (And.intro hG7 (And.intro hM7 (And.intro hlm (And.intro hc7 (And.intro hT7 (And.intro hp7 (And.intro hy7 hbx7)))))))
  clear h72 hNB hy7 ht7 hbx7 hf7 hG7 hM7 hlm hc7 hT7 hp7
  go_wp2_with fail
  refine HWR2.out.mono ?_
  rintro e w8 ⟨m2, H8, S8, p8, rfl, hG8, hM8, _, hc8, hT8, hp8⟩
  clear y0 y1 y2 y3
  have h8 := hT8.kept H7'.out.2.2.2.2.2.2.2.1 H7'.out.2.2.2.2.2.2.2.2
  have hy8 := H7'.out.2.2.2.2.2.2.1.mono RY_mono (cfU_turn hT8 H7'.out.1.noU)
  have H8' := HoldT.mk (And.intro hG8 (And.intro hM8 (And.intro hc8 (And.intro hT8 (And.intro hp8 (And.intro h8 hy8))))))
  have h8 := h8.1
  clear hG8 hM8 hc8 hT8 hp8 hy8
  have z0 : w8.cell? ⟨q6, 0, none⟩ = some (.int .i64 0) := by simp [World.cell?, h8]
  have z1 : w8.cell? ⟨q6, 1, none⟩ = some (.slice none 0 0) := by simp [World.cell?, h8]
  have z2 : w8.cell? ⟨q6, 2, none⟩ = some (.int .i64 0) := by simp [World.cell?, h8]
  have f0 : w8.frozen? ⟨q6, 0, none⟩ = false := by simp [World.frozen?, h8]
  have f1 : w8.frozen? ⟨q6, 1, none⟩ = false := by simp [World.frozen?, h8]
  have f2 : w8.frozen? ⟨q6, 2, none⟩ = false := by simp [World.frozen?, h8]
  clear h8
  go_wp2_with fail
  obtain ⟨u5, hu5⟩ : ∃ u, u = set3 w8 q6 (.int .i64 (m : Int)) (.slice ya yl yc) (.int .i64 (m2 : Int)) := ⟨_, rfl⟩
  have hu5' := hu5
  unfold set3 at hu5'
  rw [<- hu5']
  obtain ⟨hG8, hM8, hc8, hT8, hp8, h3, hy8⟩ := H8'.out
  obtain ⟨hG7, hM7, hlm, hc7, hT7, hp7, hy7, hbx7⟩ := H7'.out
  have hg5 : w8.grownBy u5 (some q6) := by rw [hu5]; exact set3_grown _ _ _ _ _
  have h55 : u5.heap[q6]? = some (.cells #[.int .i64 (m : Int), .slice ya yl yc, .int .i64 (m2 : Int)] 103 (0, 0)) := by rw [hu5]; exact set3_heap h3.1
  have c0 : u5.cell? ⟨q6, 0, none⟩ = some (.int .i64 (m : Int)) := by simp [World.cell?, h55]
  have c1 : u5.cell? ⟨q6, 1, none⟩ = some (.slice ya yl yc) := by simp [World.cell?, h55]
  have c2 : u5.cell? ⟨q6, 2, none⟩ = some (.int .i64 (m2 : Int)) := by simp [World.cell?, h55]
  refine bodyPost_ret (v := .tuple #[.agg #[.int .i64 (m : Int), .slice ya yl yc, .int .i64 (m2 : Int)], .int .i64 0]) (by simp [results, Tryz.results30, go_sem, c0, c1, c2]) rfl ?_
  have hnu : ∀ b, some q6 = some b -> ¬ IsU w8 b := fun b e => by cases e; exact fun ⟨_, _, e2⟩ => by rw [h3.1] at e2; cases e2
  have hcm : contP S8 m = contP S7 m := hM8.cont m (by simp) (by rw [hM7.fresh m (List.mem_singleton.2 rfl)]; decide)
  have hd : ∀ x ∈ [m], x ∉ ([] : List Nat) := fun x _ => by simp
  refine ⟨m, H8, S8, p8, hG8.beside hg5 (fun b e => by cases e; exact ⟨h3.2, hnu _ rfl⟩), hlm, ?_, by omega, .inr ⟨HZ'.out, j, m2, _, HN.out.1, rfl, ?_, ?_, ?_, ?_⟩⟩
  ·exact ((((((TurnS.quiet HH.out.2.2.1).then HB3.out).then HP.out.2.2.2).then HA.out.1).trans hT7).trans hT8).own hg5 (by have := HH.out.2.2.2.2.2.2.2.2.2.2.1; have := HH.out.2.2.2.2.2.2.2.2.2.2.2.1; omega)
  ·rw [HN.out.2.2.2.2.2.1]
   exact hy8.mono RY_mono (cfU_grown hg5 hnu)
  ·exact hM7.trans ((hM8.wide (rest := [m]) (nodup_one m) hd (fun x hx => hM7.fresh x hx)).perm (by simp) (List.Perm.swap ..))
  ·rw [hcm, hc7, HN.out.2.1]
  ·rw [hc8, HN.out.2.2.1]
end Go.Proofs.YtafilaiinbggoaaGreat
namespace Go.Proofs.YtafilaiinbggoaaGreat
open Go.RowKit Go.Maps
def Row1 {α : Type} (R : Rep α) (c : CF) (xs : List α) (cs : List Value) : Prop := cs.length = xs.length /\ ∀ (i : Nat) x u, xs[i]? = some x -> cs[i]? = some u -> R c x [u]
theorem row1_of {α : Type} {R : Rep α} {c : CF} {xs : List α} {cs : List Value} (h : GRow 1 R c xs cs) : Row1 R c xs cs :=
 ⟨by rw [h.1, Nat.mul_one], fun i x u hx hu => by
  obtain ⟨d, h1, h2, h3⟩ := h.2 i x hx
  match d, h1 with
  | [v], _ =>
   have := h2 0 v rfl
   rw [Nat.mul_one, Nat.add_zero, hu] at this
   cases this
   exact h3⟩
theorem Row1.grow {α : Type} {R : Rep α} {c : CF} {xs : List α} {cs : List Value} (h : Row1 R c xs cs) : GRow 1 R c xs cs :=
 ⟨by rw [h.1, Nat.mul_one], fun i x hx => by
  have hi := (List.getElem?_eq_some_iff.1 hx).1
  have hu : cs[i]? = some (cs[i]'(by rw [h.1]; exact hi)) := List.getElem?_eq_getElem _
  refine ⟨[cs[i]'(by rw [h.1]; exact hi)], rfl, fun j u hj => ?_, h.2 i x _ hx hu⟩
  match j, hj with
  | 0, hj => cases hj; rw [Nat.mul_one, Nat.add_zero]; exact hu⟩
theorem Row1.take {α : Type} {R : Rep α} {c : CF} {xs : List α} {cs : List Value} (h : Row1 R c xs cs) (k : Nat) : Row1 R c (xs.take k) (cs.take k) :=
 ⟨by rw [List.length_take, List.length_take, h.1], fun i x u hx hu => by
  rw [List.getElem?_take] at hx hu
  split at hx
  ·rename_i e; rw [if_pos e] at hu; exact h.2 i x u hx hu
  ·cases hx⟩
theorem Row1.drop {α : Type} {R : Rep α} {c : CF} {xs : List α} {cs : List Value} (h : Row1 R c xs cs) (k : Nat) : Row1 R c (xs.drop k) (cs.drop k) :=
 ⟨by rw [List.length_drop, List.length_drop, h.1], fun i x u hx hu => by
  rw [List.getElem?_drop] at hx hu
  exact h.2 _ x u hx hu⟩
theorem Row1.append {α : Type} {R : Rep α} {c : CF} {xs ys : List α} {cs ds : List Value} (h : Row1 R c xs cs) (k : Row1 R c ys ds) : Row1 R c (xs ++ ys) (cs ++ ds) :=
 ⟨by rw [List.length_append, List.length_append, h.1, k.1], fun i x u hx hu => by
  rw [List.getElem?_append] at hx hu
  rw [h.1] at hu
  split at hx
  ·rename_i e; rw [if_pos e] at hu; exact h.2 i x u hx hu
  ·rename_i e; rw [if_neg e] at hu; exact k.2 _ x u hx hu⟩
theorem Row1.one {α : Type} {R : Rep α} {c : CF} {x : α} {u : Value} (h : R c x [u]) : Row1 R c [x] [u] := ⟨rfl, fun i y v hy hv => by
 match i, hy with
 | 0, hy => cases hy; cases hv; exact h⟩
theorem Row1.set {α : Type} {R : Rep α} {c : CF} {xs : List α} {cs : List Value} (h : Row1 R c xs cs) (k : Nat) {x : α} {u : Value} (hx : R c x [u]) : Row1 R c (xs.set k x) (cs.set k u) :=
 ⟨by rw [List.length_set, List.length_set, h.1], fun i y v hy hv => by
  rw [List.getElem?_set] at hy hv
  rw [h.1] at hv
  split at hy
  ·rename_i e
   rw [if_pos e] at hv
   split at hy
   ·rename_i e2; rw [if_pos e2] at hv; cases hy; cases hv; exact hx
   ·cases hy
  ·rename_i e; rw [if_neg e] at hv; exact h.2 i y v hy hv⟩
theorem OwnS.ins {α : Type} {R : Rep α} (hR : ∀ c c' x d, R c x d -> R c' x d) {T : TypeId} {B : Nat} {w w' : World} {sl sl' : Value} {p k : Nat} {xs : List α} {cs : List Value} {x : α} {u : Value} (h : OwnS 1 R T B w sl p xs cs) (hx : R (cf w) x [u]) (ho : w'.ownsRow B T 1 sl' (p + 1) (cs.take (k * 1) ++ [u] ++ cs.drop (k * 1))) (hg : w.grownBy w' sl.ownBlock) (hk : k <= p) : OwnS 1 R T B w' sl' (p + 1) (insAt k x xs) (cs.take (k * 1) ++ [u] ++ cs.drop (k * 1)) := by
 have h1 := row1_of h.row
 refine ⟨ho, ?_, ?_, Nat.le_trans h.le hg.size⟩
 ·unfold insAt
  rw [List.length_append, List.length_cons, List.length_take, List.length_drop, h.len]
  omega
 ·have h2 : Row1 R (cfN sl w) (insAt k x xs) (cs.take (k * 1) ++ [u] ++ cs.drop (k * 1)) := by
   rw [Nat.mul_one]
   have := ((h1.take k).append (Row1.one (hR _ _ _ _ hx))).append (h1.drop k)
   rw [List.append_assoc] at this
   exact this
  exact (Row1.grow ⟨h2.1, fun i y v hy hv => hR _ _ _ _ (h2.2 i y v hy hv)⟩)
theorem OwnS.put {α : Type} {R : Rep α} (hR : ∀ c c' x d, R c x d -> R c' x d) {T : TypeId} {B : Nat} {w : World} {g cap p k : Nat} {xs : List α} {cs : List Value} {x : α} {u : Value} (h : OwnS 1 R T B w (.slice (some ⟨g, 0, none⟩) p cap) p xs cs) (hx : R (cf w) x [u]) : OwnS 1 R T B (w.setCell ⟨g, k, none⟩ u) (.slice (some ⟨g, 0, none⟩) p cap) p (xs.set k x) (cs.set k u) := by
 have h1 := (row1_of h.row).set k (x := x) (u := u) (hR _ _ _ _ hx)
 have hg : w.grownBy (w.setCell ⟨g, k, none⟩ u) (some g) := set6_grown _ _
 refine ⟨⟨by rw [List.length_set]; exact h.own.1, ?_⟩, by rw [List.length_set]; exact h.len, Row1.grow ⟨h1.1, fun i y v hy hv => hR _ _ _ _ (h1.2 i y v hy hv)⟩, Nat.le_trans h.le hg.size⟩
 rcases h.own.2 with ⟨e, _⟩ | ⟨g2, cap2, cur, e, e1, e2, e3, e4, e5, e6⟩
 ·cases e
 ·simp only [Value.slice.injEq, Option.some.injEq, Addr.mk.injEq, and_true, true_and] at e
  obtain ⟨rfl, rfl⟩ := e
  refine .inr ⟨g, cap, cur.set! k u, rfl, e1, set_selfT e2, e3, e4, by simpa using e5, ?_⟩
  rw [Array.set!_eq_setIfInBounds, Array.toList_setIfInBounds]
  rw [<- e6, List.take_set]
theorem own_slice {n : Nat} {α : Type} {R : Rep α} {T : TypeId} {B : Nat} {w : World} {sl : Value} {p : Nat} {xs : List α} {cs : List Value} (h : OwnS n R T B w sl p xs cs) (hp : 0 < p) : ∃ g cap cur, sl = .slice (some ⟨g, 0, none⟩) p cap /\ w.heap[g]? = some (.cells cur T (0, 0)) /\ p <= cap /\ cap <= 9223372036854775807 /\ cur.size = cap * n := by
 rcases h.own.2 with ⟨_, e⟩ | ⟨g2, cap2, cur, e, e1, e2, e3, e4, e5, e6⟩
 ·omega
 ·exact ⟨g2, cap2, cur, e, e2, e3, Nat.le_trans e4 (by decide), e5⟩
theorem NT.edK {H : HS} {B : Nat} {w w' : World} {n : ND} {kv vv iv kv' : Value} {ks : List Bts} {cs' : List Value} (h : NT H B w n kv vv iv) (hg : Grew w w' kv kv') (hH : ∀ b, H.all b -> b < w.heap.size) (ho : OwnS 1 (RB (cfU w)) 23 B w' kv' ks.length ks cs') : NT H B w' { n with keys := ks } kv' vv iv /\ CLe (cfU w) (cfU w') := by
 obtain ⟨⟨⟨_, h1⟩, ⟨_, h2⟩, ⟨_, h3⟩, h4⟩, h5⟩ := h
 have hu := grew_cfU h1 (by decide) hg
 refine ⟨⟨⟨⟨cs', ho.rep (RB_le hu)⟩, ⟨_, (own_stand (fun _ _ _ _ h => h) h2 hg.by_.size (fun g e => hg.by_.block g (h2.low g e).2 (fun e2 => h4 g e2.symm e))).rep (RB_le hu)⟩, ⟨_, own_stand (fun _ _ _ _ h => h) h3 hg.by_.size (fun g e => hg.by_.block g (h3.low g e).2 (fun e2 => ?_))⟩, fun g e e2 => ?_⟩, fun g e => ?_⟩, hu⟩
 ·obtain ⟨c1, e1⟩ := own_kind h1 e2.symm
  obtain ⟨c3, e3⟩ := own_kind h3 e
  exact kind_ne e1 e3 (by decide) rfl
 ·rcases hg.own g e with e1 | e1
  ·exact h4 g e1 e2
  ·have := (h2.low g e2).2
   omega
 ·rcases e with e | e
  ·rcases hg.own g e with e1 | e1
   ·exact h5 g (.inl e1)
   ·exact fun e2 => by have := hH g e2; omega
  ·exact h5 g (.inr e)
theorem NT.edV {H : HS} {B : Nat} {w w' : World} {n : ND} {kv vv iv vv' : Value} {ks : List Bts} {cs' : List Value} (h : NT H B w n kv vv iv) (hg : Grew w w' vv vv') (hH : ∀ b, H.all b -> b < w.heap.size) (ho : OwnS 1 (RB (cfU w)) 23 B w' vv' ks.length ks cs') : NT H B w' { n with vals := ks } kv vv' iv /\ CLe (cfU w) (cfU w') := by
 obtain ⟨⟨⟨_, h1⟩, ⟨_, h2⟩, ⟨_, h3⟩, h4⟩, h5⟩ := h
 have hu := grew_cfU h2 (by decide) hg
 refine ⟨⟨⟨⟨_, (own_stand (fun _ _ _ _ h => h) h1 hg.by_.size (fun g e => hg.by_.block g (h1.low g e).2 (fun e2 => h4 g e e2.symm))).rep (RB_le hu)⟩, ⟨cs', ho.rep (RB_le hu)⟩, ⟨_, own_stand (fun _ _ _ _ h => h) h3 hg.by_.size (fun g e => hg.by_.block g (h3.low g e).2 (fun e2 => ?_))⟩, fun g e e2 => ?_⟩, fun g e => ?_⟩, hu⟩
 ·obtain ⟨c1, e1⟩ := own_kind h2 e2.symm
  obtain ⟨c3, e3⟩ := own_kind h3 e
  exact kind_ne e1 e3 (by decide) rfl
 ·rcases hg.own g e2 with e1 | e1
  ·exact h4 g e e1
  ·have := (h1.low g e).2
   omega
 ·rcases e with e | e | e
  ·exact h5 g (.inl e)
  ·rcases hg.own g e with e1 | e1
   ·exact h5 g (.inr (.inl e1))
   ·exact fun e2 => by have := hH g e2; omega
  ·exact h5 g (.inr (.inr e))
theorem NT.edI {H : HS} {B : Nat} {w w' : World} {n : ND} {kv vv iv iv' : Value} {ks : List Nat} {cs' : List Value} (h : NT H B w n kv vv iv) (hg : Grew w w' iv iv') (hH : ∀ b, H.all b -> b < w.heap.size) (ho : OwnS 1 RI 3 B w' iv' ks.length (ks.map Int.ofNat) cs') : NT H B w' { n with kids := ks } kv vv iv' /\ CLe (cfU w) (cfU w') := by
 obtain ⟨⟨⟨_, h1⟩, ⟨_, h2⟩, ⟨_, h3⟩, h4⟩, h5⟩ := h
 have hu := grew_cfU h3 (by decide) hg
 have hne : ∀ {v : Value} {p : Nat} {xs : List Bts} {cs : List Value}, OwnS 1 (RB (cfU w)) 23 B w v p xs cs -> ∀ g, v.ownBlock = some g -> iv.ownBlock ≠ some g := fun hv g e e2 => by
  obtain ⟨c1, e1⟩ := own_kind hv e
  obtain ⟨c3, e3⟩ := own_kind h3 e2
  exact kind_ne e1 e3 (by decide) rfl
 refine ⟨⟨⟨⟨_, (own_stand (fun _ _ _ _ h => h) h1 hg.by_.size (fun g e => hg.by_.block g (h1.low g e).2 (fun e2 => hne h1 g e e2.symm))).rep (RB_le hu)⟩, ⟨_, (own_stand (fun _ _ _ _ h => h) h2 hg.by_.size (fun g e => hg.by_.block g (h2.low g e).2 (fun e2 => hne h2 g e e2.symm))).rep (RB_le hu)⟩, ⟨cs', ho⟩, h4⟩, fun g e => ?_⟩, hu⟩
 rcases e with e | e | e
 ·exact h5 g (.inl e)
 ·exact h5 g (.inr (.inl e))
 ·rcases hg.own g e with e1 | e1
  ·exact h5 g (.inr (.inr e1))
  ·exact fun e2 => by have := hH g e2; omega
end Go.Proofs.YtafilaiinbggoaaGreat
