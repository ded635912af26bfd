import Derived.Test.YtafilaiinbggoaaGreatQS24
namespace Go.Proofs.YtafilaiinbggoaaGreat
open Go.RowKit Go.Maps
def maxN (n : ND) (k : Nat) : Nat := max (sizeN (partA n k)) (sizeN (partB n k))
theorem few_partA {n : ND} (h : FewN n) (k : Nat) : FewN (partA n k) := by
 unfold partA
 split
 ·rename_i hl
  refine ⟨?_, ?_, Nat.zero_le _, fun x hx => h.key x (List.mem_of_mem_take hx), fun x hx => h.val x (List.mem_of_mem_take hx), fun _ => ?_⟩
  ·show (n.keys.take k).length <= _; rw [List.length_take]; have := h.keys; omega
  ·show (n.vals.take k).length <= _; rw [List.length_take]; have := h.vals; omega
  ·show (n.vals.take k).length = (n.keys.take k).length; rw [List.length_take, List.length_take, h.alike hl]
 ·refine ⟨?_, Nat.zero_le _, ?_, fun x hx => h.key x (List.mem_of_mem_take hx), fun x hx => (by cases hx), fun e => (by cases e)⟩
  ·show (n.keys.take k).length <= _; rw [List.length_take]; have := h.keys; omega
  ·show (n.kids.take (k + 1)).length <= _; rw [List.length_take]; have := h.kids; omega
theorem few_partB {n : ND} (h : FewN n) (k : Nat) : FewN (partB n k) := by
 unfold partB
 split
 ·rename_i hl
  refine ⟨?_, ?_, Nat.zero_le _, fun x hx => h.key x (List.mem_of_mem_drop hx), fun x hx => h.val x (List.mem_of_mem_drop hx), fun _ => ?_⟩
  ·show (n.keys.drop k).length <= _; rw [List.length_drop]; have := h.keys; omega
  ·show (n.vals.drop k).length <= _; rw [List.length_drop]; have := h.vals; omega
  ·show (n.vals.drop k).length = (n.keys.drop k).length; rw [List.length_drop, List.length_drop, h.alike hl]
 ·refine ⟨?_, Nat.zero_le _, ?_, fun x hx => h.key x (List.mem_of_mem_drop hx), fun x hx => (by cases hx), fun e => (by cases e)⟩
  ·show (n.keys.drop (k + 1)).length <= _; rw [List.length_drop]; have := h.keys; omega
  ·show (n.kids.drop (k + 1)).length <= _; rw [List.length_drop]; have := h.kids; omega
theorem FewN.getD {n : ND} (h : FewN n) (k : Nat) : (n.keys.getD k []).length <= 10000 := by
 rw [List.getD_eq_getElem?_getD]
 cases e : n.keys[k]? with
 | none => exact Nat.zero_le _
 | some x => exact h.key x (List.mem_of_getElem? e)
theorem sizeN_le {n : ND} (h : FewN n) : sizeN n <= 400000000 := by
 have h1 := sizeJ_le h n.keys.length (Nat.le_refl _)
 have h2 := h.keys
 unfold sizeN
 omega
theorem NOwn.base {B B' : Nat} {w : World} {n : ND} {kv vv iv : Value} (h : NOwn B w n kv vv iv) (hB : B' <= B) : NOwn B' w n kv vv iv := by
 obtain ⟨⟨_, h1⟩, ⟨_, h2⟩, ⟨_, h3⟩, h4⟩ := h
 exact ⟨⟨_, own_base h1 hB⟩, ⟨_, own_base h2 hB⟩, ⟨_, own_base h3 hB⟩, h4⟩
theorem NOwn.below {B : Nat} {w w' : World} {n : ND} {kv vv iv : Value} (h : NOwn B w n kv vv iv) (hb : Below w.heap.size w w') : NOwn B w' n kv vv iv :=
 h.stand hb.size (fun g hg => hb.block g (h.low hg).2.1) (cfU_below hb)
theorem NOwn.kind {B : Nat} {w : World} {n : ND} {kv vv iv : Value} (h : NOwn B w n kv vv iv) {g : Nat} (hg : kv.ownBlock = some g \/ vv.ownBlock = some g \/ iv.ownBlock = some g) : ∃ cur T, w.heap[g]? = some (.cells cur T (0, 0)) /\ (T = 23 \/ T = 3) := by
 obtain ⟨⟨_, h1⟩, ⟨_, h2⟩, ⟨_, h3⟩, _⟩ := h
 rcases hg with hg | hg | hg
 ·obtain ⟨cur, hc⟩ := own_kind h1 hg; exact ⟨_, _, hc, .inl rfl⟩
 ·obtain ⟨cur, hc⟩ := own_kind h2 hg; exact ⟨_, _, hc, .inl rfl⟩
 ·obtain ⟨cur, hc⟩ := own_kind h3 hg; exact ⟨_, _, hc, .inr rfl⟩
theorem NOwn.grown {B : Nat} {w w' : World} {n : ND} {kv vv iv : Value} {q : Nat} {cur : Array Value} (h : NOwn B w n kv vv iv) (hq : w.heap[q]? = some (.cells cur 107 (0, 0))) (hg : w.grownBy w' (some q)) : NOwn B w' n kv vv iv /\ CLe (cfU w) (cfU w') := by
 have hu : CLe (cfU w) (cfU w') := cfU_grown hg fun b e => by
  cases e
  rintro ⟨_, _, e2⟩
  rw [hq] at e2
  cases e2
 refine ⟨h.stand hg.size (fun g e => hg.block g (h.low e).2.1 (fun e2 => ?_)) hu, hu⟩
 obtain rfl := Option.some.inj e2
 obtain ⟨c2, T, e3, e4⟩ := h.kind e
 rw [hq] at e3
 cases e3
 rcases e4 with e4 | e4 <;> exact absurd e4 (by decide)
def SplitPost (n : ND) (w : World) (e : Ending) (w' : World) : Prop := ∃ j k1 v1 i1 ks k2 v2 i2, bestAt (maxN n) (lastN n) j /\ e = .returned (.tuple #[nodeV (partA n j) k1 v1 i1, ks, nodeV (partB n j) k2 v2 i2, .bool true]) /\ NOwn w.heap.size w' (partA n j) k1 v1 i1 /\ YAt (cfU w') ks (n.keys.getD j []) /\ NOwn w.heap.size w' (partB n j) k2 v2 i2 /\ Below w.heap.size w w'
def SoFar (n : ND) (k b s : Nat) : Prop := (b = 0 /\ k = 1) \/ (1 <= b /\ b < k /\ s = maxN n b /\ ∀ i, 1 <= i -> i < k -> maxN n b <= maxN n i)
theorem SoFar.take {n : ND} {k b s : Nat} (h : SoFar n k b s) (hk : 1 <= k) (hb : b = 0 \/ maxN n k < s) : SoFar n (k + 1) k (maxN n k) := by
 refine .inr ⟨hk, by omega, rfl, fun i hi hik => ?_⟩
 rcases h with ⟨h1, h2⟩ | ⟨h1, h2, h3, h4⟩
 ·obtain rfl : i = k := by omega
  exact Nat.le_refl _
 ·rcases Nat.lt_or_ge i k with h5 | h5
  ·have := h4 i hi h5
   rcases hb with hb | hb
   ·omega
   ·omega
  ·obtain rfl : i = k := by omega
   exact Nat.le_refl _
theorem SoFar.pass {n : ND} {k b s : Nat} (h : SoFar n k b s) (hb : ¬ (b = 0 \/ maxN n k < s)) : SoFar n (k + 1) b s := by
 rcases h with ⟨h1, h2⟩ | ⟨h1, h2, h3, h4⟩
 ·exact absurd (.inl h1) hb
 ·refine .inr ⟨h1, by omega, h3, fun i hi hik => ?_⟩
  rcases Nat.lt_or_ge i k with h5 | h5
  ·exact h4 i hi h5
  ·obtain rfl : i = k := by omega
   have : ¬ maxN n i < s := fun e => hb (.inr e)
   omega
set_option maxHeartbeats 16000000 in
set_option maxRecDepth 100000 in
theorem node_split {w : World} {n : ND} {kv vv iv : Value} (h : NAt w n kv vv iv) (hs : ShN n) (hl : 1 <= lastN n) :
  Calls Tryz.prog 49 #[nodeV n kv vv iv] w (SplitPost n w) := by
 obtain ⟨ka, kc, rfl⟩ := h.keys.form
 obtain ⟨va, vc, rfl⟩ := h.vals.form
 obtain ⟨ia, ic, rfl⟩ := h.kids.form
 obtain ⟨kl, hkl⟩ : ∃ m, m = n.keys.length := ⟨_, rfl⟩
 obtain ⟨vl, hvl⟩ : ∃ m, m = n.vals.length := ⟨_, rfl⟩
 obtain ⟨il, hil⟩ : ∃ m, m = (n.kids.map Int.ofNat).length := ⟨_, rfl⟩
 obtain ⟨lf, hlf⟩ : ∃ m, m = n.leaf := ⟨_, rfl⟩
 obtain ⟨last, hlast⟩ : ∃ m, m = lastN n := ⟨_, rfl⟩
 have hkl9 : kl <= 9000 := by rw [hkl]; exact hs.few
 have hla : (lf = true -> last + 1 = kl) /\ (lf = false -> last + 2 = kl) := by
  have h1 : lastN n = if n.leaf = true then n.keys.length - 1 else n.keys.length - 2 := rfl
  rw [<- hlast, <- hlf, <- hkl] at h1
  rw [<- hlast] at hl
  constructor
  ·intro e; rw [if_pos e] at h1; omega
  ·intro e; rw [if_neg (by rw [e]; simp)] at h1; omega
 have hl1 : 1 <= last := by rw [hlast]; exact hl
 unfold nodeV
 rw [<- hkl, <- hvl, <- hil] at h |-
 rw [<- hlf]
 have hnv : nodeV n (.slice ka kl kc) (.slice va vl vc) (.slice ia il ic) = .agg #[.bool lf, .slice ka kl kc, .slice va vl vc, .slice ia il ic] := by unfold nodeV; rw [hlf]
 have HH := HoldT.mk (And.intro h (And.intro hs (And.intro hlf (And.intro hkl (And.intro hvl (And.intro hil (And.intro hlast hnv)))))))
 obtain ⟨w1, hw1⟩ : ∃ w1, w1 = w.alloc (.cells #[.bool lf, .slice ka kl kc, .slice va vl vc, .slice ia il ic] 107) := ⟨_, rfl⟩
 obtain ⟨w2, hw2⟩ : ∃ w2, w2 = w1.alloc (.cells #[.bool false, .slice none 0 0, .slice none 0 0, .slice none 0 0] 107) := ⟨_, rfl⟩
 obtain ⟨w3, hw3⟩ : ∃ w3, w3 = w2.alloc (.cells #[.bool false, .slice none 0 0, .slice none 0 0, .slice none 0 0] 107) := ⟨_, rfl⟩
 obtain ⟨q2, hq2⟩ : ∃ q2, q2 = w.heap.size + 1 := ⟨_, rfl⟩
 obtain ⟨q4, hq4⟩ : ∃ q4, q4 = q2 + 1 := ⟨_, rfl⟩
 obtain ⟨q, hq⟩ : ∃ q, q = w.heap.size := ⟨_, rfl⟩
 have hs1 : w1.heap.size = q2 := by rw [hw1, hq2]; simp
 have hs2 : w2.heap.size = q4 := by rw [hw2, hq4, <- hs1]; simp
 have hb1 : Below w.heap.size w w1 := by rw [hw1]; exact (Below.refl _ w).alloc (Nat.le_refl _) _
 have hb2 : Below w1.heap.size w1 w2 := by rw [hw2]; exact (Below.refl _ w1).alloc (Nat.le_refl _) _
 have hb3 : Below w2.heap.size w2 w3 := by rw [hw3]; exact (Below.refl _ w2).alloc (Nat.le_refl _) _
 have hbx : w3.heap[q]? = some (.cells #[.bool lf, .slice ka kl kc, .slice va vl vc, .slice ia il ic] 107 (0, 0)) := kept (kept (by rw [hw1, hq]; exact heap_alloc_new w _) hb2) hb3
 have hbq2 : w3.heap[q2]? = some (.cells #[.bool false, .slice none 0 0, .slice none 0 0, .slice none 0 0] 107 (0, 0)) := kept (by rw [hw2, <- hs1]; exact heap_alloc_new w1 _) hb3
 have hbq4 : w3.heap[q4]? = some (.cells #[.bool false, .slice none 0 0, .slice none 0 0, .slice none 0 0] 107 (0, 0)) := by rw [hw3, <- hs2]; exact heap_alloc_new w2 _
 have hbb : Below w.heap.size w w3 := (hb1.trans (hb2.mono hb1.size)).trans (hb3.mono (Nat.le_trans hb1.size hb2.size))
 have HB := HoldT.mk (And.intro hbb (And.intro hbx (And.intro hbq2 (And.intro hbq4 (And.intro hq (And.intro hq2 hq4))))))
 have HW := HoldT.mk (And.intro hw1 (And.intro hw2 hw3))
 have HSH := node_shaped (h.below hbb) hs
 rw [hnv] at HSH
 have HSH := HoldT.mk HSH
 have HX : HoldT (∀ (wz : World), Below w3.heap.size w3 wz -> wz.cell? ⟨q, 0, none⟩ = some (.bool lf) /\ wz.cell? ⟨q, 1, none⟩ = some (.slice ka kl kc) /\ wz.cell? ⟨q, 2, none⟩ = some (.slice va vl vc) /\ wz.cell? ⟨q, 3, none⟩ = some (.slice ia il ic)) := ⟨fun wz hz => by
  have hk := kept hbx hz
  refine ⟨?_, ?_, ?_, ?_⟩ <;> simp [World.cell?, hk]⟩
 clear h hs hl hlf hkl hvl hil hlast hnv hs1 hs2 hb1 hb2 hb3 hbx hbq2 hbq4 hbb hw1 hw2 hw3
 cases lf
 case' false =>
  have hlk : (kl : Int) - 1 - 1 = (last : Int) := by have := hla.2 rfl; omega
  have hkk := hla.2 rfl
  clear hla
 case' true =>
  have hlk : (kl : Int) - 1 = (last : Int) := by have := hla.1 rfl; omega
  have hkk := hla.1 rfl
  clear hla
 all_goals
  go_enter Tryz.func49, Tryz.ntmps49
  obtain ⟨x0, x1, x2, x3⟩ := HX.out w3 (Below.refl _ _)
  go_upto_region 1 with (fail)
  rw [<- HW.out.1, <- HW.out.2.1, <- HW.out.2.2, <- hq2, <- hq4, <- hq]
  clear hq hq2 hq4
  go_wp2_with fail
  refine HSH.out.mono ?_
  rintro e w4 ⟨rfl, hb4⟩
  have HB4 := HoldT.mk hb4
  obtain ⟨x0, x1, x2, x3⟩ := HX.out w4 hb4
  clear hb4
  have b4 : decide ((last : Int) < 1) = false := decide_eq_false (by omega)
  go_wp2_with fail
  go_loopw [7, 8, 9, 10, 11, 12, 13] (fun s7 s8 s9 s10 s11 s12 s13 wr => ∃ k b s : Nat, s9 = .int .i64 k /\ s7 = .int .i64 b /\ s8 = .int .i64 s /\ 1 <= k /\ k <= last + 1 /\ b <= last /\ s <= 400000000 /\ HoldT (SoFar n k b s /\ Below w3.heap.size w3 wr)) (fun _ _ s9 _ _ _ _ _ => last + 1 - (intOf s9).toNat)
  case atStart => exact ⟨1, 0, 0, rfl, rfl, rfl, Nat.le_refl _, by omega, by omega, by omega, ⟨.inl ⟨rfl, rfl⟩, HB4.out⟩⟩
  case round =>
   obtain ⟨k, b, s, rfl, rfl, rfl, hk1, hkl, hbl, hsl, HJ⟩ := hrel
   obtain ⟨x0, x1, x2, x3⟩ := HX.out wr HJ.out.2
   by_cases hlt : k <= last
   ·have HP := HoldT.mk (node_parts ((HH.out.1.below HB.out.1).below HJ.out.2) HH.out.2.1 hk1 (by rw [<- HH.out.2.2.2.2.2.2.1]; exact hlt))
    rw [HH.out.2.2.2.2.2.2.2] at HP
    have bl : decide ((k : Int) <= (last : Int)) = true := decide_eq_true (by omega)
    go_wp2_with fail
    refine HP.out.mono ?_
    rintro e w5 ⟨k1, v1, i1, ks, k2, v2, i2, rfl, hA, hy, hB, hb5⟩
    obtain ⟨pA, hpA⟩ : ∃ p, p = partA n k := ⟨_, rfl⟩
    obtain ⟨pB, hpB⟩ : ∃ p, p = partB n k := ⟨_, rfl⟩
    rw [<- hpA] at hA |-
    rw [<- hpB] at hB |-
    have hsA := node_size hA (hpA ▸ few_partA HH.out.2.1.fewN k)
    obtain ⟨k1a, k1c, rfl⟩ := hA.keys.form
    obtain ⟨v1a, v1c, rfl⟩ := hA.vals.form
    obtain ⟨i1a, i1c, rfl⟩ := hA.kids.form
    obtain ⟨k2a, k2c, rfl⟩ := hB.keys.form
    obtain ⟨v2a, v2c, rfl⟩ := hB.vals.form
    obtain ⟨i2a, i2c, rfl⟩ := hB.kids.form
    obtain ⟨m1, hm1⟩ : ∃ m, m = pA.keys.length := ⟨_, rfl⟩
    obtain ⟨m2, hm2⟩ : ∃ m, m = pA.vals.length := ⟨_, rfl⟩
    obtain ⟨m3, hm3⟩ : ∃ m, m = (pA.kids.map Int.ofNat).length := ⟨_, rfl⟩
    obtain ⟨n1, hn1⟩ : ∃ m, m = pB.keys.length := ⟨_, rfl⟩
    obtain ⟨n2, hn2⟩ : ∃ m, m = pB.vals.length := ⟨_, rfl⟩
    obtain ⟨n3, hn3⟩ : ∃ m, m = (pB.kids.map Int.ofNat).length := ⟨_, rfl⟩
    unfold nodeV
    rw [<- hm1, <- hm2, <- hm3, <- hn1, <- hn2, <- hn3]
    rw [<- hm1, <- hm2, <- hm3] at hA
    rw [<- hn1, <- hn2, <- hn3] at hB
    have HA := HoldT.mk (And.intro hA (And.intro hpA (And.intro hm1 (And.intro hm2 hm3))))
    have HC := HoldT.mk (And.intro hB (And.intro hpB (And.intro hn1 (And.intro hn2 hn3))))
    have HB5 := HoldT.mk hb5
    clear hsA hA hB hy hb5 hpA hpB hm1 hm2 hm3 hn1 hn2 hn3
    obtain ⟨la, hla⟩ : ∃ l, l = pA.leaf := ⟨_, rfl⟩
    obtain ⟨lb, hlb⟩ : ∃ l, l = pB.leaf := ⟨_, rfl⟩
    rw [<- hla, <- hlb]
    have HL := HoldT.mk (And.intro hla hlb)
    clear hla hlb
    go_upto_region 11 with (fail)
    obtain ⟨w6, hw6⟩ : ∃ w6, w6 = w5.alloc (.cells #[.bool la, .slice k1a m1 k1c, .slice v1a m2 v1c, .slice i1a m3 i1c] 107) := ⟨_, rfl⟩
    obtain ⟨w7, hw7⟩ : ∃ w7, w7 = w6.alloc (.cells #[.bool lb, .slice k2a n1 k2c, .slice v2a n2 v2c, .slice i2a n3 i2c] 107) := ⟨_, rfl⟩
    obtain ⟨r1, hr1⟩ : ∃ r1, r1 = w5.heap.size := ⟨_, rfl⟩
    obtain ⟨r2, hr2⟩ : ∃ r2, r2 = r1 + 1 := ⟨_, rfl⟩
    rw [<- hw6, <- hw7, <- hr1, <- hr2]
    have hb6 : Below w5.heap.size w5 w6 := by rw [hw6]; exact (Below.refl _ w5).alloc (Nat.le_refl _) _
    have hb7 : Below w6.heap.size w6 w7 := by rw [hw7]; exact (Below.refl _ w6).alloc (Nat.le_refl _) _
    have hb57 := hb6.trans (hb7.mono hb6.size)
    have h61 : w7.heap[r1]? = some (.cells #[.bool la, .slice k1a m1 k1c, .slice v1a m2 v1c, .slice i1a m3 i1c] 107 (0, 0)) := kept (by rw [hw6, hr1]; exact heap_alloc_new w5 _) hb7
    have h72 : w7.heap[r2]? = some (.cells #[.bool lb, .slice k2a n1 k2c, .slice v2a n2 v2c, .slice i2a n3 i2c] 107 (0, 0)) := by
     have e : r2 = w6.heap.size := by rw [hw6, hr2, hr1]; simp
     rw [hw7, e]; exact heap_alloc_new w6 _
    have y0 : w7.cell? ⟨r1, 0, none⟩ = some (.bool la) := by simp [World.cell?, h61]
    have y1 : w7.cell? ⟨r1, 1, none⟩ = some (.slice k1a m1 k1c) := by simp [World.cell?, h61]
    have y2 : w7.cell? ⟨r1, 2, none⟩ = some (.slice v1a m2 v1c) := by simp [World.cell?, h61]
    have y3 : w7.cell? ⟨r1, 3, none⟩ = some (.slice i1a m3 i1c) := by simp [World.cell?, h61]
    have z0 : w7.cell? ⟨r2, 0, none⟩ = some (.bool lb) := by simp [World.cell?, h72]
    have z1 : w7.cell? ⟨r2, 1, none⟩ = some (.slice k2a n1 k2c) := by simp [World.cell?, h72]
    have z2 : w7.cell? ⟨r2, 2, none⟩ = some (.slice v2a n2 v2c) := by simp [World.cell?, h72]
    have z3 : w7.cell? ⟨r2, 3, none⟩ = some (.slice i2a n3 i2c) := by simp [World.cell?, h72]
    have g0 := KeepS.cell (P := fun b => b = r1 \/ b = r2) y0 (.inl rfl)
    have g1 := KeepS.cell (P := fun b => b = r1 \/ b = r2) y1 (.inl rfl)
    have g2 := KeepS.cell (P := fun b => b = r1 \/ b = r2) y2 (.inl rfl)
    have g3 := KeepS.cell (P := fun b => b = r1 \/ b = r2) y3 (.inl rfl)
    have g4 := KeepS.cell (P := fun b => b = r1 \/ b = r2) z0 (.inr rfl)
    have g5 := KeepS.cell (P := fun b => b = r1 \/ b = r2) z1 (.inr rfl)
    have g6 := KeepS.cell (P := fun b => b = r1 \/ b = r2) z2 (.inr rfl)
    have g7 := KeepS.cell (P := fun b => b = r1 \/ b = r2) z3 (.inr rfl)
    have hlt1 := heap_lt h61
    have hlt2 := heap_lt h72
    have HB7 := HoldT.mk (And.intro hb57 (And.intro hlt1 hlt2))
    clear hw6 hw7 hr1 hr2 hb6 hb7 hb57 h61 h72 y0 y1 y2 y3 z0 z1 z2 z3 hlt1 hlt2 x0 x1 x2 x3
    refine wp_region_mixC (KeepSC (fun b => b = r1 \/ b = r2) w7) 6 rfl (by kernel_rfl) ?_
    have HDR := HoldT.mk ((Below.refl w7.heap.size w7).drew)
    have HST : HoldT (∀ q : Nat, w7.drew.heap[q]? = w7.heap[q]?) := ⟨fun _ => rfl⟩
    generalize w7.drew = v8 at HDR HST |-
    refine mixl_seg (by kernel_rfl) (fun _ _ d _ _ h => by cases d <;> exact h) [0, 2] [_, _] 4 6 rfl _ _ _ rfl (by kernel_rfl) (keepSC fun q _ => HST.out q) ?_
    repeat (go_big_quiet_step (fail))
    refine wpQuiet_nil ?_
    clear g0 g1 g2 g3 g4 g5 g6 g7
    have HB8 : HoldT (Below w5.heap.size w5 v8) := ⟨HB7.out.1.trans (HDR.out.mono HB7.out.1.size)⟩
    have HS1 := node_size (HA.out.1.below HB8.out) (HA.out.2.1 ▸ few_partA HH.out.2.1.fewN k)
    unfold nodeV at HS1
    rw [<- HL.out.1] at HS1
    have HS1 := HoldT.mk HS1
    refine mixl_act (i := 1) rfl (by kernel_rfl) (keepSC fun q _ => HST.out q) rfl (fun K hK => ?_)
    go_wp2_with fail
    refine HS1.out.mono ?_
    rintro e v9 ⟨rfl, hb9⟩
    have hq9 : ∀ b, (b = r1 \/ b = r2) -> v9.heap[b]? = w7.heap[b]? := fun b hb => (hb9.block b (by have := HB7.out.2; have := HDR.out.size; rcases hb with e | e <;> omega)).trans (HST.out b)
    have HB9 := HoldT.mk (And.intro (HB8.out.trans (hb9.mono HB8.out.size)) (And.intro hb9 hq9))
    clear hb9 hq9
    simp only
    go_wp2_with fail
    have HS2 := node_size (HC.out.1.below HB9.out.1) (HC.out.2.1 ▸ few_partB HH.out.2.1.fewN k)
    unfold nodeV at HS2
    rw [<- HL.out.2] at HS2
    have HS2 := HoldT.mk HS2
    refine mixl_act (i := 3) rfl (by kernel_rfl) (keepSC HB9.out.2.2) rfl (fun K hK => ?_)
    go_wp2_with fail
    refine HS2.out.mono ?_
    rintro e v10 ⟨rfl, hb10⟩
    have hq10 : ∀ b, (b = r1 \/ b = r2) -> v10.heap[b]? = w7.heap[b]? := fun b hb => (hb10.block b (by have := HB7.out.2; have := HDR.out.size; have := HB9.out.2.1.size; rcases hb with e | e <;> omega)).trans (HB9.out.2.2 b hb)
    have HB10 := HoldT.mk (And.intro (HB9.out.1.trans (hb10.mono HB9.out.1.size)) hq10)
    clear hb10 hq10
    simp only
    obtain ⟨sA, hsA⟩ : ∃ s, s = sizeN pA := ⟨_, rfl⟩
    obtain ⟨sB, hsB⟩ : ∃ s, s = sizeN pB := ⟨_, rfl⟩
    rw [<- hsA, <- hsB]
    have hA9 : sA <= 400000000 := by rw [hsA, HA.out.2.1]; exact sizeN_le (few_partA HH.out.2.1.fewN k)
    have hB9 : sB <= 400000000 := by rw [hsB, HC.out.2.1]; exact sizeN_le (few_partB HH.out.2.1.fewN k)
    have HMX : HoldT (max sA sB = maxN n k) := ⟨by rw [hsA, hsB, HA.out.2.1, HC.out.2.1]; rfl⟩
    clear hsA hsB
    go_wp2_with fail
    refine mixl_seg (by kernel_rfl) (fun _ _ d _ _ h => by cases d <;> exact h) [4, 5] [_, _] 0 2 rfl _ _ _ rfl (by kernel_rfl) (keepSC HB10.out.2) ?_
    repeat (go_big_quiet_step (fail))
    refine wpQuiet_nil ?_
    refine mix_done (by kernel_rfl) (keepSC HB10.out.2) ?_
    obtain ⟨mx, hmx⟩ : ∃ m, m = max sA sB := ⟨_, rfl⟩
    have hmxi : max (sA : Int) (sB : Int) = (mx : Int) := by omega
    have hmx9 : mx <= 400000000 := by omega
    have HMX : HoldT (mx = maxN n k) := ⟨by rw [hmx]; exact HMX.out⟩
    rw [hmxi]
    have HB11 : HoldT (Below w3.heap.size w3 v10) := ⟨HJ.out.2.trans ((HB5.out.mono HJ.out.2.size).trans (HB10.out.1.mono (Nat.le_trans HJ.out.2.size HB5.out.size)))⟩
    clear hmx hmxi hA9 hB9
    by_cases hb0 : b = 0
    ·subst hb0
     have bb : decide (((0 : Nat) : Int) = 0) = true := rfl
     go_wp2_with fail
     exact ⟨⟨k + 1, k, mx, by go_num, rfl, rfl, by omega, by omega, by omega, hmx9, ⟨by rw [HMX.out]; exact HJ.out.1.take hk1 (.inl rfl), HB11.out⟩⟩, by simp [intOf]; omega⟩
    ·have bb : decide ((b : Int) = 0) = false := decide_eq_false (by omega)
     by_cases hms : mx < s
     ·have bm : decide ((mx : Int) < (s : Int)) = true := decide_eq_true (by omega)
      go_wp2_with fail
      exact ⟨⟨k + 1, k, mx, by go_num, rfl, rfl, by omega, by omega, by omega, hmx9, ⟨by rw [HMX.out]; exact HJ.out.1.take hk1 (.inr (by rw [<- HMX.out]; exact hms)), HB11.out⟩⟩, by simp [intOf]; omega⟩
     ·have bm : decide ((mx : Int) < (s : Int)) = false := decide_eq_false (by omega)
      go_wp2_with fail
      exact ⟨⟨k + 1, b, s, by go_num, rfl, rfl, by omega, by omega, hbl, hsl, ⟨HJ.out.1.pass (by rw [<- HMX.out]; omega), HB11.out⟩⟩, by simp [intOf]; omega⟩
   ·obtain rfl : k = last + 1 := by omega
    have hb1 : 1 <= b := by
     rcases HJ.out.1 with ⟨_, h2⟩ | ⟨h1, _⟩ <;> omega
    have HP := HoldT.mk (node_parts ((HH.out.1.below HB.out.1).below HJ.out.2) HH.out.2.1 hb1 (by rw [<- HH.out.2.2.2.2.2.2.1]; exact hbl))
    rw [HH.out.2.2.2.2.2.2.2] at HP
    have bl : decide (((last : Int) + 1) <= (last : Int)) = false := decide_eq_false (by omega)
    go_wp2_with fail
    refine HP.out.mono ?_
    rintro e w5 ⟨k1, v1, i1, ks, k2, v2, i2, rfl, hA, hy, hB, hb5⟩
    obtain ⟨pA, hpA⟩ : ∃ p, p = partA n b := ⟨_, rfl⟩
    obtain ⟨pB, hpB⟩ : ∃ p, p = partB n b := ⟨_, rfl⟩
    rw [<- hpA] at hA |-
    rw [<- hpB] at hB |-
    obtain ⟨k1a, k1c, rfl⟩ := hA.keys.form
    obtain ⟨v1a, v1c, rfl⟩ := hA.vals.form
    obtain ⟨i1a, i1c, rfl⟩ := hA.kids.form
    obtain ⟨k2a, k2c, rfl⟩ := hB.keys.form
    obtain ⟨v2a, v2c, rfl⟩ := hB.vals.form
    obtain ⟨i2a, i2c, rfl⟩ := hB.kids.form
    obtain ⟨ya, yc, rfl⟩ := hy.form
    obtain ⟨m1, hm1⟩ : ∃ m, m = pA.keys.length := ⟨_, rfl⟩
    obtain ⟨m2, hm2⟩ : ∃ m, m = pA.vals.length := ⟨_, rfl⟩
    obtain ⟨m3, hm3⟩ : ∃ m, m = (pA.kids.map Int.ofNat).length := ⟨_, rfl⟩
    obtain ⟨n1, hn1⟩ : ∃ m, m = pB.keys.length := ⟨_, rfl⟩
    obtain ⟨n2, hn2⟩ : ∃ m, m = pB.vals.length := ⟨_, rfl⟩
    obtain ⟨n3, hn3⟩ : ∃ m, m = (pB.kids.map Int.ofNat).length := ⟨_, rfl⟩
    obtain ⟨key, hkey⟩ : ∃ y, y = n.keys.getD b [] := ⟨_, rfl⟩
    obtain ⟨yl, hyl⟩ : ∃ y, y = key.length := ⟨_, rfl⟩
    unfold nodeV
    rw [<- hkey] at hy |-
    rw [<- hm1, <- hm2, <- hm3, <- hn1, <- hn2, <- hn3, <- hyl]
    rw [<- hyl] at hy
    rw [<- hm1, <- hm2, <- hm3] at hA
    rw [<- hn1, <- hn2, <- hn3] at hB
    have HA := HoldT.mk (And.intro hA (And.intro hpA (And.intro hm1 (And.intro hm2 hm3))))
    have HC := HoldT.mk (And.intro hB (And.intro hpB (And.intro hn1 (And.intro hn2 hn3))))
    have HY := HoldT.mk (And.intro hy (And.intro hkey hyl))
    have HB5 := HoldT.mk hb5
    clear hA hB hy hb5 hpA hpB hm1 hm2 hm3 hn1 hn2 hn3 hkey hyl
    obtain ⟨la, hla⟩ : ∃ l, l = pA.leaf := ⟨_, rfl⟩
    obtain ⟨lb, hlb⟩ : ∃ l, l = pB.leaf := ⟨_, rfl⟩
    rw [<- hla, <- hlb]
    have HL := HoldT.mk (And.intro hla hlb)
    clear hla hlb
    go_upto_region 15 with (fail)
    obtain ⟨w6, hw6⟩ : ∃ w6, w6 = w5.alloc (.cells #[.bool la, .slice k1a m1 k1c, .slice v1a m2 v1c, .slice i1a m3 i1c] 107) := ⟨_, rfl⟩
    obtain ⟨w7, hw7⟩ : ∃ w7, w7 = w6.alloc (.cells #[.bool lb, .slice k2a n1 k2c, .slice v2a n2 v2c, .slice i2a n3 i2c] 107) := ⟨_, rfl⟩
    obtain ⟨r1, hr1⟩ : ∃ r1, r1 = w5.heap.size := ⟨_, rfl⟩
    obtain ⟨r2, hr2⟩ : ∃ r2, r2 = r1 + 1 := ⟨_, rfl⟩
    rw [<- hw6, <- hw7, <- hr1, <- hr2]
    have hb6 : Below w5.heap.size w5 w6 := by rw [hw6]; exact (Below.refl _ w5).alloc (Nat.le_refl _) _
    have hb7 : Below w6.heap.size w6 w7 := by rw [hw7]; exact (Below.refl _ w6).alloc (Nat.le_refl _) _
    have hb57 := hb6.trans (hb7.mono hb6.size)
    have h61 : w7.heap[r1]? = some (.cells #[.bool la, .slice k1a m1 k1c, .slice v1a m2 v1c, .slice i1a m3 i1c] 107 (0, 0)) := kept (by rw [hw6, hr1]; exact heap_alloc_new w5 _) hb7
    have h72 : w7.heap[r2]? = some (.cells #[.bool lb, .slice k2a n1 k2c, .slice v2a n2 v2c, .slice i2a n3 i2c] 107 (0, 0)) := by
     have e : r2 = w6.heap.size := by rw [hw6, hr2, hr1]; simp
     rw [hw7, e]; exact heap_alloc_new w6 _
    have y0 : w7.cell? ⟨r1, 0, none⟩ = some (.bool la) := by simp [World.cell?, h61]
    have y1 : w7.cell? ⟨r1, 1, none⟩ = some (.slice k1a m1 k1c) := by simp [World.cell?, h61]
    have y2 : w7.cell? ⟨r1, 2, none⟩ = some (.slice v1a m2 v1c) := by simp [World.cell?, h61]
    have y3 : w7.cell? ⟨r1, 3, none⟩ = some (.slice i1a m3 i1c) := by simp [World.cell?, h61]
    have z0 : w7.cell? ⟨r2, 0, none⟩ = some (.bool lb) := by simp [World.cell?, h72]
    have z1 : w7.cell? ⟨r2, 1, none⟩ = some (.slice k2a n1 k2c) := by simp [World.cell?, h72]
    have z2 : w7.cell? ⟨r2, 2, none⟩ = some (.slice v2a n2 v2c) := by simp [World.cell?, h72]
    have z3 : w7.cell? ⟨r2, 3, none⟩ = some (.slice i2a n3 i2c) := by simp [World.cell?, h72]
    have g0 := KeepS.cell (P := fun b => b = r1 \/ b = r2) y0 (.inl rfl)
    have g1 := KeepS.cell (P := fun b => b = r1 \/ b = r2) y1 (.inl rfl)
    have g2 := KeepS.cell (P := fun b => b = r1 \/ b = r2) y2 (.inl rfl)
    have g3 := KeepS.cell (P := fun b => b = r1 \/ b = r2) y3 (.inl rfl)
    have g4 := KeepS.cell (P := fun b => b = r1 \/ b = r2) z0 (.inr rfl)
    have g5 := KeepS.cell (P := fun b => b = r1 \/ b = r2) z1 (.inr rfl)
    have g6 := KeepS.cell (P := fun b => b = r1 \/ b = r2) z2 (.inr rfl)
    have g7 := KeepS.cell (P := fun b => b = r1 \/ b = r2) z3 (.inr rfl)
    have hlt1 := heap_lt h61
    have hlt2 := heap_lt h72
    have hne : r1 ≠ q2 /\ r1 ≠ q4 /\ r2 ≠ q2 /\ r2 ≠ q4 := by
     have h1 := heap_lt HB.out.2.2.1
     have h2 := heap_lt HB.out.2.2.2.1
     have h3 := HJ.out.2.size
     have h4 := HB5.out.size
     omega
    have HB7 := HoldT.mk (And.intro hb57 (And.intro hlt1 (And.intro hlt2 hne)))
    clear hw6 hw7 hr1 hr2 hb6 hb7 hb57 h61 h72 y0 y1 y2 y3 z0 z1 z2 z3 hlt1 hlt2 hne x0 x1 x2 x3
    refine wp_region_mixC (KeepSC (fun b => b = r1 \/ b = r2) w7) 10 rfl (by kernel_rfl) ?_
    have HDR := HoldT.mk ((Below.refl w7.heap.size w7).drew)
    have HST : HoldT (∀ q : Nat, w7.drew.heap[q]? = w7.heap[q]?) := ⟨fun _ => rfl⟩
    generalize w7.drew = v8 at HDR HST |-
    refine mixl_seg (by kernel_rfl) (fun _ _ d _ _ h => by cases d <;> exact h) [0, 2, 4] [_, _, _] 7 10 rfl _ _ _ rfl (by kernel_rfl) (keepSC fun q _ => HST.out q) ?_
    repeat (go_big_quiet_step (fail))
    refine wpQuiet_nil ?_
    clear g0 g1 g2 g3 g4 g5 g6 g7
    have HB8 : HoldT (Below w5.heap.size w5 v8) := ⟨HB7.out.1.trans (HDR.out.mono HB7.out.1.size)⟩
    have HS1 := node_own (HA.out.1.below HB8.out) (HA.out.2.1 ▸ few_partA HH.out.2.1.fewN b)
    unfold nodeV at HS1
    rw [<- HL.out.1] at HS1
    have HS1 := HoldT.mk HS1
    refine mixl_act (i := 1) rfl (by kernel_rfl) (keepSC fun q _ => HST.out q) rfl (fun K hK => ?_)
    go_wp2_with fail
    refine HS1.out.mono ?_
    rintro e v9 ⟨ok, ov, oi, rfl, hno, hb9⟩
    have hq9 : ∀ b, (b = r1 \/ b = r2) -> v9.heap[b]? = w7.heap[b]? := fun b hb => (hb9.block b (by have := HB7.out.2; have := HDR.out.size; rcases hb with e | e <;> omega)).trans (HST.out b)
    have HB9 := HoldT.mk (And.intro (HB8.out.trans (hb9.mono HB8.out.size)) (And.intro hb9 hq9))
    obtain ⟨oka, okc, rfl⟩ := hno.nat.keys.form
    obtain ⟨ova, ovc, rfl⟩ := hno.nat.vals.form
    obtain ⟨oia, oic, rfl⟩ := hno.nat.kids.form
    unfold nodeV
    rw [<- HA.out.2.2.1, <- HA.out.2.2.2.1, <- HA.out.2.2.2.2, <- HL.out.1]
    rw [<- HA.out.2.2.1, <- HA.out.2.2.2.1, <- HA.out.2.2.2.2] at hno
    have HO := HoldT.mk hno
    clear hb9 hq9 hno
    simp only
    go_wp2_with fail
    have HC3 := HoldT.mk (cloneY_any key (.slice ya yl yc) (cf v9) v9 (fun _ _ _ h => h) (HY.out.1.mono RY_mono ((cfU_below HB9.out.1).trans (cfU_cf v9))) (by rw [HY.out.2.1]; exact Nat.le_trans (HH.out.2.1.fewN.getD b) (by decide)))
    refine mixl_act (i := 3) rfl (by kernel_rfl) (keepSC HB9.out.2.2) rfl (fun K hK => ?_)
    go_wp2_with fail
    refine HC3.out.mono ?_
    rintro e v10 ⟨sv2, ds, rfl, ho, hgr, hb10⟩
    have hoy : OwnS 1 RY 5 v9.heap.size v10 sv2 key.length key ds := ⟨ho, rfl, hgr, hb10.size⟩
    obtain ⟨sya, syc, hsv⟩ := hoy.shape
    subst hsv
    have hyk := hoy.yat
    rw [<- HY.out.2.2] at hyk |-
    have HK := HoldT.mk hyk
    have hq10 : ∀ b, (b = r1 \/ b = r2) -> v10.heap[b]? = w7.heap[b]? := fun b hb => (hb10.block b (by have := HB7.out.2; have := HDR.out.size; have := HB9.out.2.1.size; rcases hb with e | e <;> omega)).trans (HB9.out.2.2 b hb)
    have HB10 := HoldT.mk (And.intro (HB9.out.1.trans (hb10.mono HB9.out.1.size)) (And.intro hb10 hq10))
    have HO2 := HoldT.mk (HO.out.below hb10)
    clear ho hgr hb10 hoy hq10 hyk
    simp only
    go_wp2_with fail
    have HS2 := node_own (HC.out.1.below HB10.out.1) (HC.out.2.1 ▸ few_partB HH.out.2.1.fewN b)
    unfold nodeV at HS2
    rw [<- HL.out.2] at HS2
    have HS2 := HoldT.mk HS2
    refine mixl_act (i := 5) rfl (by kernel_rfl) (keepSC HB10.out.2.2) rfl (fun K hK => ?_)
    go_wp2_with fail
    refine HS2.out.mono ?_
    rintro e v11 ⟨pk, pv, pi, rfl, hno, hb11⟩
    have hq11 : ∀ b, (b = r1 \/ b = r2) -> v11.heap[b]? = w7.heap[b]? := fun b hb => (hb11.block b (by have := HB7.out.2; have := HDR.out.size; have := HB9.out.2.1.size; have := HB10.out.2.1.size; rcases hb with e | e <;> omega)).trans (HB10.out.2.2 b hb)
    have HB11 := HoldT.mk (And.intro (HB10.out.1.trans (hb11.mono HB10.out.1.size)) (And.intro hb11 hq11))
    obtain ⟨pka, pkc, rfl⟩ := hno.nat.keys.form
    obtain ⟨pva, pvc, rfl⟩ := hno.nat.vals.form
    obtain ⟨pia, pic, rfl⟩ := hno.nat.kids.form
    unfold nodeV
    rw [<- HC.out.2.2.1, <- HC.out.2.2.2.1, <- HC.out.2.2.2.2, <- HL.out.2]
    rw [<- HC.out.2.2.1, <- HC.out.2.2.2.1, <- HC.out.2.2.2.2] at hno
    have HP2 := HoldT.mk hno
    have HO3 := HoldT.mk (And.intro (HO2.out.below hb11) (HK.out.mono RY_mono (cfU_below hb11)))
    have hbw : Below w.heap.size w v11 := HB.out.1.trans ((HJ.out.2.mono HB.out.1.size).trans ((HB5.out.mono (Nat.le_trans HB.out.1.size HJ.out.2.size)).trans (HB11.out.1.mono (Nat.le_trans (Nat.le_trans HB.out.1.size HJ.out.2.size) HB5.out.size))))
    have h2 : v11.heap[q2]? = some (.cells #[.bool false, .slice none 0 0, .slice none 0 0, .slice none 0 0] 107 (0, 0)) := kept (kept (kept HB.out.2.2.1 HJ.out.2) HB5.out) HB11.out.1
    have h4 : v11.heap[q4]? = some (.cells #[.bool false, .slice none 0 0, .slice none 0 0, .slice none 0 0] 107 (0, 0)) := kept (kept (kept HB.out.2.2.2.1 HJ.out.2) HB5.out) HB11.out.1
    have HBW := HoldT.mk (And.intro hbw (And.intro h2 h4))
    clear hb11 hq11 hno hbw h4
    simp only
    go_wp2_with fail
    have z0 : v11.cell? ⟨q2, 0, none⟩ = some (.bool false) := by simp [World.cell?, h2]
    have z1 : v11.cell? ⟨q2, 1, none⟩ = some (.slice none 0 0) := by simp [World.cell?, h2]
    have z2 : v11.cell? ⟨q2, 2, none⟩ = some (.slice none 0 0) := by simp [World.cell?, h2]
    have z3 : v11.cell? ⟨q2, 3, none⟩ = some (.slice none 0 0) := by simp [World.cell?, h2]
    have f0 : v11.frozen? ⟨q2, 0, none⟩ = false := by simp [World.frozen?, h2]
    have f1 : v11.frozen? ⟨q2, 1, none⟩ = false := by simp [World.frozen?, h2]
    have f2 : v11.frozen? ⟨q2, 2, none⟩ = false := by simp [World.frozen?, h2]
    have f3 : v11.frozen? ⟨q2, 3, none⟩ = false := by simp [World.frozen?, h2]
    clear h2
    refine mixl_act (i := 6) rfl (by kernel_rfl) (keepSC HB11.out.2.2) rfl (fun K hK => ?_)
    go_wp2_with fail
    clear z0 z1 z2 z3 f0 f1 f2 f3
    obtain ⟨u12, hu12⟩ : ∃ u, u = set4 v11 q2 (.bool la) (.slice oka m1 okc) (.slice ova m2 ovc) (.slice oia m3 oic) := ⟨_, rfl⟩
    have hu' := hu12
    unfold set4 at hu'
    rw [<- hu']
    have hg12 : v11.grownBy u12 (some q2) := by rw [hu12]; exact set4_grown _ _ _ _ _ _
    have h12 : u12.heap[q2]? = some (.cells #[.bool la, .slice oka m1 okc, .slice ova m2 ovc, .slice oia m3 oic] 107 (0, 0)) := by rw [hu12]; exact set4_heap HBW.out.2.1
    have hq12 : ∀ b, (b = r1 \/ b = r2) -> u12.heap[b]? = w7.heap[b]? := fun b hb => (hg12.block b (by have := HB7.out.2; have := HDR.out.size; have := HB9.out.2.1.size; have := HB10.out.2.1.size; have := HB11.out.2.1.size; rcases hb with e | e <;> omega) (fun e => by have := HB7.out.2.2.2; have := Option.some.inj e; rcases hb with e | e <;> omega)).trans (HB11.out.2.2 b hb)
    have hqq : q2 ≠ q4 := by have := HB.out.2.2.2.2; omega
    have h412 : u12.heap[q4]? = _ := (hg12.block q4 (heap_lt HBW.out.2.2) (fun e => hqq (Option.some.inj e).symm)).trans HBW.out.2.2
    have HG := HoldT.mk (And.intro hg12 (And.intro h12 (And.intro hq12 (And.intro h412 hqq))))
    clear hu12 hu' hg12 h12 hq12 hqq
    go_wp2_with fail
    refine mixl_seg (by kernel_rfl) (fun _ _ d _ _ h => by cases d <;> exact h) [7] [_] 2 3 rfl _ _ _ rfl (by kernel_rfl) (keepSC HG.out.2.2.1) ?_
    repeat (go_big_quiet_step (fail))
    refine wpQuiet_nil ?_
    have z0 : u12.cell? ⟨q4, 0, none⟩ = some (.bool false) := by simp [World.cell?, h412]
    have z1 : u12.cell? ⟨q4, 1, none⟩ = some (.slice none 0 0) := by simp [World.cell?, h412]
    have z2 : u12.cell? ⟨q4, 2, none⟩ = some (.slice none 0 0) := by simp [World.cell?, h412]
    have z3 : u12.cell? ⟨q4, 3, none⟩ = some (.slice none 0 0) := by simp [World.cell?, h412]
    have f0 : u12.frozen? ⟨q4, 0, none⟩ = false := by simp [World.frozen?, h412]
    have f1 : u12.frozen? ⟨q4, 1, none⟩ = false := by simp [World.frozen?, h412]
    have f2 : u12.frozen? ⟨q4, 2, none⟩ = false := by simp [World.frozen?, h412]
    have f3 : u12.frozen? ⟨q4, 3, none⟩ = false := by simp [World.frozen?, h412]
    clear h412
    refine mixl_act (i := 8) rfl (by kernel_rfl) (keepSC HG.out.2.2.1) rfl (fun K hK => ?_)
    go_wp2_with fail
    clear z0 z1 z2 z3 f0 f1 f2 f3
    obtain ⟨u13, hu13⟩ : ∃ u, u = set4 u12 q4 (.bool lb) (.slice pka n1 pkc) (.slice pva n2 pvc) (.slice pia n3 pic) := ⟨_, rfl⟩
    have hu' := hu13
    unfold set4 at hu'
    rw [<- hu']
    have hg13 : u12.grownBy u13 (some q4) := by rw [hu13]; exact set4_grown _ _ _ _ _ _
    have h13 : u13.heap[q4]? = some (.cells #[.bool lb, .slice pka n1 pkc, .slice pva n2 pvc, .slice pia n3 pic] 107 (0, 0)) := by rw [hu13]; exact set4_heap HG.out.2.2.2.1
    have hq13 : ∀ b, (b = r1 \/ b = r2) -> u13.heap[b]? = w7.heap[b]? := fun b hb => (hg13.block b (by have := HB7.out.2; have := HDR.out.size; have := HB9.out.2.1.size; have := HB10.out.2.1.size; have := HB11.out.2.1.size; have := HG.out.1.size; rcases hb with e | e <;> omega) (fun e => by have := HB7.out.2.2.2; have := Option.some.inj e; rcases hb with e | e <;> omega)).trans (HG.out.2.2.1 b hb)
    have h213 : u13.heap[q2]? = some (.cells #[.bool la, .slice oka m1 okc, .slice ova m2 ovc, .slice oia m3 oic] 107 (0, 0)) := (hg13.block q2 (heap_lt HG.out.2.1) (fun e => HG.out.2.2.2.2 (Option.some.inj e))).trans HG.out.2.1
    have HG2 := HoldT.mk (And.intro hg13 (And.intro h13 (And.intro hq13 h213)))
    clear hu13 hu' hg13 h13 hq13 h213
    go_wp2_with fail
    refine mixl_seg (by kernel_rfl) (fun _ _ d _ _ h => by cases d <;> exact h) [9] [_] 0 1 rfl _ _ _ rfl (by kernel_rfl) (keepSC HG2.out.2.2.1) ?_
    repeat (go_big_quiet_step (fail))
    refine wpQuiet_nil ?_
    refine mix_done (by kernel_rfl) (keepSC HG2.out.2.2.1) ?_
    go_wp2_with fail
    have c0 : u13.cell? ⟨q2, 0, none⟩ = some (.bool la) := by simp [World.cell?, HG2.out.2.2.2]
    have c1 : u13.cell? ⟨q2, 1, none⟩ = some (.slice oka m1 okc) := by simp [World.cell?, HG2.out.2.2.2]
    have c2 : u13.cell? ⟨q2, 2, none⟩ = some (.slice ova m2 ovc) := by simp [World.cell?, HG2.out.2.2.2]
    have c3 : u13.cell? ⟨q2, 3, none⟩ = some (.slice oia m3 oic) := by simp [World.cell?, HG2.out.2.2.2]
    have d0 : u13.cell? ⟨q4, 0, none⟩ = some (.bool lb) := by simp [World.cell?, HG2.out.2.1]
    have d1 : u13.cell? ⟨q4, 1, none⟩ = some (.slice pka n1 pkc) := by simp [World.cell?, HG2.out.2.1]
    have d2 : u13.cell? ⟨q4, 2, none⟩ = some (.slice pva n2 pvc) := by simp [World.cell?, HG2.out.2.1]
    have d3 : u13.cell? ⟨q4, 3, none⟩ = some (.slice pia n3 pic) := by simp [World.cell?, HG2.out.2.1]
    refine bodyPost_ret (v := .tuple #[.agg #[.bool la, .slice oka m1 okc, .slice ova m2 ovc, .slice oia m3 oic], .slice sya yl syc, .agg #[.bool lb, .slice pka n1 pkc, .slice pva n2 pvc, .slice pia n3 pic], .bool true]) (by simp [results, Tryz.results49, go_sem, c0, c1, c2, c3, d0, d1, d2, d3]) rfl ?_
    obtain ⟨n1', u1'⟩ := HO3.out.1.grown HBW.out.2.1 HG.out.1
    obtain ⟨n2', u2'⟩ := n1'.grown HG.out.2.2.2.1 HG2.out.1
    obtain ⟨m1', t1'⟩ := HP2.out.grown HBW.out.2.1 HG.out.1
    obtain ⟨m2', t2'⟩ := m1'.grown HG.out.2.2.2.1 HG2.out.1
    have hyz := (HO3.out.2.mono RY_mono u1').mono RY_mono u2'
    have e1 : w.heap.size <= v8.heap.size := by have := HB.out.1.size; have := HJ.out.2.size; have := HB5.out.size; have := HB8.out.size; omega
    have e2 : w.heap.size <= v10.heap.size := by have := HB9.out.2.1.size; have := HB10.out.2.1.size; omega
    rw [HA.out.2.2.1, HA.out.2.2.2.1, HA.out.2.2.2.2] at n2' |-
    rw [HC.out.2.2.1, HC.out.2.2.2.1, HC.out.2.2.2.2] at m2' |-
    refine ⟨b, _, _, _, _, _, _, _, ?_, by rw [HL.out.1, HL.out.2, <- HA.out.2.1, <- HC.out.2.1], ?_, ?_, ?_, (HBW.out.1.grown HG.out.1 HBW.out.1.size (fun x e => by cases e; have := HB.out.2.2.2.2; omega)).grown HG2.out.1 (by have := HG.out.1.size; have := HBW.out.1.size; omega) (fun x e => by cases e; have := HB.out.2.2.2.2; omega)⟩
    ·rcases HJ.out.1 with ⟨h1, _⟩ | ⟨h1, h2, h3, h4⟩
     ·omega
     ·exact ⟨h1, by rw [<- HH.out.2.2.2.2.2.2.1]; exact hbl, fun i hi hil => h4 i hi (by rw [<- HH.out.2.2.2.2.2.2.1] at hil; omega)⟩
    ·rw [<- HA.out.2.1]; exact n2'.base e1
    ·rw [<- HY.out.2.1]; exact hyz
    ·rw [<- HC.out.2.1]; exact m2'.base e2
end Go.Proofs.YtafilaiinbggoaaGreat
