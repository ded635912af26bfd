import Derived.Test.YtafilaiinbggoaaGreatQS10
import Derived.Deep.RegionLaw
import Derived.Lib.SliceRun
namespace Go.Proofs.YtafilaiinbggoaaGreat
open Go.Shelf Go.RowKit
theorem addr_addZ (b off k : Nat) : (⟨b, off, none⟩ : Addr).add k = ⟨b, off + k, none⟩ := by
 unfold Addr.add; split <;> simp_all
theorem freeZ {w : World} {g : Nat} {vs : Array Value} {T : TypeId} (h : w.heap[g]? = some (.cells vs T (0, 0))) (o : Nat) : w.frozen? ⟨g, o, none⟩ = false := by simp [World.frozen?, h]
theorem setCells_restZ (g : Nat) : ∀ (vs : List Value) (o : Nat) (w : World), (w.setCells g o vs).os = w.os /\ (w.setCells g o vs).tape = w.tape /\ (w.setCells g o vs).output = w.output /\ (w.setCells g o vs).heap.size = w.heap.size /\ ∀ q, q ≠ g -> (w.setCells g o vs).heap[q]? = w.heap[q]?
 | [], o, w => ⟨rfl, rfl, rfl, rfl, fun _ _ => rfl⟩
 | v :: vs, o, w => by
  obtain ⟨h1, h2, h3, h4, h5⟩ := setCells_restZ g vs (o + 1) (w.setCell ⟨g, o, none⟩ v)
  refine ⟨h1, h2, h3, by rw [World.setCells, h4]; simp, fun q hq => ?_⟩
  rw [World.setCells, h5 q hq]
  exact heap_setCell_other w ⟨g, o, none⟩ q v (fun e => hq (by simpa using e))
theorem setCells_heapZ (g : Nat) (T : TypeId) : ∀ (vs : List Value) (o : Nat) (w : World) (cur : Array Value), w.heap[g]? = some (.cells cur T (0, 0)) -> o + vs.length <= cur.size ->
  ∃ cur', (w.setCells g o vs).heap[g]? = some (.cells cur' T (0, 0)) /\ cur'.toList = cur.toList.take o ++ vs ++ cur.toList.drop (o + vs.length)
 | [], o, w, cur, h, _ => ⟨cur, h, by simp⟩
 | v :: vs, o, w, cur, h, hl => by
  rw [List.length_cons] at hl
  obtain ⟨cur', h1, h2⟩ := setCells_heapZ g T vs (o + 1) (w.setCell ⟨g, o, none⟩ v) (cur.setIfInBounds o v) (heap_setCell_same w g o cur T v h) (by simp; omega)
  refine ⟨cur', by rw [World.setCells]; exact h1, ?_⟩
  have hcl : o < cur.toList.length := by rw [Array.length_toList]; omega
  rw [h2, Array.toList_setIfInBounds, List.take_set, List.drop_set_of_lt (by omega), List.length_cons]
  have e : (cur.toList.take (o + 1)).set o v = cur.toList.take o ++ [v] := by
   rw [List.take_succ_eq_append_getElem hcl, List.set_append_right _ _ (by rw [List.length_take]; omega), List.length_take, Nat.min_eq_left (by omega), Nat.sub_self]
   rfl
  rw [e, show o + 1 + vs.length = o + (vs.length + 1) by omega]
  simp
def DelPostZ (T : TypeId) (n B : Nat) (w : World) (g cap p : Nat) (cs : List Value) (e : Ending) (w' : World) : Prop :=
 e = .returned (.slice (some ⟨g, 0, none⟩) p cap) /\ w'.ownsRow B T n (.slice (some ⟨g, 0, none⟩) p cap) p cs /\ w.grownBy w' (some g)
theorem infoI1 : (Tryz.prog.info? 3).map (fun i => (i.zero, i.size, i.bytes)) = some (some (.int .i64 0), 1, 8) := by kernel_rfl
theorem infoB1 : (Tryz.prog.info? 23).map (fun i => (i.zero, i.size, i.bytes)) = some (some (.slice none 0 0), 1, 24) := by kernel_rfl
abbrev zeroXI : List Value := [.int .i64 0]
theorem clearXI (w : World) (ty : TypeId) (b o c : Nat) (hc : ∀ j, j < 1 -> (w.cell? ⟨b, o + j, none⟩).isSome = true) (hf : ∀ j, j < 1 -> w.frozen? ⟨b, o + j, none⟩ = false) :
  (Builtin.clear_ #[91] ty #[.slice (some ⟨b, o, none⟩) 1 c]).run Tryz.prog w = .ok (.tuple #[]) (w.setCells b o zeroXI) := by
 have hst := run_storeCells_cells (P := Tryz.prog) b o zeroXI 0 w (by simpa using hc) (by simpa using hf) (by intro v hv; simp at hv; subst hv; rfl)
 simp only [Nat.add_zero] at hst
 have hv : ∀ w, (zeroValue 3).run Tryz.prog w = .ok (.int .i64 0) w := fun w => by kernel_rfl
 have hzc : (Builtin.zeroCells (Value.int .i64 0).cells 1).toList = zeroXI := by kernel_rfl
 simp [Builtin.clear_, run_underlying Tryz.underlying91, hv, hzc, hst]
set_option maxRecDepth 100000 in
set_option maxHeartbeats 8000000 in
theorem delXI_any (B : Nat) (w : World) (g p cap : Nat) (cs : List Value) (hown : w.ownsRow B 3 1 (.slice (some ⟨g, 0, none⟩) p cap) p cs) (k : Nat) (hk : k < p) (hp : p <= 1000000) (h1c : ∀ u ∈ cs, u.oneCell' = true) :
  Calls Tryz.prog 104 #[.slice (some ⟨g, 0, none⟩) p cap, .int .i64 k, .int .i64 ((k : Int) + 1)] w (DelPostZ 3 1 B w g cap (p - 1) (cs.take (k * 1) ++ cs.drop ((k + 1) * 1))) := by
 obtain ⟨i0, hi, hz0, hz1, hz2⟩ := info_parts infoI1
 have hcl := hown.1
 obtain ⟨cur, hB, hg, hpc, hcm, hcs, htake⟩ : ∃ cur, B <= g /\ w.heap[g]? = some (.cells cur 3 (0, 0)) /\ p <= cap /\ cap <= 9223372036854775807 /\ cur.size = cap * 1 /\ cur.toList.take (p * 1) = cs := by
  rcases hown.2 with ⟨h', _⟩ | ⟨g', cap', cur, h', hb, hg, hnc, hcm, hcs, htake⟩
  ·simp at h'
  ·simp only [Value.slice.injEq, Option.some.injEq, Addr.mk.injEq, and_true, true_and] at h'
   obtain ⟨rfl, rfl⟩ := h'
   exact ⟨cur, hb, hg, hnc, by unfold maxLen at hcm; omega, hcs, htake⟩
 have hcell : ∀ (W : World) (c : Array Value) (j : Nat), W.heap[g]? = some (.cells c 3 (0, 0)) -> j < c.size -> (W.cell? ⟨g, j, none⟩).isSome = true /\ W.frozen? ⟨g, j, none⟩ = false := fun W c j h hj => by
  refine ⟨?_, freeZ h j⟩
  simp only [World.cell?]
  rw [h]
  simp [hj]
 obtain ⟨news, hnews⟩ : ∃ news, news = cs.drop ((k + 1) * 1) := ⟨_, rfl⟩
 have hnl : news.length = (p - (k + 1)) * 1 := by rw [hnews, List.length_drop, hcl]; omega
 obtain ⟨A, hA, hsrc⟩ : ∃ A : Addr, (if cap = k + 1 then some (⟨g, 0, none⟩ : Addr) else some ⟨g, k + 1, none⟩) = some A /\ Hld (∀ t u, news[t]? = some u -> w.drew.cell? (A.add t) = some u) := by
  by_cases h : cap = k + 1
  ·refine ⟨⟨g, 0, none⟩, by simp [h], ⟨fun t u hu => ?_⟩⟩
   have h0 : news.length = 0 := by rw [hnl]; omega
   rw [List.length_eq_zero_iff.1 h0] at hu
   simp at hu
  ·refine ⟨⟨g, k + 1, none⟩, by simp [h], ⟨fun t u hu => ?_⟩⟩
   rw [addr_addZ]
   rw [hnews, List.getElem?_drop, <- htake, List.getElem?_take] at hu
   split at hu
   ·simp only [World.cell?]
    rw [show w.drew.heap[g]? = some (.cells cur 3 (0, 0)) from hg]
    simpa using hu
   ·cases hu
 have s1 : Hld (news.length = (p - (k + 1)) * 1) := ⟨hnl⟩
 have s2 : Hld (∀ u ∈ news, u.oneCell' = true) := ⟨fun u hu => h1c u (by rw [hnews] at hu; exact List.mem_of_mem_drop hu)⟩
 have s3 : Hld (∀ t, t < news.length -> (w.drew.cell? ⟨g, 0 + k * 1 + t, none⟩).isSome = true /\ w.drew.frozen? ⟨g, 0 + k * 1 + t, none⟩ = false) := ⟨fun t ht => hcell w.drew cur _ hg (by rw [hcs]; rw [hnl] at ht; omega)⟩
 obtain ⟨W1, hW1⟩ : ∃ W1, W1 = w.drew.setCells g (0 + k * 1) news := ⟨_, rfl⟩
 obtain ⟨cur1, hg1, hc1⟩ := setCells_heapZ g 3 news (0 + k * 1) w.drew cur hg (by rw [hcs, hnl]; omega)
 rw [<- hW1] at hg1
 have hs1 : cur1.size = cap * 1 := by
  have := congrArg List.length hc1
  simp only [List.length_append, List.length_take, List.length_drop, Array.length_toList] at this
  omega
 have hr1 := setCells_restZ g news (0 + k * 1) w.drew
 rw [<- hW1] at hr1
 obtain ⟨W2, hW2⟩ : ∃ W2, W2 = W1.setCells g (p - 1) zeroXI := ⟨_, rfl⟩
 obtain ⟨cur2, hg2, hc2⟩ := setCells_heapZ g 3 zeroXI (p - 1) W1 cur1 hg1 (by rw [hs1]; simp; omega)
 rw [<- hW2] at hg2
 have hr2 := setCells_restZ g zeroXI (p - 1) W1
 rw [<- hW2] at hr2
 have hclr : ∀ ty c, (Builtin.clear_ #[91] ty #[.slice (some ⟨g, p - 1, none⟩) 1 c]).run Tryz.prog W1 = .ok (.tuple #[]) W2 := fun ty c => by
  rw [hW2]
  exact clearXI W1 ty g (p - 1) c (fun j hj => (hcell W1 cur1 _ hg1 (by rw [hs1]; omega)).1) (fun j hj => (hcell W1 cur1 _ hg1 (by rw [hs1]; omega)).2)
 have HPOST : Hld (DelPostZ 3 1 B w g cap (p - 1) (cs.take (k * 1) ++ cs.drop ((k + 1) * 1)) (.returned (.slice (some ⟨g, 0, none⟩) (p - 1) cap)) W2) := ⟨by
  refine ⟨rfl, ⟨by rw [List.length_append, List.length_take, List.length_drop, hcl]; omega, .inr ⟨g, cap, cur2, rfl, hB, hg2, by omega, by unfold maxLen; omega, ?_, ?_⟩⟩, ?_⟩
  ·have := congrArg List.length hc2
   simp only [List.length_append, List.length_take, List.length_drop, Array.length_toList, List.length_cons, List.length_nil] at this
   omega
  ·have e0 : cur.toList.take (k * 1) = cs.take (k * 1) := by rw [<- htake, List.take_take]; congr 1; omega
   rw [Nat.mul_one, hc2, List.append_assoc, List.take_append_of_le_length (by rw [List.length_take, Array.length_toList, hs1]; omega), List.take_take, Nat.min_self, hc1, Nat.zero_add, e0, <- hnews]
   rw [List.take_append_of_le_length (by simp only [List.length_append, List.length_take, hnl]; omega), List.take_of_length_le (by simp only [List.length_append, List.length_take, hnl]; omega)]
  ·refine ⟨hr2.1.trans hr1.1, hr2.2.1.trans hr1.2.1, hr2.2.2.1.trans hr1.2.2.1, by rw [hr2.2.2.2.1, hr1.2.2.2.1]; exact Nat.le_refl _, fun q _ hq => ?_⟩
   have hqg : q ≠ g := fun e => hq (by rw [e])
   rw [hr2.2.2.2.2 q hqg, hr1.2.2.2.2 q hqg]
   rfl⟩
 have HI := Hld.mk (And.intro hi (And.intro hz0 (And.intro hz1 hz2)))
 have HW1 : Hld (W1 = w.drew.setCells g (0 + k * 1) news) := ⟨hW1⟩
 have hkc : k <= cap := by omega
 have hkc1 : k + 1 <= cap := by omega
 have hkp1 : (k : Int) + 1 <= (p : Int) := by omega
 have hpci : (p : Int) <= (cap : Int) := by omega
 have hkeq : ¬ ((k : Int) = (k : Int) + 1) := by omega
 have hck : ¬ (cap = k) := by omega
 have hcp1 : ¬ (cap = p - 1) := by omega
 have hkpn : k + (p - (k + 1)) = p - 1 := by omega
 have hpp1 : p - (p - 1) = 1 := by omega
 have htn : ((k : Int) + 1).toNat = k + 1 := by omega
 have hb1 : (0 : Int) <= (k : Int) + 1 := by omega
 have mixed : Tryz.prog.follows .mixedOrders = true := by kernel_rfl
 clear hown hcl hB hg hcs htake hcell hnews hnl hW1 hg1 hc1 hs1 hr1 hW2 hg2 hc2 hr2 hi hz0 hz1 hz2 h1c
 go_enter Tryz.func104, Tryz.ntmps104
 go_wp2_with fail
 go_region_law_o (refine step_append_room rfl (.tmp 22) (.tmp 25) 91 rfl 3 i0 1 Tryz.underlying91 HI.out.1 HI.out.2.2.1 g 0 k cap (by simp [Act.eval, Act.put]) A (p - (k + 1)) (cap - (k + 1)) news (by simp [Act.eval, Act.put]) s1.out hsrc.out s2.out (by omega) s3.out ?_; rw [<- HW1.out])
 go_wp2_with fail
 go_ret
 exact HPOST.out
end Go.Proofs.YtafilaiinbggoaaGreat
namespace Go.Proofs.YtafilaiinbggoaaGreat
open Go.RowKit Go.Maps
def idxI (xs : List Int) (x : Int) : Int := match xs.idxOf? x with
 | some k => k
 | none => -1
theorem idxI_at {xs : List Int} {x : Int} {j : Nat} (h : ∀ i, i < j -> xs[i]? ≠ some x) (hj : xs[j]? = some x) : idxI xs x = j := by
 unfold idxI
 have : xs.idxOf? x = some j := by
  rw [List.idxOf?, List.findIdx?_eq_some_iff_getElem]
  obtain ⟨hlt, he⟩ := List.getElem?_eq_some_iff.1 hj
  refine ⟨hlt, by simp [he], fun i hi => ?_⟩
  have := h i hi
  rw [List.getElem?_eq_getElem (by omega)] at this
  simpa using this
 rw [this]
theorem idxI_no {xs : List Int} {x : Int} (h : ∀ i, i < xs.length -> xs[i]? ≠ some x) : idxI xs x = -1 := by
 unfold idxI
 have : xs.idxOf? x = none := by
  rw [List.idxOf?_eq_none_iff]
  intro hm
  obtain ⟨i, hi, he⟩ := List.mem_iff_getElem.1 hm
  exact h i hi (by rw [List.getElem?_eq_getElem hi, he])
 rw [this]
theorem sat_cell {c : CF} {a : Option Addr} {n cap : Nat} {xs : List Int} (h : SAt 1 RI c (.slice a n cap) xs) {j : Nat} {x : Int} (hx : xs[j]? = some x) : ∃ b off, a = some ⟨b, off, none⟩ /\ c b (off + j) = some (.int .i64 x) := by
 obtain ⟨a2, cap2, e, _, _, h3⟩ := h
 cases e
 obtain ⟨b, off, d, ea, hd, hc, hr⟩ := h3 j x hx
 refine ⟨b, off, ea, ?_⟩
 have hr' : d = [.int .i64 x] := hr
 have := hc 0 (.int .i64 x) (by rw [hr']; rfl)
 simpa using this
set_option maxHeartbeats 4000000 in
set_option maxRecDepth 100000 in
theorem indexI_any (xs : List Int) (sv : Value) (x : Int) (w : World) (hl : SAt 1 RI (cf w) sv xs) (hlen : xs.length <= 1000000) :
  Calls Tryz.prog 103 #[sv, .int .i64 x] w fun e w' => e = .returned (.int .i64 (idxI xs x)) /\ w' = w := by
 obtain ⟨a, cap, rfl⟩ := hl.form
 have HL := HoldT.mk hl
 have HN := HoldT.mk hlen
 clear hl hlen
 go_enter Tryz.func103, Tryz.ntmps103
 go_wp2
 go_loopw [5, 8] (fun y i wr => ∃ j : Nat, i = .int .i64 j /\ j <= xs.length /\ HoldT (∀ i, i < j -> xs[i]? ≠ some x) /\ wr = w) (fun _ i _ => xs.length - (intOf i).toNat)
 case atStart => exact ⟨0, rfl, Nat.zero_le _, ⟨fun i h => by omega⟩, rfl⟩
 case round =>
  obtain ⟨j, rfl, hj, hno, rfl⟩ := hrel
  have hlen := HN.out
  by_cases hlt : j < xs.length
  ·obtain ⟨s, hs⟩ : ∃ s, xs[j]? = some s := ⟨xs[j], List.getElem?_eq_getElem hlt⟩
   obtain ⟨b, off, rfl, hv⟩ := sat_cell HL.out hs
   unfold cf at hv
   have b1 : decide ((j : Int) < (xs.length : Int)) = true := decide_eq_true (by omega)
   have b3 : (j : Int) < (xs.length : Int) := by omega
   by_cases h0 : x = s
   ·have e1 : (x == s) = true := by rw [h0]; exact beq_self_eq_true s
    have e2 : HoldT (idxI xs x = (j : Int)) := ⟨idxI_at hno.out (by rw [h0]; exact hs)⟩
    clear h0 hno
    go_wp2_with fail
    go_ret
    exact ⟨by rw [e2.out]; rfl, rfl⟩
   ·have e1 : (x == s) = false := by rw [beq_eq_false_iff_ne]; exact h0
    go_wp2_with fail
    exact ⟨⟨j + 1, by go_num, hlt, ⟨fun i hi => by
     rcases Nat.lt_or_ge i j with h | h
     ·exact hno.out i h
     ·obtain rfl : i = j := by omega
      rw [hs]
      exact fun e => h0 (Option.some.inj e).symm⟩, trivial⟩, by simp [intOf]; omega⟩
  ·obtain rfl : j = xs.length := by omega
   have e2 : HoldT (idxI xs x = -1) := ⟨idxI_no hno.out⟩
   clear hno
   go_wp2_with fail
   go_ret
   exact ⟨by rw [e2.out]; rfl, rfl⟩
set_option maxHeartbeats 4000000 in
set_option maxRecDepth 100000 in
theorem indexS_any (xs : List Int) (sv : Value) (x : Int) (w : World) (hl : SAt 1 RI (cf w) sv xs) (hlen : xs.length <= 1000000) :
  Calls Tryz.prog 83 #[sv, .int .i64 x] w fun e w' => e = .returned (.int .i64 (idxI xs x)) /\ w' = w := by
 obtain ⟨a, cap, rfl⟩ := hl.form
 have HL := HoldT.mk hl
 have HN := HoldT.mk hlen
 clear hl hlen
 go_enter Tryz.func83, Tryz.ntmps83
 go_wp2
 go_loopw [5, 8] (fun y i wr => ∃ j : Nat, i = .int .i64 j /\ j <= xs.length /\ HoldT (∀ i, i < j -> xs[i]? ≠ some x) /\ wr = w) (fun _ i _ => xs.length - (intOf i).toNat)
 case atStart => exact ⟨0, rfl, Nat.zero_le _, ⟨fun i h => by omega⟩, rfl⟩
 case round =>
  obtain ⟨j, rfl, hj, hno, rfl⟩ := hrel
  have hlen := HN.out
  by_cases hlt : j < xs.length
  ·obtain ⟨s, hs⟩ : ∃ s, xs[j]? = some s := ⟨xs[j], List.getElem?_eq_getElem hlt⟩
   obtain ⟨b, off, rfl, hv⟩ := sat_cell HL.out hs
   unfold cf at hv
   have b1 : decide ((j : Int) < (xs.length : Int)) = true := decide_eq_true (by omega)
   have b3 : (j : Int) < (xs.length : Int) := by omega
   by_cases h0 : x = s
   ·have e1 : (x == s) = true := by rw [h0]; exact beq_self_eq_true s
    have e2 : HoldT (idxI xs x = (j : Int)) := ⟨idxI_at hno.out (by rw [h0]; exact hs)⟩
    clear h0 hno
    go_wp2_with fail
    go_ret
    exact ⟨by rw [e2.out]; rfl, rfl⟩
   ·have e1 : (x == s) = false := by rw [beq_eq_false_iff_ne]; exact h0
    go_wp2_with fail
    exact ⟨⟨j + 1, by go_num, hlt, ⟨fun i hi => by
     rcases Nat.lt_or_ge i j with h | h
     ·exact hno.out i h
     ·obtain rfl : i = j := by omega
      rw [hs]
      exact fun e => h0 (Option.some.inj e).symm⟩, trivial⟩, by simp [intOf]; omega⟩
  ·obtain rfl : j = xs.length := by omega
   have e2 : HoldT (idxI xs x = -1) := ⟨idxI_no hno.out⟩
   clear hno
   go_wp2_with fail
   go_ret
   exact ⟨by rw [e2.out]; rfl, rfl⟩
structure PQ where
 pb : Nat
 db : Nat
 fr0 : Nat
 count : Nat
 pool : Nat
 size : Nat
def FrAt (w : World) (g : Int -> Option Value) (fr : Nat -> Option (Bts × Bool)) : Prop :=
 (∀ k, k < 0 -> g k = none) /\ ∀ n : Nat, match fr n with
  | none => g n = none
  | some (b, d) => b.length = 1024 /\ ∃ fb a cap, g n = some (.pointer (some ⟨fb, 0, none⟩)) /\ w.heap[fb]? = some (.cells #[.int .i64 n, .slice a 1024 cap, .bool d] 173 (0, 0)) /\ YAt (cfU w) (.slice a 1024 cap) b
theorem frat_some {w : World} {g : Int -> Option Value} {fr : Nat -> Option (Bts × Bool)} (h : FrAt w g fr) {n : Nat} {b : Bts} {d : Bool} (hn : fr n = some (b, d)) : b.length = 1024 /\ ∃ fb a cap, g n = some (.pointer (some ⟨fb, 0, none⟩)) /\ w.heap[fb]? = some (.cells #[.int .i64 n, .slice a 1024 cap, .bool d] 173 (0, 0)) /\ YAt (cfU w) (.slice a 1024 cap) b := by
 have := h.2 n
 rw [hn] at this
 exact this
theorem frat_none {w : World} {g : Int -> Option Value} {fr : Nat -> Option (Bts × Bool)} (h : FrAt w g fr) {n : Nat} (hn : fr n = none) : g n = none := by
 have := h.2 n
 rw [hn] at this
 exact this
theorem frat_dom {w : World} {g : Int -> Option Value} {fr : Nat -> Option (Bts × Bool)} (h : FrAt w g fr) {k : Int} : (g k).isSome = true ↔ ∃ n : Nat, k = n /\ (fr n).isSome = true := by
 rcases Int.lt_or_le k 0 with h0 | h0
 ·rw [h.1 k h0]
  exact ⟨fun e => (by cases e), fun ⟨n, e, _⟩ => by omega⟩
 ·obtain ⟨n, rfl⟩ := Int.eq_ofNat_of_zero_le h0
  cases e : fr n with
  | none =>
   refine ⟨fun e2 => ?_, fun ⟨m, e2, e3⟩ => ?_⟩
   ·rw [frat_none h e] at e2; cases e2
   ·obtain rfl : n = m := by omega
    rw [e] at e3; cases e3
  | some p =>
   obtain ⟨b, d⟩ := p
   obtain ⟨_, fb, a, cap, h1, _⟩ := frat_some h e
   exact ⟨fun _ => ⟨n, rfl, by rw [e]; rfl⟩, fun _ => by rw [h1]; rfl⟩
theorem FrAt.keep {w w' : World} {g : Int -> Option Value} {fr : Nat -> Option (Bts × Bool)} (h : FrAt w g fr) (hk : ∀ n fb, g n = some (.pointer (some ⟨fb, 0, none⟩)) -> w'.heap[fb]? = w.heap[fb]?) (hu : CLe (cfU w) (cfU w')) : FrAt w' g fr := by
 refine ⟨h.1, fun n => ?_⟩
 have := h.2 n
 split
 ·rename_i e
  exact frat_none h e
 ·rename_i b d e
  obtain ⟨h0, fb, a, cap, h1, h2, h3⟩ := frat_some h e
  exact ⟨h0, fb, a, cap, h1, (hk n fb h1).trans h2, h3.mono RY_mono hu⟩
structure PP (H : BS) (Q : PQ) (S : PS) (w : World) : Prop where
 ex : ∃ ib fm uv g us, PBox w Q.pb Q.db Q.fr0 Q.pool (.slice (some ⟨ib, 0, none⟩) S.is.length S.is.length) fm uv /\ IsRow w ib S.is /\ MapI fm g w /\ OwnS 1 RI 3 0 w uv S.used.length (S.used.map Int.ofNat) us /\ FrAt w g S.fr /\ H ib /\ H fm /\ (∀ gb, uv.ownBlock = some gb -> H gb) /\ ∀ k fb, g k = some (.pointer (some ⟨fb, 0, none⟩)) -> H fb
 box : H Q.pb
 lt : ∀ b, H b -> b < w.heap.size
 noU : ∀ b, H b -> ¬ IsU w b
theorem PP.stand {H : BS} {Q : PQ} {S : PS} {w w' : World} (h : PP H Q S w) (hs : w.heap.size <= w'.heap.size) (hk : ∀ b, H b -> w'.heap[b]? = w.heap[b]?) (hu : CLe (cfU w) (cfU w')) : PP H Q S w' := by
 obtain ⟨⟨ib, fm, uv, g, us, h1, h2, h3, h4, h5, h6, h7, h8, h9⟩, d1, d2, d3⟩ := h
 refine ⟨⟨ib, fm, uv, g, us, (hk _ d1).trans h1, (hk ib h6).trans h2, h3.same (hk fm h7), ?_, h5.keep (fun n fb e => hk fb (h9 n fb e)) hu, h6, h7, h8, h9⟩, d1, fun b hb => Nat.lt_of_lt_of_le (d2 b hb) hs, fun b hb hu2 => d3 b hb ?_⟩
 ·refine ⟨⟨h4.own.1, ?_⟩, h4.len, h4.row, Nat.zero_le _⟩
  rcases id h4.own.2 with e | ⟨g, cap, cur, e, e1, e2, e3⟩
  ·exact .inl e
  ·exact .inr ⟨g, cap, cur, e, e1, (hk g (h8 g (by rw [e]; rfl))).trans e2, e3⟩
 ·obtain ⟨cs, fr, e⟩ := hu2
  exact ⟨cs, fr, (hk b hb).symm.trans e⟩
theorem PP.below {H : BS} {Q : PQ} {S : PS} {w w' : World} (h : PP H Q S w) (hb : Below w.heap.size w w') : PP H Q S w' :=
 h.stand hb.size (fun b hk => hb.block b (h.lt b hk)) (cfU_below hb)
end Go.Proofs.YtafilaiinbggoaaGreat
