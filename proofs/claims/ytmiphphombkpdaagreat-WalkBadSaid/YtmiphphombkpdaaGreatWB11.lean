import Derived.Test.YtmiphphombkpdaaGreatWB10
import Derived.Deep.RegionLaw
import Derived.Lib.SliceRun
namespace Go.Proofs.YtmiphphombkpdaaGreat
open Go.Shelf Go.RowKit
theorem addr_addZ (b off k : Nat) : (⟨b, off, none⟩ : Addr).add k = ⟨b, off + k, none⟩ := by
 unfold Addr.add; split <;> simp_all
theorem freeZ {w : World} {g : Nat} {vs : Array Value} {T : TypeId} (h : w.heap[g]? = some (.cells vs T (0, 0))) (o : Nat) : w.frozen? ⟨g, o, none⟩ = false := by simp [World.frozen?, h]
theorem setCells_restZ (g : Nat) : ∀ (vs : List Value) (o : Nat) (w : World), (w.setCells g o vs).os = w.os /\ (w.setCells g o vs).tape = w.tape /\ (w.setCells g o vs).output = w.output /\ (w.setCells g o vs).heap.size = w.heap.size /\ ∀ q, q ≠ g -> (w.setCells g o vs).heap[q]? = w.heap[q]?
 | [], o, w => ⟨rfl, rfl, rfl, rfl, fun _ _ => rfl⟩
 | v :: vs, o, w => by
  obtain ⟨h1, h2, h3, h4, h5⟩ := setCells_restZ g vs (o + 1) (w.setCell ⟨g, o, none⟩ v)
  refine ⟨h1, h2, h3, by rw [World.setCells, h4]; simp, fun q hq => ?_⟩
  rw [World.setCells, h5 q hq]
  exact heap_setCell_other w ⟨g, o, none⟩ q v (fun e => hq (by simpa using e))
theorem setCells_heapZ (g : Nat) (T : TypeId) : ∀ (vs : List Value) (o : Nat) (w : World) (cur : Array Value), w.heap[g]? = some (.cells cur T (0, 0)) -> o + vs.length <= cur.size ->
  ∃ cur', (w.setCells g o vs).heap[g]? = some (.cells cur' T (0, 0)) /\ cur'.toList = cur.toList.take o ++ vs ++ cur.toList.drop (o + vs.length)
 | [], o, w, cur, h, _ => ⟨cur, h, by simp⟩
 | v :: vs, o, w, cur, h, hl => by
  rw [List.length_cons] at hl
  obtain ⟨cur', h1, h2⟩ := setCells_heapZ g T vs (o + 1) (w.setCell ⟨g, o, none⟩ v) (cur.setIfInBounds o v) (heap_setCell_same w g o cur T v h) (by simp; omega)
  refine ⟨cur', by rw [World.setCells]; exact h1, ?_⟩
  have hcl : o < cur.toList.length := by rw [Array.length_toList]; omega
  rw [h2, Array.toList_setIfInBounds, List.take_set, List.drop_set_of_lt (by omega), List.length_cons]
  have e : (cur.toList.take (o + 1)).set o v = cur.toList.take o ++ [v] := by
   rw [List.take_succ_eq_append_getElem hcl, List.set_append_right _ _ (by rw [List.length_take]; omega), List.length_take, Nat.min_eq_left (by omega), Nat.sub_self]
   rfl
  rw [e, show o + 1 + vs.length = o + (vs.length + 1) by omega]
  simp
def DelPostZ (T : TypeId) (n B : Nat) (w : World) (g cap p : Nat) (cs : List Value) (e : Ending) (w' : World) : Prop :=
 e = .returned (.slice (some ⟨g, 0, none⟩) p cap) /\ w'.ownsRow B T n (.slice (some ⟨g, 0, none⟩) p cap) p cs /\ w.grownBy w' (some g)
theorem infoI1 : (Tryz.prog.info? 3).map (fun i => (i.zero, i.size, i.bytes)) = some (some (.int .i64 0), 1, 8) := by kernel_rfl
theorem infoB1 : (Tryz.prog.info? 23).map (fun i => (i.zero, i.size, i.bytes)) = some (some (.slice none 0 0), 1, 24) := by kernel_rfl
abbrev zeroXI : List Value := [.int .i64 0]
theorem clearXI (w : World) (ty : TypeId) (b o c : Nat) (hc : ∀ j, j < 1 -> (w.cell? ⟨b, o + j, none⟩).isSome = true) (hf : ∀ j, j < 1 -> w.frozen? ⟨b, o + j, none⟩ = false) :
  (Builtin.clear_ #[47] ty #[.slice (some ⟨b, o, none⟩) 1 c]).run Tryz.prog w = .ok (.tuple #[]) (w.setCells b o zeroXI) := by
 have hst := run_storeCells_cells (P := Tryz.prog) b o zeroXI 0 w (by simpa using hc) (by simpa using hf) (by intro v hv; simp at hv; subst hv; rfl)
 simp only [Nat.add_zero] at hst
 have hv : ∀ w, (zeroValue 3).run Tryz.prog w = .ok (.int .i64 0) w := fun w => by kernel_rfl
 have hzc : (Builtin.zeroCells (Value.int .i64 0).cells 1).toList = zeroXI := by kernel_rfl
 simp [Builtin.clear_, run_underlying Tryz.underlying47, hv, hzc, hst]
set_option maxRecDepth 100000 in
set_option maxHeartbeats 8000000 in
theorem delXI_any (B : Nat) (w : World) (g p cap : Nat) (cs : List Value) (hown : w.ownsRow B 3 1 (.slice (some ⟨g, 0, none⟩) p cap) p cs) (k : Nat) (hk : k < p) (hp : p <= 1000000) (h1c : ∀ u ∈ cs, u.oneCell' = true) :
  Calls Tryz.prog 69 #[.slice (some ⟨g, 0, none⟩) p cap, .int .i64 k, .int .i64 ((k : Int) + 1)] w (DelPostZ 3 1 B w g cap (p - 1) (cs.take (k * 1) ++ cs.drop ((k + 1) * 1))) := by
 obtain ⟨i0, hi, hz0, hz1, hz2⟩ := info_parts infoI1
 have hcl := hown.1
 obtain ⟨cur, hB, hg, hpc, hcm, hcs, htake⟩ : ∃ cur, B <= g /\ w.heap[g]? = some (.cells cur 3 (0, 0)) /\ p <= cap /\ cap <= 9223372036854775807 /\ cur.size = cap * 1 /\ cur.toList.take (p * 1) = cs := by
  rcases hown.2 with ⟨h', _⟩ | ⟨g', cap', cur, h', hb, hg, hnc, hcm, hcs, htake⟩
  ·simp at h'
  ·simp only [Value.slice.injEq, Option.some.injEq, Addr.mk.injEq, and_true, true_and] at h'
   obtain ⟨rfl, rfl⟩ := h'
   exact ⟨cur, hb, hg, hnc, by unfold maxLen at hcm; omega, hcs, htake⟩
 have hcell : ∀ (W : World) (c : Array Value) (j : Nat), W.heap[g]? = some (.cells c 3 (0, 0)) -> j < c.size -> (W.cell? ⟨g, j, none⟩).isSome = true /\ W.frozen? ⟨g, j, none⟩ = false := fun W c j h hj => by
  refine ⟨?_, freeZ h j⟩
  simp only [World.cell?]
  rw [h]
  simp [hj]
 obtain ⟨news, hnews⟩ : ∃ news, news = cs.drop ((k + 1) * 1) := ⟨_, rfl⟩
 have hnl : news.length = (p - (k + 1)) * 1 := by rw [hnews, List.length_drop, hcl]; omega
 obtain ⟨A, hA, hsrc⟩ : ∃ A : Addr, (if cap = k + 1 then some (⟨g, 0, none⟩ : Addr) else some ⟨g, k + 1, none⟩) = some A /\ Hld (∀ t u, news[t]? = some u -> w.drew.cell? (A.add t) = some u) := by
  by_cases h : cap = k + 1
  ·refine ⟨⟨g, 0, none⟩, by simp [h], ⟨fun t u hu => ?_⟩⟩
   have h0 : news.length = 0 := by rw [hnl]; omega
   rw [List.length_eq_zero_iff.1 h0] at hu
   simp at hu
  ·refine ⟨⟨g, k + 1, none⟩, by simp [h], ⟨fun t u hu => ?_⟩⟩
   rw [addr_addZ]
   rw [hnews, List.getElem?_drop, <- htake, List.getElem?_take] at hu
   split at hu
   ·simp only [World.cell?]
    rw [show w.drew.heap[g]? = some (.cells cur 3 (0, 0)) from hg]
    simpa using hu
   ·cases hu
 have s1 : Hld (news.length = (p - (k + 1)) * 1) := ⟨hnl⟩
 have s2 : Hld (∀ u ∈ news, u.oneCell' = true) := ⟨fun u hu => h1c u (by rw [hnews] at hu; exact List.mem_of_mem_drop hu)⟩
 have s3 : Hld (∀ t, t < news.length -> (w.drew.cell? ⟨g, 0 + k * 1 + t, none⟩).isSome = true /\ w.drew.frozen? ⟨g, 0 + k * 1 + t, none⟩ = false) := ⟨fun t ht => hcell w.drew cur _ hg (by rw [hcs]; rw [hnl] at ht; omega)⟩
 obtain ⟨W1, hW1⟩ : ∃ W1, W1 = w.drew.setCells g (0 + k * 1) news := ⟨_, rfl⟩
 obtain ⟨cur1, hg1, hc1⟩ := setCells_heapZ g 3 news (0 + k * 1) w.drew cur hg (by rw [hcs, hnl]; omega)
 rw [<- hW1] at hg1
 have hs1 : cur1.size = cap * 1 := by
  have := congrArg List.length hc1
  simp only [List.length_append, List.length_take, List.length_drop, Array.length_toList] at this
  omega
 have hr1 := setCells_restZ g news (0 + k * 1) w.drew
 rw [<- hW1] at hr1
 obtain ⟨W2, hW2⟩ : ∃ W2, W2 = W1.setCells g (p - 1) zeroXI := ⟨_, rfl⟩
 obtain ⟨cur2, hg2, hc2⟩ := setCells_heapZ g 3 zeroXI (p - 1) W1 cur1 hg1 (by rw [hs1]; simp; omega)
 rw [<- hW2] at hg2
 have hr2 := setCells_restZ g zeroXI (p - 1) W1
 rw [<- hW2] at hr2
 have hclr : ∀ ty c, (Builtin.clear_ #[47] ty #[.slice (some ⟨g, p - 1, none⟩) 1 c]).run Tryz.prog W1 = .ok (.tuple #[]) W2 := fun ty c => by
  rw [hW2]
  exact clearXI W1 ty g (p - 1) c (fun j hj => (hcell W1 cur1 _ hg1 (by rw [hs1]; omega)).1) (fun j hj => (hcell W1 cur1 _ hg1 (by rw [hs1]; omega)).2)
 have HPOST : Hld (DelPostZ 3 1 B w g cap (p - 1) (cs.take (k * 1) ++ cs.drop ((k + 1) * 1)) (.returned (.slice (some ⟨g, 0, none⟩) (p - 1) cap)) W2) := ⟨by
  refine ⟨rfl, ⟨by rw [List.length_append, List.length_take, List.length_drop, hcl]; omega, .inr ⟨g, cap, cur2, rfl, hB, hg2, by omega, by unfold maxLen; omega, ?_, ?_⟩⟩, ?_⟩
  ·have := congrArg List.length hc2
   simp only [List.length_append, List.length_take, List.length_drop, Array.length_toList, List.length_cons, List.length_nil] at this
   omega
  ·have e0 : cur.toList.take (k * 1) = cs.take (k * 1) := by rw [<- htake, List.take_take]; congr 1; omega
   rw [Nat.mul_one, hc2, List.append_assoc, List.take_append_of_le_length (by rw [List.length_take, Array.length_toList, hs1]; omega), List.take_take, Nat.min_self, hc1, Nat.zero_add, e0, <- hnews]
   rw [List.take_append_of_le_length (by simp only [List.length_append, List.length_take, hnl]; omega), List.take_of_length_le (by simp only [List.length_append, List.length_take, hnl]; omega)]
  ·refine ⟨hr2.1.trans hr1.1, hr2.2.1.trans hr1.2.1, hr2.2.2.1.trans hr1.2.2.1, by rw [hr2.2.2.2.1, hr1.2.2.2.1]; exact Nat.le_refl _, fun q _ hq => ?_⟩
   have hqg : q ≠ g := fun e => hq (by rw [e])
   rw [hr2.2.2.2.2 q hqg, hr1.2.2.2.2 q hqg]
   rfl⟩
 have HI := Hld.mk (And.intro hi (And.intro hz0 (And.intro hz1 hz2)))
 have HW1 : Hld (W1 = w.drew.setCells g (0 + k * 1) news) := ⟨hW1⟩
 have hkc : k <= cap := by omega
 have hkc1 : k + 1 <= cap := by omega
 have hkp1 : (k : Int) + 1 <= (p : Int) := by omega
 have hpci : (p : Int) <= (cap : Int) := by omega
 have hkeq : ¬ ((k : Int) = (k : Int) + 1) := by omega
 have hck : ¬ (cap = k) := by omega
 have hcp1 : ¬ (cap = p - 1) := by omega
 have hkpn : k + (p - (k + 1)) = p - 1 := by omega
 have hpp1 : p - (p - 1) = 1 := by omega
 have htn : ((k : Int) + 1).toNat = k + 1 := by omega
 have hb1 : (0 : Int) <= (k : Int) + 1 := by omega
 have mixed : Tryz.prog.follows .mixedOrders = true := by kernel_rfl
 clear hown hcl hB hg hcs htake hcell hnews hnl hW1 hg1 hc1 hs1 hr1 hW2 hg2 hc2 hr2 hi hz0 hz1 hz2 h1c
 go_enter Tryz.func69, Tryz.ntmps69
 go_wp2_with fail
 go_region_law_o (refine step_append_room rfl (.tmp 22) (.tmp 25) 47 rfl 3 i0 1 Tryz.underlying47 HI.out.1 HI.out.2.2.1 g 0 k cap (by simp [Act.eval, Act.put]) A (p - (k + 1)) (cap - (k + 1)) news (by simp [Act.eval, Act.put]) s1.out hsrc.out s2.out (by omega) s3.out ?_; rw [<- HW1.out])
 go_wp2_with fail
 go_ret
 exact HPOST.out
abbrev zeroXB : List Value := [.slice none 0 0]
theorem clearXB (w : World) (ty : TypeId) (b o c : Nat) (hc : ∀ j, j < 1 -> (w.cell? ⟨b, o + j, none⟩).isSome = true) (hf : ∀ j, j < 1 -> w.frozen? ⟨b, o + j, none⟩ = false) :
  (Builtin.clear_ #[102] ty #[.slice (some ⟨b, o, none⟩) 1 c]).run Tryz.prog w = .ok (.tuple #[]) (w.setCells b o zeroXB) := by
 have hst := run_storeCells_cells (P := Tryz.prog) b o zeroXB 0 w (by simpa using hc) (by simpa using hf) (by intro v hv; simp at hv; subst hv; rfl)
 simp only [Nat.add_zero] at hst
 have hv : ∀ w, (zeroValue 23).run Tryz.prog w = .ok (.slice none 0 0) w := fun w => by kernel_rfl
 have hzc : (Builtin.zeroCells (Value.slice none 0 0).cells 1).toList = zeroXB := by kernel_rfl
 simp [Builtin.clear_, run_underlying Tryz.underlying102, hv, hzc, hst]
set_option maxRecDepth 100000 in
set_option maxHeartbeats 8000000 in
theorem delXB_any (B : Nat) (w : World) (g p cap : Nat) (cs : List Value) (hown : w.ownsRow B 23 1 (.slice (some ⟨g, 0, none⟩) p cap) p cs) (k : Nat) (hk : k < p) (hp : p <= 1000000) (h1c : ∀ u ∈ cs, u.oneCell' = true) :
  Calls Tryz.prog 68 #[.slice (some ⟨g, 0, none⟩) p cap, .int .i64 k, .int .i64 ((k : Int) + 1)] w (DelPostZ 23 1 B w g cap (p - 1) (cs.take (k * 1) ++ cs.drop ((k + 1) * 1))) := by
 obtain ⟨i0, hi, hz0, hz1, hz2⟩ := info_parts infoB1
 have hcl := hown.1
 obtain ⟨cur, hB, hg, hpc, hcm, hcs, htake⟩ : ∃ cur, B <= g /\ w.heap[g]? = some (.cells cur 23 (0, 0)) /\ p <= cap /\ cap <= 9223372036854775807 /\ cur.size = cap * 1 /\ cur.toList.take (p * 1) = cs := by
  rcases hown.2 with ⟨h', _⟩ | ⟨g', cap', cur, h', hb, hg, hnc, hcm, hcs, htake⟩
  ·simp at h'
  ·simp only [Value.slice.injEq, Option.some.injEq, Addr.mk.injEq, and_true, true_and] at h'
   obtain ⟨rfl, rfl⟩ := h'
   exact ⟨cur, hb, hg, hnc, by unfold maxLen at hcm; omega, hcs, htake⟩
 have hcell : ∀ (W : World) (c : Array Value) (j : Nat), W.heap[g]? = some (.cells c 23 (0, 0)) -> j < c.size -> (W.cell? ⟨g, j, none⟩).isSome = true /\ W.frozen? ⟨g, j, none⟩ = false := fun W c j h hj => by
  refine ⟨?_, freeZ h j⟩
  simp only [World.cell?]
  rw [h]
  simp [hj]
 obtain ⟨news, hnews⟩ : ∃ news, news = cs.drop ((k + 1) * 1) := ⟨_, rfl⟩
 have hnl : news.length = (p - (k + 1)) * 1 := by rw [hnews, List.length_drop, hcl]; omega
 obtain ⟨A, hA, hsrc⟩ : ∃ A : Addr, (if cap = k + 1 then some (⟨g, 0, none⟩ : Addr) else some ⟨g, k + 1, none⟩) = some A /\ Hld (∀ t u, news[t]? = some u -> w.drew.cell? (A.add t) = some u) := by
  by_cases h : cap = k + 1
  ·refine ⟨⟨g, 0, none⟩, by simp [h], ⟨fun t u hu => ?_⟩⟩
   have h0 : news.length = 0 := by rw [hnl]; omega
   rw [List.length_eq_zero_iff.1 h0] at hu
   simp at hu
  ·refine ⟨⟨g, k + 1, none⟩, by simp [h], ⟨fun t u hu => ?_⟩⟩
   rw [addr_addZ]
   rw [hnews, List.getElem?_drop, <- htake, List.getElem?_take] at hu
   split at hu
   ·simp only [World.cell?]
    rw [show w.drew.heap[g]? = some (.cells cur 23 (0, 0)) from hg]
    simpa using hu
   ·cases hu
 have s1 : Hld (news.length = (p - (k + 1)) * 1) := ⟨hnl⟩
 have s2 : Hld (∀ u ∈ news, u.oneCell' = true) := ⟨fun u hu => h1c u (by rw [hnews] at hu; exact List.mem_of_mem_drop hu)⟩
 have s3 : Hld (∀ t, t < news.length -> (w.drew.cell? ⟨g, 0 + k * 1 + t, none⟩).isSome = true /\ w.drew.frozen? ⟨g, 0 + k * 1 + t, none⟩ = false) := ⟨fun t ht => hcell w.drew cur _ hg (by rw [hcs]; rw [hnl] at ht; omega)⟩
 obtain ⟨W1, hW1⟩ : ∃ W1, W1 = w.drew.setCells g (0 + k * 1) news := ⟨_, rfl⟩
 obtain ⟨cur1, hg1, hc1⟩ := setCells_heapZ g 23 news (0 + k * 1) w.drew cur hg (by rw [hcs, hnl]; omega)
 rw [<- hW1] at hg1
 have hs1 : cur1.size = cap * 1 := by
  have := congrArg List.length hc1
  simp only [List.length_append, List.length_take, List.length_drop, Array.length_toList] at this
  omega
 have hr1 := setCells_restZ g news (0 + k * 1) w.drew
 rw [<- hW1] at hr1
 obtain ⟨W2, hW2⟩ : ∃ W2, W2 = W1.setCells g (p - 1) zeroXB := ⟨_, rfl⟩
 obtain ⟨cur2, hg2, hc2⟩ := setCells_heapZ g 23 zeroXB (p - 1) W1 cur1 hg1 (by rw [hs1]; simp; omega)
 rw [<- hW2] at hg2
 have hr2 := setCells_restZ g zeroXB (p - 1) W1
 rw [<- hW2] at hr2
 have hclr : ∀ ty c, (Builtin.clear_ #[102] ty #[.slice (some ⟨g, p - 1, none⟩) 1 c]).run Tryz.prog W1 = .ok (.tuple #[]) W2 := fun ty c => by
  rw [hW2]
  exact clearXB W1 ty g (p - 1) c (fun j hj => (hcell W1 cur1 _ hg1 (by rw [hs1]; omega)).1) (fun j hj => (hcell W1 cur1 _ hg1 (by rw [hs1]; omega)).2)
 have HPOST : Hld (DelPostZ 23 1 B w g cap (p - 1) (cs.take (k * 1) ++ cs.drop ((k + 1) * 1)) (.returned (.slice (some ⟨g, 0, none⟩) (p - 1) cap)) W2) := ⟨by
  refine ⟨rfl, ⟨by rw [List.length_append, List.length_take, List.length_drop, hcl]; omega, .inr ⟨g, cap, cur2, rfl, hB, hg2, by omega, by unfold maxLen; omega, ?_, ?_⟩⟩, ?_⟩
  ·have := congrArg List.length hc2
   simp only [List.length_append, List.length_take, List.length_drop, Array.length_toList, List.length_cons, List.length_nil] at this
   omega
  ·have e0 : cur.toList.take (k * 1) = cs.take (k * 1) := by rw [<- htake, List.take_take]; congr 1; omega
   rw [Nat.mul_one, hc2, List.append_assoc, List.take_append_of_le_length (by rw [List.length_take, Array.length_toList, hs1]; omega), List.take_take, Nat.min_self, hc1, Nat.zero_add, e0, <- hnews]
   rw [List.take_append_of_le_length (by simp only [List.length_append, List.length_take, hnl]; omega), List.take_of_length_le (by simp only [List.length_append, List.length_take, hnl]; omega)]
  ·refine ⟨hr2.1.trans hr1.1, hr2.2.1.trans hr1.2.1, hr2.2.2.1.trans hr1.2.2.1, by rw [hr2.2.2.2.1, hr1.2.2.2.1]; exact Nat.le_refl _, fun q _ hq => ?_⟩
   have hqg : q ≠ g := fun e => hq (by rw [e])
   rw [hr2.2.2.2.2 q hqg, hr1.2.2.2.2 q hqg]
   rfl⟩
 have HI := Hld.mk (And.intro hi (And.intro hz0 (And.intro hz1 hz2)))
 have HW1 : Hld (W1 = w.drew.setCells g (0 + k * 1) news) := ⟨hW1⟩
 have hkc : k <= cap := by omega
 have hkc1 : k + 1 <= cap := by omega
 have hkp1 : (k : Int) + 1 <= (p : Int) := by omega
 have hpci : (p : Int) <= (cap : Int) := by omega
 have hkeq : ¬ ((k : Int) = (k : Int) + 1) := by omega
 have hck : ¬ (cap = k) := by omega
 have hcp1 : ¬ (cap = p - 1) := by omega
 have hkpn : k + (p - (k + 1)) = p - 1 := by omega
 have hpp1 : p - (p - 1) = 1 := by omega
 have htn : ((k : Int) + 1).toNat = k + 1 := by omega
 have hb1 : (0 : Int) <= (k : Int) + 1 := by omega
 have mixed : Tryz.prog.follows .mixedOrders = true := by kernel_rfl
 clear hown hcl hB hg hcs htake hcell hnews hnl hW1 hg1 hc1 hs1 hr1 hW2 hg2 hc2 hr2 hi hz0 hz1 hz2 h1c
 go_enter Tryz.func68, Tryz.ntmps68
 go_wp2_with fail
 go_region_law_o (refine step_append_room rfl (.tmp 22) (.tmp 25) 102 rfl 23 i0 1 Tryz.underlying102 HI.out.1 HI.out.2.2.1 g 0 k cap (by simp [Act.eval, Act.put]) A (p - (k + 1)) (cap - (k + 1)) news (by simp [Act.eval, Act.put]) s1.out hsrc.out s2.out (by omega) s3.out ?_; rw [<- HW1.out])
 go_wp2_with fail
 go_ret
 exact HPOST.out
end Go.Proofs.YtmiphphombkpdaaGreat
