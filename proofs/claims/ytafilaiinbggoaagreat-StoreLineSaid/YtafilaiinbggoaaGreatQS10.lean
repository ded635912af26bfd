import Derived.Test.YtafilaiinbggoaaGreatQS02
import Derived.Test.YtafilaiinbggoaaGreatQS09
namespace Go.Proofs.YtafilaiinbggoaaGreat
open Go.Shelf Go.RowKit
set_option maxHeartbeats 8000000 in
set_option maxRecDepth 100000 in
theorem insInt_end (B : Nat) (w : World) (sl : Value) (p : Nat) (cs : List Value) (hown : w.ownsRow B 3 1 sl p cs) (H : Nat) (d : List Value) (hH : w.heap[H]? = some (.cells d.toArray 3 (0, 0))) (hd : d.length = 1)
  (h1 : ∀ u ∈ d, u.oneCell' = true) (hBw : B <= w.heap.size) (hp : p <= 1000000) :
  Calls Tryz.prog 51 #[sl, .int .i64 p, .slice (some ⟨H, 0, none⟩) 1 1] w (InsPost 3 1 B w sl p (cs.take (p * 1) ++ d ++ cs.drop (p * 1))) := by
 have hcl := hown.1
 rw [List.take_of_length_le (by omega), List.drop_eq_nil_iff.2 (by omega), List.append_nil]
 obtain ⟨i0, hi, hz0, hz1, hz2⟩ := info_parts (show (Tryz.prog.info? 3).map (fun i => (i.zero, i.size, i.bytes)) = some (some (.int .i64 0), 1, 8) by kernel_rfl)
 have HOW := Hld.mk hown
 have HI := Hld.mk (And.intro hi (And.intro hz0 (And.intro hz1 hz2)))
 have HN := Hld.mk (World.news_of_block (w := w) hH)
 have H1 := Hld.mk h1
 have HD : Hld (d.length = 1 * 1) := ⟨by omega⟩
 have HCL := Hld.mk hcl
 obtain ⟨ao, cap, hsl, hpc, hcap⟩ : ∃ ao cap, sl = .slice ao p cap /\ p <= cap /\ cap <= 9223372036854775807 := by
  rcases hown.2 with ⟨hv, hn⟩ | ⟨g, cap, cur, hv, _, _, h2, h3, _⟩
  ·exact ⟨none, 0, by rw [hv, hn], by omega, by omega⟩
  ·exact ⟨_, cap, hv, h2, by unfold maxLen at h3; omega⟩
 clear hown hi hz0 hz1 hz2 hH h1 hd hcl
 subst hsl
 cases ao with
 | none =>
  go_enter Tryz.func51, Tryz.ntmps51
  go_wp2_with (at_builtin; refine wpList_append_lies _ rfl (.tmp 23) (.tmp 24) 91 rfl B 3 i0 (.int .i64 0) 1 8 Tryz.underlying91 HI.out.1 HI.out.2.1 HI.out.2.2.1 HI.out.2.2.2 rfl (by decide) _ p cs rfl HOW.out ⟨H, 0, none⟩ 1 1 d rfl HD.out HN.out H1.out (by decide) (by unfold maxLen; omega) (by omega) hBw _ rfl ?_)
  all_goals
   intro g cap2 w3 hown hgr hgg _
   have HP := Hld.mk (show InsPost 3 1 B w (.slice none p cap) p (cs ++ d) (.returned (.slice (some ⟨g, 0, none⟩) (p + 1) cap2)) w3 from ⟨_, rfl, hown, hgr, fun q hq => by
    obtain rfl : g = q := by simpa [Value.ownBlock] using hq
    exact hgg.imp id (fun h => by omega)⟩)
   clear hown hgr hgg
   go_wp2_with fail
   go_ret
   exact HP.out
 | some a =>
  obtain ⟨ab, ao, asp⟩ := a
  go_enter Tryz.func51, Tryz.ntmps51
  go_wp2_with (at_builtin; refine wpList_append_lies _ rfl (.tmp 23) (.tmp 24) 91 rfl B 3 i0 (.int .i64 0) 1 8 Tryz.underlying91 HI.out.1 HI.out.2.1 HI.out.2.2.1 HI.out.2.2.2 rfl (by decide) _ p cs rfl HOW.out ⟨H, 0, none⟩ 1 1 d rfl HD.out HN.out H1.out (by decide) (by unfold maxLen; omega) (by omega) hBw _ rfl ?_)
  all_goals
   intro g cap2 w3 hown hgr hgg _
   have HP := Hld.mk (show InsPost 3 1 B w (.slice (some ⟨ab, ao, asp⟩) p cap) p (cs ++ d) (.returned (.slice (some ⟨g, 0, none⟩) (p + 1) cap2)) w3 from ⟨_, rfl, hown, hgr, fun q hq => by
    obtain rfl : g = q := by simpa [Value.ownBlock] using hq
    exact hgg.imp id (fun h => by omega)⟩)
   clear hown hgr hgg
   go_wp2_with fail
   go_ret
   exact HP.out
set_option maxHeartbeats 8000000 in
set_option maxRecDepth 100000 in
theorem insInt_room (B : Nat) (w : World) (g p cap : Nat) (cur : Array Value) (cs : List Value) (hB : B <= g) (hg : w.heap[g]? = some (.cells cur 3 (0, 0))) (hcur : cur.size = cap * 1) (hcs : cur.toList.take (p * 1) = cs) (hcap : cap <= 9223372036854775807) (k : Nat) (hk : k < p) (hroom : p + 1 <= cap) (H : Nat) (d : List Value) (hH : w.heap[H]? = some (.cells d.toArray 3 (0, 0))) (hd : d.length = 1)
  (h1 : ∀ u ∈ d, u.oneCell' = true) (h1c : ∀ u ∈ cs, u.oneCell' = true) (hne : H ≠ g) :
  Calls Tryz.prog 51 #[.slice (some ⟨g, 0, none⟩) p cap, .int .i64 k, .slice (some ⟨H, 0, none⟩) 1 1] w (InsPost 3 1 B w (.slice (some ⟨g, 0, none⟩) p cap) p (cs.take (k * 1) ++ d ++ cs.drop (k * 1))) := by
 have hsz : (Tryz.prog.info? 3).map (·.size) = some 1 := by kernel_rfl
 have hcl : cs.length = p * 1 := by rw [<- hcs, List.length_take, Array.length_toList]; omega
 have hglt : g < w.heap.size := (Array.getElem?_eq_some_iff.1 hg).1
 have hov : ∀ off lb cb, (callFunc 76 #[.slice (some ⟨H, 0, none⟩) 1 1, .slice (some ⟨g, off, none⟩) lb cb]).run Tryz.prog w = .ok (.value (.bool false)) w := fun off lb cb => by
  rw [run_callFunc_extern Tryz.func76 (by kernel_rfl) (by kernel_rfl) (by kernel_rfl) (e := Extern.SlicesOverlaps.overlaps #[91, 91] #[4]) (by kernel_rfl),
   Lib.run_overlaps_apart w 91 4 3 Tryz.underlying91 1 Tryz.sizeOf3 ⟨H, 0, none⟩ ⟨g, off, none⟩ 1 1 lb cb hne 3 3 d.toArray.size cur.size (by simp [World.shape?, hH]) (by simp [World.shape?, hg]) (by omega) (by simp [World.frozen?, hH]) (by simp [World.frozen?, hH])]
  rfl
 obtain ⟨C1, hC1⟩ : ∃ C1 : List Value, C1 = cur.toList.take (k * 1 + 1) ++ cs.drop (k * 1) ++ cur.toList.drop (p * 1 + 1) := ⟨_, rfl⟩
 have hC1l : C1.length = cur.size := by rw [hC1]; simp only [List.length_append, List.length_take, List.length_drop, Array.length_toList]; omega
 obtain ⟨W1, hW1⟩ : ∃ W1, W1 = w.drew.setRow g C1.toArray := ⟨_, rfl⟩
 have hW1g : W1.heap[g]? = some (.cells C1.toArray 3 (0, 0)) := by rw [hW1]; exact setRow_heap w.drew g cur _ _ _ hg
 have hW1H : W1.heap[H]? = some (.cells d.toArray 3 (0, 0)) := by rw [hW1, setRow_other _ _ _ _ hne]; exact hH
 have hcp1 : ∀ ty dc sc, (Builtin.copy_ #[91, 91] ty #[.slice (some ⟨g, (k + 1) * 1, none⟩) (p - k) dc, .slice (some ⟨g, k * 1, none⟩) (p + 1 - k) sc]).run Tryz.prog w.drew = .ok (goInt ((p - k : Nat) : Int)) W1 := fun ty dc sc => by
  rw [show (k + 1) * 1 = k * 1 + 1 from Nat.succ_mul k 1, run_copy_rowN w.drew _ _ ty 3 1 (p - k) g (k * 1 + 1) (p - k) dc ⟨g, k * 1, none⟩ (p + 1 - k) sc cur 3 (cs.drop (k * 1)) Tryz.underlying91 hsz hg (by simp only [Nat.min_def]; split <;> omega) (by rw [List.length_drop, hcl]; omega)
   (fun j v hj => by
    rw [Addr.add_lit]
    rw [List.getElem?_drop, <- hcs, List.getElem?_take] at hj
    split at hj
    ·simp only [World.cell?]; rw [show w.drew.heap[g]? = some (.cells cur 3 (0, 0)) from hg]; simpa using hj
    ·cases hj)
   (by rw [List.length_drop, hcl]; omega) (fun v hv => h1c v (List.mem_of_mem_drop hv)), hW1, hC1, show k * 1 + 1 + (cs.drop (k * 1)).length = p * 1 + 1 by rw [List.length_drop, hcl]; omega]
 obtain ⟨R2, hR2⟩ : ∃ R2 : List Value, R2 = C1.take (k * 1) ++ d ++ C1.drop (k * 1 + 1) := ⟨_, rfl⟩
 have hcp2 : ∀ (W : World), W.heap = W1.heap -> ∀ ty dc, (Builtin.copy_ #[91, 91] ty #[.slice (some ⟨g, k * 1, none⟩) (p + 1 - k) dc, .slice (some ⟨H, 0, none⟩) 1 1]).run Tryz.prog W = .ok (goInt 1) (W.setRow g R2.toArray) := fun W hW ty dc => by
  rw [run_copy_rowN W _ _ ty 3 1 1 g (k * 1) (p + 1 - k) dc ⟨H, 0, none⟩ 1 1 C1.toArray 3 d Tryz.underlying91 hsz (by rw [hW]; exact hW1g) (by simp only [Nat.min_def]; split <;> omega) (by rw [hd])
   (fun j v hj => by
    rw [Addr.add_lit]
    simp only [World.cell?]; rw [hW, hW1H]; simpa using hj)
   (by rw [hd, List.size_toArray, hC1l]; omega) h1, hd, List.toList_toArray, hR2]
  rfl
 have hfin : R2 = cs.take (k * 1) ++ d ++ cs.drop (k * 1) ++ cur.toList.drop (p * 1 + 1) := by
  rw [hR2, hC1]; exact row_shift cur.toList cs d (k * 1) 1 (p * 1) (by omega) hcs (by rw [Array.length_toList]; omega) hd
 have HPOST : ∀ (W : World), W.heap = W1.heap -> W.os = w.os -> W.tape = w.tape -> W.output = w.output -> Hld (InsPost 3 1 B w (.slice (some ⟨g, 0, none⟩) p cap) p (cs.take (k * 1) ++ d ++ cs.drop (k * 1)) (.returned (.slice (some ⟨g, 0, none⟩) (p + 1) cap)) (W.setRow g R2.toArray)) := fun W hW ho ht hu => ⟨_, rfl, by
   refine ⟨by simp only [List.length_append, List.length_take, List.length_drop]; omega, .inr ⟨g, cap, _, rfl, hB, setRow_heap W g C1.toArray _ _ _ (by rw [hW]; exact hW1g), hroom, by unfold maxLen; omega, ?_, ?_⟩⟩
   ·rw [hfin]; simp only [List.size_toArray, List.length_append, List.length_take, List.length_drop, Array.length_toList]; omega
   ·rw [hfin]
    show List.take _ (_ ++ _) = _
    rw [List.take_append_of_le_length (by simp only [List.length_append, List.length_take, List.length_drop]; omega), List.take_of_length_le (by simp only [List.length_append, List.length_take, List.length_drop]; omega)],
  ⟨ho, ht, hu, by rw [setRow_size, hW, hW1, setRow_size]; exact Nat.le_refl _, fun q hq hqn => by
   have hqg : q ≠ g := fun e => hqn (by rw [e]; rfl)
   rw [setRow_other _ _ _ _ hqg, hW, hW1, setRow_other _ _ _ _ hqg]; rfl⟩, fun q hq => .inl hq⟩
 have hin : k <= p := by omega
 have hin1 : (k : Int) <= (p : Int) + 1 := by omega
 have hpk1 : p + 1 - (k + 1) = p - k := by omega
 have hck : ¬ (cap = k) := by omega
 have hck1 : ¬ (cap = k + 1) := by omega
 have hz2 : ¬ ((k : Int) = (p : Int)) := by omega
 have hb1 : (0 : Int) <= (k : Int) + 1 := by omega
 have htn : ((k : Int) + 1).toNat = k + 1 := by omega
 have hw1 : IntKind.i64.wrap ((k : Int) + 1) = (k : Int) + 1 := by rw [IntKind.wrap_i64]; omega
 have HW1 := Hld.mk hW1
 clear hg hH hW1g hW1H hC1 hfin hR2 hW1 hcl hcur hcs hC1l
 generalize cs.take (k * 1) ++ d ++ cs.drop (k * 1) = CC at HPOST |-
 simp only [Nat.mul_one] at hcp1 hcp2
 go_enter Tryz.func51, Tryz.ntmps51
 go_wp2_with (simp only [hov])
 go_region_law (refine step_copy_runI rfl _ _ 91 91 rfl _ _ (by simp [Act.eval, Act.put]) (by simp [Act.eval, Act.put]) (hcp1 _ _ _) ?_)
 go_wp2_with (at_builtin; refine wpList_copy_runI _ rfl _ _ 91 91 rfl _ _ rfl rfl (hcp2 _ rfl _ _) ?_)
 go_ret
 exact (HPOST _ rfl (by rw [HW1.out]; rfl) (by rw [HW1.out]; rfl) (by rw [HW1.out]; rfl)).out
set_option maxHeartbeats 8000000 in
set_option maxRecDepth 100000 in
theorem insInt_grow (B : Nat) (w : World) (hBw : B <= w.heap.size) (g p cap : Nat) (cur : Array Value) (cs : List Value) (hg : w.heap[g]? = some (.cells cur 3 (0, 0))) (hcs : cur.toList.take (p * 1) = cs) (hcl : cs.length = p * 1) (hcap : p <= cap) (hp : p <= 1000000) (k : Nat) (hk : k < p) (hroom : cap < p + 1) (H : Nat) (d : List Value) (hH : w.heap[H]? = some (.cells d.toArray 3 (0, 0))) (hd : d.length = 1)
  (h1 : ∀ u ∈ d, u.oneCell' = true) (h1c : ∀ u ∈ cs, u.oneCell' = true) :
  Calls Tryz.prog 51 #[.slice (some ⟨g, 0, none⟩) p cap, .int .i64 k, .slice (some ⟨H, 0, none⟩) 1 1] w (InsPost 3 1 B w (.slice (some ⟨g, 0, none⟩) p cap) p (cs.take (k * 1) ++ d ++ cs.drop (k * 1))) := by
 obtain ⟨i0, hi0, hz0, hzs, hzb⟩ := info_parts (show (Tryz.prog.info? 3).map (fun i => (i.zero, i.size, i.bytes)) = some (some (.int .i64 0), 1, 8) by kernel_rfl)
 have hsz : (Tryz.prog.info? 3).map (·.size) = some 1 := by kernel_rfl
 have hglt : g < w.heap.size := (Array.getElem?_eq_some_iff.1 hg).1
 have hHlt : H < w.heap.size := (Array.getElem?_eq_some_iff.1 hH).1
 have hold : (Builtin.firstCells i0.size k (.slice (some ⟨g, 0, none⟩) k cap)).run Tryz.prog w.drew = .ok (cs.take (k * 1)).toArray w.drew := by
  rw [hzs]
  exact run_firstCells_some w.drew 1 k ⟨g, 0, none⟩ k cap (cs.take (k * 1)) (by rw [List.length_take]; omega) (fun j v hj => by
   rw [Addr.add_lit]
   rw [List.getElem?_take] at hj
   split at hj
   ·rw [<- hcs, List.getElem?_take] at hj
    split at hj
    ·simp only [World.cell?]; rw [show w.drew.heap[g]? = some (.cells cur 3 (0, 0)) from hg]; simpa using hj
    ·cases hj
   ·cases hj)
 have hkk : (p : Int) + 1 - (k : Int) = ((p + 1 - k : Nat) : Int) := by omega
 have hik : k + (p + 1 - k) = p + 1 := by omega
 obtain ⟨G, hG⟩ : ∃ G, G = grownCap w (p + 1) cap 3 := ⟨_, rfl⟩
 have hGn : p + 1 <= G := by rw [hG]; exact grownCap_ge w _ _ _
 have hG63 : G <= 9223372036854775807 := by
  have := grownCap_le_maxLen w (p + 1) cap 3 (by unfold maxLen; omega)
  rw [<- hG] at this
  unfold maxLen at this
  omega
 obtain ⟨Z, hZ⟩ : ∃ Z : List Value, Z = (Builtin.zeroCells (Value.cells (.int .i64 0)) (p + 1 - k)).toList ++ (Builtin.zeroCells (Value.cells (.int .i64 0)) (G - (p + 1))).toList := ⟨_, rfl⟩
 have hzl : ∀ q, (Builtin.zeroCells (Value.cells (.int .i64 0)) q).toList.length = q * 1 := fun q => by
  have e : (Value.cells (.int .i64 0)).size = 1 := rfl
  simp [Builtin.zeroCells, e]
 have hZl : Z.length = (G - k) * 1 := by rw [hZ, List.length_append, hzl, hzl]; omega
 obtain ⟨ROW, hROW⟩ : ∃ ROW : List Value, ROW = cs.take (k * 1) ++ Z := ⟨_, rfl⟩
 have hROWl : ROW.length = G * 1 := by rw [hROW, List.length_append, hZl, List.length_take]; omega
 obtain ⟨W1, hW1⟩ : ∃ W1, W1 = w.drew.alloc (.cells ROW.toArray 3) := ⟨_, rfl⟩
 have hrz : ∀ ty, (Builtin.append_ #[91, 3] ty #[.slice (some ⟨g, 0, none⟩) k cap, .int .i64 ((p : Int) + 1 - (k : Int))]).run Tryz.prog w = .ok (.slice (some ⟨w.heap.size, 0, none⟩) (p + 1) G) W1 := fun ty => by
  have h := Lib.run_append_grow_zeros w 91 3 ty 3 i0 _ .i64 .i64 Tryz.underlying91 Tryz.underlying3 hi0 hz0 (some ⟨g, 0, none⟩) k cap (cs.take (k * 1)) hold (p + 1 - k) (by omega) (by omega) (by omega) (by omega) (by rw [hzb]; omega) (by rw [hzb, hik]; exact growslice_fits hroom (by omega))
  rw [hik, <- hG] at h
  rw [hkk, h, hW1, hROW, hZ]
  congr 3
  simp
 have hW1g : W1.heap[g]? = some (.cells cur 3 (0, 0)) := by rw [hW1]; exact al_kept hg
 have hW1H : W1.heap[H]? = some (.cells d.toArray 3 (0, 0)) := by rw [hW1]; exact al_kept hH
 have hW1N : W1.heap[w.heap.size]? = some (.cells ROW.toArray 3 (0, 0)) := by rw [hW1]; exact heap_alloc_new w.drew _
 obtain ⟨R1, hR1⟩ : ∃ R1 : List Value, R1 = ROW.take (k * 1) ++ d ++ ROW.drop (k * 1 + 1) := ⟨_, rfl⟩
 have hR1l : R1.length = G * 1 := by rw [hR1]; simp only [List.length_append, List.length_take, List.length_drop]; omega
 obtain ⟨W2, hW2⟩ : ∃ W2, W2 = W1.setRow w.heap.size R1.toArray := ⟨_, rfl⟩
 have hcp1 : ∀ ty dc, (Builtin.copy_ #[91, 91] ty #[.slice (some ⟨w.heap.size, k * 1, none⟩) (p + 1 - k) dc, .slice (some ⟨H, 0, none⟩) 1 1]).run Tryz.prog W1 = .ok (goInt 1) W2 := fun ty dc => by
  rw [run_copy_rowN W1 _ _ ty 3 1 1 w.heap.size (k * 1) (p + 1 - k) dc ⟨H, 0, none⟩ 1 1 ROW.toArray 3 d Tryz.underlying91 hsz hW1N (by simp only [Nat.min_def]; split <;> omega) (by rw [hd])
   (fun j v hj => by
    rw [Addr.add_lit]
    simp only [World.cell?]; rw [hW1H]; simpa using hj)
   (by rw [hd, List.size_toArray, hROWl]; omega) h1, hd, List.toList_toArray, hW2, hR1]
  rfl
 have hgN : g ≠ w.heap.size := by omega
 have hW2g : W2.heap[g]? = some (.cells cur 3 (0, 0)) := by rw [hW2, setRow_other _ _ _ _ hgN]; exact hW1g
 have hW2N : W2.heap[w.heap.size]? = some (.cells R1.toArray 3 (0, 0)) := by rw [hW2]; exact setRow_heap W1 _ _ _ _ _ hW1N
 obtain ⟨R2, hR2⟩ : ∃ R2 : List Value, R2 = R1.take (k * 1 + 1) ++ cs.drop (k * 1) ++ R1.drop (p * 1 + 1) := ⟨_, rfl⟩
 obtain ⟨W3, hW3⟩ : ∃ W3, W3 = W2.drew.setRow w.heap.size R2.toArray := ⟨_, rfl⟩
 have hcp2 : ∀ ty dc sc, (Builtin.copy_ #[91, 91] ty #[.slice (some ⟨w.heap.size, (k + 1) * 1, none⟩) (p - k) dc, .slice (some ⟨g, k * 1, none⟩) (p - k) sc]).run Tryz.prog W2.drew = .ok (goInt ((p - k : Nat) : Int)) W3 := fun ty dc sc => by
  rw [show (k + 1) * 1 = k * 1 + 1 from Nat.succ_mul k 1, run_copy_rowN W2.drew _ _ ty 3 1 (p - k) w.heap.size (k * 1 + 1) (p - k) dc ⟨g, k * 1, none⟩ (p - k) sc R1.toArray 3 (cs.drop (k * 1)) Tryz.underlying91 hsz hW2N (by simp only [Nat.min_def]; split <;> omega) (by rw [List.length_drop, hcl]; omega)
   (fun j v hj => by
    rw [Addr.add_lit]
    rw [List.getElem?_drop, <- hcs, List.getElem?_take] at hj
    split at hj
    ·simp only [World.cell?]; rw [show W2.drew.heap[g]? = some (.cells cur 3 (0, 0)) from hW2g]; simpa using hj
    ·cases hj)
   (by rw [List.length_drop, hcl, List.size_toArray, hR1l]; omega) (fun v hv => h1c v (List.mem_of_mem_drop hv)), hW3, hR2, List.toList_toArray, show k * 1 + 1 + (cs.drop (k * 1)).length = p * 1 + 1 by rw [List.length_drop, hcl]; omega]
 have hfin : R2 = cs.take (k * 1) ++ d ++ cs.drop (k * 1) ++ Z.drop (p * 1 + 1 - k * 1) := by
  rw [hR2, hR1, hROW]; exact row_new cs d Z (k * 1) 1 (p * 1) (by omega) hcl hd
 have HPOST : Hld (InsPost 3 1 B w (.slice (some ⟨g, 0, none⟩) p cap) p (cs.take (k * 1) ++ d ++ cs.drop (k * 1)) (.returned (.slice (some ⟨w.heap.size, 0, none⟩) (p + 1) G)) W3) := ⟨_, rfl, by
   refine ⟨by simp only [List.length_append, List.length_take, List.length_drop]; omega, .inr ⟨w.heap.size, G, R2.toArray, rfl, hBw, by rw [hW3]; exact setRow_heap W2.drew _ _ _ _ _ hW2N, hGn, by unfold maxLen; omega, ?_, ?_⟩⟩
   ·rw [hfin]; simp only [List.size_toArray, List.length_append, List.length_take, List.length_drop]; omega
   ·rw [hfin]
    show List.take _ (_ ++ _) = _
    rw [List.take_append_of_le_length (by simp only [List.length_append, List.length_take, List.length_drop]; omega), List.take_of_length_le (by simp only [List.length_append, List.length_take, List.length_drop]; omega)],
  ⟨by rw [hW3, hW2, hW1]; rfl, by rw [hW3, hW2, hW1]; rfl, by rw [hW3, hW2, hW1]; rfl, by rw [hW3, setRow_size]; show _ <= W2.heap.size; rw [hW2, setRow_size, hW1]; simp, fun q hq hqn => by
   have hqg : q ≠ w.heap.size := by omega
   rw [hW3, setRow_other _ _ _ _ hqg]
   show W2.heap[q]? = _
   rw [hW2, setRow_other _ _ _ _ hqg, hW1]
   exact Below.heap_alloc w.drew _ q hq⟩, fun q hq => by
    obtain rfl : w.heap.size = q := by simpa [Value.ownBlock] using hq
    exact .inr (Nat.le_refl _)⟩
 have hin : k <= p := by omega
 have hin1 : (k : Int) <= (p : Int) + 1 := by omega
 have hpk1 : p + 1 - (k + 1) = p - k := by omega
 have hck : ¬ (cap = k) := by omega
 have hGk : ¬ (G = k) := by omega
 have hGk1 : ¬ (G = k + 1) := by omega
 have hz2 : ¬ ((k : Int) = (p : Int)) := by omega
 have hz3 : (cap : Int) < (p : Int) + 1 := by omega
 have hb1 : (0 : Int) <= (k : Int) + 1 := by omega
 have htn : ((k : Int) + 1).toNat = k + 1 := by omega
 have hw1 : IntKind.i64.wrap ((k : Int) + 1) = (k : Int) + 1 := by rw [IntKind.wrap_i64]; omega
 clear hg hH hW1g hW1H hW1N hW2g hW2N hfin hR2 hR1 hW1 hW2 hW3 hROW hZ hcl hcs hZl hROWl hR1l hkk hik hG hold hi0 hz0 hzs hzb hzl hsz
 generalize cs.take (k * 1) ++ d ++ cs.drop (k * 1) = CC at HPOST |-
 simp only [Nat.mul_one] at hcp1 hcp2
 go_enter Tryz.func51, Tryz.ntmps51
 go_wp2_with (first
  | (at_builtin; refine Lib.wpList_append_run _ rfl _ _ _ _ rfl _ _ rfl rfl _ _ (hrz _) ?_)
  | (at_builtin; refine wpList_copy_runI _ rfl _ _ 91 91 rfl _ _ rfl rfl (hcp1 _ _) ?_))
 go_region_law (refine step_copy_runI rfl _ _ 91 91 rfl _ _ (by simp [Act.eval, Act.put]) (by simp [Act.eval, Act.put]) (hcp2 _ _ _) ?_)
 go_wp2_with fail
 go_ret
 exact HPOST.out
theorem insInt_any (B : Nat) (w : World) (sl : Value) (p : Nat) (cs : List Value) (hown : w.ownsRow B 3 1 sl p cs) (k : Nat) (hk : k <= p) (H : Nat) (d : List Value) (hH : w.heap[H]? = some (.cells d.toArray 3 (0, 0))) (hd : d.length = 1)
  (h1 : ∀ u ∈ d, u.oneCell' = true) (h1c : ∀ u ∈ cs, u.oneCell' = true) (hBw : B <= w.heap.size) (hp : p <= 1000000) (hne : sl.ownBlock ≠ some H) :
  Calls Tryz.prog 51 #[sl, .int .i64 k, .slice (some ⟨H, 0, none⟩) 1 1] w (InsPost 3 1 B w sl p (cs.take (k * 1) ++ d ++ cs.drop (k * 1))) := by
 rcases Nat.lt_or_ge k p with h | h
 ·have hcl := hown.1
  rcases id hown.2 with ⟨hv, hn⟩ | ⟨g, cap, cur, rfl, hB, hg, h2, h3, h4, h5⟩
  ·omega
  ·rcases Nat.lt_or_ge cap (p + 1) with hr | hr
   ·exact insInt_grow B w hBw g p cap cur cs hg h5 hcl h2 hp k h hr H d hH hd h1 h1c
   ·exact insInt_room B w g p cap cur cs hB hg h4 h5 (by unfold maxLen at h3; exact h3) k h hr H d hH hd h1 h1c (fun e => hne (by rw [e]; rfl))
 ·obtain rfl : k = p := by omega
  exact insInt_end B w sl k cs hown H d hH hd h1 hBw hp
set_option maxHeartbeats 8000000 in
set_option maxRecDepth 100000 in
theorem insByt_end (B : Nat) (w : World) (sl : Value) (p : Nat) (cs : List Value) (hown : w.ownsRow B 23 1 sl p cs) (H : Nat) (d : List Value) (hH : w.heap[H]? = some (.cells d.toArray 23 (0, 0))) (hd : d.length = 1)
  (h1 : ∀ u ∈ d, u.oneCell' = true) (hBw : B <= w.heap.size) (hp : p <= 1000000) :
  Calls Tryz.prog 50 #[sl, .int .i64 p, .slice (some ⟨H, 0, none⟩) 1 1] w (InsPost 23 1 B w sl p (cs.take (p * 1) ++ d ++ cs.drop (p * 1))) := by
 have hcl := hown.1
 rw [List.take_of_length_le (by omega), List.drop_eq_nil_iff.2 (by omega), List.append_nil]
 obtain ⟨i0, hi, hz0, hz1, hz2⟩ := info_parts (show (Tryz.prog.info? 23).map (fun i => (i.zero, i.size, i.bytes)) = some (some (.slice none 0 0), 1, 24) by kernel_rfl)
 have HOW := Hld.mk hown
 have HI := Hld.mk (And.intro hi (And.intro hz0 (And.intro hz1 hz2)))
 have HN := Hld.mk (World.news_of_block (w := w) hH)
 have H1 := Hld.mk h1
 have HD : Hld (d.length = 1 * 1) := ⟨by omega⟩
 have HCL := Hld.mk hcl
 obtain ⟨ao, cap, hsl, hpc, hcap⟩ : ∃ ao cap, sl = .slice ao p cap /\ p <= cap /\ cap <= 9223372036854775807 := by
  rcases hown.2 with ⟨hv, hn⟩ | ⟨g, cap, cur, hv, _, _, h2, h3, _⟩
  ·exact ⟨none, 0, by rw [hv, hn], by omega, by omega⟩
  ·exact ⟨_, cap, hv, h2, by unfold maxLen at h3; omega⟩
 clear hown hi hz0 hz1 hz2 hH h1 hd hcl
 subst hsl
 cases ao with
 | none =>
  go_enter Tryz.func50, Tryz.ntmps50
  go_wp2_with (at_builtin; refine wpList_append_lies _ rfl (.tmp 23) (.tmp 24) 76 rfl B 23 i0 (.slice none 0 0) 1 24 Tryz.underlying76 HI.out.1 HI.out.2.1 HI.out.2.2.1 HI.out.2.2.2 rfl (by decide) _ p cs rfl HOW.out ⟨H, 0, none⟩ 1 1 d rfl HD.out HN.out H1.out (by decide) (by unfold maxLen; omega) (by omega) hBw _ rfl ?_)
  all_goals
   intro g cap2 w3 hown hgr hgg _
   have HP := Hld.mk (show InsPost 23 1 B w (.slice none p cap) p (cs ++ d) (.returned (.slice (some ⟨g, 0, none⟩) (p + 1) cap2)) w3 from ⟨_, rfl, hown, hgr, fun q hq => by
    obtain rfl : g = q := by simpa [Value.ownBlock] using hq
    exact hgg.imp id (fun h => by omega)⟩)
   clear hown hgr hgg
   go_wp2_with fail
   go_ret
   exact HP.out
 | some a =>
  obtain ⟨ab, ao, asp⟩ := a
  go_enter Tryz.func50, Tryz.ntmps50
  go_wp2_with (at_builtin; refine wpList_append_lies _ rfl (.tmp 23) (.tmp 24) 76 rfl B 23 i0 (.slice none 0 0) 1 24 Tryz.underlying76 HI.out.1 HI.out.2.1 HI.out.2.2.1 HI.out.2.2.2 rfl (by decide) _ p cs rfl HOW.out ⟨H, 0, none⟩ 1 1 d rfl HD.out HN.out H1.out (by decide) (by unfold maxLen; omega) (by omega) hBw _ rfl ?_)
  all_goals
   intro g cap2 w3 hown hgr hgg _
   have HP := Hld.mk (show InsPost 23 1 B w (.slice (some ⟨ab, ao, asp⟩) p cap) p (cs ++ d) (.returned (.slice (some ⟨g, 0, none⟩) (p + 1) cap2)) w3 from ⟨_, rfl, hown, hgr, fun q hq => by
    obtain rfl : g = q := by simpa [Value.ownBlock] using hq
    exact hgg.imp id (fun h => by omega)⟩)
   clear hown hgr hgg
   go_wp2_with fail
   go_ret
   exact HP.out
set_option maxHeartbeats 8000000 in
set_option maxRecDepth 100000 in
theorem insByt_room (B : Nat) (w : World) (g p cap : Nat) (cur : Array Value) (cs : List Value) (hB : B <= g) (hg : w.heap[g]? = some (.cells cur 23 (0, 0))) (hcur : cur.size = cap * 1) (hcs : cur.toList.take (p * 1) = cs) (hcap : cap <= 9223372036854775807) (k : Nat) (hk : k < p) (hroom : p + 1 <= cap) (H : Nat) (d : List Value) (hH : w.heap[H]? = some (.cells d.toArray 23 (0, 0))) (hd : d.length = 1)
  (h1 : ∀ u ∈ d, u.oneCell' = true) (h1c : ∀ u ∈ cs, u.oneCell' = true) (hne : H ≠ g) :
  Calls Tryz.prog 50 #[.slice (some ⟨g, 0, none⟩) p cap, .int .i64 k, .slice (some ⟨H, 0, none⟩) 1 1] w (InsPost 23 1 B w (.slice (some ⟨g, 0, none⟩) p cap) p (cs.take (k * 1) ++ d ++ cs.drop (k * 1))) := by
 have hsz : (Tryz.prog.info? 23).map (·.size) = some 1 := by kernel_rfl
 have hcl : cs.length = p * 1 := by rw [<- hcs, List.length_take, Array.length_toList]; omega
 have hglt : g < w.heap.size := (Array.getElem?_eq_some_iff.1 hg).1
 have hov : ∀ off lb cb, (callFunc 74 #[.slice (some ⟨H, 0, none⟩) 1 1, .slice (some ⟨g, off, none⟩) lb cb]).run Tryz.prog w = .ok (.value (.bool false)) w := fun off lb cb => by
  rw [run_callFunc_extern Tryz.func74 (by kernel_rfl) (by kernel_rfl) (by kernel_rfl) (e := Extern.SlicesOverlaps.overlaps #[76, 76] #[4]) (by kernel_rfl),
   Lib.run_overlaps_apart w 76 4 23 Tryz.underlying76 1 Tryz.sizeOf23 ⟨H, 0, none⟩ ⟨g, off, none⟩ 1 1 lb cb hne 23 23 d.toArray.size cur.size (by simp [World.shape?, hH]) (by simp [World.shape?, hg]) (by omega) (by simp [World.frozen?, hH]) (by simp [World.frozen?, hH])]
  rfl
 obtain ⟨C1, hC1⟩ : ∃ C1 : List Value, C1 = cur.toList.take (k * 1 + 1) ++ cs.drop (k * 1) ++ cur.toList.drop (p * 1 + 1) := ⟨_, rfl⟩
 have hC1l : C1.length = cur.size := by rw [hC1]; simp only [List.length_append, List.length_take, List.length_drop, Array.length_toList]; omega
 obtain ⟨W1, hW1⟩ : ∃ W1, W1 = w.drew.setRow g C1.toArray := ⟨_, rfl⟩
 have hW1g : W1.heap[g]? = some (.cells C1.toArray 23 (0, 0)) := by rw [hW1]; exact setRow_heap w.drew g cur _ _ _ hg
 have hW1H : W1.heap[H]? = some (.cells d.toArray 23 (0, 0)) := by rw [hW1, setRow_other _ _ _ _ hne]; exact hH
 have hcp1 : ∀ ty dc sc, (Builtin.copy_ #[76, 76] ty #[.slice (some ⟨g, (k + 1) * 1, none⟩) (p - k) dc, .slice (some ⟨g, k * 1, none⟩) (p + 1 - k) sc]).run Tryz.prog w.drew = .ok (goInt ((p - k : Nat) : Int)) W1 := fun ty dc sc => by
  rw [show (k + 1) * 1 = k * 1 + 1 from Nat.succ_mul k 1, run_copy_rowN w.drew _ _ ty 23 1 (p - k) g (k * 1 + 1) (p - k) dc ⟨g, k * 1, none⟩ (p + 1 - k) sc cur 23 (cs.drop (k * 1)) Tryz.underlying76 hsz hg (by simp only [Nat.min_def]; split <;> omega) (by rw [List.length_drop, hcl]; omega)
   (fun j v hj => by
    rw [Addr.add_lit]
    rw [List.getElem?_drop, <- hcs, List.getElem?_take] at hj
    split at hj
    ·simp only [World.cell?]; rw [show w.drew.heap[g]? = some (.cells cur 23 (0, 0)) from hg]; simpa using hj
    ·cases hj)
   (by rw [List.length_drop, hcl]; omega) (fun v hv => h1c v (List.mem_of_mem_drop hv)), hW1, hC1, show k * 1 + 1 + (cs.drop (k * 1)).length = p * 1 + 1 by rw [List.length_drop, hcl]; omega]
 obtain ⟨R2, hR2⟩ : ∃ R2 : List Value, R2 = C1.take (k * 1) ++ d ++ C1.drop (k * 1 + 1) := ⟨_, rfl⟩
 have hcp2 : ∀ (W : World), W.heap = W1.heap -> ∀ ty dc, (Builtin.copy_ #[76, 76] ty #[.slice (some ⟨g, k * 1, none⟩) (p + 1 - k) dc, .slice (some ⟨H, 0, none⟩) 1 1]).run Tryz.prog W = .ok (goInt 1) (W.setRow g R2.toArray) := fun W hW ty dc => by
  rw [run_copy_rowN W _ _ ty 23 1 1 g (k * 1) (p + 1 - k) dc ⟨H, 0, none⟩ 1 1 C1.toArray 23 d Tryz.underlying76 hsz (by rw [hW]; exact hW1g) (by simp only [Nat.min_def]; split <;> omega) (by rw [hd])
   (fun j v hj => by
    rw [Addr.add_lit]
    simp only [World.cell?]; rw [hW, hW1H]; simpa using hj)
   (by rw [hd, List.size_toArray, hC1l]; omega) h1, hd, List.toList_toArray, hR2]
  rfl
 have hfin : R2 = cs.take (k * 1) ++ d ++ cs.drop (k * 1) ++ cur.toList.drop (p * 1 + 1) := by
  rw [hR2, hC1]; exact row_shift cur.toList cs d (k * 1) 1 (p * 1) (by omega) hcs (by rw [Array.length_toList]; omega) hd
 have HPOST : ∀ (W : World), W.heap = W1.heap -> W.os = w.os -> W.tape = w.tape -> W.output = w.output -> Hld (InsPost 23 1 B w (.slice (some ⟨g, 0, none⟩) p cap) p (cs.take (k * 1) ++ d ++ cs.drop (k * 1)) (.returned (.slice (some ⟨g, 0, none⟩) (p + 1) cap)) (W.setRow g R2.toArray)) := fun W hW ho ht hu => ⟨_, rfl, by
   refine ⟨by simp only [List.length_append, List.length_take, List.length_drop]; omega, .inr ⟨g, cap, _, rfl, hB, setRow_heap W g C1.toArray _ _ _ (by rw [hW]; exact hW1g), hroom, by unfold maxLen; omega, ?_, ?_⟩⟩
   ·rw [hfin]; simp only [List.size_toArray, List.length_append, List.length_take, List.length_drop, Array.length_toList]; omega
   ·rw [hfin]
    show List.take _ (_ ++ _) = _
    rw [List.take_append_of_le_length (by simp only [List.length_append, List.length_take, List.length_drop]; omega), List.take_of_length_le (by simp only [List.length_append, List.length_take, List.length_drop]; omega)],
  ⟨ho, ht, hu, by rw [setRow_size, hW, hW1, setRow_size]; exact Nat.le_refl _, fun q hq hqn => by
   have hqg : q ≠ g := fun e => hqn (by rw [e]; rfl)
   rw [setRow_other _ _ _ _ hqg, hW, hW1, setRow_other _ _ _ _ hqg]; rfl⟩, fun q hq => .inl hq⟩
 have hin : k <= p := by omega
 have hin1 : (k : Int) <= (p : Int) + 1 := by omega
 have hpk1 : p + 1 - (k + 1) = p - k := by omega
 have hck : ¬ (cap = k) := by omega
 have hck1 : ¬ (cap = k + 1) := by omega
 have hz2 : ¬ ((k : Int) = (p : Int)) := by omega
 have hb1 : (0 : Int) <= (k : Int) + 1 := by omega
 have htn : ((k : Int) + 1).toNat = k + 1 := by omega
 have hw1 : IntKind.i64.wrap ((k : Int) + 1) = (k : Int) + 1 := by rw [IntKind.wrap_i64]; omega
 have HW1 := Hld.mk hW1
 clear hg hH hW1g hW1H hC1 hfin hR2 hW1 hcl hcur hcs hC1l
 generalize cs.take (k * 1) ++ d ++ cs.drop (k * 1) = CC at HPOST |-
 simp only [Nat.mul_one] at hcp1 hcp2
 go_enter Tryz.func50, Tryz.ntmps50
 go_wp2_with (simp only [hov])
 go_region_law (refine step_copy_runI rfl _ _ 76 76 rfl _ _ (by simp [Act.eval, Act.put]) (by simp [Act.eval, Act.put]) (hcp1 _ _ _) ?_)
 go_wp2_with (at_builtin; refine wpList_copy_runI _ rfl _ _ 76 76 rfl _ _ rfl rfl (hcp2 _ rfl _ _) ?_)
 go_ret
 exact (HPOST _ rfl (by rw [HW1.out]; rfl) (by rw [HW1.out]; rfl) (by rw [HW1.out]; rfl)).out
set_option maxHeartbeats 8000000 in
set_option maxRecDepth 100000 in
theorem insByt_grow (B : Nat) (w : World) (hBw : B <= w.heap.size) (g p cap : Nat) (cur : Array Value) (cs : List Value) (hg : w.heap[g]? = some (.cells cur 23 (0, 0))) (hcs : cur.toList.take (p * 1) = cs) (hcl : cs.length = p * 1) (hcap : p <= cap) (hp : p <= 1000000) (k : Nat) (hk : k < p) (hroom : cap < p + 1) (H : Nat) (d : List Value) (hH : w.heap[H]? = some (.cells d.toArray 23 (0, 0))) (hd : d.length = 1)
  (h1 : ∀ u ∈ d, u.oneCell' = true) (h1c : ∀ u ∈ cs, u.oneCell' = true) :
  Calls Tryz.prog 50 #[.slice (some ⟨g, 0, none⟩) p cap, .int .i64 k, .slice (some ⟨H, 0, none⟩) 1 1] w (InsPost 23 1 B w (.slice (some ⟨g, 0, none⟩) p cap) p (cs.take (k * 1) ++ d ++ cs.drop (k * 1))) := by
 obtain ⟨i0, hi0, hz0, hzs, hzb⟩ := info_parts (show (Tryz.prog.info? 23).map (fun i => (i.zero, i.size, i.bytes)) = some (some (.slice none 0 0), 1, 24) by kernel_rfl)
 have hsz : (Tryz.prog.info? 23).map (·.size) = some 1 := by kernel_rfl
 have hglt : g < w.heap.size := (Array.getElem?_eq_some_iff.1 hg).1
 have hHlt : H < w.heap.size := (Array.getElem?_eq_some_iff.1 hH).1
 have hold : (Builtin.firstCells i0.size k (.slice (some ⟨g, 0, none⟩) k cap)).run Tryz.prog w.drew = .ok (cs.take (k * 1)).toArray w.drew := by
  rw [hzs]
  exact run_firstCells_some w.drew 1 k ⟨g, 0, none⟩ k cap (cs.take (k * 1)) (by rw [List.length_take]; omega) (fun j v hj => by
   rw [Addr.add_lit]
   rw [List.getElem?_take] at hj
   split at hj
   ·rw [<- hcs, List.getElem?_take] at hj
    split at hj
    ·simp only [World.cell?]; rw [show w.drew.heap[g]? = some (.cells cur 23 (0, 0)) from hg]; simpa using hj
    ·cases hj
   ·cases hj)
 have hkk : (p : Int) + 1 - (k : Int) = ((p + 1 - k : Nat) : Int) := by omega
 have hik : k + (p + 1 - k) = p + 1 := by omega
 obtain ⟨G, hG⟩ : ∃ G, G = grownCap w (p + 1) cap 23 := ⟨_, rfl⟩
 have hGn : p + 1 <= G := by rw [hG]; exact grownCap_ge w _ _ _
 have hG63 : G <= 9223372036854775807 := by
  have := grownCap_le_maxLen w (p + 1) cap 23 (by unfold maxLen; omega)
  rw [<- hG] at this
  unfold maxLen at this
  omega
 obtain ⟨Z, hZ⟩ : ∃ Z : List Value, Z = (Builtin.zeroCells (Value.cells (.slice none 0 0)) (p + 1 - k)).toList ++ (Builtin.zeroCells (Value.cells (.slice none 0 0)) (G - (p + 1))).toList := ⟨_, rfl⟩
 have hzl : ∀ q, (Builtin.zeroCells (Value.cells (.slice none 0 0)) q).toList.length = q * 1 := fun q => by
  have e : (Value.cells (.slice none 0 0)).size = 1 := rfl
  simp [Builtin.zeroCells, e]
 have hZl : Z.length = (G - k) * 1 := by rw [hZ, List.length_append, hzl, hzl]; omega
 obtain ⟨ROW, hROW⟩ : ∃ ROW : List Value, ROW = cs.take (k * 1) ++ Z := ⟨_, rfl⟩
 have hROWl : ROW.length = G * 1 := by rw [hROW, List.length_append, hZl, List.length_take]; omega
 obtain ⟨W1, hW1⟩ : ∃ W1, W1 = w.drew.alloc (.cells ROW.toArray 23) := ⟨_, rfl⟩
 have hrz : ∀ ty, (Builtin.append_ #[76, 3] ty #[.slice (some ⟨g, 0, none⟩) k cap, .int .i64 ((p : Int) + 1 - (k : Int))]).run Tryz.prog w = .ok (.slice (some ⟨w.heap.size, 0, none⟩) (p + 1) G) W1 := fun ty => by
  have h := Lib.run_append_grow_zeros w 76 3 ty 23 i0 _ .i64 .i64 Tryz.underlying76 Tryz.underlying3 hi0 hz0 (some ⟨g, 0, none⟩) k cap (cs.take (k * 1)) hold (p + 1 - k) (by omega) (by omega) (by omega) (by omega) (by rw [hzb]; omega) (by rw [hzb, hik]; exact growslice_fits hroom (by omega))
  rw [hik, <- hG] at h
  rw [hkk, h, hW1, hROW, hZ]
  congr 3
  simp
 have hW1g : W1.heap[g]? = some (.cells cur 23 (0, 0)) := by rw [hW1]; exact al_kept hg
 have hW1H : W1.heap[H]? = some (.cells d.toArray 23 (0, 0)) := by rw [hW1]; exact al_kept hH
 have hW1N : W1.heap[w.heap.size]? = some (.cells ROW.toArray 23 (0, 0)) := by rw [hW1]; exact heap_alloc_new w.drew _
 obtain ⟨R1, hR1⟩ : ∃ R1 : List Value, R1 = ROW.take (k * 1) ++ d ++ ROW.drop (k * 1 + 1) := ⟨_, rfl⟩
 have hR1l : R1.length = G * 1 := by rw [hR1]; simp only [List.length_append, List.length_take, List.length_drop]; omega
 obtain ⟨W2, hW2⟩ : ∃ W2, W2 = W1.setRow w.heap.size R1.toArray := ⟨_, rfl⟩
 have hcp1 : ∀ ty dc, (Builtin.copy_ #[76, 76] ty #[.slice (some ⟨w.heap.size, k * 1, none⟩) (p + 1 - k) dc, .slice (some ⟨H, 0, none⟩) 1 1]).run Tryz.prog W1 = .ok (goInt 1) W2 := fun ty dc => by
  rw [run_copy_rowN W1 _ _ ty 23 1 1 w.heap.size (k * 1) (p + 1 - k) dc ⟨H, 0, none⟩ 1 1 ROW.toArray 23 d Tryz.underlying76 hsz hW1N (by simp only [Nat.min_def]; split <;> omega) (by rw [hd])
   (fun j v hj => by
    rw [Addr.add_lit]
    simp only [World.cell?]; rw [hW1H]; simpa using hj)
   (by rw [hd, List.size_toArray, hROWl]; omega) h1, hd, List.toList_toArray, hW2, hR1]
  rfl
 have hgN : g ≠ w.heap.size := by omega
 have hW2g : W2.heap[g]? = some (.cells cur 23 (0, 0)) := by rw [hW2, setRow_other _ _ _ _ hgN]; exact hW1g
 have hW2N : W2.heap[w.heap.size]? = some (.cells R1.toArray 23 (0, 0)) := by rw [hW2]; exact setRow_heap W1 _ _ _ _ _ hW1N
 obtain ⟨R2, hR2⟩ : ∃ R2 : List Value, R2 = R1.take (k * 1 + 1) ++ cs.drop (k * 1) ++ R1.drop (p * 1 + 1) := ⟨_, rfl⟩
 obtain ⟨W3, hW3⟩ : ∃ W3, W3 = W2.drew.setRow w.heap.size R2.toArray := ⟨_, rfl⟩
 have hcp2 : ∀ ty dc sc, (Builtin.copy_ #[76, 76] ty #[.slice (some ⟨w.heap.size, (k + 1) * 1, none⟩) (p - k) dc, .slice (some ⟨g, k * 1, none⟩) (p - k) sc]).run Tryz.prog W2.drew = .ok (goInt ((p - k : Nat) : Int)) W3 := fun ty dc sc => by
  rw [show (k + 1) * 1 = k * 1 + 1 from Nat.succ_mul k 1, run_copy_rowN W2.drew _ _ ty 23 1 (p - k) w.heap.size (k * 1 + 1) (p - k) dc ⟨g, k * 1, none⟩ (p - k) sc R1.toArray 23 (cs.drop (k * 1)) Tryz.underlying76 hsz hW2N (by simp only [Nat.min_def]; split <;> omega) (by rw [List.length_drop, hcl]; omega)
   (fun j v hj => by
    rw [Addr.add_lit]
    rw [List.getElem?_drop, <- hcs, List.getElem?_take] at hj
    split at hj
    ·simp only [World.cell?]; rw [show W2.drew.heap[g]? = some (.cells cur 23 (0, 0)) from hW2g]; simpa using hj
    ·cases hj)
   (by rw [List.length_drop, hcl, List.size_toArray, hR1l]; omega) (fun v hv => h1c v (List.mem_of_mem_drop hv)), hW3, hR2, List.toList_toArray, show k * 1 + 1 + (cs.drop (k * 1)).length = p * 1 + 1 by rw [List.length_drop, hcl]; omega]
 have hfin : R2 = cs.take (k * 1) ++ d ++ cs.drop (k * 1) ++ Z.drop (p * 1 + 1 - k * 1) := by
  rw [hR2, hR1, hROW]; exact row_new cs d Z (k * 1) 1 (p * 1) (by omega) hcl hd
 have HPOST : Hld (InsPost 23 1 B w (.slice (some ⟨g, 0, none⟩) p cap) p (cs.take (k * 1) ++ d ++ cs.drop (k * 1)) (.returned (.slice (some ⟨w.heap.size, 0, none⟩) (p + 1) G)) W3) := ⟨_, rfl, by
   refine ⟨by simp only [List.length_append, List.length_take, List.length_drop]; omega, .inr ⟨w.heap.size, G, R2.toArray, rfl, hBw, by rw [hW3]; exact setRow_heap W2.drew _ _ _ _ _ hW2N, hGn, by unfold maxLen; omega, ?_, ?_⟩⟩
   ·rw [hfin]; simp only [List.size_toArray, List.length_append, List.length_take, List.length_drop]; omega
   ·rw [hfin]
    show List.take _ (_ ++ _) = _
    rw [List.take_append_of_le_length (by simp only [List.length_append, List.length_take, List.length_drop]; omega), List.take_of_length_le (by simp only [List.length_append, List.length_take, List.length_drop]; omega)],
  ⟨by rw [hW3, hW2, hW1]; rfl, by rw [hW3, hW2, hW1]; rfl, by rw [hW3, hW2, hW1]; rfl, by rw [hW3, setRow_size]; show _ <= W2.heap.size; rw [hW2, setRow_size, hW1]; simp, fun q hq hqn => by
   have hqg : q ≠ w.heap.size := by omega
   rw [hW3, setRow_other _ _ _ _ hqg]
   show W2.heap[q]? = _
   rw [hW2, setRow_other _ _ _ _ hqg, hW1]
   exact Below.heap_alloc w.drew _ q hq⟩, fun q hq => by
    obtain rfl : w.heap.size = q := by simpa [Value.ownBlock] using hq
    exact .inr (Nat.le_refl _)⟩
 have hin : k <= p := by omega
 have hin1 : (k : Int) <= (p : Int) + 1 := by omega
 have hpk1 : p + 1 - (k + 1) = p - k := by omega
 have hck : ¬ (cap = k) := by omega
 have hGk : ¬ (G = k) := by omega
 have hGk1 : ¬ (G = k + 1) := by omega
 have hz2 : ¬ ((k : Int) = (p : Int)) := by omega
 have hz3 : (cap : Int) < (p : Int) + 1 := by omega
 have hb1 : (0 : Int) <= (k : Int) + 1 := by omega
 have htn : ((k : Int) + 1).toNat = k + 1 := by omega
 have hw1 : IntKind.i64.wrap ((k : Int) + 1) = (k : Int) + 1 := by rw [IntKind.wrap_i64]; omega
 clear hg hH hW1g hW1H hW1N hW2g hW2N hfin hR2 hR1 hW1 hW2 hW3 hROW hZ hcl hcs hZl hROWl hR1l hkk hik hG hold hi0 hz0 hzs hzb hzl hsz
 generalize cs.take (k * 1) ++ d ++ cs.drop (k * 1) = CC at HPOST |-
 simp only [Nat.mul_one] at hcp1 hcp2
 go_enter Tryz.func50, Tryz.ntmps50
 go_wp2_with (first
  | (at_builtin; refine Lib.wpList_append_run _ rfl _ _ _ _ rfl _ _ rfl rfl _ _ (hrz _) ?_)
  | (at_builtin; refine wpList_copy_runI _ rfl _ _ 76 76 rfl _ _ rfl rfl (hcp1 _ _) ?_))
 go_region_law (refine step_copy_runI rfl _ _ 76 76 rfl _ _ (by simp [Act.eval, Act.put]) (by simp [Act.eval, Act.put]) (hcp2 _ _ _) ?_)
 go_wp2_with fail
 go_ret
 exact HPOST.out
theorem insByt_any (B : Nat) (w : World) (sl : Value) (p : Nat) (cs : List Value) (hown : w.ownsRow B 23 1 sl p cs) (k : Nat) (hk : k <= p) (H : Nat) (d : List Value) (hH : w.heap[H]? = some (.cells d.toArray 23 (0, 0))) (hd : d.length = 1)
  (h1 : ∀ u ∈ d, u.oneCell' = true) (h1c : ∀ u ∈ cs, u.oneCell' = true) (hBw : B <= w.heap.size) (hp : p <= 1000000) (hne : sl.ownBlock ≠ some H) :
  Calls Tryz.prog 50 #[sl, .int .i64 k, .slice (some ⟨H, 0, none⟩) 1 1] w (InsPost 23 1 B w sl p (cs.take (k * 1) ++ d ++ cs.drop (k * 1))) := by
 rcases Nat.lt_or_ge k p with h | h
 ·have hcl := hown.1
  rcases id hown.2 with ⟨hv, hn⟩ | ⟨g, cap, cur, rfl, hB, hg, h2, h3, h4, h5⟩
  ·omega
  ·rcases Nat.lt_or_ge cap (p + 1) with hr | hr
   ·exact insByt_grow B w hBw g p cap cur cs hg h5 hcl h2 hp k h hr H d hH hd h1 h1c
   ·exact insByt_room B w g p cap cur cs hB hg h4 h5 (by unfold maxLen at h3; exact h3) k h hr H d hH hd h1 h1c (fun e => hne (by rw [e]; rfl))
 ·obtain rfl : k = p := by omega
  exact insByt_end B w sl k cs hown H d hH hd h1 hBw hp
end Go.Proofs.YtafilaiinbggoaaGreat
