import Derived.Test.YtafilaiinbggoaaGreatQT20
namespace Go.Proofs.YtafilaiinbggoaaGreat
open Go.RowKit Go.Maps
structure ND where
 leaf : Bool
 keys : List Bts
 vals : List Bts
 kids : List Nat
def leafN (es : EL) : ND := ⟨true, es.map (·.1), es.map (·.2), []⟩
def nodeN (kids : List Nat) (keys : List Bts) : ND := ⟨false, keys, [], kids⟩
def entN (n : ND) (i : Nat) : Nat := if n.leaf = true then 3 + (n.keys.getD i []).length + (n.vals.getD i []).length else 5 + (n.keys.getD i []).length
def sizeJ (n : ND) (j : Nat) : Nat := (if n.leaf = true then 3 else 7) + ((List.range j).map (entN n)).sum
def sizeN (n : ND) : Nat := sizeJ n n.keys.length
theorem sizeJ_succ (n : ND) (j : Nat) : sizeJ n (j + 1) = sizeJ n j + entN n j := by
 unfold sizeJ
 rw [List.range_succ, List.map_append, List.sum_append]
 simp
 omega
theorem range_map_get {α : Type} (f : Nat -> Nat) (g : α -> Nat) : ∀ (l : List α), (∀ i x, l[i]? = some x -> f i = g x) -> (List.range l.length).map f = l.map g := fun l h => by
 refine List.ext_getElem (by simp) fun i h1 h2 => ?_
 rw [List.getElem_map, List.getElem_range, List.getElem_map]
 have hi : i < l.length := by simpa using h2
 exact h i _ (List.getElem?_eq_getElem hi)
theorem size_leaf (es : EL) : sizeN (leafN es) = szLeaf es := by
 unfold sizeN sizeJ szLeaf
 have h1 : (leafN es).keys.length = es.length := List.length_map ..
 rw [h1, range_map_get (entN (leafN es)) szE es fun i x hx => ?_]
 ·rfl
 ·unfold entN leafN szE
  simp [List.getD, hx]
theorem size_node (kids : List Nat) (keys : List Bts) : sizeN (nodeN kids keys) = szNode keys := by
 unfold sizeN sizeJ szNode
 rw [range_map_get (entN (nodeN kids keys)) szK (nodeN kids keys).keys fun i x hx => ?_]
 ·rfl
 ·have hx' : keys[i]? = some x := hx
  unfold entN nodeN szK
  simp [List.getD, hx']
def RB (c : CF) : Rep Bts := fun _ x d => ∃ sv, d = [sv] /\ YAt c sv x
theorem RB_mono (c : CF) : Mono (RB c) := fun _ _ _ _ _ h => h
theorem RB_le {c c' : CF} (hc : CLe c c') : ∀ (m : CF) (x : Bts) (d : List Value), RB c m x d -> RB c' m x d := fun _ _ _ ⟨sv, e, h⟩ => ⟨sv, e, h.mono RY_mono hc⟩
theorem RB_one (c : CF) : ∀ (m : CF) (x : Bts) (d : List Value), RB c m x d -> ∀ u ∈ d, u.oneCell' = true := fun _ _ _ ⟨sv, e, h⟩ u hu => by
 rw [e] at hu
 obtain rfl := List.mem_singleton.1 hu
 obtain ⟨a, cap, rfl, _⟩ := h
 rfl
theorem SAt.rep {α : Type} {n : Nat} {R R' : Rep α} {c : CF} {v : Value} {xs : List α} (h : SAt n R c v xs) (hr : ∀ m x d, R m x d -> R' m x d) : SAt n R' c v xs := by
 obtain ⟨a, cap, e, h1, h2, h3⟩ := h
 refine ⟨a, cap, e, h1, h2, fun i x hx => ?_⟩
 obtain ⟨b, off, d, ea, hd, hc, hR⟩ := h3 i x hx
 exact ⟨b, off, d, ea, hd, hc, hr _ _ _ hR⟩
theorem OwnS.rep {α : Type} {n : Nat} {R R' : Rep α} {T : TypeId} {B : Nat} {w : World} {sl : Value} {p : Nat} {xs : List α} {cs : List Value} (h : OwnS n R T B w sl p xs cs) (hr : ∀ m x d, R m x d -> R' m x d) : OwnS n R' T B w sl p xs cs :=
 ⟨h.own, h.len, ⟨h.row.1, fun i x hx => by
  obtain ⟨d, h1, h2, h3⟩ := h.row.2 i x hx
  exact ⟨d, h1, h2, hr _ _ _ h3⟩⟩, h.le⟩
abbrev BAt (w : World) (v : Value) (l : List Bts) : Prop := SAt 1 (RB (cfU w)) (cf w) v l
theorem BAt.below {w w' : World} {v : Value} {l : List Bts} (h : BAt w v l) (hb : Below w.heap.size w w') : BAt w' v l := (h.mono (RB_mono _) (cle_below hb)).rep (RB_le (cfU_below hb))
theorem bat_cell {w : World} {a : Option Addr} {n cap : Nat} {l : List Bts} (h : BAt w (.slice a n cap) l) {j : Nat} {x : Bts} (hx : l[j]? = some x) : ∃ b off xa xc, a = some ⟨b, off, none⟩ /\ w.cell? ⟨b, off + j, none⟩ = some (.slice xa x.length xc) /\ YAt (cfU w) (.slice xa x.length xc) x := by
 obtain ⟨a2, cap2, e, _, _, h3⟩ := h
 simp only [Value.slice.injEq] at e
 obtain ⟨b, off, d, ea, hd, hc, sv, hr, hy⟩ := h3 j x hx
 obtain ⟨xa, xc, rfl, h4⟩ := id hy
 refine ⟨b, off, xa, xc, by rw [e.1, ea], ?_, hy⟩
 have := hc 0 _ (by rw [hr]; rfl)
 rw [Nat.mul_one, Nat.add_zero] at this
 exact this
abbrev IAt (w : World) (v : Value) (l : List Nat) : Prop := SAt 1 RI (cf w) v (l.map Int.ofNat)
theorem IAt.below {w w' : World} {v : Value} {l : List Nat} (h : IAt w v l) (hb : Below w.heap.size w w') : IAt w' v l := h.mono RI_mono (cle_below hb)
structure NAt (w : World) (n : ND) (kv vv iv : Value) : Prop where
 keys : BAt w kv n.keys
 vals : BAt w vv n.vals
 kids : IAt w iv n.kids
theorem NAt.below {w w' : World} {n : ND} {kv vv iv : Value} (h : NAt w n kv vv iv) (hb : Below w.heap.size w w') : NAt w' n kv vv iv := ⟨h.keys.below hb, h.vals.below hb, h.kids.below hb⟩
abbrev nodeV (n : ND) (kv vv iv : Value) : Value := .agg #[.bool n.leaf, kv, vv, iv]
structure FewN (n : ND) : Prop where
 keys : n.keys.length <= 10000
 vals : n.vals.length <= 10000
 kids : n.kids.length <= 10001
 key : ∀ k ∈ n.keys, k.length <= 10000
 val : ∀ v ∈ n.vals, v.length <= 10000
 alike : n.leaf = true -> n.vals.length = n.keys.length
theorem nat_getD {α : Type} {l : List α} {i : Nat} {x d : α} (h : l[i]? = some x) : l.getD i d = x := by simp [List.getD, h]
set_option maxHeartbeats 4000000 in
set_option maxRecDepth 100000 in
theorem node_entry {w : World} {n : ND} {kv vv iv : Value} {i : Nat} (h : NAt w n kv vv iv) (hf : FewN n) (hi : i < n.keys.length) :
  Calls Tryz.prog 70 #[nodeV n kv vv iv, .int .i64 (i : Int)] w fun e w' => e = .returned (.int .i64 (entN n i : Int)) /\ Below w.heap.size w w' := by
 obtain ⟨leaf, keys, vals, kids⟩ := n
 obtain ⟨ka, kc, rfl⟩ := h.keys.form
 obtain ⟨va, vc, rfl⟩ := h.vals.form
 obtain ⟨ia, ic, rfl⟩ := h.kids.form
 simp only at hi
 obtain ⟨k, hk⟩ : ∃ k, keys[i]? = some k := ⟨keys[i], List.getElem?_eq_getElem hi⟩
 obtain ⟨b, off, xa, xc, rfl, hc, hy⟩ := bat_cell h.keys hk
 have hkl := hf.key k (List.mem_of_getElem? hk)
 have hc' : ∀ o, (w.alloc o).cell? ⟨b, off + i, none⟩ = some (.slice xa k.length xc) := fun o => Lib.cell?_alloc_some _ hc
 have hii : (i : Int) < (keys.length : Int) := by omega
 have hkl2 := hf.keys
 have hbb : ∀ o, Below w.heap.size w (w.alloc o) := fun o => (Below.refl _ w).alloc (Nat.le_refl _) _
 cases leaf with
 | false =>
  have he : entN ⟨false, keys, vals, kids⟩ i = 5 + k.length := by unfold entN; rw [if_neg (by simp), nat_getD hk]
  rw [he]
  have HB := HoldT.mk hbb
  clear hbb h hk he hy hc hf
  go_enter Tryz.func70, Tryz.ntmps70
  go_wp2
  go_ret
  exact ⟨by simp, HB.out _⟩
 | true =>
  have hal : vals.length = keys.length := hf.alike rfl
  obtain ⟨v, hv⟩ : ∃ v, vals[i]? = some v := ⟨vals[i]'(by omega), List.getElem?_eq_getElem (by omega)⟩
  obtain ⟨b2, off2, ya, yc, rfl, hc2, hy2⟩ := bat_cell h.vals hv
  have hvl := hf.val v (List.mem_of_getElem? hv)
  have hc2' : ∀ o, (w.alloc o).cell? ⟨b2, off2 + i, none⟩ = some (.slice ya v.length yc) := fun o => Lib.cell?_alloc_some _ hc2
  have he : entN ⟨true, keys, vals, kids⟩ i = 3 + k.length + v.length := by unfold entN; rw [if_pos rfl, nat_getD hk, nat_getD hv]
  rw [he]
  have hvv : (i : Int) < (vals.length : Int) := by omega
  have hiv : i < vals.length := by omega
  have HB := HoldT.mk hbb
  clear hbb h hk he hy hc hf hv hy2 hc2 hal
  go_enter Tryz.func70, Tryz.ntmps70
  go_wp2
  obtain ⟨w1, hw1⟩ : ∃ w1, w1 = w.alloc (.cells #[.bool true, .slice (some ⟨b, off, none⟩) keys.length kc, .slice (some ⟨b2, off2, none⟩) vals.length vc, .slice ia kids.length ic] 107) := ⟨_, rfl⟩
  have hbx : w1.heap[w.heap.size]? = some (.cells #[.bool true, .slice (some ⟨b, off, none⟩) keys.length kc, .slice (some ⟨b2, off2, none⟩) vals.length vc, .slice ia kids.length ic] 107 (0, 0)) := by rw [hw1]; exact heap_alloc_new w _
  have x1 : w1.cell? ⟨w.heap.size, 1, none⟩ = some (.slice (some ⟨b, off, none⟩) keys.length kc) := by simp [World.cell?, hbx]
  have x2 : w1.cell? ⟨w.heap.size, 2, none⟩ = some (.slice (some ⟨b2, off2, none⟩) vals.length vc) := by simp [World.cell?, hbx]
  have y1 : w1.cell? ⟨b, off + i, none⟩ = some (.slice xa k.length xc) := by rw [hw1]; exact hc' _
  have y2 : w1.cell? ⟨b2, off2 + i, none⟩ = some (.slice ya v.length yc) := by rw [hw1]; exact hc2' _
  have g1 := KeepS.cell (P := fun _ => True) x1 trivial
  have g2 := KeepS.cell (P := fun _ => True) x2 trivial
  have g3 := KeepS.cell (P := fun _ => True) y1 trivial
  have g4 := KeepS.cell (P := fun _ => True) y2 trivial
  have hb1 : Below w.heap.size w w1 := by rw [hw1]; exact HB.out _
  have HB1 := HoldT.mk hb1
  rw [<- hw1]
  clear hw1 hbx x1 x2 y1 y2 hb1 hc' hc2'
  refine wp_region_mixC (KeepSC (fun _ => True) w1) 15 rfl (by kernel_rfl) ?_
  have HDR := HoldT.mk ((Below.refl w1.heap.size w1).drew)
  have HST : HoldT (∀ q : Nat, w1.drew.heap[q]? = w1.heap[q]?) := ⟨fun _ => rfl⟩
  generalize w1.drew = v9 at HDR HST |-
  refine mixl_seg (by kernel_rfl) (fun _ _ d _ _ h => by cases d <;> exact h) [0, 1, 2, 3, 4, 5, 6, 7, 8, 9, 10, 11, 12, 13, 14] [_, _, _, _, _, _, _, _, _, _, _, _, _, _, _] 0 15 rfl _ _ _ rfl (by kernel_rfl) (keepSC fun q _ => HST.out q) ?_
  repeat (go_big_quiet_step (fail))
  refine wpQuiet_nil ?_
  refine mix_done (by kernel_rfl) (keepSC fun q _ => HST.out q) ?_
  clear g1 g2 g3 g4
  go_wp2_with fail
  go_ret
  exact ⟨by simp, HB1.out.trans (HDR.out.mono HB1.out.size)⟩
end Go.Proofs.YtafilaiinbggoaaGreat
namespace Go.Proofs.YtafilaiinbggoaaGreat
open Go.RowKit Go.Maps
theorem sizeJ_le {n : ND} (hf : FewN n) : ∀ j, j <= n.keys.length -> sizeJ n j <= 7 + 30000 * j
 | 0, _ => by unfold sizeJ; simp; split <;> omega
 | j + 1, hj => by
  rw [sizeJ_succ]
  have h1 := sizeJ_le hf j (by omega)
  have hk : (n.keys.getD j []).length <= 10000 := by rw [nat_getD (List.getElem?_eq_getElem hj)]; exact hf.key _ (List.getElem_mem _)
  have hv : (n.vals.getD j []).length <= 10000 := by
   by_cases hl : j < n.vals.length
   ·rw [nat_getD (List.getElem?_eq_getElem hl)]; exact hf.val _ (List.getElem_mem _)
   ·have : n.vals.getD j [] = [] := by simp [List.getD, List.getElem?_eq_none (by omega : n.vals.length <= j)]
    rw [this]; simp
  have h2 : entN n j <= 20010 := by unfold entN; split <;> omega
  omega
def NBox (w : World) (q : Nat) (n : ND) (kv vv iv : Value) : Prop := w.heap[q]? = some (.cells #[.bool n.leaf, kv, vv, iv] 107 (0, 0))
theorem NBox.cell {w : World} {q : Nat} {n : ND} {kv vv iv : Value} (h : NBox w q n kv vv iv) : w.cell? ⟨q, 0, none⟩ = some (.bool n.leaf) /\ w.cell? ⟨q, 1, none⟩ = some kv /\ w.cell? ⟨q, 2, none⟩ = some vv /\ w.cell? ⟨q, 3, none⟩ = some iv := by
 unfold NBox at h
 refine ⟨?_, ?_, ?_, ?_⟩ <;> simp [World.cell?, h]
set_option maxHeartbeats 4000000 in
set_option maxRecDepth 100000 in
theorem node_size {w : World} {n : ND} {kv vv iv : Value} (h : NAt w n kv vv iv) (hf : FewN n) :
  Calls Tryz.prog 48 #[nodeV n kv vv iv] w fun e w' => e = .returned (.int .i64 (sizeN n : Int)) /\ Below w.heap.size w w' := by
 obtain ⟨ka, kc, rfl⟩ := h.keys.form
 obtain ⟨va, vc, rfl⟩ := h.vals.form
 obtain ⟨ia, ic, rfl⟩ := h.kids.form
 obtain ⟨w1, hw1⟩ : ∃ w1, w1 = w.alloc (.cells #[.bool n.leaf, .slice ka n.keys.length kc, .slice va n.vals.length vc, .slice ia (n.kids.map Int.ofNat).length ic] 107) := ⟨_, rfl⟩
 have hb1 : Below w.heap.size w w1 := by rw [hw1]; exact (Below.refl _ w).alloc (Nat.le_refl _) _
 have hbx : NBox w1 w.heap.size n (.slice ka n.keys.length kc) (.slice va n.vals.length vc) (.slice ia (n.kids.map Int.ofNat).length ic) := by rw [hw1]; exact heap_alloc_new w _
 have HH := HoldT.mk (And.intro (h.below hb1) (And.intro hf (And.intro hb1 hbx)))
 have HW := HoldT.mk hw1
 obtain ⟨kl, hkl⟩ : ∃ kl, kl = n.keys.length := ⟨_, rfl⟩
 have hk2 : kl <= 10000 := by rw [hkl]; exact hf.keys
 have HKL := HoldT.mk hkl
 obtain ⟨lf, hlf⟩ : ∃ lf, lf = n.leaf := ⟨_, rfl⟩
 have HLF := HoldT.mk hlf
 obtain ⟨il, hil⟩ : ∃ il, il = (n.kids.map Int.ofNat).length := ⟨_, rfl⟩
 have HIL := HoldT.mk hil
 rw [show nodeV n (.slice ka n.keys.length kc) (.slice va n.vals.length vc) (.slice ia (n.kids.map Int.ofNat).length ic) = .agg #[.bool lf, .slice ka kl kc, .slice va n.vals.length vc, .slice ia il ic] by rw [hkl, hlf, hil]]
 clear h hf hw1 hb1 hbx hkl hlf hil
 cases lf
 all_goals
  go_enter Tryz.func48, Tryz.ntmps48
  go_wp2
  have hw := HW.out
  rw [<- HLF.out, <- HKL.out, <- HIL.out] at hw
  rw [<- hw]
  clear hw
  go_loopw [3, 4, 11] (fun s y i wr => ∃ j : Nat, i = .int .i64 j /\ j <= kl /\ s = .int .i64 (sizeJ n j : Int) /\ HoldT (Below w1.heap.size w1 wr)) (fun _ _ i _ => kl - (intOf i).toNat)
  case atStart =>
   refine ⟨0, rfl, Nat.zero_le _, ?_, ⟨Below.refl _ _⟩⟩
   unfold sizeJ
   rw [<- HLF.out]
   rfl
  case round =>
   obtain ⟨j, rfl, hj, rfl, HB⟩ := hrel
   by_cases hlt : j < kl
   ·have b1 : decide ((j : Int) < (kl : Int)) = true := decide_eq_true (by omega)
    have hbx : NBox wr w.heap.size n _ _ _ := kept HH.out.2.2.2 HB.out
    obtain ⟨x0, x1, x2, x3⟩ := hbx.cell
    rw [<- HLF.out] at x0
    rw [<- HKL.out] at x1
    rw [<- HIL.out] at x3
    have HE := HoldT.mk (node_entry (HH.out.1.below HB.out) HH.out.2.1 (i := j) (by rw [<- HKL.out]; exact hlt))
    have hn : nodeV n (.slice ka n.keys.length kc) (.slice va n.vals.length vc) (.slice ia (n.kids.map Int.ofNat).length ic) = .agg #[.bool n.leaf, .slice ka kl kc, .slice va n.vals.length vc, .slice ia il ic] := by rw [<- HKL.out, <- HIL.out]
    rw [hn, <- HLF.out] at HE
    have hs1 := sizeJ_le HH.out.2.1 j (by rw [<- HKL.out]; exact hj)
    have hs2 := sizeJ_le HH.out.2.1 (j + 1) (by rw [<- HKL.out]; exact hlt)
    have hsu := sizeJ_succ n j
    clear hbx hn
    go_wp2_with fail
    refine HE.out.mono ?_
    rintro e w2 ⟨rfl, hb2⟩
    have HB2 := HoldT.mk (HB.out.trans (hb2.mono HB.out.size))
    clear hb2
    go_wp2_with fail
    exact ⟨⟨j + 1, by go_num, hlt, by rw [hsu]; simp, HB2⟩, by simp [intOf]; omega⟩
   ·obtain rfl : j = kl := by omega
    have he : sizeJ n j = sizeN n := by unfold sizeN; rw [HKL.out]
    go_wp2_with fail
    go_ret
    exact ⟨by rw [he]; rfl, HH.out.2.2.1.trans (HB.out.mono HH.out.2.2.1.size)⟩
end Go.Proofs.YtafilaiinbggoaaGreat
