import Derived.Test.YtafilaiinbggoaaGreatQS22
namespace Go.Proofs.YtafilaiinbggoaaGreat
open Go.RowKit Go.Maps
def PartsPost (A : ND) (key : Bts) (B : ND) (w : World) (e : Ending) (w' : World) : Prop := ∃ k1 v1 i1 ks k2 v2 i2, e = .returned (.tuple #[nodeV A k1 v1 i1, ks, nodeV B k2 v2 i2]) /\ NAt w' A k1 v1 i1 /\ YAt (cfU w') ks key /\ NAt w' B k2 v2 i2 /\ Below w.heap.size w w'
theorem SAt.take {α : Type} {n : Nat} {R : Rep α} {c : CF} {a : Option Addr} {m cap : Nat} {l : List α} (h : SAt n R c (.slice a m cap) l) {k : Nat} (hk : k <= l.length) : SAt n R c (.slice a k cap) (l.take k) := by
 obtain ⟨a', cap', e, hle, hcap, hel⟩ := h
 simp only [Value.slice.injEq] at e
 refine ⟨a', cap', by rw [List.length_take, Nat.min_eq_left hk, e.1, e.2.2], by rw [List.length_take]; omega, hcap, fun i x hx => ?_⟩
 rw [List.getElem?_take] at hx
 split at hx
 ·exact hel i x hx
 ·cases hx
set_option maxHeartbeats 8000000 in
set_option maxRecDepth 100000 in
theorem node_parts_leaf {w : World} {keys vals : List Bts} {kids : List Nat} {kv vv iv : Value} {k : Nat} (h : NAt w ⟨true, keys, vals, kids⟩ kv vv iv) (hf : FewN ⟨true, keys, vals, kids⟩) (hs : vals.length = keys.length) (hk : k < keys.length) :
  Calls Tryz.prog 72 #[.agg #[.bool true, kv, vv, iv], .int .i64 (k : Int)] w (PartsPost ⟨true, keys.take k, vals.take k, []⟩ (keys.getD k []) ⟨true, keys.drop k, vals.drop k, []⟩ w) := by
 obtain ⟨ka, kc, hkv⟩ := h.keys.form
 obtain ⟨va, vc, hvv⟩ := h.vals.form
 obtain ⟨ia, ic, hiv⟩ := h.kids.form
 simp only at hkv hvv hiv
 subst hkv hvv hiv
 obtain ⟨kl, hkl⟩ : ∃ m, m = keys.length := ⟨_, rfl⟩
 obtain ⟨vl, hvl⟩ : ∃ m, m = vals.length := ⟨_, rfl⟩
 obtain ⟨il, hil⟩ : ∃ m, m = (kids.map Int.ofNat).length := ⟨_, rfl⟩
 rw [<- hkl, <- hvl, <- hil] at h |-
 have hkl9 : kl <= 10000 := by rw [hkl]; exact hf.keys
 have HH := HoldT.mk (And.intro h (And.intro hs (And.intro hk (And.intro hkl (And.intro hvl hil)))))
 have hk1 : k < kl := by omega
 have hvk : k < vl := by omega
 clear h hf hs hk hkl hvl hil
 go_enter Tryz.func72, Tryz.ntmps72
 go_upto_region 2 with (fail)
 obtain ⟨w1, hw1⟩ : ∃ w1, w1 = w.alloc (.cells #[.bool true, .slice ka kl kc, .slice va vl vc, .slice ia il ic] 107) := ⟨_, rfl⟩
 obtain ⟨w2, hw2⟩ : ∃ w2, w2 = w1.alloc (.cells #[.bool false, .slice none 0 0, .slice none 0 0, .slice none 0 0] 107) := ⟨_, rfl⟩
 obtain ⟨w3, hw3⟩ : ∃ w3, w3 = w2.alloc (.cells #[.bool false, .slice none 0 0, .slice none 0 0, .slice none 0 0] 107) := ⟨_, rfl⟩
 obtain ⟨q4, hq4⟩ : ∃ q4, q4 = w.heap.size + 1 := ⟨_, rfl⟩
 obtain ⟨q6, hq6⟩ : ∃ q6, q6 = q4 + 1 := ⟨_, rfl⟩
 obtain ⟨q, hq⟩ : ∃ q, q = w.heap.size := ⟨_, rfl⟩
 rw [<- hw1, <- hw2, <- hw3, <- hq4, <- hq6, <- hq]
 have hs1 : w1.heap.size = q4 := by rw [hw1, hq4]; simp
 have hs2 : w2.heap.size = q6 := by rw [hw2, hq6, <- hs1]; simp
 have hb1 : Below w.heap.size w w1 := by rw [hw1]; exact (Below.refl _ w).alloc (Nat.le_refl _) _
 have hb2 : Below w1.heap.size w1 w2 := by rw [hw2]; exact (Below.refl _ w1).alloc (Nat.le_refl _) _
 have hb3 : Below w2.heap.size w2 w3 := by rw [hw3]; exact (Below.refl _ w2).alloc (Nat.le_refl _) _
 have hbx : w3.heap[q]? = some (.cells #[.bool true, .slice ka kl kc, .slice va vl vc, .slice ia il ic] 107 (0, 0)) := kept (kept (by rw [hw1, hq]; exact heap_alloc_new w _) hb2) hb3
 have hb4 : w3.heap[q4]? = some (.cells #[.bool false, .slice none 0 0, .slice none 0 0, .slice none 0 0] 107 (0, 0)) := kept (by rw [hw2, <- hs1]; exact heap_alloc_new w1 _) hb3
 have hb6 : w3.heap[q6]? = some (.cells #[.bool false, .slice none 0 0, .slice none 0 0, .slice none 0 0] 107 (0, 0)) := by rw [hw3, <- hs2]; exact heap_alloc_new w2 _
 have hbb : Below w.heap.size w w3 := (hb1.trans (hb2.mono hb1.size)).trans (hb3.mono (Nat.le_trans hb1.size hb2.size))
 have HN := HoldT.mk (HH.out.1.below hbb)
 have HB := HoldT.mk (And.intro hbb (And.intro hbx (And.intro hb4 (And.intro hb6 (And.intro hq (And.intro hq4 hq6))))))
 clear hw1 hw2 hw3 hs1 hs2 hb1 hb2 hb3 hq4 hq6 hq
 have hqne : q ≠ q4 /\ q ≠ q6 /\ q4 ≠ q6 := by obtain ⟨_, _, _, _, e1, e2, e3⟩ := HB.out; omega
 obtain ⟨kk, hkk⟩ : ∃ x, keys[k]? = some x := ⟨keys[k]'(by have := HH.out.2.2.2.1; omega), List.getElem?_eq_getElem _⟩
 obtain ⟨b, off, xa, xc, rfl, hc0, hy⟩ := bat_cell HH.out.1.keys hkk
 have hcb : b < w.heap.size := lt_of_cell hc0
 have hc : w3.cell? ⟨b, off + k, none⟩ = some (.slice xa kk.length xc) := cle_below HB.out.1 _ _ _ hc0
 clear hc0
 have hcap : kl <= kc /\ kc <= 9223372036854775807 := by
  obtain ⟨_, _, e, h1, h2, _⟩ := HN.out.keys
  simp only [Value.slice.injEq] at e
  rw [<- e.2.2] at h1 h2
  exact ⟨by rw [HH.out.2.2.2.1]; exact h1, h2⟩
 obtain ⟨vv0, hvv0⟩ : ∃ x, vals[k]? = some x := ⟨vals[k]'(by have := HH.out.2.2.2.2.1; omega), List.getElem?_eq_getElem _⟩
 obtain ⟨vb, vo, h9a, h9b, rfl, h9c, h9d⟩ := bat_cell HN.out.vals hvv0
 clear hvv0 h9c h9d
 have hvcap : vl <= vc /\ vc <= 9223372036854775807 := by
  obtain ⟨_, _, e, h1, h2, _⟩ := HN.out.vals
  simp only [Value.slice.injEq] at e
  rw [<- e.2.2] at h1 h2
  exact ⟨by rw [HH.out.2.2.2.2.1]; exact h1, h2⟩
 have hvi : (k : Int) <= (vc : Int) := by omega
 have hvlc : (vl : Int) <= (vc : Int) := by omega
 have hvle : (k : Int) <= (vl : Int) := by omega
 have hvn : ¬ vc = k := by omega
 have hkn : ¬ kc = k := by omega
 have HK := HoldT.mk (And.intro hkk hy)
 have x1 : w3.cell? ⟨q, 1, none⟩ = some (.slice (some ⟨b, off, none⟩) kl kc) := by simp [World.cell?, hbx]
 have x2 : w3.cell? ⟨q, 2, none⟩ = some (.slice (some ⟨vb, vo, none⟩) vl vc) := by simp [World.cell?, hbx]
 have g1 := KeepS.cell (P := fun b => b = q \/ b < w.heap.size) x1 (.inl rfl)
 have g2 := KeepS.cell (P := fun b => b = q \/ b < w.heap.size) x2 (.inl rfl)
 have g3 := KeepS.cell (P := fun b => b = q \/ b < w.heap.size) hc (.inr hcb)
 have hki : (k : Int) <= (kc : Int) := by omega
 have hklc : (kl : Int) <= (kc : Int) := by omega
 have hkil : (k : Int) < (kl : Int) := by omega
 have hkle : (k : Int) <= (kl : Int) := by omega
 clear x1 x2 hbx hkk hy hc hcb
 refine wp_region_mixC (KeepSC (fun b => b = q \/ b < w.heap.size) w3) 26 rfl (by kernel_rfl) ?_
 have HDR := HoldT.mk ((Below.refl w3.heap.size w3).drew)
 have HST : HoldT (∀ q : Nat, w3.drew.heap[q]? = w3.heap[q]?) := ⟨fun _ => rfl⟩
 have hb4' : w3.drew.heap[q4]? = _ := hb4
 have hb6' : w3.drew.heap[q6]? = _ := hb6
 clear hb4 hb6
 generalize w3.drew = v9 at HDR HST hb4' hb6' |-
 refine mixl_seg (by kernel_rfl) (fun _ _ d _ _ h => by cases d <;> exact h) [0, 1, 2, 3, 4, 5, 6, 7, 8, 9, 10, 11, 12, 13, 14, 15, 16, 17, 18, 19, 20, 21, 22] [_, _, _, _, _, _, _, _, _, _, _, _, _, _, _, _, _, _, _, _, _, _, _] 3 26 rfl _ _ _ rfl (by kernel_rfl) (keepSC fun q _ => HST.out q) ?_
 repeat (go_big_quiet_step (fail))
 refine wpQuiet_nil ?_
 clear g1 g2 g3
 have z0 : v9.cell? ⟨q4, 0, none⟩ = some (.bool false) := by simp [World.cell?, hb4']
 have z1 : v9.cell? ⟨q4, 1, none⟩ = some (.slice none 0 0) := by simp [World.cell?, hb4']
 have z2 : v9.cell? ⟨q4, 2, none⟩ = some (.slice none 0 0) := by simp [World.cell?, hb4']
 have z3 : v9.cell? ⟨q4, 3, none⟩ = some (.slice none 0 0) := by simp [World.cell?, hb4']
 have f0 : v9.frozen? ⟨q4, 0, none⟩ = false := by simp [World.frozen?, hb4']
 have f1 : v9.frozen? ⟨q4, 1, none⟩ = false := by simp [World.frozen?, hb4']
 have f2 : v9.frozen? ⟨q4, 2, none⟩ = false := by simp [World.frozen?, hb4']
 have f3 : v9.frozen? ⟨q4, 3, none⟩ = false := by simp [World.frozen?, hb4']
 have HB4 := HoldT.mk (And.intro hb4' hb6')
 clear hb4' hb6'
 refine mixl_act (i := 23) rfl (by kernel_rfl) (keepSC fun q _ => HST.out q) rfl (fun K hK => ?_)
 go_wp2_with fail
 clear z0 z1 z2 z3 f0 f1 f2 f3
 obtain ⟨u4, hu4⟩ : ∃ u, u = set4 v9 q4 (.bool true) (.slice (some ⟨b, off, none⟩) k kc) (.slice (some ⟨vb, vo, none⟩) k vc) (.slice none 0 0) := ⟨_, rfl⟩
 have hu4' := hu4
 unfold set4 at hu4'
 rw [<- hu4']
 have HU4 := HoldT.mk hu4
 clear hu4 hu4'
 have hg4 : v9.grownBy u4 (some q4) := by rw [HU4.out]; exact set4_grown _ _ _ _ _ _
 have h46 : u4.heap[q6]? = some (.cells #[.bool false, .slice none 0 0, .slice none 0 0, .slice none 0 0] 107 (0, 0)) := (hg4.block q6 (heap_lt HB4.out.2) (fun e => hqne.2.2 (Option.some.inj e).symm)).trans HB4.out.2
 have h44 : u4.heap[q4]? = some (.cells #[.bool true, .slice (some ⟨b, off, none⟩) k kc, .slice (some ⟨vb, vo, none⟩) k vc, .slice none 0 0] 107 (0, 0)) := by rw [HU4.out]; exact set4_heap HB4.out.1
 have hk4 : ∀ x, x = q \/ x < w.heap.size -> u4.heap[x]? = w3.heap[x]? := fun x hx => (hg4.block x (by
  have h1 := HDR.out.size
  have h2 := HB.out.1.size
  have h3 := heap_lt HB.out.2.1
  rcases hx with rfl | hx <;> omega) (fun e => by
  have h4 := HB.out.2.2.2.2
  have h5 := Option.some.inj e
  rcases hx with rfl | hx
  ·exact hqne.1 h5
  ·omega)).trans (HST.out x)
 have HK4 := HoldT.mk (And.intro hk4 (And.intro h44 (And.intro hg4 h46)))
 have z0 : u4.cell? ⟨q6, 0, none⟩ = some (.bool false) := by simp [World.cell?, h46]
 have z1 : u4.cell? ⟨q6, 1, none⟩ = some (.slice none 0 0) := by simp [World.cell?, h46]
 have z2 : u4.cell? ⟨q6, 2, none⟩ = some (.slice none 0 0) := by simp [World.cell?, h46]
 have z3 : u4.cell? ⟨q6, 3, none⟩ = some (.slice none 0 0) := by simp [World.cell?, h46]
 have f0 : u4.frozen? ⟨q6, 0, none⟩ = false := by simp [World.frozen?, h46]
 have f1 : u4.frozen? ⟨q6, 1, none⟩ = false := by simp [World.frozen?, h46]
 have f2 : u4.frozen? ⟨q6, 2, none⟩ = false := by simp [World.frozen?, h46]
 have f3 : u4.frozen? ⟨q6, 3, none⟩ = false := by simp [World.frozen?, h46]
 clear hg4 h46 h44 hk4
 refine mixl_seg (by kernel_rfl) (fun _ _ d _ _ h => by cases d <;> exact h) [24] [_] 1 2 rfl _ _ _ rfl (by kernel_rfl) (keepSC HK4.out.1) ?_
 repeat (go_big_quiet_step (fail))
 refine wpQuiet_nil ?_
 refine mixl_act (i := 25) rfl (by kernel_rfl) (keepSC HK4.out.1) rfl (fun K hK => ?_)
 go_wp2_with fail
 clear z0 z1 z2 z3 f0 f1 f2 f3
 obtain ⟨u6, hu6⟩ : ∃ u, u = set4 u4 q6 (.bool true) (.slice (some ⟨b, off + k, none⟩) (kl - k) (kc - k)) (.slice (some ⟨vb, vo + k, none⟩) (vl - k) (vc - k)) (.slice none 0 0) := ⟨_, rfl⟩
 have hu6' := hu6
 unfold set4 at hu6'
 rw [<- hu6']
 have hg6 : u4.grownBy u6 (some q6) := by rw [hu6]; exact set4_grown _ _ _ _ _ _
 have h66 : u6.heap[q6]? = some (.cells #[.bool true, .slice (some ⟨b, off + k, none⟩) (kl - k) (kc - k), .slice (some ⟨vb, vo + k, none⟩) (vl - k) (vc - k), .slice none 0 0] 107 (0, 0)) := by rw [hu6]; exact set4_heap HK4.out.2.2.2
 have h64 : u6.heap[q4]? = some (.cells #[.bool true, .slice (some ⟨b, off, none⟩) k kc, .slice (some ⟨vb, vo, none⟩) k vc, .slice none 0 0] 107 (0, 0)) := (hg6.block q4 (heap_lt HK4.out.2.1) (fun e => hqne.2.2 (Option.some.inj e))).trans HK4.out.2.1
 have hk6 : ∀ x, x = q \/ x < w.heap.size -> u6.heap[x]? = w3.heap[x]? := fun x hx => (hg6.block x (by
  have h0 := HK4.out.2.2.1.size
  have h1 := HDR.out.size
  have h2 := HB.out.1.size
  have h3 := heap_lt HB.out.2.1
  rcases hx with rfl | hx <;> omega) (fun e => by
  have h4 := HB.out.2.2.2.2
  have h5 := Option.some.inj e
  rcases hx with rfl | hx
  ·exact hqne.2.1 h5
  ·omega)).trans (HK4.out.1 x hx)
 have hbu : Below w.heap.size w u6 := by
  have hd := HB.out.2.2.2.2
  have b1 := HB.out.1.trans (HDR.out.mono HB.out.1.size)
  have b2 := b1.grown HK4.out.2.2.1 b1.size (fun x e => by cases e; omega)
  exact b2.grown hg6 b2.size (fun x e => by cases e; omega)
 have HFIN := HoldT.mk (And.intro hk6 hbu)
 clear hu6 hu6' hg6 hk6 hbu
 refine mix_done (by kernel_rfl) (keepSC HFIN.out.1) ?_
 go_wp2_with fail
 have c0 : u6.cell? ⟨q4, 0, none⟩ = some (.bool true) := by simp [World.cell?, h64]
 have c1 : u6.cell? ⟨q4, 1, none⟩ = some (.slice (some ⟨b, off, none⟩) k kc) := by simp [World.cell?, h64]
 have c2 : u6.cell? ⟨q4, 2, none⟩ = some (.slice (some ⟨vb, vo, none⟩) k vc) := by simp [World.cell?, h64]
 have c3 : u6.cell? ⟨q4, 3, none⟩ = some (.slice none 0 0) := by simp [World.cell?, h64]
 have d0 : u6.cell? ⟨q6, 0, none⟩ = some (.bool true) := by simp [World.cell?, h66]
 have d1 : u6.cell? ⟨q6, 1, none⟩ = some (.slice (some ⟨b, off + k, none⟩) (kl - k) (kc - k)) := by simp [World.cell?, h66]
 have d2 : u6.cell? ⟨q6, 2, none⟩ = some (.slice (some ⟨vb, vo + k, none⟩) (vl - k) (vc - k)) := by simp [World.cell?, h66]
 have d3 : u6.cell? ⟨q6, 3, none⟩ = some (.slice none 0 0) := by simp [World.cell?, h66]
 refine bodyPost_ret (v := .tuple #[.agg #[.bool true, .slice (some ⟨b, off, none⟩) k kc, .slice (some ⟨vb, vo, none⟩) k vc, .slice none 0 0], .slice xa kk.length xc, .agg #[.bool true, .slice (some ⟨b, off + k, none⟩) (kl - k) (kc - k), .slice (some ⟨vb, vo + k, none⟩) (vl - k) (vc - k), .slice none 0 0]]) (by simp [results, Tryz.results72, go_sem, c0, c1, c2, c3, d0, d1, d2, d3]) rfl ?_
 have hN6 := HH.out.1.below HFIN.out.2
 obtain ⟨hK6, hV6, hI6⟩ := hN6
 have hkk' : keys.getD k [] = kk := nat_getD HK.out.1
 refine ⟨_, _, _, _, _, _, _, rfl, ⟨?_, ?_, ?_⟩, by rw [hkk']; exact HK.out.2.mono RY_mono (cfU_below HFIN.out.2), ⟨?_, ?_, ?_⟩, HFIN.out.2⟩
 ·exact SAt.take hK6 (by have := HH.out.2.2.2.1; show k <= keys.length; omega)
 ·exact SAt.take hV6 (by have := HH.out.2.2.2.2.1; show k <= vals.length; omega)
 ·exact SAt.none _ _ _
 ·have e := HH.out.2.2.2.1
  rw [e] at hK6 |-
  have := SAt.drop hK6 (k := k) (by show k <= keys.length; omega)
  rw [Nat.mul_one] at this
  exact this
 ·have e := HH.out.2.2.2.2.1
  rw [e] at hV6 |-
  have := SAt.drop hV6 (k := k) (by show k <= vals.length; omega)
  rw [Nat.mul_one] at this
  exact this
 ·exact SAt.none _ _ _
set_option maxHeartbeats 8000000 in
set_option maxRecDepth 100000 in
theorem node_parts_node {w : World} {keys vals : List Bts} {kids : List Nat} {kv vv iv : Value} {k : Nat} (h : NAt w ⟨false, keys, vals, kids⟩ kv vv iv) (hf : FewN ⟨false, keys, vals, kids⟩) (hs : kids.length = keys.length + 1) (hk : k + 1 < keys.length) :
  Calls Tryz.prog 72 #[.agg #[.bool false, kv, vv, iv], .int .i64 (k : Int)] w (PartsPost ⟨false, keys.take k, [], kids.take (k + 1)⟩ (keys.getD k []) ⟨false, keys.drop (k + 1), [], kids.drop (k + 1)⟩ w) := by
 obtain ⟨ka, kc, hkv⟩ := h.keys.form
 obtain ⟨va, vc, hvv⟩ := h.vals.form
 obtain ⟨ia, ic, hiv⟩ := h.kids.form
 simp only at hkv hvv hiv
 subst hkv hvv hiv
 obtain ⟨kl, hkl⟩ : ∃ m, m = keys.length := ⟨_, rfl⟩
 obtain ⟨vl, hvl⟩ : ∃ m, m = vals.length := ⟨_, rfl⟩
 obtain ⟨il, hil⟩ : ∃ m, m = (kids.map Int.ofNat).length := ⟨_, rfl⟩
 rw [<- hkl, <- hvl, <- hil] at h |-
 have hkl9 : kl <= 10000 := by rw [hkl]; exact hf.keys
 have HH := HoldT.mk (And.intro h (And.intro hs (And.intro hk (And.intro hkl (And.intro hvl hil)))))
 have hk1 : k < kl := by omega
 have hkl8 : k + 1 < kl := by omega
 have hik : il = kl + 1 := by rw [hil, List.length_map]; omega
 have HIK := HoldT.mk hik
 have hik2 : k + 1 < il := by omega
 clear hik
 clear h hf hs hk hkl hvl hil
 go_enter Tryz.func72, Tryz.ntmps72
 go_upto_region 3 with (fail)
 obtain ⟨w1, hw1⟩ : ∃ w1, w1 = w.alloc (.cells #[.bool false, .slice ka kl kc, .slice va vl vc, .slice ia il ic] 107) := ⟨_, rfl⟩
 obtain ⟨w2, hw2⟩ : ∃ w2, w2 = w1.alloc (.cells #[.bool false, .slice none 0 0, .slice none 0 0, .slice none 0 0] 107) := ⟨_, rfl⟩
 obtain ⟨w3, hw3⟩ : ∃ w3, w3 = w2.alloc (.cells #[.bool false, .slice none 0 0, .slice none 0 0, .slice none 0 0] 107) := ⟨_, rfl⟩
 obtain ⟨q4, hq4⟩ : ∃ q4, q4 = w.heap.size + 1 := ⟨_, rfl⟩
 obtain ⟨q6, hq6⟩ : ∃ q6, q6 = q4 + 1 := ⟨_, rfl⟩
 obtain ⟨q, hq⟩ : ∃ q, q = w.heap.size := ⟨_, rfl⟩
 rw [<- hw1, <- hw2, <- hw3, <- hq4, <- hq6, <- hq]
 have hs1 : w1.heap.size = q4 := by rw [hw1, hq4]; simp
 have hs2 : w2.heap.size = q6 := by rw [hw2, hq6, <- hs1]; simp
 have hb1 : Below w.heap.size w w1 := by rw [hw1]; exact (Below.refl _ w).alloc (Nat.le_refl _) _
 have hb2 : Below w1.heap.size w1 w2 := by rw [hw2]; exact (Below.refl _ w1).alloc (Nat.le_refl _) _
 have hb3 : Below w2.heap.size w2 w3 := by rw [hw3]; exact (Below.refl _ w2).alloc (Nat.le_refl _) _
 have hbx : w3.heap[q]? = some (.cells #[.bool false, .slice ka kl kc, .slice va vl vc, .slice ia il ic] 107 (0, 0)) := kept (kept (by rw [hw1, hq]; exact heap_alloc_new w _) hb2) hb3
 have hb4 : w3.heap[q4]? = some (.cells #[.bool false, .slice none 0 0, .slice none 0 0, .slice none 0 0] 107 (0, 0)) := kept (by rw [hw2, <- hs1]; exact heap_alloc_new w1 _) hb3
 have hb6 : w3.heap[q6]? = some (.cells #[.bool false, .slice none 0 0, .slice none 0 0, .slice none 0 0] 107 (0, 0)) := by rw [hw3, <- hs2]; exact heap_alloc_new w2 _
 have hbb : Below w.heap.size w w3 := (hb1.trans (hb2.mono hb1.size)).trans (hb3.mono (Nat.le_trans hb1.size hb2.size))
 have HN := HoldT.mk (HH.out.1.below hbb)
 have HB := HoldT.mk (And.intro hbb (And.intro hbx (And.intro hb4 (And.intro hb6 (And.intro hq (And.intro hq4 hq6))))))
 clear hw1 hw2 hw3 hs1 hs2 hb1 hb2 hb3 hq4 hq6 hq
 have hqne : q ≠ q4 /\ q ≠ q6 /\ q4 ≠ q6 := by obtain ⟨_, _, _, _, e1, e2, e3⟩ := HB.out; omega
 obtain ⟨kk, hkk⟩ : ∃ x, keys[k]? = some x := ⟨keys[k]'(by have := HH.out.2.2.2.1; omega), List.getElem?_eq_getElem _⟩
 obtain ⟨b, off, xa, xc, rfl, hc0, hy⟩ := bat_cell HH.out.1.keys hkk
 have hcb : b < w.heap.size := lt_of_cell hc0
 have hc : w3.cell? ⟨b, off + k, none⟩ = some (.slice xa kk.length xc) := cle_below HB.out.1 _ _ _ hc0
 clear hc0
 have hcap : kl <= kc /\ kc <= 9223372036854775807 := by
  obtain ⟨_, _, e, h1, h2, _⟩ := HN.out.keys
  simp only [Value.slice.injEq] at e
  rw [<- e.2.2] at h1 h2
  exact ⟨by rw [HH.out.2.2.2.1]; exact h1, h2⟩
 obtain ⟨vv0, hvv0⟩ : ∃ x, kids[k]? = some x := ⟨kids[k]'(by have h1 := HH.out.2.1; have h2 := HH.out.2.2.2.1; omega), List.getElem?_eq_getElem _⟩
 obtain ⟨jb, jo, rfl, h9c⟩ := sat_cell HN.out.kids (mem_map_nat.2 hvv0)
 clear hvv0 h9c
 have hvcap : il <= ic /\ ic <= 9223372036854775807 := by
  obtain ⟨_, _, e, h1, h2, _⟩ := HN.out.kids
  simp only [Value.slice.injEq] at e
  rw [<- e.2.2] at h1 h2
  exact ⟨by rw [HH.out.2.2.2.2.2]; exact h1, h2⟩
 have hvi : (k : Int) + 1 <= (ic : Int) := by omega
 have hvlc : (il : Int) <= (ic : Int) := by omega
 have hvle : (k : Int) + 1 <= (il : Int) := by omega
 have hvn : ¬ ic = k + 1 := by omega
 have hkn : ¬ kc = k + 1 := by omega
 have hki2 : (k : Int) + 1 <= (kc : Int) := by omega
 have hkil2 : (k : Int) + 1 <= (kl : Int) := by omega
 have htn : ((k : Int) + 1).toNat = k + 1 := by omega
 have hz1 : (0 : Int) <= (k : Int) + 1 := by omega
 have HK := HoldT.mk (And.intro hkk hy)
 have x1 : w3.cell? ⟨q, 1, none⟩ = some (.slice (some ⟨b, off, none⟩) kl kc) := by simp [World.cell?, hbx]
 have x3 : w3.cell? ⟨q, 3, none⟩ = some (.slice (some ⟨jb, jo, none⟩) il ic) := by simp [World.cell?, hbx]
 have g1 := KeepS.cell (P := fun b => b = q \/ b < w.heap.size) x1 (.inl rfl)
 have g2 := KeepS.cell (P := fun b => b = q \/ b < w.heap.size) x3 (.inl rfl)
 have g3 := KeepS.cell (P := fun b => b = q \/ b < w.heap.size) hc (.inr hcb)
 have hki : (k : Int) <= (kc : Int) := by omega
 have hklc : (kl : Int) <= (kc : Int) := by omega
 have hkil : (k : Int) < (kl : Int) := by omega
 have hkle : (k : Int) <= (kl : Int) := by omega
 clear x1 x3 hbx hkk hy hc hcb
 refine wp_region_mixC (KeepSC (fun b => b = q \/ b < w.heap.size) w3) 29 rfl (by kernel_rfl) ?_
 have HDR := HoldT.mk ((Below.refl w3.heap.size w3).drew)
 have HST : HoldT (∀ q : Nat, w3.drew.heap[q]? = w3.heap[q]?) := ⟨fun _ => rfl⟩
 have hb4' : w3.drew.heap[q4]? = _ := hb4
 have hb6' : w3.drew.heap[q6]? = _ := hb6
 clear hb4 hb6
 generalize w3.drew = v9 at HDR HST hb4' hb6' |-
 refine mixl_seg (by kernel_rfl) (fun _ _ d _ _ h => by cases d <;> exact h) [0, 1, 2, 3, 4, 5, 6, 7, 8, 9, 10, 11, 12, 13, 14, 15, 16, 17, 18, 19, 20, 21, 22, 23, 24, 25] [_, _, _, _, _, _, _, _, _, _, _, _, _, _, _, _, _, _, _, _, _, _, _, _, _, _] 3 29 rfl _ _ _ rfl (by kernel_rfl) (keepSC fun q _ => HST.out q) ?_
 repeat (go_big_quiet_step (fail))
 refine wpQuiet_nil ?_
 clear g1 g2 g3
 have z0 : v9.cell? ⟨q4, 0, none⟩ = some (.bool false) := by simp [World.cell?, hb4']
 have z1 : v9.cell? ⟨q4, 1, none⟩ = some (.slice none 0 0) := by simp [World.cell?, hb4']
 have z2 : v9.cell? ⟨q4, 2, none⟩ = some (.slice none 0 0) := by simp [World.cell?, hb4']
 have z3 : v9.cell? ⟨q4, 3, none⟩ = some (.slice none 0 0) := by simp [World.cell?, hb4']
 have f0 : v9.frozen? ⟨q4, 0, none⟩ = false := by simp [World.frozen?, hb4']
 have f1 : v9.frozen? ⟨q4, 1, none⟩ = false := by simp [World.frozen?, hb4']
 have f2 : v9.frozen? ⟨q4, 2, none⟩ = false := by simp [World.frozen?, hb4']
 have f3 : v9.frozen? ⟨q4, 3, none⟩ = false := by simp [World.frozen?, hb4']
 have HB4 := HoldT.mk (And.intro hb4' hb6')
 clear hb4' hb6'
 refine mixl_act (i := 26) rfl (by kernel_rfl) (keepSC fun q _ => HST.out q) rfl (fun K hK => ?_)
 go_wp2_with fail
 clear z0 z1 z2 z3 f0 f1 f2 f3
 obtain ⟨u4, hu4⟩ : ∃ u, u = set4 v9 q4 (.bool false) (.slice (some ⟨b, off, none⟩) k kc) (.slice none 0 0) (.slice (some ⟨jb, jo, none⟩) (k + 1) ic) := ⟨_, rfl⟩
 have hu4' := hu4
 unfold set4 at hu4'
 rw [<- hu4']
 have HU4 := HoldT.mk hu4
 clear hu4 hu4'
 have hg4 : v9.grownBy u4 (some q4) := by rw [HU4.out]; exact set4_grown _ _ _ _ _ _
 have h46 : u4.heap[q6]? = some (.cells #[.bool false, .slice none 0 0, .slice none 0 0, .slice none 0 0] 107 (0, 0)) := (hg4.block q6 (heap_lt HB4.out.2) (fun e => hqne.2.2 (Option.some.inj e).symm)).trans HB4.out.2
 have h44 : u4.heap[q4]? = some (.cells #[.bool false, .slice (some ⟨b, off, none⟩) k kc, .slice none 0 0, .slice (some ⟨jb, jo, none⟩) (k + 1) ic] 107 (0, 0)) := by rw [HU4.out]; exact set4_heap HB4.out.1
 have hk4 : ∀ x, x = q \/ x < w.heap.size -> u4.heap[x]? = w3.heap[x]? := fun x hx => (hg4.block x (by
  have h1 := HDR.out.size
  have h2 := HB.out.1.size
  have h3 := heap_lt HB.out.2.1
  rcases hx with rfl | hx <;> omega) (fun e => by
  have h4 := HB.out.2.2.2.2
  have h5 := Option.some.inj e
  rcases hx with rfl | hx
  ·exact hqne.1 h5
  ·omega)).trans (HST.out x)
 have HK4 := HoldT.mk (And.intro hk4 (And.intro h44 (And.intro hg4 h46)))
 have z0 : u4.cell? ⟨q6, 0, none⟩ = some (.bool false) := by simp [World.cell?, h46]
 have z1 : u4.cell? ⟨q6, 1, none⟩ = some (.slice none 0 0) := by simp [World.cell?, h46]
 have z2 : u4.cell? ⟨q6, 2, none⟩ = some (.slice none 0 0) := by simp [World.cell?, h46]
 have z3 : u4.cell? ⟨q6, 3, none⟩ = some (.slice none 0 0) := by simp [World.cell?, h46]
 have f0 : u4.frozen? ⟨q6, 0, none⟩ = false := by simp [World.frozen?, h46]
 have f1 : u4.frozen? ⟨q6, 1, none⟩ = false := by simp [World.frozen?, h46]
 have f2 : u4.frozen? ⟨q6, 2, none⟩ = false := by simp [World.frozen?, h46]
 have f3 : u4.frozen? ⟨q6, 3, none⟩ = false := by simp [World.frozen?, h46]
 clear hg4 h46 h44 hk4
 refine mixl_seg (by kernel_rfl) (fun _ _ d _ _ h => by cases d <;> exact h) [27] [_] 1 2 rfl _ _ _ rfl (by kernel_rfl) (keepSC HK4.out.1) ?_
 repeat (go_big_quiet_step (fail))
 refine wpQuiet_nil ?_
 refine mixl_act (i := 28) rfl (by kernel_rfl) (keepSC HK4.out.1) rfl (fun K hK => ?_)
 go_wp2_with fail
 clear z0 z1 z2 z3 f0 f1 f2 f3
 obtain ⟨u6, hu6⟩ : ∃ u, u = set4 u4 q6 (.bool false) (.slice (some ⟨b, off + (k + 1), none⟩) (kl - (k + 1)) (kc - (k + 1))) (.slice none 0 0) (.slice (some ⟨jb, jo + (k + 1), none⟩) (il - (k + 1)) (ic - (k + 1))) := ⟨_, rfl⟩
 have hu6' := hu6
 unfold set4 at hu6'
 rw [<- hu6']
 have hg6 : u4.grownBy u6 (some q6) := by rw [hu6]; exact set4_grown _ _ _ _ _ _
 have h66 : u6.heap[q6]? = some (.cells #[.bool false, .slice (some ⟨b, off + (k + 1), none⟩) (kl - (k + 1)) (kc - (k + 1)), .slice none 0 0, .slice (some ⟨jb, jo + (k + 1), none⟩) (il - (k + 1)) (ic - (k + 1))] 107 (0, 0)) := by rw [hu6]; exact set4_heap HK4.out.2.2.2
 have h64 : u6.heap[q4]? = some (.cells #[.bool false, .slice (some ⟨b, off, none⟩) k kc, .slice none 0 0, .slice (some ⟨jb, jo, none⟩) (k + 1) ic] 107 (0, 0)) := (hg6.block q4 (heap_lt HK4.out.2.1) (fun e => hqne.2.2 (Option.some.inj e))).trans HK4.out.2.1
 have hk6 : ∀ x, x = q \/ x < w.heap.size -> u6.heap[x]? = w3.heap[x]? := fun x hx => (hg6.block x (by
  have h0 := HK4.out.2.2.1.size
  have h1 := HDR.out.size
  have h2 := HB.out.1.size
  have h3 := heap_lt HB.out.2.1
  rcases hx with rfl | hx <;> omega) (fun e => by
  have h4 := HB.out.2.2.2.2
  have h5 := Option.some.inj e
  rcases hx with rfl | hx
  ·exact hqne.2.1 h5
  ·omega)).trans (HK4.out.1 x hx)
 have hbu : Below w.heap.size w u6 := by
  have hd := HB.out.2.2.2.2
  have b1 := HB.out.1.trans (HDR.out.mono HB.out.1.size)
  have b2 := b1.grown HK4.out.2.2.1 b1.size (fun x e => by cases e; omega)
  exact b2.grown hg6 b2.size (fun x e => by cases e; omega)
 have HFIN := HoldT.mk (And.intro hk6 hbu)
 clear hu6 hu6' hg6 hk6 hbu
 refine mix_done (by kernel_rfl) (keepSC HFIN.out.1) ?_
 go_wp2_with fail
 have c0 : u6.cell? ⟨q4, 0, none⟩ = some (.bool false) := by simp [World.cell?, h64]
 have c1 : u6.cell? ⟨q4, 1, none⟩ = some (.slice (some ⟨b, off, none⟩) k kc) := by simp [World.cell?, h64]
 have c2 : u6.cell? ⟨q4, 2, none⟩ = some (.slice none 0 0) := by simp [World.cell?, h64]
 have c3 : u6.cell? ⟨q4, 3, none⟩ = some (.slice (some ⟨jb, jo, none⟩) (k + 1) ic) := by simp [World.cell?, h64]
 have d0 : u6.cell? ⟨q6, 0, none⟩ = some (.bool false) := by simp [World.cell?, h66]
 have d1 : u6.cell? ⟨q6, 1, none⟩ = some (.slice (some ⟨b, off + (k + 1), none⟩) (kl - (k + 1)) (kc - (k + 1))) := by simp [World.cell?, h66]
 have d2 : u6.cell? ⟨q6, 2, none⟩ = some (.slice none 0 0) := by simp [World.cell?, h66]
 have d3 : u6.cell? ⟨q6, 3, none⟩ = some (.slice (some ⟨jb, jo + (k + 1), none⟩) (il - (k + 1)) (ic - (k + 1))) := by simp [World.cell?, h66]
 refine bodyPost_ret (v := .tuple #[.agg #[.bool false, .slice (some ⟨b, off, none⟩) k kc, .slice none 0 0, .slice (some ⟨jb, jo, none⟩) (k + 1) ic], .slice xa kk.length xc, .agg #[.bool false, .slice (some ⟨b, off + (k + 1), none⟩) (kl - (k + 1)) (kc - (k + 1)), .slice none 0 0, .slice (some ⟨jb, jo + (k + 1), none⟩) (il - (k + 1)) (ic - (k + 1))]]) (by simp [results, Tryz.results72, go_sem, c0, c1, c2, c3, d0, d1, d2, d3]) rfl ?_
 have hN6 := HH.out.1.below HFIN.out.2
 obtain ⟨hK6, hV6, hI6⟩ := hN6
 have hkk' : keys.getD k [] = kk := nat_getD HK.out.1
 refine ⟨_, _, _, _, _, _, _, rfl, ⟨?_, ?_, ?_⟩, by rw [hkk']; exact HK.out.2.mono RY_mono (cfU_below HFIN.out.2), ⟨?_, ?_, ?_⟩, HFIN.out.2⟩
 ·exact SAt.take hK6 (by have := HH.out.2.2.2.1; show k <= keys.length; omega)
 ·exact SAt.none _ _ _
 ·have e := HH.out.2.2.2.2.2
  rw [List.length_map] at e
  have := SAt.take hI6 (k := k + 1) (by show k + 1 <= (kids.map Int.ofNat).length; rw [List.length_map]; have h1 := HH.out.2.1; have h2 := HH.out.2.2.2.1; omega)
  rw [<- List.map_take] at this
  exact this
 ·have e := HH.out.2.2.2.1
  rw [e] at hK6 |-
  have := SAt.drop hK6 (k := k + 1) (by show k + 1 <= keys.length; omega)
  rw [Nat.mul_one] at this
  exact this
 ·exact SAt.none _ _ _
 ·have e := HH.out.2.2.2.2.2
  rw [e] at hI6 |-
  have := SAt.drop hI6 (k := k + 1) (by show k + 1 <= (kids.map Int.ofNat).length; rw [List.length_map]; have h1 := HH.out.2.1; have h2 := HH.out.2.2.2.1; omega)
  rw [Nat.mul_one, <- List.map_drop] at this
  exact this
def partA (n : ND) (k : Nat) : ND := if n.leaf = true then ⟨true, n.keys.take k, n.vals.take k, []⟩ else ⟨false, n.keys.take k, [], n.kids.take (k + 1)⟩
def partB (n : ND) (k : Nat) : ND := if n.leaf = true then ⟨true, n.keys.drop k, n.vals.drop k, []⟩ else ⟨false, n.keys.drop (k + 1), [], n.kids.drop (k + 1)⟩
def lastN (n : ND) : Nat := if n.leaf = true then n.keys.length - 1 else n.keys.length - 2
theorem node_parts {w : World} {n : ND} {kv vv iv : Value} {k : Nat} (h : NAt w n kv vv iv) (hs : ShN n) (hk : 1 <= k) (hl : k <= lastN n) :
  Calls Tryz.prog 72 #[nodeV n kv vv iv, .int .i64 (k : Int)] w (PartsPost (partA n k) (n.keys.getD k []) (partB n k) w) := by
 obtain ⟨leaf, keys, vals, kids⟩ := n
 cases leaf with
 | true =>
  have h1 : k <= keys.length - 1 := hl
  exact node_parts_leaf h hs.fewN (hs.leaf rfl).1 (show k < keys.length by omega)
 | false =>
  have h1 : k <= keys.length - 2 := hl
  exact node_parts_node h hs.fewN (hs.node rfl).2.1 (show k + 1 < keys.length by omega)
end Go.Proofs.YtafilaiinbggoaaGreat
