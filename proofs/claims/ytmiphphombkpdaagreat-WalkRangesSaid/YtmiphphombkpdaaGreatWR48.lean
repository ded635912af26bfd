import Derived.Test.YtmiphphombkpdaaGreatWR46
import Derived.Test.YtmiphphombkpdaaGreatWR47
namespace Go.Proofs.YtmiphphombkpdaaGreat
open Go.RowKit Go.Maps
def RangePost (Q : PQ) (R : Int -> Option Bts) (H : HS) (S : PS) (p c : Nat) (es : EL) (w : World) (e : Ending) (w' : World) : Prop :=
 ∃ (sl : Value) (H' : HS) (S' : PS) (p' : Nat), e = .returned (.tuple #[sl, .int .i64 0]) /\ (∃ cs, OwnS 2 (RE (cfU w')) 42 w.heap.size w' sl es.length es cs) /\ (∀ g, sl.ownBlock = some g -> ¬ H'.all g) /\ PG Q R H' S' p' w' /\ SameP S S' /\ TurnS H.all w H'.all w' /\ p' <= p + c
theorem range_post {Q : PQ} {R : Int -> Option Bts} {H : HS} {S : PS} {p c sb : Nat} {es : EL} {w w1 w' : World} {e : Ending} (hb : Below w.heap.size w w1) (hs : w.heap.size <= sb) (hp : ListPost Q R H S p c sb es w1 e w') : RangePost Q R H S p c es w e w' := by
 obtain ⟨sl, H', S', p', h1, ⟨cs, h2⟩, h3, h4, h5, h6, h7⟩ := hp
 refine ⟨sl, H', S', p', h1, ⟨cs, own_base h2 hb.size⟩, h3, h4, h5, ⟨h6.os.trans hb.os, h6.tape.trans hb.tape, h6.output.trans hb.output, Nat.le_trans hb.size h6.size, fun b hbl hn => ?_⟩, h7⟩
 obtain ⟨c1, c2⟩ := h6.out b (Nat.lt_of_lt_of_le hbl hb.size) (fun e => e.elim hn (fun e => by omega))
 exact ⟨c1.trans (hb.block b hbl), fun e => c2 (.inl e)⟩
set_option maxHeartbeats 8000000 in
set_option maxRecDepth 100000 in
theorem walk_Up {A : Nat} {Q : PQ} {R : Int -> Option Bts} {H : HS} {S : PS} {p : Nat} {f t : Bts} {fv tv : Value} {root most : Int} {o : Top} {w : World} (h : PG Q R H S p w) (hA : A <= w.heap.size /\ ∀ b, H.all b -> A <= b) (hf : YAt (cfL A w) fv f) (ht : YAt (cfL A w) tv t) (ho : TopIn S o root) (hp : p + 4 * (pagesO o).length <= 999999900) (hhh : heightO o <= 20) (hl : (esO o).length <= 1000000) :
  Calls Tryz.prog 12 #[.pointer (some ⟨Q.pb, 0, none⟩), .int .i64 root, fv, tv, .int .i64 most] w (RangePost Q R H S p (4 * (pagesO o).length) (listE false f t most o) w) := by
 obtain ⟨fa, fc, rfl⟩ := hf.form
 obtain ⟨ta, tc, rfl⟩ := ht.form
 obtain ⟨fl, hfl⟩ : ∃ x, x = f.length := ⟨_, rfl⟩
 obtain ⟨tl, htl⟩ : ∃ x, x = t.length := ⟨_, rfl⟩
 rw [<- hfl] at hf |-
 rw [<- htl] at ht |-
 obtain ⟨sb, hsb⟩ : ∃ q, q = w.heap.size := ⟨_, rfl⟩
 obtain ⟨w1, hw1⟩ : ∃ w1, w1 = w.alloc (.cells #[.pointer (some ⟨Q.pb, 0, none⟩), .slice fa fl fc, .slice ta tl tc, .bool false, .nilFunc] 77) := ⟨_, rfl⟩
 have hb1 : Below w.heap.size w w1 := by rw [hw1]; exact (Below.refl _ w).alloc (Nat.le_refl _) _
 have hbx : w1.heap[sb]? = some (.cells #[.pointer (some ⟨Q.pb, 0, none⟩), .slice fa fl fc, .slice ta tl tc, .bool false, .nilFunc] 77 (0, 0)) := by rw [hw1, hsb]; exact heap_alloc_new w _
 have hu : CLe (cfL A w) (cfL A w1) := cfL_below hb1
 have HL := HoldT.mk (list_any (most := most) (h.below hb1) ⟨hbx, hf.mono RY_mono (hu.trans (cfL_cf A w1)), ht.mono RY_mono (hu.trans (cfL_cf A w1))⟩ ⟨Nat.le_trans hA.1 hb1.size, hA.2⟩ (by have := hA.1; omega) (hf.mono RY_mono hu) (ht.mono RY_mono hu) (fun e => by have := h.lt sb e; omega) ho hp hhh hl)
 have HB := HoldT.mk (And.intro hb1 (show w.heap.size <= sb by omega))
 have HW := HoldT.mk (And.intro hsb hw1)
 clear h hA hf ht ho hp hhh hl hsb hw1 hb1 hbx hu hfl htl
 go_enter Tryz.func12, Tryz.ntmps12
 go_upto_region 2 with (fail)
 rw [<- HW.out.1, <- HW.out.2]
 go_wp2_with fail
 refine HL.out.mono ?_
 rintro e w2 hpost
 have HP := HoldT.mk (range_post HB.out.1 HB.out.2 hpost)
 obtain ⟨sl, H', S', p', rfl, hr⟩ := hpost
 clear hr
 go_wp2_with fail
 refine bodyPost_ret (v := .tuple #[sl, .int .i64 0]) (by simp [results, Tryz.results12, go_sem]) rfl ?_
 exact HP.out
set_option maxHeartbeats 8000000 in
set_option maxRecDepth 100000 in
theorem walk_Down {A : Nat} {Q : PQ} {R : Int -> Option Bts} {H : HS} {S : PS} {p : Nat} {f t : Bts} {fv tv : Value} {root most : Int} {o : Top} {w : World} (h : PG Q R H S p w) (hA : A <= w.heap.size /\ ∀ b, H.all b -> A <= b) (hf : YAt (cfL A w) fv f) (ht : YAt (cfL A w) tv t) (ho : TopIn S o root) (hp : p + 4 * (pagesO o).length <= 999999900) (hhh : heightO o <= 20) (hl : (esO o).length <= 1000000) :
  Calls Tryz.prog 15 #[.pointer (some ⟨Q.pb, 0, none⟩), .int .i64 root, fv, tv, .int .i64 most] w (RangePost Q R H S p (4 * (pagesO o).length) (listE true f t most o) w) := by
 obtain ⟨fa, fc, rfl⟩ := hf.form
 obtain ⟨ta, tc, rfl⟩ := ht.form
 obtain ⟨fl, hfl⟩ : ∃ x, x = f.length := ⟨_, rfl⟩
 obtain ⟨tl, htl⟩ : ∃ x, x = t.length := ⟨_, rfl⟩
 rw [<- hfl] at hf |-
 rw [<- htl] at ht |-
 obtain ⟨sb, hsb⟩ : ∃ q, q = w.heap.size := ⟨_, rfl⟩
 obtain ⟨w1, hw1⟩ : ∃ w1, w1 = w.alloc (.cells #[.pointer (some ⟨Q.pb, 0, none⟩), .slice fa fl fc, .slice ta tl tc, .bool true, .nilFunc] 77) := ⟨_, rfl⟩
 have hb1 : Below w.heap.size w w1 := by rw [hw1]; exact (Below.refl _ w).alloc (Nat.le_refl _) _
 have hbx : w1.heap[sb]? = some (.cells #[.pointer (some ⟨Q.pb, 0, none⟩), .slice fa fl fc, .slice ta tl tc, .bool true, .nilFunc] 77 (0, 0)) := by rw [hw1, hsb]; exact heap_alloc_new w _
 have hu : CLe (cfL A w) (cfL A w1) := cfL_below hb1
 have HL := HoldT.mk (list_any (most := most) (h.below hb1) ⟨hbx, hf.mono RY_mono (hu.trans (cfL_cf A w1)), ht.mono RY_mono (hu.trans (cfL_cf A w1))⟩ ⟨Nat.le_trans hA.1 hb1.size, hA.2⟩ (by have := hA.1; omega) (hf.mono RY_mono hu) (ht.mono RY_mono hu) (fun e => by have := h.lt sb e; omega) ho hp hhh hl)
 have HB := HoldT.mk (And.intro hb1 (show w.heap.size <= sb by omega))
 have HW := HoldT.mk (And.intro hsb hw1)
 clear h hA hf ht ho hp hhh hl hsb hw1 hb1 hbx hu hfl htl
 go_enter Tryz.func15, Tryz.ntmps15
 go_upto_region 2 with (fail)
 rw [<- HW.out.1, <- HW.out.2]
 go_wp2_with fail
 refine HL.out.mono ?_
 rintro e w2 hpost
 have HP := HoldT.mk (range_post HB.out.1 HB.out.2 hpost)
 obtain ⟨sl, H', S', p', rfl, hr⟩ := hpost
 clear hr
 go_wp2_with fail
 refine bodyPost_ret (v := .tuple #[sl, .int .i64 0]) (by simp [results, Tryz.results15, go_sem]) rfl ?_
 exact HP.out
end Go.Proofs.YtmiphphombkpdaaGreat
namespace Go.Proofs.YtmiphphombkpdaaGreat
open Go.RowKit Go.Maps
theorem entry_at {c : CF} {w : World} {a : Option Addr} {n cap : Nat} {l : EL} (h : SAt 2 (RE c) (cf w) (.slice a n cap) l) {x : Bts × Bts} (hx : l[0]? = some x) : ∃ b off kv vv, a = some ⟨b, off, none⟩ /\ w.cell? ⟨b, off, none⟩ = some kv /\ w.cell? ⟨b, off + 1, none⟩ = some vv /\ YAt c kv x.1 /\ YAt c vv x.2 := by
 obtain ⟨a2, cap2, e, _, _, h3⟩ := h
 simp only [Value.slice.injEq] at e
 obtain ⟨b, off, d, ea, hd, hc, kv, vv, hr, h4, h5⟩ := h3 0 x hx
 have c0 := hc 0 kv (by rw [hr]; rfl)
 have c1 := hc 1 vv (by rw [hr]; rfl)
 rw [Nat.zero_mul, Nat.add_zero] at c0
 rw [Nat.zero_mul, Nat.add_zero] at c1
 exact ⟨b, off, kv, vv, by rw [e.1, ea], c0, c1, h4, h5⟩
def set2 (w : World) (q : Nat) (a b : Value) : World := (w.setCell ⟨q, 0, none⟩ a).setCell ⟨q, 1, none⟩ b
theorem set2_heap {w : World} {q : Nat} {a b a' b' : Value} {T : TypeId} (h : w.heap[q]? = some (.cells #[a, b] T (0, 0))) : (set2 w q a' b').heap[q]? = some (.cells #[a', b'] T (0, 0)) := by
 have h1 := set_selfT (o := 0) (c := a') h
 have h2 := set_selfT (o := 1) (c := b') h1
 exact h2
theorem set2_grown (w : World) (q : Nat) (a b : Value) : w.grownBy (set2 w q a b) (some q) := (set6_grown (w := w) (db := q) a 0).trans (set6_grown b 1)
def FirstPost (Q : PQ) (R : Int -> Option Bts) (H : HS) (S : PS) (p c : Nat) (x : Option (Bts × Bts)) (w : World) (e : Ending) (w' : World) : Prop :=
 ∃ (ka : Option Addr) (kn kc : Nat) (va : Option Addr) (vn vc : Nat) (H' : HS) (S' : PS) (p' : Nat), e = .returned (.tuple #[.agg #[.slice ka kn kc, .slice va vn vc], .bool x.isSome, .int .i64 0]) /\ (∀ y, x = some y -> YAt (cfU w') (.slice ka kn kc) y.1 /\ YAt (cfU w') (.slice va vn vc) y.2) /\ PG Q R H' S' p' w' /\ SameP S S' /\ TurnS H.all w H'.all w' /\ p' <= p + c
theorem first_post {Q : PQ} {R : Int -> Option Bts} {H H' : HS} {S S' : PS} {p p' c q : Nat} {x : Option (Bts × Bts)} {a b : Value} {ka : Option Addr} {kn kc : Nat} {va : Option Addr} {vn vc : Nat} {w w1 w2 : World} (hb : Below w.heap.size w w1) (hq : w.heap.size <= q) (hbq : w2.heap[q]? = some (.cells #[a, b] 42 (0, 0))) (hqH : ¬ H'.all q) (hx : ∀ y, x = some y -> YAt (cfU w2) (.slice ka kn kc) y.1 /\ YAt (cfU w2) (.slice va vn vc) y.2) (hG : PG Q R H' S' p' w2) (hS : SameP S S') (hT : TurnS H.all w1 H'.all w2) (hp : p' <= p + c) (kv2 vv2 : Value) : FirstPost Q R H S p c x w (.returned (.tuple #[.agg #[.slice ka kn kc, .slice va vn vc], .bool x.isSome, .int .i64 0])) (set2 w2 q kv2 vv2) := by
 have hg := set2_grown w2 q kv2 vv2
 have hnu : ¬ IsU w2 q := fun ⟨_, _, e2⟩ => by rw [hbq] at e2; cases e2
 have hu : CLe (cfU w2) (cfU (set2 w2 q kv2 vv2)) := cfU_grown hg fun b e => by cases e; exact hnu
 have h1 : TurnS H.all w H.all w1 := TurnS.quiet hb
 refine ⟨ka, kn, kc, va, vn, vc, H', S', p', rfl, fun y e => ⟨(hx y e).1.mono RY_mono hu, (hx y e).2.mono RY_mono hu⟩, hG.beside hg (fun b e => by cases e; exact ⟨hqH, hnu⟩), hS, (h1.trans hT).own hg hq, hp⟩
set_option maxHeartbeats 8000000 in
set_option maxRecDepth 100000 in
theorem walk_First {A : Nat} {Q : PQ} {R : Int -> Option Bts} {H : HS} {S : PS} {p : Nat} {f t : Bts} {fv tv : Value} {root : Int} {o : Top} {w : World} (h : PG Q R H S p w) (hA : A <= w.heap.size /\ ∀ b, H.all b -> A <= b) (hf : YAt (cfL A w) fv f) (ht : YAt (cfL A w) tv t) (ho : TopIn S o root) (hp : p + 4 * (pagesO o).length <= 999999900) (hhh : heightO o <= 20) (hl : (esO o).length <= 1000000) :
  Calls Tryz.prog 17 #[.pointer (some ⟨Q.pb, 0, none⟩), .int .i64 root, fv, tv] w (FirstPost Q R H S p (4 * (pagesO o).length) (listE false f t 1 o).head? w) := by
 obtain ⟨fa, fc, rfl⟩ := hf.form
 obtain ⟨ta, tc, rfl⟩ := ht.form
 obtain ⟨fl, hfl⟩ : ∃ x, x = f.length := ⟨_, rfl⟩
 obtain ⟨tl, htl⟩ : ∃ x, x = t.length := ⟨_, rfl⟩
 rw [<- hfl] at hf |-
 rw [<- htl] at ht |-
 obtain ⟨q, hq⟩ : ∃ q, q = w.heap.size := ⟨_, rfl⟩
 obtain ⟨w1, hw1⟩ : ∃ w1, w1 = w.alloc (.cells #[.slice none 0 0, .slice none 0 0] 42) := ⟨_, rfl⟩
 have hb1 : Below w.heap.size w w1 := by rw [hw1]; exact (Below.refl _ w).alloc (Nat.le_refl _) _
 have hbq : w1.heap[q]? = some (.cells #[.slice none 0 0, .slice none 0 0] 42 (0, 0)) := by rw [hw1, hq]; exact heap_alloc_new w _
 have hu : CLe (cfL A w) (cfL A w1) := cfL_below hb1
 have HL : HoldT (Calls Tryz.prog 12 #[.pointer (some ⟨Q.pb, 0, none⟩), .int .i64 root, .slice fa fl fc, .slice ta tl tc, .int .i64 1] w1 (RangePost Q R H S p (4 * (pagesO o).length) (listE false f t 1 o) w1)) := ⟨by
  have h2 := walk_Up (most := 1) (h.below hb1) ⟨Nat.le_trans hA.1 hb1.size, hA.2⟩ (hf.mono RY_mono hu) (ht.mono RY_mono hu) ho hp hhh hl
  exact h2⟩
 obtain ⟨es, hes⟩ : ∃ es, es = listE false f t 1 o := ⟨_, rfl⟩
 have hle : es.length <= 1 := by rw [hes]; unfold listE; rw [List.length_take]; exact Nat.min_le_left _ _
 rw [<- hes] at HL |-
 have hqH : ¬ H.all q := fun e => by have := h.lt q e; omega
 have HB := HoldT.mk (And.intro hb1 (And.intro (show w.heap.size <= q by omega) (And.intro hbq hqH)))
 have HW := HoldT.mk (And.intro hq hw1)
 clear h hA hf ht ho hp hhh hl hq hw1 hb1 hbq hu hfl htl hes hqH
 go_enter Tryz.func17, Tryz.ntmps17
 go_upto_region 1 with (fail)
 rw [<- HW.out.1, <- HW.out.2]
 go_wp2_with fail
 refine HL.out.mono ?_
 rintro e w2 ⟨sl, H', S', p', rfl, ⟨cs, ho⟩, hoff, hG, hS, hT, hp'⟩
 obtain ⟨a, cap, rfl⟩ := ho.shape
 have hq2 := hT.kept HB.out.2.2.1 HB.out.2.2.2
 have HQ := HoldT.mk hq2.1
 have z0 : w2.cell? ⟨q, 0, none⟩ = some (.slice none 0 0) := by simp [World.cell?, hq2.1]
 have z1 : w2.cell? ⟨q, 1, none⟩ = some (.slice none 0 0) := by simp [World.cell?, hq2.1]
 have f0 : w2.frozen? ⟨q, 0, none⟩ = false := by simp [World.frozen?, hq2.1]
 have f1 : w2.frozen? ⟨q, 1, none⟩ = false := by simp [World.frozen?, hq2.1]
 cases es with
 | nil =>
  have HP := HoldT.mk (fun (x : Option (Bts × Bts)) (kv2 vv2 : Value) hx => first_post (x := x) (ka := none) (kn := 0) (kc := 0) (va := none) (vn := 0) (vc := 0) HB.out.1 HB.out.2.1 hq2.1 hq2.2 hx hG hS hT hp' kv2 vv2)
  clear ho hoff hG hS hT hp' hq2
  rw [List.length_nil]
  go_wp2_with fail
  clear z0 z1 f0 f1
  have hu4 : set2 w2 q (.slice none 0 0) (.slice none 0 0) = set2 w2 q (.slice none 0 0) (.slice none 0 0) := rfl
  conv at hu4 => rhs; unfold set2
  rw [<- hu4]
  clear hu4
  have h44 : (set2 w2 q (.slice none 0 0) (.slice none 0 0)).heap[q]? = some (.cells #[.slice none 0 0, .slice none 0 0] 42 (0, 0)) := set2_heap HQ.out
  have c0 : (set2 w2 q (.slice none 0 0) (.slice none 0 0)).cell? ⟨q, 0, none⟩ = some (.slice none 0 0) := by simp [World.cell?, h44]
  have c1 : (set2 w2 q (.slice none 0 0) (.slice none 0 0)).cell? ⟨q, 1, none⟩ = some (.slice none 0 0) := by simp [World.cell?, h44]
  refine bodyPost_ret (v := .tuple #[.agg #[.slice none 0 0, .slice none 0 0], .bool false, .int .i64 0]) (by simp [results, Tryz.results17, go_sem, c0, c1]) rfl ?_
  exact HP.out none (.slice none 0 0) (.slice none 0 0) (fun y e => by cases e)
 | cons x l =>
  have hl0 : l = [] := by
   cases l with
   | nil => rfl
   | cons y l => simp at hle
  subst hl0
  obtain ⟨b, off, kv, vv, rfl, hc0, hc1, hk, hv⟩ := entry_at (c := cfU w2) (ho.at_ (RE_mono _)) (x := x) rfl
  obtain ⟨xa, xc, rfl⟩ := hk.form
  obtain ⟨ya, yc, rfl⟩ := hv.form
  have HP := HoldT.mk (fun (kv2 vv2 : Value) => first_post (x := some x) HB.out.1 HB.out.2.1 hq2.1 hq2.2 (fun y e => by cases e; exact ⟨hk, hv⟩) hG hS hT hp' kv2 vv2)
  obtain ⟨kl, hkl⟩ : ∃ n, n = x.1.length := ⟨_, rfl⟩
  obtain ⟨vl, hvl⟩ : ∃ n, n = x.2.length := ⟨_, rfl⟩
  rw [<- hkl] at HP hc0
  rw [<- hvl] at HP hc1
  rw [List.length_singleton]
  clear ho hoff hG hS hT hp' hq2 hk hv hkl hvl
  go_wp2_with fail
  clear z0 z1 f0 f1
  have hu4 : set2 w2 q (.slice xa kl xc) (.slice ya vl yc) = set2 w2 q (.slice xa kl xc) (.slice ya vl yc) := rfl
  conv at hu4 => rhs; unfold set2
  rw [<- hu4]
  clear hu4
  have h44 : (set2 w2 q (.slice xa kl xc) (.slice ya vl yc)).heap[q]? = some (.cells #[.slice xa kl xc, .slice ya vl yc] 42 (0, 0)) := set2_heap HQ.out
  have c0 : (set2 w2 q (.slice xa kl xc) (.slice ya vl yc)).cell? ⟨q, 0, none⟩ = some (.slice xa kl xc) := by simp [World.cell?, h44]
  have c1 : (set2 w2 q (.slice xa kl xc) (.slice ya vl yc)).cell? ⟨q, 1, none⟩ = some (.slice ya vl yc) := by simp [World.cell?, h44]
  refine bodyPost_ret (v := .tuple #[.agg #[.slice xa kl xc, .slice ya vl yc], .bool true, .int .i64 0]) (by simp [results, Tryz.results17, go_sem, c0, c1]) rfl ?_
  exact HP.out _ _
end Go.Proofs.YtmiphphombkpdaaGreat
namespace Go.Proofs.YtmiphphombkpdaaGreat
open Go.RowKit Go.Maps
theorem disk_made {n : Nat} (hn : n <= 60000) (w : World) :
  Calls Tryz.prog 21 #[.int .i64 (n : Int)] w fun e w' => ∃ (db : Nat) (HD : BS), e = .returned (.pointer (some ⟨db, 0, none⟩)) /\ DG HD db n (fun _ => none) 0 w' /\ Below w.heap.size w w' /\ ∀ b, HD b -> w.heap.size <= b := by
 refine (disk_new (n : Int) w (by omega) (by omega)).mono ?_
 rintro e w3 ⟨rfl, hw3⟩
 obtain ⟨nb, hnb⟩ : ∃ q, q = w.heap.size := ⟨_, rfl⟩
 obtain ⟨w1, hw1⟩ : ∃ w1, w1 = w.alloc (.map #[] 0) := ⟨_, rfl⟩
 obtain ⟨w2, hw2⟩ : ∃ w2, w2 = w1.alloc (.map #[] 0) := ⟨_, rfl⟩
 rw [<- hw1, <- hw2, <- hnb] at hw3
 rw [<- hnb]
 have hb1 : Below w.heap.size w w1 := by rw [hw1]; exact (Below.refl _ w).alloc (Nat.le_refl _) _
 have hm1 : MapI nb (fun _ => none) w1 := by rw [hw1, hnb]; exact MapI.start w
 have hb2 : Below w1.heap.size w1 w2 := by rw [hw2]; exact (Below.refl _ w1).alloc (Nat.le_refl _) _
 have h12 : w1.heap.size = nb + 1 := by rw [hw1, hnb]; simp
 have hm2 : MapI (nb + 1) (fun _ => none) w2 := by rw [hw2, <- h12]; exact MapI.start w1
 have hm12 : MapI nb (fun _ => none) w2 := hm1.same (hb2.block nb (by omega))
 have hb3 : Below w2.heap.size w2 w3 := by rw [hw3]; exact (Below.refl _ w2).alloc (Nat.le_refl _) _
 have h23 : w2.heap.size = nb + 2 := by rw [hw2]; simp [h12]
 have hbx : DBox w3 (nb + 2) (n : Int) nb (nb + 1) (.slice none 0 0) 0 0 0 := by rw [hw3, <- h23]; exact heap_alloc_new w2 _
 have hs3 : w3.heap.size = nb + 3 := by rw [hw3]; simp [h23]
 have hm13 : MapI nb (fun _ => none) w3 := hm12.same (hb3.block nb (by omega))
 have hm23 : MapI (nb + 1) (fun _ => none) w3 := hm2.same (hb3.block (nb + 1) (by omega))
 have hbb : Below nb w w3 := by rw [hnb]; exact (hb1.trans (hb2.mono hb1.size)).trans (hb3.mono (Nat.le_trans hb1.size hb2.size))
 refine ⟨nb + 2, fun b => b = nb \/ b = nb + 1 \/ b = nb + 2, rfl, ⟨⟨nb, nb + 1, _, _, _, _, _, _, [], [], hbx, hm13, hm23, by omega, by omega, .inl rfl, .inr (.inl rfl), OwnS.start 2 _ _ (Nat.zero_le _), fun x hx => (by cases hx), fun g e => (by cases e), fun k => rfl, fun k e => (by cases e)⟩, fun k e => (by cases e), by omega, .inr (.inr rfl), fun b hb => (by omega), fun b hb hu => ?_⟩, hbb, fun b hb => by omega⟩
 obtain ⟨_, _, e2⟩ := hu
 rcases hb with rfl | rfl | rfl
 ·exact map_not hm13 e2
 ·exact map_not hm23 e2
 ·rw [hbx] at e2; cases e2
end Go.Proofs.YtmiphphombkpdaaGreat
namespace Go.Proofs.YtmiphphombkpdaaGreat
open Go.RowKit Go.Maps
theorem es_phi : ∀ (h : Nat) (t : Tree h), (esT h t).length <= phiT h t
 | 0, t => by
  show t.2.length <= max t.2.length 2
  omega
 | h + 1, t => by
  show (t.2.1.flatMap (esT h)).length <= (t.2.1.map (phiT h)).sum
  rw [List.length_flatMap]
  exact sum_le fun x _ => es_phi h x
theorem okO_few {j : Nat} {o : Top} (h : okO j o) (hj : j <= 80) : heightO o <= 6 /\ (pagesO o).length <= 79 /\ (esO o).length <= 81 := by
 match o, h with
 | none, _ => exact ⟨Nat.zero_le _, Nat.zero_le _, Nat.zero_le _⟩
 | some ⟨g, t⟩, h =>
  have h1 := low_tree h.1 (by have := h.2.2; omega)
  have h2 := es_phi g t
  have h3 := h.2.2
  exact ⟨by show g + 1 <= 6; omega, h1.2, by show (esT g t).length <= 81; omega⟩
theorem okO_more {j : Nat} {o : Top} (h : okO j o) : okO (j + 1) o := by
 match o, h with
 | none, h => exact h
 | some ⟨g, t⟩, h => exact ⟨h.1, h.2.1, by have := h.2.2; omega⟩
theorem okO_up {j : Nat} {o : Top} (h : okO j o) : upB ((esO o).map (·.1)) := by
 match o, h with
 | none, _ => exact List.Pairwise.nil
 | some ⟨g, t⟩, h => exact es_up g h.1
structure LS (Q : PQ) (R : Int -> Option Bts) (H : HS) (S : PS) (p tb mb : Nat) (o : Top) (root : Int) (sl : Value) (es : EL) (j : Nat) (w0 w : World) : Prop where
 pg : PG Q R H S p w
 tbx : TB H w tb Q.pb root
 top : TopIn S o root
 ok : okO j o
 only : Only S (pagesO o)
 len : S.is.length = 300
 few : p <= 2000 * j
 map : RM w mb sl es
 apart : ∀ b, mapX mb sl b -> ¬ (H.all b \/ b = tb)
 bel : Below w0.heap.size w0 w
 new : ∀ b, H.all b \/ b = tb \/ mapX mb sl b -> w0.heap.size <= b
theorem LS.noU {Q : PQ} {R : Int -> Option Bts} {H : HS} {S : PS} {p tb mb : Nat} {o : Top} {root : Int} {sl : Value} {es : EL} {j : Nat} {w0 w : World} (h : LS Q R H S p tb mb o root sl es j w0 w) : ∀ b, H.all b \/ b = tb -> ¬ IsU w b := fun b hb => hb.elim (h.pg.noU b) (fun e ⟨_, _, e2⟩ => by rw [e, h.tbx.box] at e2; cases e2)
theorem LS.free {Q : PQ} {R : Int -> Option Bts} {H : HS} {S : PS} {p tb mb : Nat} {o : Top} {root : Int} {sl : Value} {es : EL} {j : Nat} {w0 w : World} (h : LS Q R H S p tb mb o root sl es j w0 w) (hj : j <= 80) : 2 * heightO o + 3 <= freeP S := by
 obtain ⟨h1, h2, _⟩ := okO_few h.ok hj
 have h3 := h.only.free
 have h4 := h.len
 omega
theorem LS.quiet {Q : PQ} {R : Int -> Option Bts} {H : HS} {S : PS} {p tb mb : Nat} {o : Top} {root : Int} {sl : Value} {es : EL} {j : Nat} {w0 w w' : World} (h : LS Q R H S p tb mb o root sl es j w0 w) (hb : Below w.heap.size w w') : LS Q R H S p tb mb o root sl es j w0 w' :=
 ⟨h.pg.below hb, h.tbx.below hb, h.top, h.ok, h.only, h.len, h.few, h.map.below hb, h.apart, h.bel.trans (hb.mono h.bel.size), h.new⟩
theorem LS.turned {Q : PQ} {R : Int -> Option Bts} {H H' : HS} {S S' : PS} {p p' tb mb : Nat} {o o' : Top} {root root' : Int} {sl : Value} {es : EL} {j j' : Nat} {w0 w w' : World} (h : LS Q R H S p tb mb o root sl es j w0 w) (hG : PG Q R H' S' p' w') (hB : TB H' w' tb Q.pb root') (hI : TopIn S' o' root') (hok : okO j' o') (hM : Moves S S' (pagesO o) (pagesO o')) (hT : TurnS (fun b => H.all b \/ b = tb) w (fun b => H'.all b \/ b = tb) w') (hp : p' <= 2000 * j') : LS Q R H' S' p' tb mb o' root' sl es j' w0 w' /\ CLe (cfU w) (cfU w') := by
 have hu := cfU_turn hT h.noU
 obtain ⟨m1, m2⟩ := h.map.turn hT h.apart h.noU
 have hnew : ∀ b, b < w0.heap.size -> ¬ (H.all b \/ b = tb) := fun b hb e => by
  have := h.new b (e.elim .inl (fun e => .inr (.inl e)))
  omega
 refine ⟨⟨hG, hB, hI, hok, h.only.moves hM, hM.len.trans h.len, hp, m1, m2, ⟨hT.os.trans h.bel.os, hT.tape.trans h.bel.tape, hT.output.trans h.bel.output, Nat.le_trans h.bel.size hT.size, fun b hb => ?_⟩, fun b hb => ?_⟩, hu⟩
 ·exact (hT.out b (Nat.lt_of_lt_of_le hb h.bel.size) (hnew b hb)).1.trans (h.bel.block b hb)
 ·by_cases e : w0.heap.size <= b
  ·exact e
  ·have h1 := hT.out b (Nat.lt_of_lt_of_le (by omega) h.bel.size) (hnew b (by omega))
   rcases hb with hb | hb | hb
   ·exact absurd (.inl hb) h1.2
   ·exact absurd (.inr hb) h1.2
   ·exact h.new b (.inr (.inr hb))
theorem LS.put {Q : PQ} {R : Int -> Option Bts} {H : HS} {S : PS} {p tb mb : Nat} {o : Top} {root : Int} {sl : Value} {es : EL} {j : Nat} {w0 w w' : World} {k v : Bts} {e : Ending} (h : LS Q R H S p tb mb o root sl es j w0 w) (hj : j <= 80) (hk : keyOk k) (hk4 : k.length <= 40) (hv : v.length <= 260) (hp : PutPost Q R H S p tb o k v w e w') :
  e = .returned (.int .i64 0) /\ ∃ H' S' p' o' root', LS Q R H' S' p' tb mb o' root' sl es (j + 1) w0 w' /\ esO o' = putE k v (esO o) /\ CLe (cfU w) (cfU w') := by
 obtain ⟨o', root', H', S', p', rfl, hG, hB, hI, hT, hM, hU, hq⟩ := hp
 obtain ⟨h1, h2⟩ := put_top h.ok hk hk4 hv hT
 obtain ⟨h3, _, _⟩ := okO_few h.ok hj
 have h4 := h.few
 obtain ⟨h5, h6⟩ := h.turned hG hB hI h1 hM hU (by omega)
 exact ⟨rfl, H', S', p', o', root', h5, h2, h6⟩
theorem delE_no {k : Bts} {es : EL} (h : (getE k es).isSome = false) : delE k es = es := by rw [delE_parts, found_get, if_neg (by rw [h]; decide)]
theorem LS.del {Q : PQ} {R : Int -> Option Bts} {H : HS} {S : PS} {p tb mb : Nat} {o : Top} {root : Int} {sl : Value} {es : EL} {j : Nat} {w0 w w' : World} {k : Bts} {e : Ending} (h : LS Q R H S p tb mb o root sl es j w0 w) (hj : j <= 80) (hp : DelPost Q R H S p tb o k w e w') :
  e = .returned (.tuple #[.bool (getE k (esO o)).isSome, .int .i64 0]) /\ ∃ H' S' p' o' root', LS Q R H' S' p' tb mb o' root' sl es (j + 1) w0 w' /\ esO o' = delE k (esO o) /\ CLe (cfU w) (cfU w') := by
 obtain ⟨o', root', H', S', p', rfl, hG, hB, hI, hT, hN, hM, hU, hq⟩ := hp
 obtain ⟨h3, _, _⟩ := okO_few h.ok hj
 have h4 := h.few
 cases hs : (getE k (esO o)).isSome with
 | true =>
  obtain ⟨h1, h2⟩ := cut_top hj h.ok (hT hs)
  obtain ⟨h5, h6⟩ := h.turned hG hB hI (okO_more h1) hM hU (by omega)
  exact ⟨rfl, H', S', p', o', root', h5, h2, h6⟩
 | false =>
  obtain rfl := hN hs
  obtain ⟨h5, h6⟩ := h.turned hG hB hI (okO_more h.ok) hM hU (by omega)
  exact ⟨rfl, H', S', p', o', root', h5, (delE_no hs).symm, h6⟩
theorem LS.mapped {Q : PQ} {R : Int -> Option Bts} {H : HS} {S : PS} {p tb mb : Nat} {o : Top} {root : Int} {sl : Value} {es es' : EL} {j : Nat} {w0 w w' : World} {v : Value} {e : Ending} (h : LS Q R H S p tb mb o root sl es j w0 w) (hp : MapPost v mb sl es' w e w') :
  e = .returned v /\ ∃ sl', LS Q R H S p tb mb o root sl' es' j w0 w' := by
 obtain ⟨sl', rfl, hR, hT⟩ := hp
 have hu := cfU_turn hT h.map.noU
 have hnew : ∀ b, b < w0.heap.size -> ¬ mapX mb sl b := fun b hb e => by
  have := h.new b (.inr (.inr e))
  omega
 have hk : ∀ b, H.all b \/ b = tb -> w'.heap[b]? = w.heap[b]? /\ ¬ mapX mb sl' b := fun b hb => hT.out b (hb.elim (h.pg.lt b) (fun e => by rw [e]; exact heap_lt h.tbx.box)) (fun e => h.apart b e hb)
 refine ⟨rfl, sl', h.pg.stand hT.size (fun b hb => (hk b (.inl hb)).1) hu, ⟨(hk tb (.inr rfl)).1.trans h.tbx.box, h.tbx.off⟩, h.top, h.ok, h.only, h.len, h.few, hR, fun b hb e => (hk b e).2 hb, ⟨hT.os.trans h.bel.os, hT.tape.trans h.bel.tape, hT.output.trans h.bel.output, Nat.le_trans h.bel.size hT.size, fun b hb => ?_⟩, fun b hb => ?_⟩
 ·exact (hT.out b (Nat.lt_of_lt_of_le hb h.bel.size) (hnew b hb)).1.trans (h.bel.block b hb)
 ·rcases hb with hb | hb | hb
  ·exact h.new b (.inl hb)
  ·exact h.new b (.inr (.inl hb))
  ·by_cases e : w0.heap.size <= b
   ·exact e
   ·exact absurd hb (hT.out b (Nat.lt_of_lt_of_le (by omega) h.bel.size) (hnew b (by omega))).2
end Go.Proofs.YtmiphphombkpdaaGreat
namespace Go.Proofs.YtmiphphombkpdaaGreat
open Go.RowKit Go.Maps
set_option maxHeartbeats 4000000 in
set_option maxRecDepth 100000 in
theorem law_few (a fa ta : Option Addr) (n c fl fc tl tc : Nat) (most : Int) (w : World) :
  Calls Tryz.prog 9 #[.slice a n c, .agg #[.slice fa fl fc, .slice ta tl tc, .int .i64 most]] w fun e w' => e = .returned (.bool (decide (n <= 80) && decide (fl <= 1000) && decide (tl <= 1000))) /\ Below w.heap.size w w' := by
 obtain ⟨q, hq⟩ : ∃ q, q = w.heap.size := ⟨_, rfl⟩
 obtain ⟨w1, hw1⟩ : ∃ w1, w1 = w.alloc (.cells #[.slice fa fl fc, .slice ta tl tc, .int .i64 most] 25) := ⟨_, rfl⟩
 have hb1 : Below w.heap.size w w1 := by rw [hw1]; exact (Below.refl _ w).alloc (Nat.le_refl _) _
 have hbx : w1.heap[q]? = some (.cells #[.slice fa fl fc, .slice ta tl tc, .int .i64 most] 25 (0, 0)) := by rw [hw1, hq]; exact heap_alloc_new w _
 have x0 : w1.cell? ⟨q, 0, none⟩ = some (.slice fa fl fc) := by simp [World.cell?, hbx]
 have x1 : w1.cell? ⟨q, 1, none⟩ = some (.slice ta tl tc) := by simp [World.cell?, hbx]
 have HB := HoldT.mk hb1
 have HW := HoldT.mk (And.intro hq hw1)
 clear hq hw1 hb1 hbx
 by_cases h1 : n <= 80
 ·have h1' : (n : Int) <= 80 := by omega
  by_cases h2 : fl <= 1000
  ·have h2' : (fl : Int) <= 1000 := by omega
   go_enter Tryz.func9, Tryz.ntmps9
   go_upto_region 1 with (fail)
   rw [<- HW.out.1, <- HW.out.2]
   go_wp2_with fail
   go_ret
   exact ⟨by simp [h1, h2] <;> omega, HB.out⟩
  ·have h2' : ¬ (fl : Int) <= 1000 := by omega
   go_enter Tryz.func9, Tryz.ntmps9
   go_upto_region 1 with (fail)
   rw [<- HW.out.1, <- HW.out.2]
   go_wp2_with fail
   go_ret
   exact ⟨by simp, HB.out⟩
 ·have h1' : ¬ (n : Int) <= 80 := by omega
  go_enter Tryz.func9, Tryz.ntmps9
  go_upto_region 1 with (fail)
  rw [<- HW.out.1, <- HW.out.2]
  go_wp2_with fail
  go_ret
  exact ⟨by simp, HB.out⟩
end Go.Proofs.YtmiphphombkpdaaGreat
