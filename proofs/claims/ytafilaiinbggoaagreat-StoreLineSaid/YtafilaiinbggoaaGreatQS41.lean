import Derived.Test.YtafilaiinbggoaaGreatQS35
import Derived.Test.YtafilaiinbggoaaGreatQS36
import Derived.Test.YtafilaiinbggoaaGreatQS40
import Derived.Lib.SlBytesConst
namespace Go.Proofs.YtafilaiinbggoaaGreat
open Go.RowKit Go.Maps
def RangePost (Q : PQ) (R : Int -> Option Bts) (H : HS) (S : PS) (p c : Nat) (es : EL) (w : World) (e : Ending) (w' : World) : Prop :=
 ∃ (sl : Value) (H' : HS) (S' : PS) (p' : Nat), e = .returned (.tuple #[sl, .int .i64 0]) /\ (∃ cs, OwnS 2 (RE (cfU w')) 127 w.heap.size w' sl es.length es cs) /\ (∀ g, sl.ownBlock = some g -> ¬ H'.all g) /\ PG Q R H' S' p' w' /\ SameP S S' /\ TurnS H.all w H'.all w' /\ p' <= p + c
theorem range_post {Q : PQ} {R : Int -> Option Bts} {H : HS} {S : PS} {p c sb : Nat} {es : EL} {w w1 w' : World} {e : Ending} (hb : Below w.heap.size w w1) (hs : w.heap.size <= sb) (hp : ListPost Q R H S p c sb es w1 e w') : RangePost Q R H S p c es w e w' := by
 obtain ⟨sl, H', S', p', h1, ⟨cs, h2⟩, h3, h4, h5, h6, h7⟩ := hp
 refine ⟨sl, H', S', p', h1, ⟨cs, own_base h2 hb.size⟩, h3, h4, h5, ⟨h6.os.trans hb.os, h6.tape.trans hb.tape, h6.output.trans hb.output, Nat.le_trans hb.size h6.size, fun b hbl hn => ?_⟩, h7⟩
 obtain ⟨c1, c2⟩ := h6.out b (Nat.lt_of_lt_of_le hbl hb.size) (fun e => e.elim hn (fun e => by omega))
 exact ⟨c1.trans (hb.block b hbl), fun e => c2 (.inl e)⟩
set_option maxHeartbeats 8000000 in
set_option maxRecDepth 100000 in
theorem walk_Up {A : Nat} {Q : PQ} {R : Int -> Option Bts} {H : HS} {S : PS} {p : Nat} {f t : Bts} {fv tv : Value} {root most : Int} {o : Top} {w : World} (h : PG Q R H S p w) (hA : A <= w.heap.size /\ ∀ b, H.all b -> A <= b) (hf : YAt (cfL A w) fv f) (ht : YAt (cfL A w) tv t) (ho : TopIn S o root) (hp : p + 4 * (pagesO o).length <= 999999900) (hhh : heightO o <= 20) (hl : (esO o).length <= 1000000) :
  Calls Tryz.prog 42 #[.pointer (some ⟨Q.pb, 0, none⟩), .int .i64 root, fv, tv, .int .i64 most] w (RangePost Q R H S p (4 * (pagesO o).length) (listE false f t most o) w) := by
 obtain ⟨fa, fc, rfl⟩ := hf.form
 obtain ⟨ta, tc, rfl⟩ := ht.form
 obtain ⟨fl, hfl⟩ : ∃ x, x = f.length := ⟨_, rfl⟩
 obtain ⟨tl, htl⟩ : ∃ x, x = t.length := ⟨_, rfl⟩
 rw [<- hfl] at hf |-
 rw [<- htl] at ht |-
 obtain ⟨sb, hsb⟩ : ∃ q, q = w.heap.size := ⟨_, rfl⟩
 obtain ⟨w1, hw1⟩ : ∃ w1, w1 = w.alloc (.cells #[.pointer (some ⟨Q.pb, 0, none⟩), .slice fa fl fc, .slice ta tl tc, .bool false, .nilFunc] 153) := ⟨_, rfl⟩
 have hb1 : Below w.heap.size w w1 := by rw [hw1]; exact (Below.refl _ w).alloc (Nat.le_refl _) _
 have hbx : w1.heap[sb]? = some (.cells #[.pointer (some ⟨Q.pb, 0, none⟩), .slice fa fl fc, .slice ta tl tc, .bool false, .nilFunc] 153 (0, 0)) := by rw [hw1, hsb]; exact heap_alloc_new w _
 have hu : CLe (cfL A w) (cfL A w1) := cfL_below hb1
 have HL := HoldT.mk (list_any (most := most) (h.below hb1) ⟨hbx, hf.mono RY_mono (hu.trans (cfL_cf A w1)), ht.mono RY_mono (hu.trans (cfL_cf A w1))⟩ ⟨Nat.le_trans hA.1 hb1.size, hA.2⟩ (by have := hA.1; omega) (hf.mono RY_mono hu) (ht.mono RY_mono hu) (fun e => by have := h.lt sb e; omega) ho hp hhh hl)
 have HB := HoldT.mk (And.intro hb1 (show w.heap.size <= sb by omega))
 have HW := HoldT.mk (And.intro hsb hw1)
 clear h hA hf ht ho hp hhh hl hsb hw1 hb1 hbx hu hfl htl
 go_enter Tryz.func42, Tryz.ntmps42
 go_upto_region 2 with (fail)
 rw [<- HW.out.1, <- HW.out.2]
 go_wp2_with fail
 refine HL.out.mono ?_
 rintro e w2 hpost
 have HP := HoldT.mk (range_post HB.out.1 HB.out.2 hpost)
 obtain ⟨sl, H', S', p', rfl, hr⟩ := hpost
 clear hr
 go_wp2_with fail
 refine bodyPost_ret (v := .tuple #[sl, .int .i64 0]) (by simp [results, Tryz.results42, go_sem]) rfl ?_
 exact HP.out
end Go.Proofs.YtafilaiinbggoaaGreat
namespace Go.Proofs.YtafilaiinbggoaaGreat
def PutLv (h : Nat) (t : Tree h) (r : PRes h) : Prop := match r.2 with
 | none => lvT h r.1 <= lvT h t + 1
 | some (_, y) => lvT h r.1 + lvT h y <= lvT h t + 1
theorem put_lv : ∀ (h : Nat) {t : Tree h} {k v : Bts} {r : PRes h}, PutR h t k v r -> PutLv h t r
 | 0, t, k, v, r, hr => by
  rcases hr with ⟨_, rfl⟩ | ⟨_, j, m, s, _, _, rfl⟩
  ·show (1 : Nat) <= 1 + 1
   omega
  ·show (1 : Nat) + 1 <= 1 + 1
   omega
 | h + 1, t, k, v, r, hr => by
  obtain ⟨x, c, hx, hc, hr⟩ := hr
  have ih := put_lv h hc
  have hil := (List.getElem?_eq_some_iff.1 hx).1
  have hall := split_list hx
  generalize kidB k t.2.2 = i at *
  have hphi : lvT (h + 1) t = ((t.2.1.take i).map (lvT h)).sum + (lvT h x + ((t.2.1.drop (i + 1)).map (lvT h)).sum) := by
   show (t.2.1.map (lvT h)).sum = _
   conv => lhs; rw [hall]
   rw [List.map_append, List.map_cons, List.sum_append, List.sum_cons]
  obtain ⟨c1, c2⟩ := c
  cases c2 with
  | none =>
   have i2 : lvT h c1 <= lvT h x + 1 := ih
   obtain rfl : r = ((t.1, t.2.1.set i c1, t.2.2), none) := hr
   show lvT (h + 1) (t.1, t.2.1.set i c1, t.2.2) <= _
   rw [hphi]
   show ((t.2.1.set i c1).map (lvT h)).sum <= _
   rw [set_list hil, List.map_append, List.map_cons, List.sum_append, List.sum_cons]
   omega
  | some sy =>
   obtain ⟨s, y⟩ := sy
   have i4 : lvT h c1 + lvT h y <= lvT h x + 1 := ih
   have hr' : layNode h t.1 (insAt (i + 1) y (t.2.1.set i c1)) (insAt i s t.2.2) r := hr
   rw [ins_list hil] at hr'
   have hsum : ((t.2.1.take i ++ c1 :: y :: t.2.1.drop (i + 1)).map (lvT h)).sum <= lvT (h + 1) t + 1 := by
    rw [hphi, List.map_append, List.map_cons, List.map_cons, List.sum_append, List.sum_cons, List.sum_cons]
    omega
   generalize t.2.1.take i ++ c1 :: y :: t.2.1.drop (i + 1) = ks at *
   generalize insAt i s t.2.2 = keys at *
   rcases hr' with ⟨_, rfl⟩ | ⟨_, j, m, q, _, _, rfl⟩
   ·exact hsum
   ·have h4 := sum_take_drop (ks.map (lvT h)) (j + 1)
    rw [<- List.map_take, <- List.map_drop] at h4
    show ((ks.take (j + 1)).map (lvT h)).sum + ((ks.drop (j + 1)).map (lvT h)).sum <= _
    omega
def okW (n : Nat) : Top -> Prop
 | none => True
 | some ⟨h, t⟩ => WFT h t /\ lvT h t <= n
theorem put_topW {n : Nat} {o o' : Top} {k v : Bts} (ho : okW n o) (hk : keyOk k) (hv : v.length <= 260) (hr : PutTop o k v o') : okW (n + 1) o' /\ esO o' = putE k v (esO o) := by
 cases o with
 | none =>
  obtain ⟨m, rfl⟩ := hr
  refine ⟨⟨⟨by simp, List.pairwise_singleton _ _, fun e he => ?_, ?_⟩, ?_⟩, rfl⟩
  ·obtain rfl := List.mem_singleton.1 he
   exact ⟨hk, hv⟩
  ·show 3 + ([(k, v)].map szE).sum <= 1024
   have := szE_le (e := (k, v)) ⟨hk, hv⟩
   simp only [List.map_cons, List.map_nil, List.sum_cons, List.sum_nil]
   omega
  ·show 1 <= n + 1
   omega
 | some ht =>
  obtain ⟨h, t⟩ := ht
  obtain ⟨w, hp⟩ := ho
  obtain ⟨r, hr, ho'⟩ := hr
  have h1 := put_ok h w hk hv hr
  have h2 := put_lv h hr
  obtain ⟨a, b⟩ := r
  cases b with
  | none =>
   obtain rfl : o' = some ⟨h, a⟩ := ho'
   obtain ⟨w1, e1⟩ : WFT h a /\ esT h a = putE k v (esT h t) := h1
   have p1 : lvT h a <= lvT h t + 1 := h2
   exact ⟨⟨w1, by omega⟩, e1⟩
  | some sy =>
   obtain ⟨s, y⟩ := sy
   obtain ⟨m, rfl⟩ : ∃ m, o' = some ⟨h + 1, mkT h m [a, y] [s]⟩ := ho'
   obtain ⟨wa, wy, hso, hes, ha, hy⟩ : WFT h a /\ WFT h y /\ keyOk s /\ esT h a ++ esT h y = putE k v (esT h t) /\ (∀ e ∈ esT h a, ltB e.1 s = true) /\ ∀ e ∈ esT h y, ltB e.1 s = false := h1
   have hph : lvT h a + lvT h y <= lvT h t + 1 := h2
   have hes2 : esT (h + 1) (mkT h m [a, y] [s]) = putE k v (esT h t) := by
    show [a, y].flatMap (esT h) = _
    rw [List.flatMap_cons, List.flatMap_cons, List.flatMap_nil, List.append_nil]
    exact hes
   refine ⟨⟨⟨by simp [mkT], rfl, List.pairwise_singleton _ _, fun p hp => ?_, ?_, fun z hz => ?_, fun i z hz e he => ?_⟩, ?_⟩, hes2⟩
   ·obtain rfl := List.mem_singleton.1 hp
    exact hso
   ·show 7 + ([s].map szK).sum <= 1024
    have := szK_le hso
    simp only [List.map_cons, List.map_nil, List.sum_cons, List.sum_nil]
    omega
   ·rcases List.mem_cons.1 hz with rfl | hz
    ·exact wa
    ·obtain rfl := List.mem_singleton.1 hz
     exact wy
   ·have hz' : [a, y][i]? = some z := hz
    rcases i with _ | _ | i
    ·obtain rfl := Option.some.inj hz'
     refine ⟨fun j p hj _ => by omega, fun p hp => ?_⟩
     obtain rfl := Option.some.inj hp
     exact ha e he
    ·obtain rfl := Option.some.inj hz'
     refine ⟨fun j p hj hp => ?_, fun p hp => ?_⟩
     ·obtain rfl : j = 0 := by omega
      obtain rfl := Option.some.inj hp
      exact hy e he
     ·simp [mkT] at hp
    ·simp at hz'
   ·show ([a, y].map (lvT h)).sum <= n + 1
    simp only [List.map_cons, List.map_nil, List.sum_cons, List.sum_nil]
    omega
theorem okW_few {n : Nat} {o : Top} (h : okW n o) (hn : n <= 63) : heightO o <= 6 /\ (pagesO o).length <= 2 * n := by
 match o, h with
 | none, _ => exact ⟨Nat.zero_le _, Nat.zero_le _⟩
 | some ⟨g, t⟩, h =>
  have h2 := lv_pow g h.1
  have h3 := pages_lv g h.1
  have h4 := h.2
  refine ⟨Nat.succ_le_of_lt (Nat.lt_of_not_le fun h5 => ?_), by show (pagesT g t).length <= _; omega⟩
  have h6 : 2 ^ 6 <= 2 ^ g := Nat.pow_le_pow_right (by omega) h5
  omega
end Go.Proofs.YtafilaiinbggoaaGreat
namespace Go.Proofs.YtafilaiinbggoaaGreat
open Go.RowKit Go.Maps
theorem disk_made {n : Nat} (hn : n <= 60000) (w : World) :
  Calls Tryz.prog 11 #[.int .i64 (n : Int)] w fun e w' => ∃ (db : Nat) (HD : BS), e = .returned (.pointer (some ⟨db, 0, none⟩)) /\ DG HD db n (fun _ => none) 0 w' /\ Below w.heap.size w w' /\ ∀ b, HD b -> w.heap.size <= b := by
 refine (disk_new (n : Int) w (by omega) (by omega)).mono ?_
 rintro e w3 ⟨rfl, hw3⟩
 obtain ⟨nb, hnb⟩ : ∃ q, q = w.heap.size := ⟨_, rfl⟩
 obtain ⟨w1, hw1⟩ : ∃ w1, w1 = w.alloc (.map #[] 0) := ⟨_, rfl⟩
 obtain ⟨w2, hw2⟩ : ∃ w2, w2 = w1.alloc (.map #[] 0) := ⟨_, rfl⟩
 rw [<- hw1, <- hw2, <- hnb] at hw3
 rw [<- hnb]
 have hb1 : Below w.heap.size w w1 := by rw [hw1]; exact (Below.refl _ w).alloc (Nat.le_refl _) _
 have hm1 : MapI nb (fun _ => none) w1 := by rw [hw1, hnb]; exact MapI.start w
 have hb2 : Below w1.heap.size w1 w2 := by rw [hw2]; exact (Below.refl _ w1).alloc (Nat.le_refl _) _
 have h12 : w1.heap.size = nb + 1 := by rw [hw1, hnb]; simp
 have hm2 : MapI (nb + 1) (fun _ => none) w2 := by rw [hw2, <- h12]; exact MapI.start w1
 have hm12 : MapI nb (fun _ => none) w2 := hm1.same (hb2.block nb (by omega))
 have hb3 : Below w2.heap.size w2 w3 := by rw [hw3]; exact (Below.refl _ w2).alloc (Nat.le_refl _) _
 have h23 : w2.heap.size = nb + 2 := by rw [hw2]; simp [h12]
 have hbx : DBox w3 (nb + 2) (n : Int) nb (nb + 1) (.slice none 0 0) 0 0 0 := by rw [hw3, <- h23]; exact heap_alloc_new w2 _
 have hs3 : w3.heap.size = nb + 3 := by rw [hw3]; simp [h23]
 have hm13 : MapI nb (fun _ => none) w3 := hm12.same (hb3.block nb (by omega))
 have hm23 : MapI (nb + 1) (fun _ => none) w3 := hm2.same (hb3.block (nb + 1) (by omega))
 have hbb : Below nb w w3 := by rw [hnb]; exact (hb1.trans (hb2.mono hb1.size)).trans (hb3.mono (Nat.le_trans hb1.size hb2.size))
 refine ⟨nb + 2, fun b => b = nb \/ b = nb + 1 \/ b = nb + 2, rfl, ⟨⟨nb, nb + 1, _, _, _, _, _, _, [], [], hbx, hm13, hm23, by omega, by omega, .inl rfl, .inr (.inl rfl), OwnS.start 2 _ _ (Nat.zero_le _), fun x hx => (by cases hx), fun g e => (by cases e), fun k => rfl, fun k e => (by cases e)⟩, fun k e => (by cases e), by omega, .inr (.inr rfl), fun b hb => (by omega), fun b hb hu => ?_⟩, hbb, fun b hb => by omega⟩
 obtain ⟨_, _, e2⟩ := hu
 rcases hb with rfl | rfl | rfl
 ·exact map_not hm13 e2
 ·exact map_not hm23 e2
 ·rw [hbx] at e2; cases e2
end Go.Proofs.YtafilaiinbggoaaGreat
namespace Go.Proofs.YtafilaiinbggoaaGreat
open Go.RowKit Go.Maps
structure LT (Q : PQ) (R : Int -> Option Bts) (H : HS) (S : PS) (p tb : Nat) (o : Top) (root : Int) (n cnt : Nat) (w0 w : World) : Prop where
 pg : PG Q R H S p w
 tbx : TB H w tb Q.pb root
 top : TopIn S o root
 ok : okW n o
 only : Only S (pagesO o)
 len : S.is.length = cnt
 bel : Below w0.heap.size w0 w
 new : ∀ b, H.all b \/ b = tb -> w0.heap.size <= b
theorem LT.noU {Q : PQ} {R : Int -> Option Bts} {H : HS} {S : PS} {p tb : Nat} {o : Top} {root : Int} {n cnt : Nat} {w0 w : World} (h : LT Q R H S p tb o root n cnt w0 w) : ∀ b, H.all b \/ b = tb -> ¬ IsU w b := fun b hb => hb.elim (h.pg.noU b) (fun e ⟨_, _, e2⟩ => by rw [e, h.tbx.box] at e2; cases e2)
theorem LT.free {Q : PQ} {R : Int -> Option Bts} {H : HS} {S : PS} {p tb : Nat} {o : Top} {root : Int} {n cnt : Nat} {w0 w : World} (h : LT Q R H S p tb o root n cnt w0 w) (hn : n <= 63) (hc : 2 * n + 15 <= cnt) : 2 * heightO o + 3 <= freeP S /\ heightO o <= 6 := by
 obtain ⟨h1, h2⟩ := okW_few h.ok hn
 have h3 := h.only.free
 have h4 := h.len
 exact ⟨by omega, h1⟩
theorem LT.quiet {Q : PQ} {R : Int -> Option Bts} {H : HS} {S : PS} {p tb : Nat} {o : Top} {root : Int} {n cnt : Nat} {w0 w w' : World} (h : LT Q R H S p tb o root n cnt w0 w) (hb : Below w.heap.size w w') : LT Q R H S p tb o root n cnt w0 w' :=
 ⟨h.pg.below hb, h.tbx.below hb, h.top, h.ok, h.only, h.len, h.bel.trans (hb.mono h.bel.size), h.new⟩
theorem LT.turned {Q : PQ} {R : Int -> Option Bts} {H H' : HS} {S S' : PS} {p p' tb : Nat} {o o' : Top} {root root' : Int} {n n' cnt : Nat} {w0 w w' : World} (h : LT Q R H S p tb o root n cnt w0 w) (hG : PG Q R H' S' p' w') (hB : TB H' w' tb Q.pb root') (hI : TopIn S' o' root') (hok : okW n' o') (hM : Moves S S' (pagesO o) (pagesO o')) (hT : TurnS (fun b => H.all b \/ b = tb) w (fun b => H'.all b \/ b = tb) w') : LT Q R H' S' p' tb o' root' n' cnt w0 w' /\ CLe (cfU w) (cfU w') := by
 have hu := cfU_turn hT h.noU
 have hnew : ∀ b, b < w0.heap.size -> ¬ (H.all b \/ b = tb) := fun b hb e => by
  have := h.new b e
  omega
 exact ⟨⟨hG, hB, hI, hok, h.only.moves hM, hM.len.trans h.len, ⟨hT.os.trans h.bel.os, hT.tape.trans h.bel.tape, hT.output.trans h.bel.output, Nat.le_trans h.bel.size hT.size, fun b hb => (hT.out b (Nat.lt_of_lt_of_le hb h.bel.size) (hnew b hb)).1.trans (h.bel.block b hb)⟩, hT.above h.new h.bel.size⟩, hu⟩
theorem LT.put {Q : PQ} {R : Int -> Option Bts} {H : HS} {S : PS} {p tb : Nat} {o : Top} {root : Int} {n cnt : Nat} {w0 w w' : World} {k v : Bts} {e : Ending} (h : LT Q R H S p tb o root n cnt w0 w) (hn : n <= 63) (hk : keyOk k) (hv : v.length <= 260) (hp : PutPost Q R H S p tb o k v w e w') :
  e = .returned (.int .i64 0) /\ ∃ H' S' p' o' root', LT Q R H' S' p' tb o' root' (n + 1) cnt w0 w' /\ esO o' = putE k v (esO o) /\ CLe (cfU w) (cfU w') /\ p' <= p + 200 /\ TurnS (fun b => H.all b \/ b = tb) w (fun b => H'.all b \/ b = tb) w' := by
 obtain ⟨o', root', H', S', p', rfl, hG, hB, hI, hT, hM, hU, hq⟩ := hp
 obtain ⟨h1, h2⟩ := put_topW h.ok hk hv hT
 obtain ⟨h3, _⟩ := okW_few h.ok hn
 obtain ⟨h5, h6⟩ := h.turned hG hB hI h1 hM hU
 exact ⟨rfl, H', S', p', o', root', h5, h2, h6, by omega, hU⟩
theorem top_same {S S' : PS} {o : Top} {root : Int} (h : TopIn S o root) (hs : SameP S S') : TopIn S' o root /\ Moves S S' (pagesO o) (pagesO o) := by
 match o, h with
 | none, h => exact ⟨h, hs.moves⟩
 | some ⟨g, t⟩, h =>
  have h1 := hs.moves.wide h.2.nd (fun p _ e => by cases e) h.2.fresh
  rw [List.append_nil] at h1
  exact ⟨⟨h.1, h.2.same hs⟩, h1⟩
theorem LT.read {Q : PQ} {R : Int -> Option Bts} {H H' : HS} {S S' : PS} {p p' tb : Nat} {o : Top} {root : Int} {n cnt : Nat} {w0 w w' : World} (h : LT Q R H S p tb o root n cnt w0 w) (hG : PG Q R H' S' p' w') (hS : SameP S S') (hT : TurnS H.all w H'.all w') : LT Q R H' S' p' tb o root n cnt w0 w' /\ CLe (cfU w) (cfU w') := by
 obtain ⟨h1, h2⟩ := top_same h.top hS
 exact h.turned hG (h.tbx.turn hT) h1 h.ok h2 hT.wide
theorem one_u8 {w : World} {b : Nat} {c : UInt8} {fr : Nat × Nat} (h : w.heap[b]? = some (.cells #[.int .u8 (c.toNat : Int)] 5 fr)) : YAt (cfU w) (.slice (some ⟨b, 0, none⟩) 1 1) [c] := by
 refine ⟨_, _, rfl, Nat.le_refl _, by decide, fun i x hx => ?_⟩
 match i, hx with
 | 0, hx =>
  cases hx
  refine ⟨b, 0, _, rfl, rfl, fun j u hu => ?_, rfl⟩
  match j, hu with
  | 0, hu =>
   cases hu
   rw [cfU_at ⟨_, _, h⟩]
   simp [World.cell?, h]
theorem yat_len {c : CF} {a : Option Addr} {n cap : Nat} {l : Bts} (h : YAt c (.slice a n cap) l) : n = l.length := by
 obtain ⟨_, _, e⟩ := h.form
 simp only [Value.slice.injEq] at e
 exact e.2.1
theorem lt_start {w0 w1 w2 w3 : World} {db pb tb size cnt pool : Nat} {HD HP : BS} (hb1 : Below w0.heap.size w0 w1) (hHD : ∀ b, HD b -> w0.heap.size <= b) (hG : PG ⟨pb, db, 0, cnt, pool, size⟩ (fun _ => none) ⟨HD, HP⟩ (PS.open cnt 0 fun _ => none) 0 w2) (hb2 : Below w1.heap.size w1 w2) (hHP : ∀ b, HP b -> w1.heap.size <= b) (hT : TB ⟨HD, HP⟩ w3 tb pb (-1)) (hb3 : Below w2.heap.size w2 w3) (htb : w2.heap.size <= tb) : LT ⟨pb, db, 0, cnt, pool, size⟩ (fun _ => none) ⟨HD, HP⟩ (PS.open cnt 0 fun _ => none) 0 tb none (-1) 0 cnt w0 w3 := by
 have s1 := hb1.size
 have s2 := hb2.size
 refine ⟨hG.below hb3, hT, rfl, trivial, ⟨List.nodup_nil, fun p hp => (by cases hp), fun p s hp _ => ?_⟩, by unfold PS.open; rw [List.length_replicate], (hb1.trans (hb2.mono s1)).trans (hb3.mono (by omega)), fun b hb => ?_⟩
 ·unfold PS.open at hp
  exact List.eq_of_mem_replicate (List.mem_of_getElem? hp)
 ·rcases hb with (hb | hb) | hb
  ·exact hHD b hb
  ·have := hHP b hb
   omega
  ·omega
end Go.Proofs.YtafilaiinbggoaaGreat
