import Derived.Test.YtmiphphombkpdaaGreatWB37
namespace Go.Proofs.YtmiphphombkpdaaGreat
open Go.RowKit Go.Maps
def JoinTPost (Q : PQ) (R : Int -> Option Bts) (H : HS) (S : PS) (p tb : Nat) (root : Int) (r B h kk : Nat) (ks : List (Tree h)) (keys : List Bts) (w : World) (e : Ending) (w' : World) : Prop :=
 ∃ (res : List (Tree h) × List Bts) (kv' vv' iv' : Value) (H' : HS) (S' : PS) (p' : Nat), e = .returned (.int .i64 0) /\ JoinR h ks keys kk res /\ KX Q R H' S' p' tb root r B h res.1 res.2 w' kv' vv' iv' /\ Moves S S' (ks.flatMap (pagesT h)) (res.1.flatMap (pagesT h)) /\ TurnB B H.all w H'.all w' /\ p' <= p + 80
structure JL (Q : PQ) (R : Int -> Option Bts) (H : HS) (S : PS) (p tb : Nat) (root : Int) (r B h kk sI : Nat) (ks : List (Tree h)) (keys : List Bts) (w : World) (kv vv iv : Value) (j : Nat) (H' : HS) (S' : PS) (p' : Nat) (wr : World) : Prop where
 kx : KX Q R H' S' p' tb root r B h ks keys wr kv vv iv
 same : SameP S S'
 turn : TurnB B H.all w H'.all wr
 few : p' <= p + 8 * j
 row : wr.heap[sI]? = some (.cells #[.int .i64 ((kk : Int) - 1), .int .i64 (kk : Int)] 3 (0, 0))
 rowH : ¬ H'.all sI
 one : 1 <= j -> ∀ i, kk = i + 1 -> cannotJ h ks keys i
 two : 2 <= j -> cannotJ h ks keys kk
theorem JL.next {Q : PQ} {R : Int -> Option Bts} {H H' H2 : HS} {S S' S2 : PS} {p p' p2 tb : Nat} {root : Int} {r B h kk sI : Nat} {ks : List (Tree h)} {keys : List Bts} {w wr w2 : World} {kv vv iv : Value} {j i : Nat} (hl : JL Q R H S p tb root r B h kk sI ks keys w kv vv iv j H' S' p' wr) (hij : (j = 0 /\ kk = i + 1) \/ (j = 1 /\ i = kk)) (hc : cannotJ h ks keys i) (hk : KX Q R H2 S2 p2 tb root r B h ks keys w2 kv vv iv) (hs : SameP S' S2) (hT : TurnS H'.all wr H2.all w2) (hp : p2 <= p' + 8) : JL Q R H S p tb root r B h kk sI ks keys w kv vv iv (j + 1) H2 S2 p2 w2 := by
 obtain ⟨h1, h2⟩ := hT.kept hl.row hl.rowH
 refine ⟨hk, hl.same.trans hs, hl.turn.trans (hT.toB hl.kx.base), by have := hl.few; omega, h1, h2, fun _ i' hi' => ?_, fun h2j => ?_⟩
 ·rcases hij with ⟨rfl, e⟩ | ⟨rfl, e⟩
  ·obtain rfl : i' = i := by omega
   exact hc
  ·exact hl.one (Nat.le_refl _) i' hi'
 ·rcases hij with ⟨rfl, e⟩ | ⟨rfl, e⟩
  ·omega
  ·exact e ▸ hc
theorem JL.skip {Q : PQ} {R : Int -> Option Bts} {H H' : HS} {S S' : PS} {p p' tb : Nat} {root : Int} {r B h kk sI : Nat} {ks : List (Tree h)} {keys : List Bts} {w wr : World} {kv vv iv : Value} (hl : JL Q R H S p tb root r B h kk sI ks keys w kv vv iv 0 H' S' p' wr) (hk : kk = 0) : JL Q R H S p tb root r B h kk sI ks keys w kv vv iv 1 H' S' p' wr :=
 ⟨hl.kx, hl.same, hl.turn, by have := hl.few; omega, hl.row, hl.rowH, fun _ i hi => by omega, fun e => by omega⟩
def JOut (B : Nat) (J : ND) (v : Value) (w : World) : Prop :=
 (sizeN J <= 1024 /\ ∃ g1 n1 c1 g2 n2 c2 g3 n3 c3, v = .tuple #[.agg #[.bool J.leaf, .slice g1 n1 c1, .slice g2 n2 c2, .slice g3 n3 c3], .bool true] /\ NOwn B w J (.slice g1 n1 c1) (.slice g2 n2 c2) (.slice g3 n3 c3)) \/
 (1024 < sizeN J /\ v = .tuple #[.agg #[.bool false, .slice none 0 0, .slice none 0 0, .slice none 0 0], .bool false])
theorem JOut.below {B : Nat} {J : ND} {v : Value} {w w' : World} (h : JOut B J v w) (hb : Below w.heap.size w w') : JOut B J v w' := by
 rcases h with ⟨h1, g1, n1, c1, g2, n2, c2, g3, n3, c3, e, h2⟩ | h
 ·exact .inl ⟨h1, g1, n1, c1, g2, n2, c2, g3, n3, c3, e, h2.below hb⟩
 ·exact .inr h
theorem jout_of {B : Nat} {J : ND} {w w' : World} {e : Ending} (h : JoinPost J w e w') (hB : B <= w.heap.size) : Below w.heap.size w w' /\ ∃ v, e = .returned v /\ JOut B J v w' := by
 obtain ⟨hb, ⟨h1, kv, vv, iv, rfl, h2⟩ | ⟨h1, rfl⟩⟩ := h
 ·obtain ⟨ka, kc, rfl⟩ := h2.nat.keys.form
  obtain ⟨va, vc, rfl⟩ := h2.nat.vals.form
  obtain ⟨ia, ic, rfl⟩ := h2.nat.kids.form
  exact ⟨hb, _, rfl, .inl ⟨h1, _, _, _, _, _, _, _, _, _, rfl, h2.base hB⟩⟩
 ·exact ⟨hb, _, rfl, .inr ⟨h1, rfl⟩⟩
theorem jout_flat {B : Nat} {J : ND} {v : Value} {w : World} (h9 : JOut B J v w) : ∃ (ok lz : Bool) (f1 : Option Addr) (n1 d1 : Nat) (f2 : Option Addr) (n2 d2 : Nat) (f3 : Option Addr) (n3 d3 : Nat), v = .tuple #[.agg #[.bool lz, .slice f1 n1 d1, .slice f2 n2 d2, .slice f3 n3 d3], .bool ok] /\ ok = decide (sizeN J <= 1024) /\ (ok = true -> lz = J.leaf /\ NOwn B w J (.slice f1 n1 d1) (.slice f2 n2 d2) (.slice f3 n3 d3)) := by
 rcases h9 with ⟨h1, g1, n1, c1, g2, n2, c2, g3, n3, c3, e, h2⟩ | ⟨h1, e⟩
 ·exact ⟨true, J.leaf, g1, n1, c1, g2, n2, c2, g3, n3, c3, e, (decide_eq_true h1).symm, fun _ => ⟨rfl, h2⟩⟩
 ·exact ⟨false, false, none, 0, 0, none, 0, 0, none, 0, 0, e, (decide_eq_false (by omega)).symm, fun e => by cases e⟩
theorem not_can {h i a1 b1 sz : Nat} {ks : List (Tree h)} {keys : List Bts} {a b : Tree h} {s : Bts} {J : ND} {ok th : Bool} (hth : th = (decide (a1 = 0) || decide (b1 = 0))) (hok : ok = decide (sz <= 1024)) (hsz : sz = sizeN J) (hJ : J = ndT h (joinT h a s b)) (ha : ks[i]? = some a) (hb : ks[i + 1]? = some b) (hs : keys[i]? = some s) (wa : WFS h a) (wb : WFS h b) (ha1 : a1 = (ndT h a).keys.length) (hb1 : b1 = (ndT h b).keys.length) (hcd : true = (!ok || (!th && decide (768 < sz)))) : cannotJ h ks keys i := by
 intro a' b' s' ha' hb' hs'
 rw [ha] at ha'
 rw [hb] at hb'
 rw [hs] at hs'
 obtain rfl := Option.some.inj ha'
 obtain rfl := Option.some.inj hb'
 obtain rfl := Option.some.inj hs'
 rintro ⟨h1, h2⟩
 rw [<- size_T, <- hJ, <- hsz] at h1 h2
 have hok' : ok = true := by rw [hok]; exact decide_eq_true h1
 rw [hok', hth, ha1, hb1] at hcd
 rcases h2 with h2 | h2 | h2
 ·have := (thin_T wa).2 h2
  simp [this] at hcd
 ·have := (thin_T wb).2 h2
  simp [this] at hcd
 ·have : ¬ 768 < sz := by omega
  simp [this] at hcd
theorem can_of {h a1 b1 sz : Nat} {a b : Tree h} {s : Bts} {J : ND} {ok th : Bool} (hth : th = (decide (a1 = 0) || decide (b1 = 0))) (hok : ok = decide (sz <= 1024)) (hsz : sz = sizeN J) (hJ : J = ndT h (joinT h a s b)) (wa : WFS h a) (wb : WFS h b) (ha1 : a1 = (ndT h a).keys.length) (hb1 : b1 = (ndT h b).keys.length) (hcd : false = (!ok || (!th && decide (768 < sz)))) : ok = true /\ canJ h a s b := by
 have h1 : ok = true := by cases ok with | true => rfl | false => simp at hcd
 refine ⟨h1, ?_⟩
 have h2 : sz <= 1024 := by rw [h1] at hok; exact of_decide_eq_true hok.symm
 unfold canJ
 rw [<- size_T, <- hJ, <- hsz]
 refine ⟨h2, ?_⟩
 rw [h1] at hcd
 by_cases ha0 : a1 = 0
 ·exact .inl ((thin_T wa).1 (ha1 ▸ ha0))
 ·by_cases hb0 : b1 = 0
  ·exact .inr (.inl ((thin_T wb).1 (hb1 ▸ hb0)))
  ·rw [hth] at hcd
   simp [ha0, hb0] at hcd
   exact .inr (.inr hcd)
theorem merge_pgs {α : Type} {pg : α -> Nat} {ks : List α} {i : Nat} {a J : α} (ha : ks[i]? = some a) (hJ : pg J = pg a) : (ks.take i ++ J :: ks.drop (i + 2)).map pg = delAt (i + 1) (ks.map pg) := by
 unfold delAt
 rw [List.map_append, List.map_cons, hJ, <- List.map_take, <- List.map_drop, take_succ ha, List.map_append, List.append_assoc]
 rfl
theorem ES.endX {Q : PQ} {R : Int -> Option Bts} {H : HS} {S : PS} {p tb : Nat} {root : Int} {r B : Nat} {n n0 : ND} {w0 w w' : World} {kv vv iv kv0 vv0 iv0 : Value} {cur : Array Value} (h : ES Q R H S p B w0 w n kv vv iv) (k : KY Q R H S p tb root r B n0 w0 kv0 vv0 iv0) (hr : w.heap[r]? = some (.cells cur 104 (0, 0))) (hb : w'.heap[r]? = some (.cells #[.bool false, kv, vv, iv] 104 (0, 0))) (hg : w.grownBy w' (some r)) : KY Q R H S p tb root r B n w' kv vv iv /\ TurnB B H.all w0 H.all w' := by
 obtain ⟨h1, h2, _⟩ := h.cell hr k.boxH hg
 have htb := h.box tb _ _ k.tbx.box (by decide) (by decide)
 have hne : tb ≠ r := fun e => by rw [e, hr] at htb; cases htb
 refine ⟨⟨h2, ⟨(hg.block tb (heap_lt htb) (fun e => hne (Option.some.inj e))).trans htb, k.tbx.off⟩, h1, hb, k.boxH, k.low, k.tbB⟩, ⟨hg.os.trans h.os, hg.tape.trans h.tape, hg.output.trans h.output, Nat.le_trans h.size hg.size, fun b hb2 hn => ⟨?_, hn⟩⟩⟩
 exact (hg.block b (Nat.lt_of_lt_of_le hb2 (Nat.le_trans (Nat.le_trans k.low (Nat.le_of_lt (heap_lt k.box))) h.size)) (fun e => by have := k.low; have := Option.some.inj e; omega)).trans (h.out b hb2)
theorem JoinTPost.merged {Q : PQ} {R : Int -> Option Bts} {H H1 H7 : HS} {S S1 S5 S7 S8 : PS} {p p1 p7 tb : Nat} {root : Int} {r B h kk sI i j pa pb : Nat} {ks : List (Tree h)} {keys : List Bts} {a b : Tree h} {s : Bts} {J : ND} {w wr v5 u2 : World} {kv vv iv kv' vv' iv' : Value} (hl : JL Q R H S p tb root r B h kk sI ks keys w kv vv iv j H1 S1 p1 wr) (hij : (j = 0 /\ kk = i + 1) \/ (j = 1 /\ i = kk)) (hkin : KidsIn S5 h ks) (hS : SameP S1 S5) (ha : ks[i]? = some a) (hb : ks[i + 1]? = some b) (hs : keys[i]? = some s) (wa : WFS h a) (wb : WFS h b) (hcan : canJ h a s b) (hM7 : Moves S5 S7 [pa] [pa]) (hpa : pa = pgT h a) (hc7 : contP S7 pa = encN J) (hJ : J = ndT h (joinT h a s b)) (hM8 : Moves S7 S8 [pb] []) (hpb : pb = pgT h b)
  (hK : KY Q R H7 S8 p7 tb root r B { ({ nodeN (ks.map (pgT h)) keys with keys := delAt i (nodeN (ks.map (pgT h)) keys).keys } : ND) with kids := delAt (i + 1) ({ nodeN (ks.map (pgT h)) keys with keys := delAt i (nodeN (ks.map (pgT h)) keys).keys } : ND).kids } u2 kv' vv' iv') (hT1 : TurnS H1.all wr H7.all v5) (hT2 : TurnB B H7.all v5 H7.all u2) (hp : p7 <= p1 + 30) : JoinTPost Q R H S p tb root r B h kk ks keys w (.returned (.int .i64 0)) u2 := by
 subst hpa hpb hJ
 obtain ⟨m1, m2⟩ := merge_pages (s := s) hkin ha hb wa wb hM7 hc7 hM8
 have hpgs := merge_pgs (pg := pgT h) (J := joinT h a s b) ha (pg_join h a s b)
 have hmr : mergeR h ks keys i (ks.take i ++ joinT h a s b :: ks.drop (i + 2), keys.take i ++ keys.drop (i + 1)) := ⟨a, b, s, ha, hb, hs, hcan, rfl⟩
 refine ⟨(ks.take i ++ joinT h a s b :: ks.drop (i + 2), keys.take i ++ keys.drop (i + 1)), kv', vv', iv', H7, S8, p7, rfl, ?_, ?_, m2.before (hl.same.trans hS), (hl.turn.trans (hT1.toB hl.kx.base)).trans hT2, by have := hl.few; rcases hij with ⟨e, _⟩ | ⟨e, _⟩ <;> omega⟩
 ·rcases hij with ⟨_, e⟩ | ⟨e1, e2⟩
  ·exact .inl ⟨i, e, hmr⟩
  ·exact .inr (.inl ⟨hl.one (by omega), e2 ▸ hmr⟩)
 ·refine KY.toX ?_ m1
  rw [hpgs]
  exact hK
theorem join_at {w : World} {sI kk j : Nat} {z : Int} (hrow : w.heap[sI]? = some (.cells #[.int .i64 ((kk : Int) - 1), .int .i64 (kk : Int)] 3 (0, 0))) (hlt : j < 2) (hz : z = if j = 0 then (kk : Int) - 1 else (kk : Int)) : w.cell? ⟨sI, j, none⟩ = some (.int .i64 z) /\ ((j = 0 /\ z = (kk : Int) - 1) \/ (j = 1 /\ z = (kk : Int))) := by
 match j, hlt with
 | 0, _ => rw [if_pos rfl] at hz; exact ⟨by rw [hz]; simp [World.cell?, hrow], .inl ⟨rfl, hz⟩⟩
 | 1, _ => rw [if_neg (by decide)] at hz; exact ⟨by rw [hz]; simp [World.cell?, hrow], .inr ⟨rfl, hz⟩⟩
set_option maxHeartbeats 16000000 in
set_option maxRecDepth 100000 in
theorem tree_join {Q : PQ} {R : Int -> Option Bts} {H : HS} {S : PS} {p tb : Nat} {root : Int} {r B h kk deep : Nat} {ks : List (Tree h)} {keys : List Bts} {w : World} {kv vv iv : Value} (k : KX Q R H S p tb root r B h ks keys w kv vv iv) (hK : Kids h ks keys kk) (hkk : kk < ks.length) (hfew : ks.length <= 9000) (hd : deep + 1 <= 20) (hp : p <= 999999800) :
  Calls Tryz.prog 70 #[.pointer (some ⟨tb, 0, none⟩), .pointer (some ⟨r, 0, none⟩), .int .i64 (kk : Int), .int .i64 (deep : Int)] w (JoinTPost Q R H S p tb root r B h kk ks keys w) := by
 obtain ⟨g, ic, cur, hiv, _, _⟩ := k.kids (by omega)
 subst hiv
 obtain ⟨m3, hm3⟩ : ∃ m, m = ks.length := ⟨_, rfl⟩
 rw [<- hm3] at k
 have hm39 : m3 <= 9000 := by rw [hm3]; exact hfew
 obtain ⟨w1, hw1⟩ : ∃ x, x = w.alloc (.cells #[.int .i64 ((kk : Int) - 1), .int .i64 (kk : Int)] 3) := ⟨_, rfl⟩
 obtain ⟨sI, hsI⟩ : ∃ x, x = w.heap.size := ⟨_, rfl⟩
 have hb1 : Below w.heap.size w w1 := by rw [hw1]; exact (Below.refl _ w).alloc (Nat.le_refl _) _
 have hrow : w1.heap[sI]? = some (.cells #[.int .i64 ((kk : Int) - 1), .int .i64 (kk : Int)] 3 (0, 0)) := by rw [hw1, hsI]; exact heap_alloc_new w _
 have HL0 : HoldT (JL Q R H S p tb root r B h kk sI ks keys w kv vv (.slice (some ⟨g, 0, none⟩) m3 ic) 0 H S p w1) := ⟨⟨k.below hb1, SameP.refl S, (TurnS.quiet hb1).toB k.base, by omega, hrow, fun e => by have := k.pg.lt sI e; omega, fun e => by omega, fun e => by omega⟩⟩
 have HH := HoldT.mk (And.intro hK (And.intro hp (And.intro hm3 (And.intro hkk (And.intro hfew k)))))
 have HW := HoldT.mk hw1
 have hkk3 : kk < m3 := by rw [hm3]; exact hkk
 clear k hK hp hm3 hkk hw1 hb1 hrow hfew
 go_enter Tryz.func70, Tryz.ntmps70
 go_upto_region 2 with (fail)
 rw [<- HW.out, <- hsI]
 clear hsI
 go_wp2_with fail
 go_loopw [10, 11, 12, 13, 14, 15, 16, 17, 18, 24] (fun s10 s11 s12 s13 s14 s15 s16 s17 s18 s24 wr => ∃ (j : Nat) (H' : HS) (S' : PS) (p' : Nat), s24 = .int .i64 (j : Int) /\ j <= 2 /\ HoldT (JL Q R H S p tb root r B h kk sI ks keys w kv vv (.slice (some ⟨g, 0, none⟩) m3 ic) j H' S' p' wr)) (fun _ _ _ _ _ _ _ _ _ s24 _ => 2 - (intOf s24).toNat)
 case atStart => exact ⟨0, H, S, p, rfl, by omega, HL0⟩
 case round =>
  obtain ⟨j, H1, S1, p1, rfl, hj, HJ⟩ := hrel
  by_cases hlt : j < 2
  ·obtain ⟨z, hz⟩ : ∃ z : Int, z = if j = 0 then (kk : Int) - 1 else (kk : Int) := ⟨_, rfl⟩
   have hrow := HJ.out.row
   obtain ⟨hcz, hj01⟩ := join_at hrow hlt hz
   clear hz hrow
   have hjI : (j : Int) < 2 := by omega
   have hz64 : -1 <= z /\ z <= 9000 := by omega
   obtain ⟨y1, y2, y3⟩ := HJ.out.kx.cells
   by_cases hneg : z < 0
   ·obtain rfl : j = 0 := by omega
    have hk0 : kk = 0 := by omega
    go_wp2_with fail
    exact ⟨⟨1, H1, S1, p1, by go_num, by omega, ⟨HJ.out.skip hk0⟩⟩, by simp [intOf]⟩
   ·obtain ⟨i, rfl⟩ : ∃ i : Nat, z = (i : Int) := ⟨z.toNat, by omega⟩
    have hij : (j = 0 /\ kk = i + 1) \/ (j = 1 /\ i = kk) := by omega
    have HIJ := HoldT.mk hij
    have hi9 : i <= 9000 := by omega
    clear hij hj01 hz64
    by_cases hi1 : i + 1 < m3
    ·have hI1 : ¬ (m3 : Int) <= (i : Int) + 1 := by omega
     obtain ⟨a, ha⟩ : ∃ a, ks[i]? = some a := ⟨_, List.getElem?_eq_getElem (by have := HH.out.2.2.1; omega)⟩
     obtain ⟨b, hb⟩ : ∃ b, ks[i + 1]? = some b := ⟨_, List.getElem?_eq_getElem (by have := HH.out.2.2.1; omega)⟩
     obtain ⟨s, hs⟩ : ∃ s, keys[i]? = some s := ⟨_, List.getElem?_eq_getElem (by have := HH.out.2.2.1; have := HH.out.1.len; omega)⟩
     have wa := (HH.out.1.wfs i a ha).1
     have wb := (HH.out.1.wfs (i + 1) b hb).1
     have HI := HoldT.mk (And.intro ha (And.intro hb (And.intro hs (And.intro wa wb))))
     have hkc2 := HJ.out.kx.kc ha
     have HRA := kid_read (deep := deep + 1) HJ.out.kx ha wa hd (by have := HH.out.2.1; have := HJ.out.few; omega)
     rw [show ((deep + 1 : Nat) : Int) = (deep : Int) + 1 by omega] at HRA
     obtain ⟨pa, hpa⟩ : ∃ n, n = pgT h a := ⟨_, rfl⟩
     obtain ⟨pb, hpb⟩ : ∃ n, n = pgT h b := ⟨_, rfl⟩
     rw [<- hpa] at hkc2 HRA
     have HRA := HoldT.mk HRA
     have HPG := HoldT.mk (And.intro hpa hpb)
     have hI2 : (i : Int) < (m3 : Int) := by omega
     have hI3 : (i : Int) + 1 < (m3 : Int) := by omega
     have hi0 : (0 : Int) <= (i : Int) := by omega
     clear ha hb hs wa wb hpa hpb
     go_wp2_with fail
     refine HRA.out.mono ?_
     rintro e w3 ⟨aka, akc, ava, avc, aia, aic, H3, S3, p3, rfl, hN3, hK3, hS3, hT3, hp3⟩
     clear hkc2 y1 y2 y3 hcz
     obtain ⟨a1, ha1⟩ : ∃ x, x = (ndT h a).keys.length := ⟨_, rfl⟩
     obtain ⟨a2, ha2⟩ : ∃ x, x = (ndT h a).vals.length := ⟨_, rfl⟩
     obtain ⟨a3, ha3⟩ : ∃ x, x = (ndT h a).kids.length := ⟨_, rfl⟩
     obtain ⟨lf, hlf⟩ : ∃ x, x = (ndT h a).leaf := ⟨_, rfl⟩
     rw [<- ha1, <- ha2, <- ha3] at hN3 |-
     rw [<- hlf]
     have H3' := HoldT.mk (And.intro hK3 (And.intro hS3 (And.intro hT3 (And.intro hp3 (And.intro hN3 (And.intro ha1 (And.intro ha2 (And.intro ha3 hlf))))))))
     clear ha1 ha2 ha3 hlf hN3 hK3 hS3 hT3 hp3
     go_upto_region 6 with (fail)
     obtain ⟨w4, hw4⟩ : ∃ x, x = w3.alloc (.cells #[.bool lf, .slice aka a1 akc, .slice ava a2 avc, .slice aia a3 aic] 104) := ⟨_, rfl⟩
     obtain ⟨q11, hq11⟩ : ∃ x, x = w3.heap.size := ⟨_, rfl⟩
     rw [<- hw4, <- hq11]
     have hb : Below w3.heap.size w3 w4 := by rw [hw4]; exact (Below.refl _ w3).alloc (Nat.le_refl _) _
     have hbq : w4.heap[q11]? = some (.cells #[.bool lf, .slice aka a1 akc, .slice ava a2 avc, .slice aia a3 aic] 104 (0, 0)) := by rw [hw4, hq11]; exact heap_alloc_new w3 _
     have HB4 := HoldT.mk (And.intro hb (And.intro hbq hq11))
     clear hw4 hq11 hb hbq
     have hK4 := H3'.out.1.below HB4.out.1
     obtain ⟨y1, y2, y3⟩ := hK4.cells
     have hkc2 := hK4.kc HI.out.2.1
     have HRB := kid_read (deep := deep + 1) hK4 HI.out.2.1 HI.out.2.2.2.2 hd (by have := HH.out.2.1; have := HJ.out.few; have := H3'.out.2.2.2.1; omega)
     rw [show ((deep + 1 : Nat) : Int) = (deep : Int) + 1 by omega] at HRB
     rw [<- HPG.out.2] at HRB hkc2
     have HRB := HoldT.mk HRB
     have HK4 := HoldT.mk (And.intro hK4 (H3'.out.2.2.2.2.1.below HB4.out.1))
     clear hK4 y1 y2
     go_wp2_with fail
     refine HRB.out.mono ?_
     rintro e w5 ⟨bka, bkc, bva, bvc, bia, bic, H5, S5, p5, rfl, hN5, hK5, hS5, hT5, hp5⟩
     clear hkc2 y3
     obtain ⟨b1, hb1⟩ : ∃ x, x = (ndT h b).keys.length := ⟨_, rfl⟩
     obtain ⟨b2, hb2⟩ : ∃ x, x = (ndT h b).vals.length := ⟨_, rfl⟩
     obtain ⟨b3, hb3⟩ : ∃ x, x = (ndT h b).kids.length := ⟨_, rfl⟩
     have hbl : (ndT h b).leaf = lf := by rw [H3'.out.2.2.2.2.2.2.2.2]; exact (leaf_T h a b).symm
     rw [<- hb1, <- hb2, <- hb3] at hN5 |-
     rw [hbl]
     have hbx5 := hT5.kept HB4.out.2.1 (fun e => by have := H3'.out.1.pg.lt q11 e; have := HB4.out.2.2; omega)
     have hN35 := HK4.out.2.turn hT5 HK4.out.1.pg.noU
     have H5' := HoldT.mk (And.intro hK5 (And.intro hS5 (And.intro hT5 (And.intro hp5 (And.intro hN5 (And.intro hb1 (And.intro hbl (And.intro hbx5 hN35))))))))
     clear hb1 hb2 hb3 hbl hN5 hK5 hS5 hT5 hp5 hbx5 hN35
     go_upto_region 9 with (fail)
     obtain ⟨w6, hw6⟩ : ∃ x, x = w5.alloc (.cells #[.bool lf, .slice bka b1 bkc, .slice bva b2 bvc, .slice bia b3 bic] 104) := ⟨_, rfl⟩
     obtain ⟨q13, hq13⟩ : ∃ x, x = w5.heap.size := ⟨_, rfl⟩
     rw [<- hw6, <- hq13]
     have hb : Below w5.heap.size w5 w6 := by rw [hw6]; exact (Below.refl _ w5).alloc (Nat.le_refl _) _
     have hbq : w6.heap[q13]? = some (.cells #[.bool lf, .slice bka b1 bkc, .slice bva b2 bvc, .slice bia b3 bic] 104 (0, 0)) := by rw [hw6, hq13]; exact heap_alloc_new w5 _
     have HB6 := HoldT.mk (And.intro hb (And.intro hbq hq13))
     clear hw6 hq13 hb hbq
     have hK6 := H5'.out.1.below HB6.out.1
     have hN6a := H5'.out.2.2.2.2.2.2.2.2.below HB6.out.1
     have hN6b := H5'.out.2.2.2.2.1.below HB6.out.1
     have hbx6 := kept H5'.out.2.2.2.2.2.2.2.1.1 HB6.out.1
     have hbq6 := HB6.out.2.1
     obtain ⟨csK, hoK⟩ := hK6.nt.own.keys
     obtain ⟨gk, kcap, curK, hkv, hgK, hgc, hgm, hgz⟩ := own_slice hoK (show 0 < (nodeN (ks.map (pgT h)) keys).keys.length from Nat.lt_of_le_of_lt (Nat.zero_le _) (List.getElem?_eq_some_iff.1 HI.out.2.2.1).1)
     subst hkv
     obtain ⟨kl, hkl⟩ : ∃ x, x = (nodeN (ks.map (pgT h)) keys).keys.length := ⟨_, rfl⟩
     rw [<- hkl] at hK6 hoK
     obtain ⟨jb, jo, sa, sc, ej, hkc6, hys6⟩ := bat_cell hK6.nt.own.nat.keys (show (nodeN (ks.map (pgT h)) keys).keys[i]? = some s from HI.out.2.2.1)
     obtain ⟨rfl, rfl⟩ : gk = jb /\ 0 = jo := by
      simp only [Option.some.injEq, Addr.mk.injEq, and_true] at ej
      exact ej
     rw [Nat.zero_add] at hkc6
     obtain ⟨sl, hsl⟩ : ∃ x, x = s.length := ⟨_, rfl⟩
     rw [<- hsl] at hkc6 hys6
     obtain ⟨y1, y2, y3⟩ := hK6.cells
     have hkl2 : kl = keys.length := hkl
     have hikl : (i : Int) < (kl : Int) := by have h1 := (List.getElem?_eq_some_iff.1 HI.out.2.2.1).1; omega
     have hkl9 : kl <= 9000 := by have h1 := HH.out.1.len; have h2 := HH.out.2.2.2.2.1; omega
     have hlt6 : ∀ {q : Nat} {o : Obj}, w6.heap[q]? = some o -> q < w6.heap.size := fun h => heap_lt h
     have x0 : w6.cell? ⟨q11, 0, none⟩ = some (.bool lf) := by simp [World.cell?, hbx6]
     have x1 : w6.cell? ⟨q11, 1, none⟩ = some (.slice aka a1 akc) := by simp [World.cell?, hbx6]
     have x2 : w6.cell? ⟨q11, 2, none⟩ = some (.slice ava a2 avc) := by simp [World.cell?, hbx6]
     have x3 : w6.cell? ⟨q11, 3, none⟩ = some (.slice aia a3 aic) := by simp [World.cell?, hbx6]
     have z0 : w6.cell? ⟨q13, 0, none⟩ = some (.bool lf) := by simp [World.cell?, hbq6]
     have z1 : w6.cell? ⟨q13, 1, none⟩ = some (.slice bka b1 bkc) := by simp [World.cell?, hbq6]
     have z2 : w6.cell? ⟨q13, 2, none⟩ = some (.slice bva b2 bvc) := by simp [World.cell?, hbq6]
     have z3 : w6.cell? ⟨q13, 3, none⟩ = some (.slice bia b3 bic) := by simp [World.cell?, hbq6]
     have HKS : HoldT ((KeepS (fun b => b < w6.heap.size) w6 -> True)) := ⟨fun _ => trivial⟩
     have hko := HH.out.1.ok s (List.mem_of_getElem? HI.out.2.2.1)
     obtain ⟨ar1, ar2⟩ := HH.out.1.around HI.out.1 HI.out.2.1 HI.out.2.2.1
     have hshJ := sh_join HI.out.2.2.2.1 HI.out.2.2.2.2 hko ar1 ar2 (hK6.small HI.out.1) (hK6.small HI.out.2.1)
     have fa := (shTS HI.out.2.2.2.1 (hK6.small HI.out.1)).fewN
     have fb := (shTS HI.out.2.2.2.2 (hK6.small HI.out.2.1)).fewN
     have ha19 : a1 <= 10000 := by rw [H3'.out.2.2.2.2.2.1]; exact fa.keys
     have hb19 : b1 <= 10000 := by rw [H5'.out.2.2.2.2.2.1]; exact fb.keys
     obtain ⟨J, hJ⟩ : ∃ J, J = ndT h (joinT h a s b) := ⟨_, rfl⟩
     have hjn : joinN (ndT h a) s (ndT h b) = J := by rw [hJ]; exact nd_join h a s b
     rw [<- hJ] at hshJ
     have HJN := HoldT.mk (And.intro hJ (And.intro hjn (And.intro hshJ (And.intro fa fb))))
     have HK6 := HoldT.mk (And.intro hK6 (And.intro hN6a (And.intro hN6b (And.intro hbx6 (And.intro hbq6 (And.intro hys6 (And.intro hsl (And.intro hkl (And.intro hoK hgK)))))))))
     have g0 := KeepS.cell (P := fun b => b < w6.heap.size) x0 (hlt6 hbx6)
     have g1 := KeepS.cell (P := fun b => b < w6.heap.size) x1 (hlt6 hbx6)
     have g2 := KeepS.cell (P := fun b => b < w6.heap.size) x2 (hlt6 hbx6)
     have g3 := KeepS.cell (P := fun b => b < w6.heap.size) x3 (hlt6 hbx6)
     have g4 := KeepS.cell (P := fun b => b < w6.heap.size) z0 (hlt6 hbq6)
     have g5 := KeepS.cell (P := fun b => b < w6.heap.size) z1 (hlt6 hbq6)
     have g6 := KeepS.cell (P := fun b => b < w6.heap.size) z2 (hlt6 hbq6)
     have g7 := KeepS.cell (P := fun b => b < w6.heap.size) z3 (hlt6 hbq6)
     have g8 := KeepS.cell (P := fun b => b < w6.heap.size) y1 (hlt6 hK6.box)
     have g9 := KeepS.cell (P := fun b => b < w6.heap.size) hkc6 (hlt6 hgK)
     clear hK6 hN6a hN6b hbx6 hbq6 hys6 hsl hkl hoK hgK hgc hgm hgz y2 y3 hlt6 ej hkl2 hko ar1 ar2 hshJ fa fb hJ hjn x0 x2 x3 z0 z2 z3 y1 hkc6 HKS
     go_upto_region 11 with (fail)
     go_cut [14] (fun s14 wx => s14 = .bool (decide (a1 = 0) || decide (b1 = 0)) /\ wx = w6)
     case first =>
      by_cases ha0 : a1 = 0
      ·have hb0 : ((a1 : Int) = 0) := by omega
       go_wp2_with fail
       go_meet
       exact ⟨by simp [ha0], rfl⟩
      ·have hb0 : ¬ ((a1 : Int) = 0) := by omega
       by_cases hc0 : b1 = 0
       ·have hd0 : ((b1 : Int) = 0) := by omega
        go_wp2_with fail
        go_meet
        exact ⟨by simp [hc0], rfl⟩
       ·have hd0 : ¬ ((b1 : Int) = 0) := by omega
        go_wp2_with fail
        go_meet
        exact ⟨by simp [ha0, hc0], rfl⟩
     case rest =>
      obtain ⟨rfl, hwc⟩ := hcut
      obtain rfl := hwc.symm
      clear x1 z1
      obtain ⟨th, hth⟩ : ∃ x, x = (decide (a1 = 0) || decide (b1 = 0)) := ⟨_, rfl⟩
      rw [<- hth]
      have HTH := HoldT.mk hth
      clear hth
      go_upto_region 12 with (fail)
      go_cut [15, 16] (fun s15 s16 wx => ∃ (q15 : Nat) (ok lz : Bool) (e1 : Option Addr) (n1 d1 : Nat) (e2 : Option Addr) (n2 d2 : Nat) (e3 : Option Addr) (n3 d3 : Nat), s15 = .pointer (some ⟨q15, 0, none⟩) /\ s16 = .bool ok /\ HoldT (Below w6.heap.size w6 wx /\ w6.heap.size <= q15 /\ wx.heap[q15]? = some (.cells #[.bool lz, .slice e1 n1 d1, .slice e2 n2 d2, .slice e3 n3 d3] 104 (0, 0)) /\ ok = decide (sizeN J <= 1024) /\ (ok = true -> lz = J.leaf /\ NOwn w6.heap.size wx J (.slice e1 n1 d1) (.slice e2 n2 d2) (.slice e3 n3 d3))))
      case first =>
       refine wp_region_mixC (KeepSC (fun b => b < w6.heap.size) w6) 16 rfl (by kernel_rfl) ?_
       have HDR := HoldT.mk ((Below.refl w6.heap.size w6).drew)
       generalize w6.drew = v4 at HDR |-
       refine mixl_seg (by kernel_rfl) (fun _ _ d _ _ h => by cases d <;> exact h) [0, 1, 2, 3, 4, 5, 6, 7, 8] [_, _, _, _, _, _, _, _, _] 7 16 rfl _ _ _ rfl (by kernel_rfl) (keepSC fun b hb => HDR.out.block b hb) ?_
       repeat (go_big_quiet_step (fail))
       refine wpQuiet_nil ?_
       clear g0 g1 g2 g3 g4 g5 g6 g7 g8 g9
       have HV := HDR
       refine mixl_two (i := 9) (j := 13) rfl rfl (by kernel_rfl) (keepSC fun b hb => HV.out.block b hb) rfl rfl (fun K hK => ?_) (fun K hK => ?_)
       case' refine_1 =>
        have HC := node_join (HK6.out.2.1.own.nat.below HV.out) (HK6.out.2.2.1.own.nat.below HV.out) (HK6.out.2.2.2.2.2.1.mono RY_mono (cfU_below HV.out)) (leaf_T h a b) (by rw [HJN.out.2.1]; exact HJN.out.2.2.1) HJN.out.2.2.2.1 HJN.out.2.2.2.2
        unfold nodeV at HC
        rw [HJN.out.2.1, <- H3'.out.2.2.2.2.2.2.2.2, H5'.out.2.2.2.2.2.2.1] at HC
        have HC := HoldT.mk HC
        go_wp2_with fail
        refine HC.out.mono ?_
        rintro e v5 hpost
        obtain ⟨hb, x, rfl, hout⟩ := jout_of hpost HV.out.size
        obtain ⟨ok, lz, f1, n1, d1, f2, n2, d2, f3, n3, d3, rfl, hok, hno⟩ := jout_flat hout
        have HV5 := HoldT.mk (HV.out.trans (hb.mono HV.out.size))
        have HNO := HoldT.mk (And.intro hok hno)
        clear hok hno hb hpost hout
        simp only
        go_wp2_with fail
        refine mixl_seg (by kernel_rfl) (fun _ _ d _ _ h => by cases d <;> exact h) [10, 11, 12] [_, _, _] 3 6 rfl _ _ _ rfl (by kernel_rfl) (keepSC fun b hb => HV5.out.block b hb) ?_
        repeat (go_big_quiet_step (fail))
        refine wpQuiet_nil ?_
        refine mixl_act (i := 13) rfl (by kernel_rfl) (keepSC fun b hb => HV5.out.block b hb) rfl (fun K hK => ?_)
        go_wp2_with fail
        obtain ⟨v6, hv6⟩ : ∃ x, x = v5.alloc (.cells #[.bool false, .slice none 0 0, .slice none 0 0, .slice none 0 0] 104) := ⟨_, rfl⟩
        obtain ⟨q15, hq15⟩ : ∃ x, x = v5.heap.size := ⟨_, rfl⟩
        rw [<- hv6, <- hq15]
        have hb6 : Below v5.heap.size v5 v6 := by rw [hv6]; exact (Below.refl _ v5).alloc (Nat.le_refl _) _
        have hbq : v6.heap[q15]? = some (.cells #[.bool false, .slice none 0 0, .slice none 0 0, .slice none 0 0] 104 (0, 0)) := by rw [hv6, hq15]; exact heap_alloc_new v5 _
        have HF := HoldT.mk (And.intro (show w6.heap.size <= q15 by rw [hq15]; exact HV5.out.size) (And.intro hbq (And.intro HNO.out.1 (fun e => And.intro (HNO.out.2 e).1 ((HNO.out.2 e).2.below hb6)))))
        have HV6 := HoldT.mk (HV5.out.trans (hb6.mono HV5.out.size))
        clear hv6 hq15 hb6 HV5 HNO HC
       case' refine_2 =>
        go_wp2_with fail
        obtain ⟨v5, hv5⟩ : ∃ x, x = v4.alloc (.cells #[.bool false, .slice none 0 0, .slice none 0 0, .slice none 0 0] 104) := ⟨_, rfl⟩
        obtain ⟨q15, hq15⟩ : ∃ x, x = v4.heap.size := ⟨_, rfl⟩
        rw [<- hv5, <- hq15]
        have hb5 : Below v4.heap.size v4 v5 := by rw [hv5]; exact (Below.refl _ v4).alloc (Nat.le_refl _) _
        have hbq5 : v5.heap[q15]? = some (.cells #[.bool false, .slice none 0 0, .slice none 0 0, .slice none 0 0] 104 (0, 0)) := by rw [hv5, hq15]; exact heap_alloc_new v4 _
        have HQ5 := HoldT.mk (And.intro (show w6.heap.size <= q15 by rw [hq15]; exact HV.out.size) hbq5)
        have HV0 := HoldT.mk (HV.out.trans (hb5.mono HV.out.size))
        clear hv5 hq15 hb5 hbq5 HV
        have HV := HV0
        have HC := node_join (HK6.out.2.1.own.nat.below HV.out) (HK6.out.2.2.1.own.nat.below HV.out) (HK6.out.2.2.2.2.2.1.mono RY_mono (cfU_below HV.out)) (leaf_T h a b) (by rw [HJN.out.2.1]; exact HJN.out.2.2.1) HJN.out.2.2.2.1 HJN.out.2.2.2.2
        unfold nodeV at HC
        rw [HJN.out.2.1, <- H3'.out.2.2.2.2.2.2.2.2, H5'.out.2.2.2.2.2.2.1] at HC
        have HC := HoldT.mk HC
        refine mixl_act (i := 9) rfl (by kernel_rfl) (keepSC fun b hb => HV.out.block b hb) rfl (fun K hK => ?_)
        go_wp2_with fail
        refine HC.out.mono ?_
        rintro e v6 hpost
        obtain ⟨hb, x, rfl, hout⟩ := jout_of hpost HV.out.size
        obtain ⟨ok, lz, f1, n1, d1, f2, n2, d2, f3, n3, d3, rfl, hok, hno⟩ := jout_flat hout
        have hbq := kept HQ5.out.2 hb
        have HF := HoldT.mk (And.intro HQ5.out.1 (And.intro hbq (And.intro hok hno)))
        have HV6 := HoldT.mk (HV.out.trans (hb.mono HV.out.size))
        clear hok hno hb hpost hout
        simp only
        go_wp2_with fail
        refine mixl_seg (by kernel_rfl) (fun _ _ d _ _ h => by cases d <;> exact h) [10, 11, 12] [_, _, _] 2 5 rfl _ _ _ rfl (by kernel_rfl) (keepSC fun b hb => HV6.out.block b hb) ?_
        repeat (go_big_quiet_step (fail))
        refine wpQuiet_nil ?_
        clear HQ5 HV0 HC
       all_goals
        have x0 : v6.cell? ⟨q15, 0, none⟩ = some (.bool false) := by simp [World.cell?, hbq]
        have x1 : v6.cell? ⟨q15, 1, none⟩ = some (.slice none 0 0) := by simp [World.cell?, hbq]
        have x2 : v6.cell? ⟨q15, 2, none⟩ = some (.slice none 0 0) := by simp [World.cell?, hbq]
        have x3 : v6.cell? ⟨q15, 3, none⟩ = some (.slice none 0 0) := by simp [World.cell?, hbq]
        have y0 : v6.frozen? ⟨q15, 0, none⟩ = false := by simp [World.frozen?, hbq]
        have y1 : v6.frozen? ⟨q15, 1, none⟩ = false := by simp [World.frozen?, hbq]
        have y2 : v6.frozen? ⟨q15, 2, none⟩ = false := by simp [World.frozen?, hbq]
        have y3 : v6.frozen? ⟨q15, 3, none⟩ = false := by simp [World.frozen?, hbq]
        clear hbq
        refine mixl_act (i := 14) rfl (by kernel_rfl) (keepSC fun b hb => HV6.out.block b hb) rfl (fun K hK => ?_)
        go_wp2_with fail
        clear x0 x1 x2 x3 y0 y1 y2 y3
        obtain ⟨u4, hu4⟩ : ∃ u, u = set4 v6 q15 (.bool lz) (.slice f1 n1 d1) (.slice f2 n2 d2) (.slice f3 n3 d3) := ⟨_, rfl⟩
        have hu4' := hu4
        unfold set4 at hu4'
        rw [<- hu4']
        have hg4 : v6.grownBy u4 (some q15) := by rw [hu4]; exact set4_grown _ _ _ _ _ _
        have h44 : u4.heap[q15]? = some (.cells #[.bool lz, .slice f1 n1 d1, .slice f2 n2 d2, .slice f3 n3 d3] 104 (0, 0)) := by rw [hu4]; exact set4_heap HF.out.2.1
        have hbu : Below w6.heap.size w6 u4 := HV6.out.grown hg4 HV6.out.size (fun x e => by cases e; exact HF.out.1)
        have HU : HoldT (Below w6.heap.size w6 u4 /\ w6.heap.size <= q15 /\ u4.heap[q15]? = some (.cells #[.bool lz, .slice f1 n1 d1, .slice f2 n2 d2, .slice f3 n3 d3] 104 (0, 0)) /\ ok = decide (sizeN J <= 1024) /\ (ok = true -> lz = J.leaf /\ NOwn w6.heap.size u4 J (.slice f1 n1 d1) (.slice f2 n2 d2) (.slice f3 n3 d3))) := ⟨hbu, HF.out.1, h44, HF.out.2.2.1, fun e => ⟨(HF.out.2.2.2 e).1, ((HF.out.2.2.2 e).2.grown HF.out.2.1 hg4).1⟩⟩
        clear hu4 hu4' hg4 h44 hbu
        go_wp2_with fail
        refine mixl_seg (by kernel_rfl) (fun _ _ d _ _ h => by cases d <;> exact h) [15] [_] 0 1 rfl _ _ _ rfl (by kernel_rfl) (keepSC fun b hb => HU.out.1.block b hb) ?_
        repeat (go_big_quiet_step (fail))
        refine wpQuiet_nil ?_
        refine mix_done (by kernel_rfl) (keepSC fun b hb => HU.out.1.block b hb) ?_
        go_wp2_with fail
        go_meet
        exact ⟨q15, ok, lz, f1, n1, d1, f2, n2, d2, f3, n3, d3, rfl, rfl, HU⟩
      case rest =>
       obtain ⟨q15, ok, lz, e1, n1, d1, e2, n2, d2, e3, n3, d3, rfl, rfl, HU⟩ := hcut
       generalize wc = v at *
       clear g0 g1 g2 g3 g4 g5 g6 g7 g8 g9
       have hb15 := HU.out.2.2.1
       have x0 : v.cell? ⟨q15, 0, none⟩ = some (.bool lz) := by simp [World.cell?, hb15]
       have x1 : v.cell? ⟨q15, 1, none⟩ = some (.slice e1 n1 d1) := by simp [World.cell?, hb15]
       have x2 : v.cell? ⟨q15, 2, none⟩ = some (.slice e2 n2 d2) := by simp [World.cell?, hb15]
       have x3 : v.cell? ⟨q15, 3, none⟩ = some (.slice e3 n3 d3) := by simp [World.cell?, hb15]
       obtain ⟨sz, hsz⟩ : ∃ x, x = sizeN J := ⟨_, rfl⟩
       have hsz9 : sz <= 400000000 := by rw [hsz]; exact sizeN_le HJN.out.2.2.1.fewN
       have HSZ := HoldT.mk hsz
       have hok2 : ok = decide (sz <= 1024) := by rw [hsz]; exact HU.out.2.2.2.1
       have HOK := HoldT.mk hok2
       clear hb15 hsz hok2
       go_upto_region 13 with (fail)
       go_cut [108] (fun s108 wx => s108 = .bool (!ok || (!th && decide (768 < sz))) /\ Below v.heap.size v wx)
       case first =>
        cases ok with
        | false =>
         clear x0 x1 x2 x3
         go_wp2_with fail
         go_meet
         exact ⟨by simp, Below.refl _ _⟩
        | true =>
         cases th with
         | true =>
          clear x0 x1 x2 x3
          go_wp2_with fail
          go_meet
          exact ⟨by simp, Below.refl _ _⟩
         | false =>
          obtain ⟨rfl, hno⟩ := HU.out.2.2.2.2 rfl
          have HS1 := node_size hno.nat HJN.out.2.2.1.fewN
          have k1 : n1 = J.keys.length := by obtain ⟨_, h⟩ := hno.keys; obtain ⟨_, _, e⟩ := h.shape; simp only [Value.slice.injEq] at e; exact e.2.1
          unfold nodeV at HS1
          rw [<- HSZ.out] at HS1
          have HS1 := HoldT.mk HS1
          clear hno k1
          by_cases h768 : 768 < sz
          ·have hI8 : (768 : Int) < (sz : Int) := by omega
           go_wp2_with fail
           refine HS1.out.mono ?_
           rintro e v1 ⟨rfl, hb1⟩
           have HB1 := HoldT.mk hb1
           clear x0 x1 x2 x3 hb1
           go_wp2_with fail
           go_meet
           exact ⟨by simp [h768], HB1.out⟩
          ·have hI8 : ¬ (768 : Int) < (sz : Int) := by omega
           go_wp2_with fail
           refine HS1.out.mono ?_
           rintro e v1 ⟨rfl, hb1⟩
           have HB1 := HoldT.mk hb1
           clear x0 x1 x2 x3 hb1
           go_wp2_with fail
           go_meet
           exact ⟨by simp; omega, HB1.out⟩
       case rest =>
        obtain ⟨rfl, hbv⟩ := hcut
        clear x0 x1 x2 x3
        generalize wc = v1 at *
        have HV1 := HoldT.mk (And.intro hbv (HU.out.1.trans (hbv.mono HU.out.1.size)))
        clear hbv
        obtain ⟨cd, hcd⟩ : ∃ x, x = (!ok || (!th && decide (768 < sz))) := ⟨_, rfl⟩
        rw [<- hcd]
        have HCD := HoldT.mk hcd
        clear hcd
        have hT16 : TurnS H1.all wr H5.all v1 := (((((H3'.out.2.2.1.then HB4.out.1).trans H5'.out.2.2.1).then HB6.out.1).then HV1.out.2))
        have HT16 := HoldT.mk hT16
        clear hT16
        cases cd with
        | true =>
         have hcn := not_can (HTH.out) (HOK.out) (HSZ.out) HJN.out.1 HI.out.1 HI.out.2.1 HI.out.2.2.1 HI.out.2.2.2.1 HI.out.2.2.2.2 H3'.out.2.2.2.2.2.1 H5'.out.2.2.2.2.2.1 HCD.out
         have hkx1 := HK6.out.1.below HV1.out.2
         rw [HK6.out.2.2.2.2.2.2.2.1] at hkx1
         have HN := HoldT.mk (HJ.out.next (p2 := p5) (S2 := S5) (H2 := H5) HIJ.out hcn hkx1 (H3'.out.2.1.trans H5'.out.2.1) HT16.out (by have := H3'.out.2.2.2.1; have := H5'.out.2.2.2.1; omega))
         clear hcn hkx1
         go_wp2_with fail
         exact ⟨⟨j + 1, H5, S5, p5, by go_num, by omega, HN⟩, by simp [intOf]; omega⟩
        | false =>
         obtain ⟨rfl, hcan⟩ := can_of HTH.out HOK.out HSZ.out HJN.out.1 HI.out.2.2.2.1 HI.out.2.2.2.2 H3'.out.2.2.2.2.2.1 H5'.out.2.2.2.2.2.1 HCD.out
         obtain ⟨hlz, hnoJ⟩ := HU.out.2.2.2.2 rfl
         subst hlz
         have hY1 := HK6.out.1.toY.below HV1.out.2
         have hnJ1 : NT H5 w6.heap.size v1 J (.slice e1 n1 d1) (.slice e2 n2 d2) (.slice e3 n3 d3) := ⟨hnoJ.below (HV1.out.1), fun g hg e => by have h1 := (hnoJ.low hg).1; have h2 := HK6.out.1.pg.lt g e; omega⟩
         have hbx := kept HU.out.2.2.1 HV1.out.1
         have hszJ : sizeN J <= 1024 := by have h := hcan.1; rw [<- size_T, <- HJN.out.1] at h; exact h
         have HCA := HoldT.mk (And.intro hcan hszJ)
         have hki : (nodeN (ks.map (pgT h)) keys).kids[i]? = some pa := by
          show (ks.map (pgT h))[i]? = _
          rw [List.getElem?_map, HI.out.1, HPG.out.1]; rfl
         have hki2 : (nodeN (ks.map (pgT h)) keys).kids[i + 1]? = some pb := by
          show (ks.map (pgT h))[i + 1]? = _
          rw [List.getElem?_map, HI.out.2.1, HPG.out.2]; rfl
         have hkr := hY1.krow
         obtain ⟨y1, y2, y3⟩ := hY1.cells
         have hkc := hY1.kc hki
         have hkc2 := hY1.kc hki2
         have htb := hY1.tbx.cells.1
         have z0 : v1.cell? ⟨q15, 0, none⟩ = some (.bool J.leaf) := by simp [World.cell?, hbx]
         have z1 : v1.cell? ⟨q15, 1, none⟩ = some (.slice e1 n1 d1) := by simp [World.cell?, hbx]
         have z2 : v1.cell? ⟨q15, 2, none⟩ = some (.slice e2 n2 d2) := by simp [World.cell?, hbx]
         have z3 : v1.cell? ⟨q15, 3, none⟩ = some (.slice e3 n3 d3) := by simp [World.cell?, hbx]
         have pq : q15 < v1.heap.size /\ ¬ H5.all q15 := ⟨heap_lt hbx, fun e => by have := HK6.out.1.pg.lt q15 e; have := HU.out.2.1; omega⟩
         have pr : r < v1.heap.size /\ ¬ H5.all r := ⟨heap_lt hY1.box, hY1.boxH⟩
         have pg : g < v1.heap.size /\ ¬ H5.all g := ⟨by obtain ⟨⟨_, e⟩, _⟩ := hkr; exact heap_lt e, hkr.2⟩
         have pt : tb < v1.heap.size /\ ¬ H5.all tb := ⟨heap_lt hY1.tbx.box, hY1.tbx.off⟩
         have g0 := KeepS.cell (P := fun b => b < v1.heap.size /\ ¬ H5.all b) z0 pq
         have g1 := KeepS.cell (P := fun b => b < v1.heap.size /\ ¬ H5.all b) z1 pq
         have g2 := KeepS.cell (P := fun b => b < v1.heap.size /\ ¬ H5.all b) z2 pq
         have g3 := KeepS.cell (P := fun b => b < v1.heap.size /\ ¬ H5.all b) z3 pq
         have g4 := KeepS.cell (P := fun b => b < v1.heap.size /\ ¬ H5.all b) y3 pr
         have g5 := KeepS.cell (P := fun b => b < v1.heap.size /\ ¬ H5.all b) hkc pg
         have HY1 := HoldT.mk (And.intro hY1 (And.intro hnJ1 (And.intro hki (And.intro hki2 (And.intro pr (And.intro pg pt))))))
         clear hY1 hnJ1 hki hki2 hkr y1 y2 y3 hkc hkc2 htb z0 z1 z2 z3 pq pr pg pt hbx hszJ hcan hnoJ
         go_upto_region 14 with (fail)
         refine wp_region_mixC (KeepSC (fun b => b < v1.heap.size /\ ¬ H5.all b) v1) 15 rfl (by kernel_rfl) ?_
         have HDR := HoldT.mk ((Below.refl v1.heap.size v1).drew)
         generalize v1.drew = v2 at HDR |-
         refine mixl_seg (by kernel_rfl) (fun _ _ d _ _ h => by cases d <;> exact h) [0, 1, 2, 3, 4, 5, 6, 7, 8] [_, _, _, _, _, _, _, _, _] 6 15 rfl _ _ _ rfl (by kernel_rfl) (keepSC fun b hb => HDR.out.block b hb.1) ?_
         repeat (go_big_quiet_step (fail))
         refine wpQuiet_nil ?_
         clear g0 g1 g2 g3 g4 g5
         have hfa : S5.is[pa]? = some 2 := by rw [HPG.out.1]; exact HK6.out.1.kin.fresh _ (kid_in HI.out.1 (pg_mem _ a))
         have HWR := tree_write (HY1.out.1.below HDR.out).pg (HY1.out.1.below HDR.out).tbx (by have := HH.out.2.1; have := HJ.out.few; have := H3'.out.2.2.2.1; have := H5'.out.2.2.2.1; omega) (HY1.out.2.1.below HDR.out).own.nat HJN.out.2.2.1 HCA.out.2 (.inl ⟨pa, rfl, hfa, rfl⟩)
         have HWR := HoldT.mk HWR
         clear hfa
         refine mixl_act (i := 9) rfl (by kernel_rfl) (keepSC fun b hb => HDR.out.block b hb.1) rfl (fun K hK => ?_)
         go_wp2_with fail
         refine HWR.out.mono ?_
         rintro e v3 ⟨m, H7, S7, p7, rfl, hG7, hM7, hlm, hc7, hT7, hp7⟩
         have hmm : pa = m := by have := hlm (by simp); simpa using this
         subst hmm
         have hY7 := (HY1.out.1.below HDR.out).turn hG7 hT7
         have H7' := HoldT.mk (And.intro hY7 (And.intro hM7 (And.intro hc7 (And.intro hT7 hp7))))
         have HC7 : HoldT (∀ b, b < v1.heap.size /\ ¬ H5.all b -> v3.heap[b]? = v1.heap[b]?) := ⟨fun b hb => (hT7.out b (Nat.lt_of_lt_of_le hb.1 HDR.out.size) hb.2).1.trans (HDR.out.block b hb.1)⟩
         clear hG7 hM7 hlm hc7 hT7 hp7 hY7
         simp only
         go_wp2_with fail
         refine mixl_seg (by kernel_rfl) (fun _ _ d _ _ h => by cases d <;> exact h) [10, 11, 12, 13, 14] [_, _, _, _, _] 0 5 rfl _ _ _ rfl (by kernel_rfl) (keepSC HC7.out) ?_
         repeat (go_big_quiet_step (fail))
         refine wpQuiet_nil ?_
         refine mix_done (by kernel_rfl) (keepSC HC7.out) ?_
         have hkr := H7'.out.1.krow
         obtain ⟨y1, y2, y3⟩ := H7'.out.1.cells
         have hkc2 := H7'.out.1.kc HY1.out.2.2.2.1
         have htb := H7'.out.1.tbx.cells.1
         have pr : r < v3.heap.size /\ ¬ H7.all r := ⟨heap_lt H7'.out.1.box, H7'.out.1.boxH⟩
         have pg : g < v3.heap.size /\ ¬ H7.all g := ⟨by obtain ⟨⟨_, e⟩, _⟩ := hkr; exact heap_lt e, hkr.2⟩
         have pt : tb < v3.heap.size /\ ¬ H7.all tb := ⟨heap_lt H7'.out.1.tbx.box, H7'.out.1.tbx.off⟩
         have g0 := KeepS.cell (P := fun b => b < v3.heap.size /\ ¬ H7.all b) y3 pr
         have g1 := KeepS.cell (P := fun b => b < v3.heap.size /\ ¬ H7.all b) hkc2 pg
         have g2 := KeepS.cell (P := fun b => b < v3.heap.size /\ ¬ H7.all b) htb pt
         clear hkr y1 y2 y3 hkc2 htb pr pg pt
         go_upto_region 17 with (fail)
         refine wp_region_mixC (KeepSC (fun b => b < v3.heap.size /\ ¬ H7.all b) v3) 14 rfl (by kernel_rfl) ?_
         have HDR3 := HoldT.mk ((Below.refl v3.heap.size v3).drew)
         generalize v3.drew = v4 at HDR3 |-
         refine mixl_seg (by kernel_rfl) (fun _ _ d _ _ h => by cases d <;> exact h) [0, 1, 2, 3, 4, 5, 6, 7, 8, 9, 10, 11] [_, _, _, _, _, _, _, _, _, _, _, _] 2 14 rfl _ _ _ rfl (by kernel_rfl) (keepSC fun b hb => HDR3.out.block b hb.1) ?_
         repeat (go_big_quiet_step (fail))
         refine wpQuiet_nil ?_
         clear g0 g1 g2
         have hfb : S7.is[pb]? = some 2 := by
          have h1 := HK6.out.1.kin.around HI.out.1 HI.out.2.1
          refine (H7'.out.2.1.other (p := pb) ?_ ?_).2.2
          ·rw [List.mem_singleton, HPG.out.1, HPG.out.2]; exact fun e => h1.2.2.1 e.symm
          ·rw [HPG.out.2]; exact h1.2.2.2.2
         have HFR := HoldT.mk (pages_free (H7'.out.1.below HDR3.out).pg hfb (.inl ⟨rfl, rfl⟩))
         have HFB := HoldT.mk hfb
         clear hfb
         refine mixl_act (i := 12) rfl (by kernel_rfl) (keepSC fun b hb => HDR3.out.block b hb.1) rfl (fun K hK => ?_)
         go_wp2_with fail
         refine HFR.out.mono ?_
         rintro e v5 ⟨rfl, hG8, hT8⟩
         have hM8 := (free_moves H7'.out.1.pg.inv HFB.out).2
         have hY8 : KY Q R H7 (freeAt pb S7) p7 tb root r B (nodeN (ks.map (pgT h)) keys) v5 (.slice (some ⟨gk, 0, none⟩) kl kcap) vv (.slice (some ⟨g, 0, none⟩) m3 ic) := (H7'.out.1.below HDR3.out).turn hG8 hT8
         have H8' := HoldT.mk (And.intro hY8 (And.intro hM8 hT8))
         have HC8 : HoldT (∀ b, b < v3.heap.size /\ ¬ H7.all b -> v5.heap[b]? = v3.heap[b]?) := ⟨fun b hb => (hT8.out b (Nat.lt_of_lt_of_le hb.1 HDR3.out.size) hb.2).1.trans (HDR3.out.block b hb.1)⟩
         clear hG8 hM8 hT8 hY8
         simp only
         go_wp2_with fail
         refine mixl_seg (by kernel_rfl) (fun _ _ d _ _ h => by cases d <;> exact h) [13] [_] 0 1 rfl _ _ _ rfl (by kernel_rfl) (keepSC HC8.out) ?_
         repeat (go_big_quiet_step (fail))
         refine wpQuiet_nil ?_
         refine mix_done (by kernel_rfl) (keepSC HC8.out) ?_
         have hsame := H8'.out.1.again HY1.out.2.2.1
         obtain ⟨cg, hcg⟩ := H8'.out.1.krow.1
         obtain ⟨y1, y2, y3⟩ := H8'.out.1.cells
         have f0 : v5.frozen? ⟨g, i, none⟩ = false := by simp [World.frozen?, hcg]
         have hkc := H8'.out.1.kc HY1.out.2.2.1
         clear hcg y2
         go_upto_region 21 with (fail)
         clear hsame f0 hkc
         have hlk : (nodeN (ks.map (pgT h)) keys).keys.length = kl := HK6.out.2.2.2.2.2.2.2.1.symm
         have hli : (nodeN (ks.map (pgT h)) keys).kids.length = m3 := by rw [HH.out.2.2.1]; exact List.length_map _
         have g1 := KeepS.cell (P := fun b => b = r) y1 rfl
         have g3 := KeepS.cell (P := fun b => b = r) y3 rfl
         have hE5 := ES.start H8'.out.1.pg H8'.out.1.nt
         have hBv : B <= v5.heap.size := Nat.le_trans H8'.out.1.low (Nat.le_of_lt (heap_lt H8'.out.1.box))
         have HE0 := HoldT.mk (And.intro hE5 (And.intro hBv (And.intro hlk hli)))
         clear y1 y3 hE5 hBv hlk hli
         refine wp_region_mixL (KeepL (fun b => b = r) v5 [21]) 25 rfl (by kernel_rfl) ?_
         have HDR5 := HoldT.mk ((Below.refl v5.heap.size v5).drew)
         generalize v5.drew = v6 at HDR5 |-
         refine mixL_seg (by kernel_rfl) (fun _ _ d _ _ h => by cases d <;> exact h) (KeepSC (fun _ => False) v5) keepL_base [0, 1, 2, 3, 4, 6, 7, 8, 10, 11, 12, 14, 15, 16, 17] (keepL_back rfl) [_, _, _, _, _, _, _, _, _, _, _, _, _, _, _] 10 25 rfl _ _ _ rfl (by kernel_rfl) ?_
         repeat (go_big_quiet_step (fail))
         refine wpQuiet_nil ?_
         refine mixL_one (by kernel_rfl) (fun _ _ d _ _ h => by cases d <;> exact h) (KeepSC (fun b => b = r) v5) 21 (keepL_in (by decide)) 5 (fun l w => keepL_back (is := [5]) rfl 5 (by simp) l w) _ 9 _ _ _ rfl (by kernel_rfl) (by kernel_rfl) (by kernel_rfl) ?_
         repeat (go_big_quiet_step (fail))
         refine wpQuiet_nil ?_
         refine mixL_one (by kernel_rfl) (fun _ _ d _ _ h => by cases d <;> exact h) (KeepSC (fun b => b = r) v5) 21 (keepL_in (by decide)) 13 (fun l w => keepL_back (is := [13]) rfl 13 (by simp) l w) _ 8 _ _ _ rfl (by kernel_rfl) (by kernel_rfl) (by kernel_rfl) ?_
         repeat (go_big_quiet_step (fail))
         refine wpQuiet_nil ?_
         clear g1 g3
         have HKO : HoldT (∀ (l : Array Bool) (vz : World) (nz : ND) (k1 k2 k3 : Value), ES Q R H7 (freeAt pb S7) p7 B v5 vz nz k1 k2 k3 -> KeepL (fun b => b = r) v5 [21] l vz) := ⟨fun _ _ _ _ _ _ hz => keepL_on fun b hb => by rw [hb]; exact (hz.box r _ _ H8'.out.1.box (by decide) (by decide)).trans H8'.out.1.box.symm⟩
         have HE6 := HoldT.mk (HE0.out.1.below HDR5.out HE0.out.2.1)
         have HD1 := HoldT.mk (node_delK (k := i) HE6.out.nt HE6.out.pg.lt (by rw [HE0.out.2.2.1]; omega) (by rw [HE0.out.2.2.1]; omega))
         refine mixL_act (i := 9) rfl (by kernel_rfl) (HKO.out _ _ _ _ _ _ HE6.out) rfl (fun K hK => ?_)
         go_wp2_with fail
         refine HD1.out.mono ?_
         rintro e v7 ⟨kv7, rfl, hh⟩
         obtain ⟨k7a, k7c, rfl⟩ := hh.shape
         rw [HE0.out.2.2.1] at hh |-
         have HE7 := HoldT.mk (HE6.out.hand hh (.inl rfl) HE0.out.2.1)
         clear hh HD1
         simp only
         go_wp2_with fail
         have HD2 := HoldT.mk (node_delI (k := i + 1) HE7.out.nt HE7.out.pg.lt (by show i + 1 < (nodeN (ks.map (pgT h)) keys).kids.length; rw [HE0.out.2.2.2]; omega) (by show (nodeN (ks.map (pgT h)) keys).kids.length <= _; rw [HE0.out.2.2.2]; omega))
         rw [show ((i + 1 : Nat) : Int) = (i : Int) + 1 by omega, show (i : Int) + 1 + 1 = (i : Int) + 2 by omega] at HD2
         refine mixL_act (i := 18) rfl (by kernel_rfl) (HKO.out _ _ _ _ _ _ HE7.out) rfl (fun K hK => ?_)
         go_wp2_with fail
         refine HD2.out.mono ?_
         rintro e v8 ⟨iv8, rfl, hh⟩
         obtain ⟨i8a, i8c, rfl⟩ := hh.shape
         have HE8 := HoldT.mk (HE7.out.hand hh (.inr (.inr rfl)) HE0.out.2.1)
         obtain ⟨k8, hk8⟩ : ∃ x, x = kl - 1 := ⟨_, rfl⟩
         obtain ⟨i8, hi8⟩ : ∃ x, x = ({ nodeN (ks.map (pgT h)) keys with keys := delAt i (nodeN (ks.map (pgT h)) keys).keys } : ND).kids.length - 1 := ⟨_, rfl⟩
         rw [<- hk8, <- hi8] at HE8
         rw [<- hk8, <- hi8]
         clear hh HD2 HKO hk8 hi8
         have hbr8 := HE8.out.box r _ _ H8'.out.1.box (by decide) (by decide)
         have HR8 := HoldT.mk hbr8
         have z1 : v8.cell? ⟨r, 1, none⟩ = some (.slice (some ⟨gk, 0, none⟩) kl kcap) := by simp [World.cell?, hbr8]
         have f1 : v8.frozen? ⟨r, 1, none⟩ = false := by simp [World.frozen?, hbr8]
         clear hbr8
         simp only
         go_wp2_with fail
         refine mixL_seg (by kernel_rfl) (fun _ _ d _ _ h => by cases d <;> exact h) (KeepSC (fun _ => False) v5) keepL_base [19, 20] (keepL_back rfl) [_, _] 4 6 rfl _ _ _ rfl (by kernel_rfl) ?_
         repeat (go_big_quiet_step (fail))
         refine wpQuiet_nil ?_
         refine mixL_act (i := 21) rfl (by kernel_rfl) (keepL_on fun b hb => by rw [hb]; exact HR8.out.trans H8'.out.1.box.symm) rfl (fun K hK => ?_)
         go_wp2_with fail
         clear z1 f1
         obtain ⟨u1, hu1⟩ : ∃ u, u = v8.setCell ⟨r, 1, none⟩ (.slice k7a k8 k7c) := ⟨_, rfl⟩
         rw [<- hu1]
         have hbu1 : u1.heap[r]? = some (.cells #[.bool false, .slice k7a k8 k7c, vv, .slice (some ⟨g, 0, none⟩) m3 ic] 104 (0, 0)) := by rw [hu1, set_selfT HR8.out]; rfl
         have hgu1 : v8.grownBy u1 (some r) := by rw [hu1]; exact set6_grown _ _
         have HU1 := HoldT.mk (And.intro hbu1 hgu1)
         have z3 : u1.cell? ⟨r, 3, none⟩ = some (.slice (some ⟨g, 0, none⟩) m3 ic) := by simp [World.cell?, hbu1]
         have f3 : u1.frozen? ⟨r, 3, none⟩ = false := by simp [World.frozen?, hbu1]
         clear hu1 hbu1 hgu1
         go_wp2_with fail
         refine mixL_seg (by kernel_rfl) (fun _ _ d _ _ h => by cases d <;> exact h) (KeepSC (fun _ => False) v5) keepL_base [22, 23] (keepL_back rfl) [_, _] 1 3 rfl _ _ _ rfl (by kernel_rfl) ?_
         repeat (go_big_quiet_step (fail))
         refine wpQuiet_nil ?_
         refine mixL_act (i := 24) rfl (by kernel_rfl) (keepL_off (by kernel_rfl)) rfl (fun K hK => ?_)
         go_wp2_with fail
         clear z3 f3
         obtain ⟨u2, hu2⟩ : ∃ u, u = u1.setCell ⟨r, 3, none⟩ (.slice i8a i8 i8c) := ⟨_, rfl⟩
         rw [<- hu2]
         have hbu2 : u2.heap[r]? = some (.cells #[.bool false, .slice k7a k8 k7c, vv, .slice i8a i8 i8c] 104 (0, 0)) := by rw [hu2, set_selfT HU1.out.1]; rfl
         have hgu2 : v8.grownBy u2 (some r) := HU1.out.2.trans (by rw [hu2]; exact set6_grown _ _)
         have HFX := HoldT.mk (HE8.out.endX H8'.out.1 HR8.out hbu2 hgu2)
         clear hu2 hbu2 hgu2
         refine mixL_done (by kernel_rfl) (keepL_off (by kernel_rfl)) ?_
         have hT1 := ((HT16.out.trans ((TurnS.quiet HDR.out).trans H7'.out.2.2.2.1)).trans ((TurnS.quiet HDR3.out).trans H8'.out.2.2))
         have hp7 : p7 <= p1 + 30 := by have h1 := H3'.out.2.2.2.1; have h2 := H5'.out.2.2.2.1; have h3 := H7'.out.2.2.2.2; omega
         have hFIN := HoldT.mk (JoinTPost.merged HJ.out HIJ.out HK6.out.1.kin (H3'.out.2.1.trans H5'.out.2.1) HI.out.1 HI.out.2.1 HI.out.2.2.1 HI.out.2.2.2.1 HI.out.2.2.2.2 HCA.out.1 H7'.out.2.1 HPG.out.1 H7'.out.2.2.1 HJN.out.1 H8'.out.2.1 HPG.out.2 HFX.out.1 hT1 HFX.out.2 hp7)
         clear hT1 hp7
         go_wp2_with fail
         go_ret
         exact hFIN.out
    ·have hI1 : (m3 : Int) <= (i : Int) + 1 := by omega
     have hi0 : (0 : Int) <= (i : Int) := by omega
     have hid : decide ((m3 : Int) <= (i : Int) + 1) = true := decide_eq_true hI1
     have hcn : cannotJ h ks keys i := fun a b s _ hb _ => by have := (List.getElem?_eq_some_iff.1 hb).1; have := HH.out.2.2.1; omega
     have HN := HoldT.mk (HJ.out.next HIJ.out hcn HJ.out.kx (SameP.refl _) (TurnS.refl _ _) (by omega))
     clear hcn
     go_wp2_with fail
     exact ⟨⟨j + 1, H1, S1, p1, by go_num, by omega, HN⟩, by simp [intOf]; omega⟩
  ·obtain rfl : j = 2 := by omega
   have HE := HoldT.mk (tree_even (deep := deep) HJ.out.kx HH.out.1 HH.out.2.2.2.1 HH.out.2.2.2.2.1 hd (by have := HJ.out.few; have := HH.out.2.1; omega) (fun i hi => by
    rcases hi with rfl | hi
    ·exact HJ.out.two (Nat.le_refl _)
    ·exact HJ.out.one (by omega) i hi.symm))
   go_wp2_with fail
   refine HE.out.mono ?_
   rintro e w2 ⟨res, kv2, vv2, iv2, H2, S2, p2, rfl, hr, hk2, hM2, hT2, hp2⟩
   have HF : HoldT (JoinTPost Q R H S p tb root r B h kk ks keys w (.returned (.int .i64 0)) w2) := ⟨⟨res, kv2, vv2, iv2, H2, S2, p2, rfl, .inr (.inr ⟨HJ.out.one (by omega), HJ.out.two (Nat.le_refl _), hr⟩), hk2, hM2.before HJ.out.same, HJ.out.turn.trans hT2, by have := HJ.out.few; omega⟩⟩
   clear hr hk2 hM2 hT2 hp2
   go_wp2_with fail
   go_ret
   exact HF.out
end Go.Proofs.YtmiphphombkpdaaGreat
