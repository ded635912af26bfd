import Derived.Test.YtmiphphombkpdaaGreatWB35
namespace Go.Proofs.YtmiphphombkpdaaGreat
open Go.RowKit Go.Maps
theorem same_moves {S S' : PS} {h : Nat} {ks : List (Tree h)} (hs : SameP S S') (hk : KidsIn S h ks) : Moves S S' (ks.flatMap (pagesT h)) (ks.flatMap (pagesT h)) := by
 have h1 := hs.moves.wide hk.nd (fun p _ e => by cases e) hk.fresh
 simpa using h1
def EvenPost (Q : PQ) (R : Int -> Option Bts) (H : HS) (S : PS) (p tb : Nat) (root : Int) (r B h kk : Nat) (ks : List (Tree h)) (keys : List Bts) (w : World) (e : Ending) (w' : World) : Prop :=
 ∃ (res : List (Tree h) × List Bts) (kv' vv' iv' : Value) (H' : HS) (S' : PS) (p' : Nat), e = .returned (.int .i64 0) /\ evenR h ks keys kk res /\ KX Q R H' S' p' tb root r B h res.1 res.2 w' kv' vv' iv' /\ Moves S S' (ks.flatMap (pagesT h)) (res.1.flatMap (pagesT h)) /\ TurnB B H.all w H'.all w' /\ p' <= p + 40
theorem KX.kids {Q : PQ} {R : Int -> Option Bts} {H : HS} {S : PS} {p tb : Nat} {root : Int} {r B h : Nat} {ks : List (Tree h)} {keys : List Bts} {w : World} {kv vv iv : Value} (k : KX Q R H S p tb root r B h ks keys w kv vv iv) (hne : 0 < ks.length) : ∃ (g ic : Nat) (cur : Array Value), iv = .slice (some ⟨g, 0, none⟩) ks.length ic /\ w.heap[g]? = some (.cells cur 3 (0, 0)) /\ ∀ i x, ks[i]? = some x -> w.cell? ⟨g, i, none⟩ = some (.int .i64 (pgT h x : Int)) := by
 obtain ⟨cs, ho⟩ := k.nt.own.kids
 have hl : (nodeN (ks.map (pgT h)) keys).kids.length = ks.length := List.length_map _
 rw [hl] at ho
 obtain ⟨g, ic, cur, rfl, hg, _⟩ := own_slice ho hne
 refine ⟨g, ic, cur, rfl, hg, fun i x hx => ?_⟩
 obtain ⟨jb, jo, ej, hkc⟩ := sat_cell k.nt.own.nat.kids (mem_map_nat.2 (show (nodeN (ks.map (pgT h)) keys).kids[i]? = some (pgT h x) by show (ks.map (pgT h))[i]? = _; rw [List.getElem?_map, hx]; rfl))
 obtain ⟨rfl, rfl⟩ : g = jb /\ 0 = jo := by
  simp only [Option.some.injEq, Addr.mk.injEq, and_true] at ej
  exact ej
 rw [Nat.zero_add] at hkc
 exact hkc
theorem KX.cells {Q : PQ} {R : Int -> Option Bts} {H : HS} {S : PS} {p tb : Nat} {root : Int} {r B h : Nat} {ks : List (Tree h)} {keys : List Bts} {w : World} {kv vv iv : Value} (k : KX Q R H S p tb root r B h ks keys w kv vv iv) : w.cell? ⟨r, 1, none⟩ = some kv /\ w.cell? ⟨r, 2, none⟩ = some vv /\ w.cell? ⟨r, 3, none⟩ = some iv := by
 have := k.box
 refine ⟨?_, ?_, ?_⟩ <;> simp [World.cell?, this]
theorem KX.kc {Q : PQ} {R : Int -> Option Bts} {H : HS} {S : PS} {p tb : Nat} {root : Int} {r B h g n ic : Nat} {ks : List (Tree h)} {keys : List Bts} {w : World} {kv vv : Value} (k : KX Q R H S p tb root r B h ks keys w kv vv (.slice (some ⟨g, 0, none⟩) n ic)) {i : Nat} {x : Tree h} (hx : ks[i]? = some x) : w.cell? ⟨g, i, none⟩ = some (.int .i64 (pgT h x : Int)) := by
 obtain ⟨jb, jo, ej, hkc⟩ := sat_cell k.nt.own.nat.kids (mem_map_nat.2 (show (nodeN (ks.map (pgT h)) keys).kids[i]? = some (pgT h x) by show (ks.map (pgT h))[i]? = _; rw [List.getElem?_map, hx]; rfl))
 obtain ⟨rfl, rfl⟩ : g = jb /\ 0 = jo := by
  simp only [Option.some.injEq, Addr.mk.injEq, and_true] at ej
  exact ej
 rw [Nat.zero_add] at hkc
 exact hkc
theorem NT.box {H : HS} {B : Nat} {w w' : World} {n : ND} {kv vv iv : Value} (h : NT H B w n kv vv iv) {q : Nat} {cur : Array Value} (hq : w.heap[q]? = some (.cells cur 104 (0, 0))) (hg : w.grownBy w' (some q)) : NT H B w' n kv vv iv := ⟨(h.own.grown hq hg).1, h.off⟩
theorem one_sat {c : CF} {w : World} {s0 : Nat} {u : Value} {x : Bts} (hs : w.heap[s0]? = some (.cells #[u] 23 (0, 0))) (hy : YAt c u x) : SAt 1 (RB c) (cf w) (.slice (some ⟨s0, 0, none⟩) 1 1) [x] := by
 refine ⟨some ⟨s0, 0, none⟩, 1, rfl, Nat.le_refl _, by decide, fun i y hi => ?_⟩
 match i, hi with
 | 0, hi =>
  cases hi
  refine ⟨s0, 0, [u], rfl, rfl, fun j z hj => ?_, ⟨u, rfl, hy⟩⟩
  match j, hj with
  | 0, hj =>
   cases hj
   show w.cell? ⟨s0, 0, none⟩ = _
   simp [World.cell?, hs]
theorem three_rows {α : Type} {R : Rep α} {w : World} {s0 : Nat} {T : TypeId} {va vb vc : Value} {xs ys zs : List α} (hs : w.heap[s0]? = some (.cells #[va, vb, vc] T (0, 0))) (hx : SAt 1 R (cf w) va xs) (hy : SAt 1 R (cf w) vb ys) (hz : SAt 1 R (cf w) vc zs) (hxl : xs.length <= 20000) (hyl : ys.length <= 20000) (hzl : zs.length <= 20000) : RowsJ R w s0 T [va, vb, vc] [xs, ys, zs] :=
 ⟨hs, rfl, fun j v r hv hr => by
  match j, hv, hr with
  | 0, hv, hr => cases hv; cases hr; exact hx
  | 1, hv, hr => cases hv; cases hr; exact hy
  | 2, hv, hr => cases hv; cases hr; exact hz
  | j + 3, hv, hr => simp at hv, fun r hr => by
  rcases List.mem_cons.1 hr with rfl | hr
  ·exact hxl
  ·rcases List.mem_cons.1 hr with rfl | hr
   ·exact hyl
   ·obtain rfl := List.mem_singleton.1 hr; exact hzl⟩
def edeps : Nat -> List Nat
 | 12 => [9]
 | 13 => [9, 12]
 | 19 => [18]
 | 20 => [13, 19]
 | _ => []
def EF (B : Nat) (u ak bk ai bi : Value) (keys : List Bts) (kids : List Int) (i : Nat) (ds : List Value) (v : Value) (w : World) : Prop :=
 if i = 9 then ∃ s : Nat, v = .slice (some ⟨s, 0, none⟩) 1 1 /\ w.heap[s]? = some (.cells #[u] 23 (0, 0))
 else if i = 12 then ∃ s : Nat, v = .slice (some ⟨s, 0, none⟩) 3 3 /\ w.heap[s]? = some (.cells #[ak, ds.getD 0 undef, bk] 102 (0, 0))
 else if i = 13 then ∃ g c cs, v = .slice g keys.length c /\ OwnS 1 (RB (cfU w)) 23 B w v keys.length keys cs
 else if i = 18 then ∃ s : Nat, v = .slice (some ⟨s, 0, none⟩) 2 2 /\ w.heap[s]? = some (.cells #[ai, bi] 47 (0, 0))
 else if i = 19 then ∃ g c cs, v = .slice g kids.length c /\ OwnS 1 RI 3 B w v kids.length kids cs
 else if i = 20 then v = .agg #[.bool false, ds.getD 0 undef, .slice none 0 0, ds.getD 1 undef]
 else ∃ q : Nat, v = .pointer (some ⟨q, 0, none⟩) /\ B <= q /\ w.heap[q]? = some (.cells #[.bool false, .slice none 0 0, .slice none 0 0, .slice none 0 0] 104 (0, 0))
theorem ef_below {B : Nat} {u ak bk ai bi : Value} {keys : List Bts} {kids : List Int} : ∀ i ds v (w w' : World), EF B u ak bk ai bi keys kids i ds v w -> Below w.heap.size w w' -> EF B u ak bk ai bi keys kids i ds v w' := fun i ds v w w' h hb => by
 unfold EF at h |-
 repeat' split
 all_goals simp only [*, if_true, if_false] at h
 ·obtain ⟨s, e, h⟩ := h; exact ⟨s, e, kept h hb⟩
 ·obtain ⟨s, e, h⟩ := h; exact ⟨s, e, kept h hb⟩
 ·obtain ⟨g, c, cs, e, h⟩ := h; exact ⟨g, c, cs, e, own_row_below h hb⟩
 ·obtain ⟨s, e, h⟩ := h; exact ⟨s, e, kept h hb⟩
 ·obtain ⟨g, c, cs, e, h⟩ := h; exact ⟨g, c, cs, e, h.quiet RI_mono hb⟩
 ·exact h
 ·obtain ⟨q, e, h1, h⟩ := h; exact ⟨q, e, h1, kept h hb⟩
theorem setCell_same {w : World} {b o : Nat} {cur : Array Value} {T : TypeId} {fr : Nat × Nat} {v : Value} (hb : w.heap[b]? = some (.cells cur T fr)) (hv : cur[o]? = some v) : w.setCell ⟨b, o, none⟩ v = w := by
 have hc : cur.setIfInBounds o v = cur := by
  refine Array.ext_getElem? fun k => ?_
  rw [Array.getElem?_setIfInBounds]
  split
  ·rename_i e
   subst e
   have hl := (Array.getElem?_eq_some_iff.1 hv).1
   rw [if_pos hl, hv]
  ·rfl
 unfold World.setCell
 refine (congrArg (fun x => ({ w with heap := x } : World)) (?_ : w.heap.modify _ _ = w.heap)).trans rfl
 refine Array.ext_getElem? fun k => ?_
 rw [Array.getElem?_modify]
 split
 ·rename_i e
  have e' : b = k := e
  subst e'
  rw [hb]
  simp [hc]
 ·rfl
structure KY (Q : PQ) (R : Int -> Option Bts) (H : HS) (S : PS) (p tb : Nat) (root : Int) (r B : Nat) (n : ND) (w : World) (kv vv iv : Value) : Prop where
 pg : PG Q R H S p w
 tbx : TB H w tb Q.pb root
 nt : NT H B w n kv vv iv
 box : w.heap[r]? = some (.cells #[.bool false, kv, vv, iv] 104 (0, 0))
 boxH : ¬ H.all r
 low : B <= r
 tbB : tb < B
theorem KX.toY {Q : PQ} {R : Int -> Option Bts} {H : HS} {S : PS} {p tb : Nat} {root : Int} {r B h : Nat} {ks : List (Tree h)} {keys : List Bts} {w : World} {kv vv iv : Value} (k : KX Q R H S p tb root r B h ks keys w kv vv iv) : KY Q R H S p tb root r B (nodeN (ks.map (pgT h)) keys) w kv vv iv := ⟨k.pg, k.tbx, k.nt, k.box, k.boxH, k.low, k.tbB⟩
theorem KY.toX {Q : PQ} {R : Int -> Option Bts} {H : HS} {S : PS} {p tb : Nat} {root : Int} {r B h : Nat} {ks : List (Tree h)} {keys : List Bts} {w : World} {kv vv iv : Value} (k : KY Q R H S p tb root r B (nodeN (ks.map (pgT h)) keys) w kv vv iv) (hk : KidsIn S h ks) : KX Q R H S p tb root r B h ks keys w kv vv iv := ⟨k.pg, k.tbx, hk, k.nt, k.box, k.boxH, k.low, k.tbB⟩
theorem KY.below {Q : PQ} {R : Int -> Option Bts} {H : HS} {S : PS} {p tb : Nat} {root : Int} {r B : Nat} {n : ND} {w w' : World} {kv vv iv : Value} (k : KY Q R H S p tb root r B n w kv vv iv) (hb : Below w.heap.size w w') : KY Q R H S p tb root r B n w' kv vv iv :=
 ⟨k.pg.below hb, k.tbx.below hb, k.nt.below hb, kept k.box hb, k.boxH, k.low, k.tbB⟩
theorem KY.turn {Q : PQ} {R : Int -> Option Bts} {H H' : HS} {S S' : PS} {p p' tb : Nat} {root : Int} {r B : Nat} {n : ND} {w w' : World} {kv vv iv : Value} (k : KY Q R H S p tb root r B n w kv vv iv) (hG : PG Q R H' S' p' w') (hT : TurnS H.all w H'.all w') : KY Q R H' S' p' tb root r B n w' kv vv iv := by
 have hb := hT.kept k.box k.boxH
 exact ⟨hG, k.tbx.turn hT, k.nt.turn hT k.pg.noU, hb.1, hb.2, k.low, k.tbB⟩
theorem KY.cells {Q : PQ} {R : Int -> Option Bts} {H : HS} {S : PS} {p tb : Nat} {root : Int} {r B : Nat} {n : ND} {w : World} {kv vv iv : Value} (k : KY Q R H S p tb root r B n w kv vv iv) : w.cell? ⟨r, 1, none⟩ = some kv /\ w.cell? ⟨r, 2, none⟩ = some vv /\ w.cell? ⟨r, 3, none⟩ = some iv := by
 have := k.box
 refine ⟨?_, ?_, ?_⟩ <;> simp [World.cell?, this]
theorem KY.kc {Q : PQ} {R : Int -> Option Bts} {H : HS} {S : PS} {p tb : Nat} {root : Int} {r B g n ic : Nat} {nd : ND} {w : World} {kv vv : Value} (k : KY Q R H S p tb root r B nd w kv vv (.slice (some ⟨g, 0, none⟩) n ic)) {i x : Nat} (hx : nd.kids[i]? = some x) : w.cell? ⟨g, i, none⟩ = some (.int .i64 (x : Int)) := by
 obtain ⟨jb, jo, ej, hkc⟩ := sat_cell k.nt.own.nat.kids (mem_map_nat.2 hx)
 obtain ⟨rfl, rfl⟩ : g = jb /\ 0 = jo := by
  simp only [Option.some.injEq, Addr.mk.injEq, and_true] at ej
  exact ej
 rw [Nat.zero_add] at hkc
 exact hkc
theorem KY.krow {Q : PQ} {R : Int -> Option Bts} {H : HS} {S : PS} {p tb : Nat} {root : Int} {r B g n ic : Nat} {nd : ND} {w : World} {kv vv : Value} (k : KY Q R H S p tb root r B nd w kv vv (.slice (some ⟨g, 0, none⟩) n ic)) : (∃ cur, w.heap[g]? = some (.cells cur 3 (0, 0))) /\ ¬ H.all g := by
 obtain ⟨cs, ho⟩ := k.nt.own.kids
 exact ⟨own_kind ho rfl, k.nt.off g (.inr (.inr rfl))⟩
theorem KY.again {Q : PQ} {R : Int -> Option Bts} {H : HS} {S : PS} {p tb : Nat} {root : Int} {r B g n ic : Nat} {nd : ND} {w : World} {kv vv : Value} (k : KY Q R H S p tb root r B nd w kv vv (.slice (some ⟨g, 0, none⟩) n ic)) {i x : Nat} (hx : nd.kids[i]? = some x) : w.setCell ⟨g, i, none⟩ (.int .i64 (x : Int)) = w := by
 obtain ⟨⟨cur, hc⟩, _⟩ := k.krow
 have h1 := k.kc hx
 refine setCell_same hc ?_
 simpa [World.cell?, hc] using h1
theorem KY.setKey {Q : PQ} {R : Int -> Option Bts} {H : HS} {S : PS} {p tb : Nat} {root : Int} {r B gk n kc i : Nat} {nd : ND} {w w' : World} {vv iv u : Value} {x : Bts} (k : KY Q R H S p tb root r B nd w (.slice (some ⟨gk, 0, none⟩) n kc) vv iv) (hn : n = nd.keys.length) (hu : YAt (cfU w) u x) (hw : w' = w.setCell ⟨gk, i, none⟩ u) : KY Q R H S p tb root r B { nd with keys := nd.keys.set i x } w' (.slice (some ⟨gk, 0, none⟩) n kc) vv iv /\ CLe (cfU w) (cfU w') /\ (∀ b, b ≠ gk -> w'.heap[b]? = w.heap[b]?) /\ TurnB B H.all w H.all w' /\ w.heap.size <= w'.heap.size := by
 obtain ⟨cs, ho⟩ := k.nt.own.keys
 obtain ⟨cur, hc⟩ := own_kind ho rfl
 rw [<- hn] at ho
 have hp := OwnS.put (fun _ _ _ _ h => h) (k := i) (x := x) (u := u) ho ⟨u, rfl, hu⟩
 rw [<- hw] at hp
 have hg : w.grownBy w' (some gk) := by rw [hw]; exact set6_grown _ _
 have hlow := k.nt.own.low (g := gk) (.inl rfl)
 obtain ⟨e1, e2⟩ := k.nt.edK ⟨hg, fun _ h => .inl h⟩ k.pg.lt (by rw [List.length_set, <- hn]; exact hp)
 have hne : ∀ b cs, w.heap[b]? = some (.cells cs 104 (0, 0)) -> b ≠ gk := fun b cs h e => by rw [e, hc] at h; cases h
 have htb : tb ≠ gk := fun e => by have h1 := k.tbx.box; rw [e, hc] at h1; cases h1
 refine ⟨⟨k.pg.beside hg (fun b e => by cases e; exact ⟨k.nt.off _ (.inl rfl), hlow.2.2⟩), ⟨(hg.block tb (heap_lt k.tbx.box) (fun e => htb (Option.some.inj e))).trans k.tbx.box, k.tbx.off⟩, e1, (hg.block r (heap_lt k.box) (fun e => hne r _ k.box (Option.some.inj e))).trans k.box, k.boxH, k.low, k.tbB⟩, e2, fun b hb => ?_, TurnB.grown hg (fun b e => by cases e; exact hlow.1) (Nat.le_trans hlow.1 (Nat.le_of_lt hlow.2.1)), hg.size⟩
 rw [hw]
 exact Below.heap_setCell w ⟨gk, i, none⟩ u b hb
theorem even_big {h k i : Nat} {ks : List (Tree (h + 1))} {keys : List Bts} {a b c : Tree (h + 1)} {s : Bts} (hk : Kids (h + 1) ks keys k) (hc : ks[k]? = some c) (ht : c.2.2 = []) (hi : i = k - 1) (ha : ks[i]? = some a) (hb : ks[i + 1]? = some b) (hs : keys[i]? = some s) (hcan : ∀ i, i = k \/ i + 1 = k -> cannotJ (h + 1) ks keys i) : 1024 < szNode (a.2.2 ++ s :: b.2.2) /\ szNode (a.2.2 ++ s :: b.2.2) <= 1269 := by
 have hi' : i = k \/ i + 1 = k := by omega
 have hcn := hcan i hi' a b s ha hb hs
 have hth : a.2.2 = [] \/ b.2.2 = [] := by
  rcases hi' with e | e
  ·rw [e, hc] at ha; exact .inl (Option.some.inj ha ▸ ht)
  ·rw [e, hc] at hb; exact .inr (Option.some.inj hb ▸ ht)
 have wa := (hk.wfs i a ha).1
 have wb := (hk.wfs (i + 1) b hb).1
 refine ⟨Nat.lt_of_not_le fun hle => hcn ⟨hle, ?_⟩, ?_⟩
 ·rcases hth with h3 | h3
  ·exact .inl h3
  ·exact .inr (.inl h3)
 ·have h3 := szK_le (hk.ok s (List.mem_of_getElem? hs))
  have h4 : szNode a.2.2 <= 1024 := wa.2.2.2.1
  have h5 : szNode b.2.2 <= 1024 := wb.2.2.2.1
  unfold szNode at h4 h5 |-
  rcases hth with h6 | h6 <;> rw [h6] <;> simp only [List.nil_append, List.map_append, List.map_cons, List.map_nil, List.sum_append, List.sum_cons, List.sum_nil] <;> omega
theorem even_none {h : Nat} {ks : List (Tree h)} {keys : List Bts} {kk : Nat} {c : Tree h} (hc : ks[kk]? = some c) (hst : (ndT h c).leaf = true \/ 0 < (ndT h c).keys.length \/ ks.length < 2) : evenR h ks keys kk (ks, keys) := by
 cases h with
 | zero => rfl
 | succ h =>
  refine ⟨c, hc, .inl ⟨?_, rfl⟩⟩
  rcases hst with e | e | e
  ·cases e
  ·exact .inl (List.length_pos_iff.1 e)
  ·exact .inr e
theorem even_res {S5 S7 S9 : PS} {h' kk i j pa pb : Nat} {ks : List (Tree (h' + 1))} {keys : List Bts} {a b c : Tree (h' + 1)} {s key : Bts} {bothK : List Bts} {bothI : List Nat} {nA nB : ND} (hkin : KidsIn S5 (h' + 1) ks) (hc : ks[kk]? = some c) (hct : c.2.2 = []) (hi : i = kk - 1) (h2 : 2 <= ks.length) (ha : ks[i]? = some a) (hb : ks[i + 1]? = some b) (hs : keys[i]? = some s) (hbK : bothK = a.2.2 ++ s :: b.2.2) (hbI : bothI = (a.2.1 ++ b.2.1).map (pgT h')) (hbil : bothI.length = bothK.length + 1) (hj : bestAt (maxN (nodeN bothI bothK)) (lastN (nodeN bothI bothK)) j) (hkey : key = (nodeN bothI bothK).keys.getD j []) (hpa : pa = pgT (h' + 1) a) (hpb : pb = pgT (h' + 1) b) (hnA : nA = nodeN (bothI.take (j + 1)) (bothK.take j)) (hnB : nB = nodeN (bothI.drop (j + 1)) (bothK.drop (j + 1))) (hM7 : Moves S5 S7 [pa] [pa]) (hc7 : contP S7 pa = encN nA) (hM9 : Moves S7 S9 [pb] [pb]) (hc9 : contP S9 pb = encN nB) :
  ∃ res : List (Tree (h' + 1)) × List Bts, evenR (h' + 1) ks keys kk res /\ KidsIn S9 (h' + 1) res.1 /\ Moves S5 S9 (ks.flatMap (pagesT (h' + 1))) (res.1.flatMap (pagesT (h' + 1))) /\ res.1.map (pgT (h' + 1)) = ks.map (pgT (h' + 1)) /\ res.2 = keys.set i key := by
 rw [max_node, last_node] at hj
 have hj1 := hj.1
 have hj2 := hj.2.1
 have hjl : j < bothK.length := by omega
 have hkj : bothK[j]? = some key := by
  rw [hkey]
  show _ = some (bothK.getD j [])
  rw [List.getD_eq_getElem?_getD, List.getElem?_eq_getElem hjl]; rfl
 have hKl : (a.2.1 ++ b.2.1).length = bothK.length + 1 := by rw [<- hbil, hbI, List.length_map]
 have hc7' : contP S7 a.1 = encN (nodeN (((a.2.1 ++ b.2.1).take (j + 1)).map (pgT h')) (bothK.take j)) := by
  rw [hpa, hnA, hbI, <- List.map_take] at hc7
  exact hc7
 have hc9' : contP S9 b.1 = encN (nodeN (((a.2.1 ++ b.2.1).drop (j + 1)).map (pgT h')) (bothK.drop (j + 1))) := by
  rw [hpb, hnB, hbI, <- List.map_drop] at hc9
  exact hc9
 have hM7' : Moves S5 S7 [a.1] [a.1] := by rw [hpa] at hM7; exact hM7
 have hM9' : Moves S7 S9 [b.1] [b.1] := by rw [hpb] at hM9; exact hM9
 obtain ⟨hkin9, hMM⟩ := even_pages (KA := (a.2.1 ++ b.2.1).take (j + 1)) (KB := (a.2.1 ++ b.2.1).drop (j + 1)) (LA := bothK.take j) (LB := bothK.drop (j + 1)) hkin ha hb (List.take_append_drop _ _) (by rw [List.length_take, List.length_take]; omega) (by rw [List.length_drop, List.length_drop]; omega) hM7' hc7' hM9' hc9'
 subst hi hbK
 refine ⟨(_, _), ⟨c, hc, .inr ⟨hct, h2, a, b, s, j, key, ha, hb, hs, hj, hkj, rfl⟩⟩, hkin9, hMM, ?_, rfl⟩
 conv => rhs; rw [two_list ha hb]
 rw [List.map_append, List.map_append, List.map_cons, List.map_cons, List.map_cons, List.map_cons]
 rfl
theorem KY.fin {Q : PQ} {R : Int -> Option Bts} {H : HS} {S : PS} {p tb : Nat} {root : Int} {r B h i : Nat} {ks ks' : List (Tree h)} {keys keys' : List Bts} {key : Bts} {w : World} {kv vv iv : Value} (k : KY Q R H S p tb root r B { nodeN (ks.map (pgT h)) keys with keys := (nodeN (ks.map (pgT h)) keys).keys.set i key } w kv vv iv) (h1 : ks'.map (pgT h) = ks.map (pgT h)) (h2 : keys' = keys.set i key) (hk : KidsIn S h ks') : KX Q R H S p tb root r B h ks' keys' w kv vv iv := by
 refine KY.toX ?_ hk
 rw [h1, h2]
 exact k
end Go.Proofs.YtmiphphombkpdaaGreat
