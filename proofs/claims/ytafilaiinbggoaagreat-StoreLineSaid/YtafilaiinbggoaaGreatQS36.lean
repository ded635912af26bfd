import Derived.Test.YtafilaiinbggoaaGreatQS30
import Derived.Test.YtafilaiinbggoaaGreatQS35
import Derived.Lib.AppendZerosOnto
namespace Go.Proofs.YtafilaiinbggoaaGreat
open Go.RowKit Go.Maps
set_option maxHeartbeats 1000000 in
theorem tree_root {H : HS} {w : World} {tb pb : Nat} {root : Int} (h : TB H w tb pb root) :
  Calls Tryz.prog 43 #[.pointer (some ⟨tb, 0, none⟩)] w fun e w' => e = .returned (.int .i64 root) /\ w' = w := by
 obtain ⟨x0, x1⟩ := h.cells
 clear h
 go_enter Tryz.func43, Tryz.ntmps43
 go_wp2
 go_ret
 exact ⟨rfl, rfl⟩
set_option maxHeartbeats 1000000 in
theorem tree_open {H : HS} {w : World} {pb : Nat} {root : Int} (hlt : ∀ b, H.all b -> b < w.heap.size) :
  Calls Tryz.prog 13 #[.pointer (some ⟨pb, 0, none⟩), .int .i64 root] w fun e w' => ∃ tb, e = .returned (.pointer (some ⟨tb, 0, none⟩)) /\ TB H w' tb pb root /\ Below w.heap.size w w' /\ w.heap.size <= tb := by
 have HL := HoldT.mk hlt
 clear hlt
 go_enter Tryz.func13, Tryz.ntmps13
 go_wp2_with fail
 go_ret
 refine ⟨w.heap.size, rfl, ⟨heap_alloc_new w _, fun e => by have := HL.out _ e; omega⟩, (Below.refl _ w).alloc (Nat.le_refl _) _, Nat.le_refl _⟩
end Go.Proofs.YtafilaiinbggoaaGreat
namespace Go.Proofs.YtafilaiinbggoaaGreat
open Go.RowKit Go.Maps
def H0 : HS := ⟨fun _ => False, fun _ => False⟩
end Go.Proofs.YtafilaiinbggoaaGreat
namespace Go.Proofs.YtafilaiinbggoaaGreat
structure KidsIn (S : PS) (h : Nat) (ks : List (Tree h)) : Prop where
 sits : ∀ x ∈ ks, sitsT (contP S) h x
 nd : (ks.flatMap (pagesT h)).Nodup
 fresh : ∀ p ∈ ks.flatMap (pagesT h), S.is[p]? = some 2
theorem KidsIn.same {S S' : PS} {h : Nat} {ks : List (Tree h)} (hk : KidsIn S h ks) (hs : SameP S S') : KidsIn S' h ks :=
 ⟨fun x hx => sits_same h (fun p _ => hs.2 p) (hk.sits x hx), hk.nd, fun p hp => by rw [hs.1]; exact hk.fresh p hp⟩
theorem KidsIn.moves {S S' : PS} {h : Nat} {ks : List (Tree h)} {old new : List Nat} (hk : KidsIn S h ks) (hM : Moves S S' old new) (hd : ∀ p ∈ ks.flatMap (pagesT h), p ∉ old) : KidsIn S' h ks :=
 ⟨fun x hx => hM.sits (hk.sits x hx) (fun p hp => hd p (List.mem_flatMap.2 ⟨x, hx, hp⟩)) (fun p hp => hk.fresh p (List.mem_flatMap.2 ⟨x, hx, hp⟩)), hk.nd, fun p hp => (hM.other (hd p hp) (hk.fresh p hp)).2.2⟩
end Go.Proofs.YtafilaiinbggoaaGreat
namespace Go.Proofs.YtafilaiinbggoaaGreat
open Go.RowKit Go.Maps
structure TurnB (B : Nat) (H : BS) (w : World) (H' : BS) (w' : World) : Prop where
 os : w'.os = w.os
 tape : w'.tape = w.tape
 output : w'.output = w.output
 size : w.heap.size <= w'.heap.size
 out : ∀ b, b < B -> ¬ H b -> w'.heap[b]? = w.heap[b]? /\ ¬ H' b
theorem TurnB.refl (B : Nat) (H : BS) (w : World) : TurnB B H w H w := ⟨rfl, rfl, rfl, Nat.le_refl _, fun _ _ h => ⟨rfl, h⟩⟩
theorem TurnB.trans {B : Nat} {H H1 H2 : BS} {w w1 w2 : World} (h : TurnB B H w H1 w1) (k : TurnB B H1 w1 H2 w2) : TurnB B H w H2 w2 :=
 ⟨k.os.trans h.os, k.tape.trans h.tape, k.output.trans h.output, Nat.le_trans h.size k.size, fun b hb hn => by
  obtain ⟨h1, h2⟩ := h.out b hb hn
  obtain ⟨k1, k2⟩ := k.out b hb h2
  exact ⟨k1.trans h1, k2⟩⟩
theorem TurnS.toB {B : Nat} {H H' : BS} {w w' : World} (h : TurnS H w H' w') (hB : B <= w.heap.size) : TurnB B H w H' w' := ⟨h.os, h.tape, h.output, h.size, fun b hb hn => h.out b (Nat.lt_of_lt_of_le hb hB) hn⟩
theorem TurnB.grown {B : Nat} {H : BS} {w w' : World} {r : Option Nat} (hg : w.grownBy w' r) (hr : ∀ b, r = some b -> B <= b) (hB : B <= w.heap.size) : TurnB B H w H w' :=
 ⟨hg.os, hg.tape, hg.output, hg.size, fun b hb hn => ⟨hg.block b (Nat.lt_of_lt_of_le hb hB) (fun e => by have := hr b e.symm; omega), hn⟩⟩
theorem TurnB.quiet {B : Nat} {H : BS} {w w' : World} (hb : Below w.heap.size w w') (hB : B <= w.heap.size) : TurnB B H w H w' := (TurnS.quiet hb).toB hB
structure KX (Q : PQ) (R : Int -> Option Bts) (H : HS) (S : PS) (p tb : Nat) (root : Int) (r B h : Nat) (ks : List (Tree h)) (keys : List Bts) (w : World) (kv vv iv : Value) : Prop where
 pg : PG Q R H S p w
 tbx : TB H w tb Q.pb root
 kin : KidsIn S h ks
 nt : NT H B w (nodeN (ks.map (pgT h)) keys) kv vv iv
 box : w.heap[r]? = some (.cells #[.bool false, kv, vv, iv] 107 (0, 0))
 boxH : ¬ H.all r
 low : B <= r
 tbB : tb < B
theorem KX.base {Q : PQ} {R : Int -> Option Bts} {H : HS} {S : PS} {p tb : Nat} {root : Int} {r B h : Nat} {ks : List (Tree h)} {keys : List Bts} {w : World} {kv vv iv : Value} (k : KX Q R H S p tb root r B h ks keys w kv vv iv) : B <= w.heap.size := Nat.le_trans k.low (Nat.le_of_lt (heap_lt k.box))
theorem KX.below {Q : PQ} {R : Int -> Option Bts} {H : HS} {S : PS} {p tb : Nat} {root : Int} {r B h : Nat} {ks : List (Tree h)} {keys : List Bts} {w w' : World} {kv vv iv : Value} (k : KX Q R H S p tb root r B h ks keys w kv vv iv) (hb : Below w.heap.size w w') : KX Q R H S p tb root r B h ks keys w' kv vv iv :=
 ⟨k.pg.below hb, k.tbx.below hb, k.kin, k.nt.below hb, kept k.box hb, k.boxH, k.low, k.tbB⟩
theorem KX.beside {Q : PQ} {R : Int -> Option Bts} {H : HS} {S : PS} {p tb : Nat} {root : Int} {r B h : Nat} {ks : List (Tree h)} {keys : List Bts} {w w' : World} {kv vv iv : Value} (k : KX Q R H S p tb root r B h ks keys w kv vv iv) {q : Nat} {cur : Array Value} (hq : w.heap[q]? = some (.cells cur 107 (0, 0))) (hqH : ¬ H.all q) (hqr : q ≠ r) (hg : w.grownBy w' (some q)) : KX Q R H S p tb root r B h ks keys w' kv vv iv := by
 have htb : tb ≠ q := fun e => by
  have h1 := k.tbx.box
  rw [e, hq] at h1
  cases h1
 refine ⟨k.pg.beside hg (fun b e => by cases e; exact ⟨hqH, fun ⟨_, _, e2⟩ => by rw [hq] at e2; cases e2⟩), ⟨(hg.block tb (heap_lt k.tbx.box) (fun e => htb (Option.some.inj e))).trans k.tbx.box, k.tbx.off⟩, k.kin, ⟨(k.nt.own.grown hq hg).1, k.nt.off⟩, (hg.block r (heap_lt k.box) (fun e => hqr (Option.some.inj e).symm)).trans k.box, k.boxH, k.low, k.tbB⟩
theorem KX.turn {Q : PQ} {R : Int -> Option Bts} {H H' : HS} {S S' : PS} {p p' tb : Nat} {root : Int} {r B h : Nat} {ks ks' : List (Tree h)} {keys : List Bts} {w w' : World} {kv vv iv : Value} (k : KX Q R H S p tb root r B h ks keys w kv vv iv) (hG : PG Q R H' S' p' w') (hT : TurnS H.all w H'.all w') (hk : KidsIn S' h ks') (hm : ks'.map (pgT h) = ks.map (pgT h)) : KX Q R H' S' p' tb root r B h ks' keys w' kv vv iv := by
 have hb := hT.kept k.box k.boxH
 refine ⟨hG, k.tbx.turn hT, hk, ?_, hb.1, hb.2, k.low, k.tbB⟩
 rw [hm]
 exact k.nt.turn hT k.pg.noU
end Go.Proofs.YtafilaiinbggoaaGreat
namespace Go.Proofs.YtafilaiinbggoaaGreat
open Go.RowKit Go.Maps
theorem KX.kids {Q : PQ} {R : Int -> Option Bts} {H : HS} {S : PS} {p tb : Nat} {root : Int} {r B h : Nat} {ks : List (Tree h)} {keys : List Bts} {w : World} {kv vv iv : Value} (k : KX Q R H S p tb root r B h ks keys w kv vv iv) (hne : 0 < ks.length) : ∃ (g ic : Nat) (cur : Array Value), iv = .slice (some ⟨g, 0, none⟩) ks.length ic /\ w.heap[g]? = some (.cells cur 3 (0, 0)) /\ ∀ i x, ks[i]? = some x -> w.cell? ⟨g, i, none⟩ = some (.int .i64 (pgT h x : Int)) := by
 obtain ⟨cs, ho⟩ := k.nt.own.kids
 have hl : (nodeN (ks.map (pgT h)) keys).kids.length = ks.length := List.length_map _
 rw [hl] at ho
 obtain ⟨g, ic, cur, rfl, hg, _⟩ := own_slice ho hne
 refine ⟨g, ic, cur, rfl, hg, fun i x hx => ?_⟩
 obtain ⟨jb, jo, ej, hkc⟩ := sat_cell k.nt.own.nat.kids (mem_map_nat.2 (show (nodeN (ks.map (pgT h)) keys).kids[i]? = some (pgT h x) by show (ks.map (pgT h))[i]? = _; rw [List.getElem?_map, hx]; rfl))
 obtain ⟨rfl, rfl⟩ : g = jb /\ 0 = jo := by
  simp only [Option.some.injEq, Addr.mk.injEq, and_true] at ej
  exact ej
 rw [Nat.zero_add] at hkc
 exact hkc
theorem KX.cells {Q : PQ} {R : Int -> Option Bts} {H : HS} {S : PS} {p tb : Nat} {root : Int} {r B h : Nat} {ks : List (Tree h)} {keys : List Bts} {w : World} {kv vv iv : Value} (k : KX Q R H S p tb root r B h ks keys w kv vv iv) : w.cell? ⟨r, 1, none⟩ = some kv /\ w.cell? ⟨r, 2, none⟩ = some vv /\ w.cell? ⟨r, 3, none⟩ = some iv := by
 have := k.box
 refine ⟨?_, ?_, ?_⟩ <;> simp [World.cell?, this]
theorem NT.box {H : HS} {B : Nat} {w w' : World} {n : ND} {kv vv iv : Value} (h : NT H B w n kv vv iv) {q : Nat} {cur : Array Value} (hq : w.heap[q]? = some (.cells cur 107 (0, 0))) (hg : w.grownBy w' (some q)) : NT H B w' n kv vv iv := ⟨(h.own.grown hq hg).1, h.off⟩
structure KY (Q : PQ) (R : Int -> Option Bts) (H : HS) (S : PS) (p tb : Nat) (root : Int) (r B : Nat) (n : ND) (w : World) (kv vv iv : Value) : Prop where
 pg : PG Q R H S p w
 tbx : TB H w tb Q.pb root
 nt : NT H B w n kv vv iv
 box : w.heap[r]? = some (.cells #[.bool false, kv, vv, iv] 107 (0, 0))
 boxH : ¬ H.all r
 low : B <= r
 tbB : tb < B
theorem KY.below {Q : PQ} {R : Int -> Option Bts} {H : HS} {S : PS} {p tb : Nat} {root : Int} {r B : Nat} {n : ND} {w w' : World} {kv vv iv : Value} (k : KY Q R H S p tb root r B n w kv vv iv) (hb : Below w.heap.size w w') : KY Q R H S p tb root r B n w' kv vv iv :=
 ⟨k.pg.below hb, k.tbx.below hb, k.nt.below hb, kept k.box hb, k.boxH, k.low, k.tbB⟩
theorem KY.turn {Q : PQ} {R : Int -> Option Bts} {H H' : HS} {S S' : PS} {p p' tb : Nat} {root : Int} {r B : Nat} {n : ND} {w w' : World} {kv vv iv : Value} (k : KY Q R H S p tb root r B n w kv vv iv) (hG : PG Q R H' S' p' w') (hT : TurnS H.all w H'.all w') : KY Q R H' S' p' tb root r B n w' kv vv iv := by
 have hb := hT.kept k.box k.boxH
 exact ⟨hG, k.tbx.turn hT, k.nt.turn hT k.pg.noU, hb.1, hb.2, k.low, k.tbB⟩
theorem KY.cells {Q : PQ} {R : Int -> Option Bts} {H : HS} {S : PS} {p tb : Nat} {root : Int} {r B : Nat} {n : ND} {w : World} {kv vv iv : Value} (k : KY Q R H S p tb root r B n w kv vv iv) : w.cell? ⟨r, 1, none⟩ = some kv /\ w.cell? ⟨r, 2, none⟩ = some vv /\ w.cell? ⟨r, 3, none⟩ = some iv := by
 have := k.box
 refine ⟨?_, ?_, ?_⟩ <;> simp [World.cell?, this]
end Go.Proofs.YtafilaiinbggoaaGreat
namespace Go.Proofs.YtafilaiinbggoaaGreat
open Go.RowKit Go.Maps
structure JL (Q : PQ) (R : Int -> Option Bts) (H : HS) (S : PS) (p tb : Nat) (root : Int) (r B h kk sI : Nat) (ks : List (Tree h)) (keys : List Bts) (w : World) (kv vv iv : Value) (j : Nat) (H' : HS) (S' : PS) (p' : Nat) (wr : World) : Prop where
 kx : KX Q R H' S' p' tb root r B h ks keys wr kv vv iv
 same : SameP S S'
 turn : TurnB B H.all w H'.all wr
 few : p' <= p + 8 * j
 row : wr.heap[sI]? = some (.cells #[.int .i64 ((kk : Int) - 1), .int .i64 (kk : Int)] 3 (0, 0))
 rowH : ¬ H'.all sI
 one : 1 <= j -> ∀ i, kk = i + 1 -> cannotJ h ks keys i
 two : 2 <= j -> cannotJ h ks keys kk
theorem JL.next {Q : PQ} {R : Int -> Option Bts} {H H' H2 : HS} {S S' S2 : PS} {p p' p2 tb : Nat} {root : Int} {r B h kk sI : Nat} {ks : List (Tree h)} {keys : List Bts} {w wr w2 : World} {kv vv iv : Value} {j i : Nat} (hl : JL Q R H S p tb root r B h kk sI ks keys w kv vv iv j H' S' p' wr) (hij : (j = 0 /\ kk = i + 1) \/ (j = 1 /\ i = kk)) (hc : cannotJ h ks keys i) (hk : KX Q R H2 S2 p2 tb root r B h ks keys w2 kv vv iv) (hs : SameP S' S2) (hT : TurnS H'.all wr H2.all w2) (hp : p2 <= p' + 8) : JL Q R H S p tb root r B h kk sI ks keys w kv vv iv (j + 1) H2 S2 p2 w2 := by
 obtain ⟨h1, h2⟩ := hT.kept hl.row hl.rowH
 refine ⟨hk, hl.same.trans hs, hl.turn.trans (hT.toB hl.kx.base), by have := hl.few; omega, h1, h2, fun _ i' hi' => ?_, fun h2j => ?_⟩
 ·rcases hij with ⟨rfl, e⟩ | ⟨rfl, e⟩
  ·obtain rfl : i' = i := by omega
   exact hc
  ·exact hl.one (Nat.le_refl _) i' hi'
 ·rcases hij with ⟨rfl, e⟩ | ⟨rfl, e⟩
  ·omega
  ·exact e ▸ hc
def JOut (B : Nat) (J : ND) (v : Value) (w : World) : Prop :=
 (sizeN J <= 1024 /\ ∃ g1 n1 c1 g2 n2 c2 g3 n3 c3, v = .tuple #[.agg #[.bool J.leaf, .slice g1 n1 c1, .slice g2 n2 c2, .slice g3 n3 c3], .bool true] /\ NOwn B w J (.slice g1 n1 c1) (.slice g2 n2 c2) (.slice g3 n3 c3)) \/
 (1024 < sizeN J /\ v = .tuple #[.agg #[.bool false, .slice none 0 0, .slice none 0 0, .slice none 0 0], .bool false])
theorem JOut.below {B : Nat} {J : ND} {v : Value} {w w' : World} (h : JOut B J v w) (hb : Below w.heap.size w w') : JOut B J v w' := by
 rcases h with ⟨h1, g1, n1, c1, g2, n2, c2, g3, n3, c3, e, h2⟩ | h
 ·exact .inl ⟨h1, g1, n1, c1, g2, n2, c2, g3, n3, c3, e, h2.below hb⟩
 ·exact .inr h
end Go.Proofs.YtafilaiinbggoaaGreat
namespace Go.Proofs.YtafilaiinbggoaaGreat
def CutM (S S' : PS) (h : Nat) (t : Tree h) (k : Bts) (r : Option (Tree h)) : Prop := CutR h t k r /\ Moves S S' (pagesT h t) (match r with | none => [] | some u => pagesT h u) /\ ∀ u, r = some u -> sitsT (contP S') h u /\ pgT h u = pgT h t
def pageO {h : Nat} (r : Option (Tree h)) : Int := match r with
 | none => -1
 | some u => (pgT h u : Int)
end Go.Proofs.YtafilaiinbggoaaGreat
namespace Go.Proofs.YtafilaiinbggoaaGreat
open Go.RowKit Go.Maps
def CutPost (Q : PQ) (R : Int -> Option Bts) (H : HS) (S : PS) (p c h : Nat) (t : Tree h) (k : Bts) (w : World) (e : Ending) (w' : World) : Prop :=
 ∃ (r : Option (Tree h)) (H' : HS) (S' : PS) (p' : Nat), e = .returned (.tuple #[.int .i64 (pageO r), .int .i64 0]) /\ CutM S S' h t k r /\ PG Q R H' S' p' w' /\ TurnS H.all w H'.all w' /\ p' <= p + c
theorem CutM.before {S S1 S' : PS} {h : Nat} {t : Tree h} {k : Bts} {r : Option (Tree h)} (hc : CutM S1 S' h t k r) (hs : SameP S S1) : CutM S S' h t k r := ⟨hc.1, hc.2.1.before hs, hc.2.2⟩
end Go.Proofs.YtafilaiinbggoaaGreat
namespace Go.Proofs.YtafilaiinbggoaaGreat
open Go.RowKit Go.Maps
theorem CutPost.wide {Q : PQ} {R : Int -> Option Bts} {H : HS} {S : PS} {p c c' h : Nat} {t : Tree h} {k : Bts} {w w' : World} {e : Ending} (hp : CutPost Q R H S p c h t k w e w') (hc : c <= c') : CutPost Q R H S p c' h t k w e w' := by
 obtain ⟨r, H', S', p', h1, h2, h3, h4, h5⟩ := hp
 exact ⟨r, H', S', p', h1, h2, h3, h4, by omega⟩
end Go.Proofs.YtafilaiinbggoaaGreat
namespace Go.Proofs.YtafilaiinbggoaaGreat
open Go.RowKit Go.Maps
theorem TopIn.same {S S' : PS} {o : Top} {root : Int} (h : TopIn S o root) (hs : SameP S S') : TopIn S' o root := by
 match o, h with
 | none, h => exact h
 | some ⟨g, t⟩, h => exact ⟨h.1, h.2.same hs⟩
def DelPost (Q : PQ) (R : Int -> Option Bts) (H : HS) (S : PS) (p tb : Nat) (o : Top) (k : Bts) (w : World) (e : Ending) (w' : World) : Prop :=
 ∃ (o' : Top) (root' : Int) (H' : HS) (S' : PS) (p' : Nat), e = .returned (.tuple #[.bool (getE k (esO o)).isSome, .int .i64 0]) /\ PG Q R H' S' p' w' /\ TB H' w' tb Q.pb root' /\ TopIn S' o' root' /\ ((getE k (esO o)).isSome = true -> CutTop o k o') /\ ((getE k (esO o)).isSome = false -> o' = o) /\ Moves S S' (pagesO o) (pagesO o') /\ TurnS (fun b => H.all b \/ b = tb) w (fun b => H'.all b \/ b = tb) w' /\ p' <= p + (200 * heightO o + 40)
structure DL (Q : PQ) (R : Int -> Option Bts) (H0 : HS) (S0 : PS) (tb : Nat) (o : Top) (k : Bts) (w : World) (pm g : Nat) (v : Tree g) (H : HS) (S : PS) (p : Nat) (w' : World) : Prop where
 pg : PG Q R H S p w'
 tbx : TB H w' tb Q.pb (pgT g v : Int)
 wf : WFS g v
 sits : sitsT (contP S) g v
 mv : Moves S0 S (pagesO o) (pagesT g v)
 turn : TurnS (fun b => H0.all b \/ b = tb) w (fun b => H.all b \/ b = tb) w'
 few : p <= pm
 lift : ¬ thinT g v -> CutTop o k (some ⟨g, v⟩)
theorem DL.post {Q : PQ} {R : Int -> Option Bts} {H0 H H' : HS} {S0 S S' : PS} {p0 tb : Nat} {o : Top} {k : Bts} {w w' w2 : World} {pm g : Nat} {v : Tree g} {p p' : Nat} (h : DL Q R H0 S0 tb o k w pm g v H S p w') (hth : ¬ thinT g v) (hs : (getE k (esO o)).isSome = true) (hG : PG Q R H' S' p' w2) (hS : SameP S S') (hT : TurnS H.all w' H'.all w2) (hp : p' <= p0 + (200 * heightO o + 40)) : DelPost Q R H0 S0 p0 tb o k w (.returned (.tuple #[.bool true, .int .i64 0])) w2 := by
 have hw := wft_of g h.wf hth
 refine ⟨some ⟨g, v⟩, _, H', S', p', by rw [hs], hG, h.tbx.turn hT, ⟨rfl, hw, sits_same g (fun q _ => hS.2 q) h.sits, h.mv.nd, fun q hq => by rw [hS.1]; exact h.mv.fresh q hq⟩, fun _ => h.lift hth, fun e => (by rw [hs] at e; cases e), ?_, h.turn.trans hT.wide, hp⟩
 have h1 := hS.moves.wide h.mv.nd (fun p _ e => by cases e) h.mv.fresh
 rw [List.append_nil] at h1
 exact h.mv.trans h1
end Go.Proofs.YtafilaiinbggoaaGreat
