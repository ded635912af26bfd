import Derived.Test.YtafilaiinbggoaaGreatQT08
import Derived.Test.YtafilaiinbggoaaGreatQT41
import Derived.Lib.AppendZerosOnto
namespace Go.Proofs.YtafilaiinbggoaaGreat
open Go.RowKit Go.Maps
def H0 : HS := ⟨fun _ => False, fun _ => False⟩
end Go.Proofs.YtafilaiinbggoaaGreat
namespace Go.Proofs.YtafilaiinbggoaaGreat
structure KidsIn (S : PS) (h : Nat) (ks : List (Tree h)) : Prop where
 sits : ∀ x ∈ ks, sitsT (contP S) h x
 nd : (ks.flatMap (pagesT h)).Nodup
 fresh : ∀ p ∈ ks.flatMap (pagesT h), S.is[p]? = some 2
theorem KidsIn.same {S S' : PS} {h : Nat} {ks : List (Tree h)} (hk : KidsIn S h ks) (hs : SameP S S') : KidsIn S' h ks :=
 ⟨fun x hx => sits_same h (fun p _ => hs.2 p) (hk.sits x hx), hk.nd, fun p hp => by rw [hs.1]; exact hk.fresh p hp⟩
theorem KidsIn.moves {S S' : PS} {h : Nat} {ks : List (Tree h)} {old new : List Nat} (hk : KidsIn S h ks) (hM : Moves S S' old new) (hd : ∀ p ∈ ks.flatMap (pagesT h), p ∉ old) : KidsIn S' h ks :=
 ⟨fun x hx => hM.sits (hk.sits x hx) (fun p hp => hd p (List.mem_flatMap.2 ⟨x, hx, hp⟩)) (fun p hp => hk.fresh p (List.mem_flatMap.2 ⟨x, hx, hp⟩)), hk.nd, fun p hp => (hM.other (hd p hp) (hk.fresh p hp)).2.2⟩
end Go.Proofs.YtafilaiinbggoaaGreat
namespace Go.Proofs.YtafilaiinbggoaaGreat
open Go.RowKit Go.Maps
structure TurnB (B : Nat) (H : BS) (w : World) (H' : BS) (w' : World) : Prop where
 os : w'.os = w.os
 tape : w'.tape = w.tape
 output : w'.output = w.output
 size : w.heap.size <= w'.heap.size
 out : ∀ b, b < B -> ¬ H b -> w'.heap[b]? = w.heap[b]? /\ ¬ H' b
theorem TurnB.refl (B : Nat) (H : BS) (w : World) : TurnB B H w H w := ⟨rfl, rfl, rfl, Nat.le_refl _, fun _ _ h => ⟨rfl, h⟩⟩
theorem TurnB.trans {B : Nat} {H H1 H2 : BS} {w w1 w2 : World} (h : TurnB B H w H1 w1) (k : TurnB B H1 w1 H2 w2) : TurnB B H w H2 w2 :=
 ⟨k.os.trans h.os, k.tape.trans h.tape, k.output.trans h.output, Nat.le_trans h.size k.size, fun b hb hn => by
  obtain ⟨h1, h2⟩ := h.out b hb hn
  obtain ⟨k1, k2⟩ := k.out b hb h2
  exact ⟨k1.trans h1, k2⟩⟩
theorem TurnS.toB {B : Nat} {H H' : BS} {w w' : World} (h : TurnS H w H' w') (hB : B <= w.heap.size) : TurnB B H w H' w' := ⟨h.os, h.tape, h.output, h.size, fun b hb hn => h.out b (Nat.lt_of_lt_of_le hb hB) hn⟩
theorem TurnB.grown {B : Nat} {H : BS} {w w' : World} {r : Option Nat} (hg : w.grownBy w' r) (hr : ∀ b, r = some b -> B <= b) (hB : B <= w.heap.size) : TurnB B H w H w' :=
 ⟨hg.os, hg.tape, hg.output, hg.size, fun b hb hn => ⟨hg.block b (Nat.lt_of_lt_of_le hb hB) (fun e => by have := hr b e.symm; omega), hn⟩⟩
theorem TurnB.quiet {B : Nat} {H : BS} {w w' : World} (hb : Below w.heap.size w w') (hB : B <= w.heap.size) : TurnB B H w H w' := (TurnS.quiet hb).toB hB
structure KX (Q : PQ) (R : Int -> Option Bts) (H : HS) (S : PS) (p tb : Nat) (root : Int) (r B h : Nat) (ks : List (Tree h)) (keys : List Bts) (w : World) (kv vv iv : Value) : Prop where
 pg : PG Q R H S p w
 tbx : TB H w tb Q.pb root
 kin : KidsIn S h ks
 nt : NT H B w (nodeN (ks.map (pgT h)) keys) kv vv iv
 box : w.heap[r]? = some (.cells #[.bool false, kv, vv, iv] 107 (0, 0))
 boxH : ¬ H.all r
 low : B <= r
 tbB : tb < B
theorem KX.base {Q : PQ} {R : Int -> Option Bts} {H : HS} {S : PS} {p tb : Nat} {root : Int} {r B h : Nat} {ks : List (Tree h)} {keys : List Bts} {w : World} {kv vv iv : Value} (k : KX Q R H S p tb root r B h ks keys w kv vv iv) : B <= w.heap.size := Nat.le_trans k.low (Nat.le_of_lt (heap_lt k.box))
theorem KX.below {Q : PQ} {R : Int -> Option Bts} {H : HS} {S : PS} {p tb : Nat} {root : Int} {r B h : Nat} {ks : List (Tree h)} {keys : List Bts} {w w' : World} {kv vv iv : Value} (k : KX Q R H S p tb root r B h ks keys w kv vv iv) (hb : Below w.heap.size w w') : KX Q R H S p tb root r B h ks keys w' kv vv iv :=
 ⟨k.pg.below hb, k.tbx.below hb, k.kin, k.nt.below hb, kept k.box hb, k.boxH, k.low, k.tbB⟩
theorem KX.beside {Q : PQ} {R : Int -> Option Bts} {H : HS} {S : PS} {p tb : Nat} {root : Int} {r B h : Nat} {ks : List (Tree h)} {keys : List Bts} {w w' : World} {kv vv iv : Value} (k : KX Q R H S p tb root r B h ks keys w kv vv iv) {q : Nat} {cur : Array Value} (hq : w.heap[q]? = some (.cells cur 107 (0, 0))) (hqH : ¬ H.all q) (hqr : q ≠ r) (hg : w.grownBy w' (some q)) : KX Q R H S p tb root r B h ks keys w' kv vv iv := by
 have htb : tb ≠ q := fun e => by
  have h1 := k.tbx.box
  rw [e, hq] at h1
  cases h1
 refine ⟨k.pg.beside hg (fun b e => by cases e; exact ⟨hqH, fun ⟨_, _, e2⟩ => by rw [hq] at e2; cases e2⟩), ⟨(hg.block tb (heap_lt k.tbx.box) (fun e => htb (Option.some.inj e))).trans k.tbx.box, k.tbx.off⟩, k.kin, ⟨(k.nt.own.grown hq hg).1, k.nt.off⟩, (hg.block r (heap_lt k.box) (fun e => hqr (Option.some.inj e).symm)).trans k.box, k.boxH, k.low, k.tbB⟩
theorem KX.turn {Q : PQ} {R : Int -> Option Bts} {H H' : HS} {S S' : PS} {p p' tb : Nat} {root : Int} {r B h : Nat} {ks ks' : List (Tree h)} {keys : List Bts} {w w' : World} {kv vv iv : Value} (k : KX Q R H S p tb root r B h ks keys w kv vv iv) (hG : PG Q R H' S' p' w') (hT : TurnS H.all w H'.all w') (hk : KidsIn S' h ks') (hm : ks'.map (pgT h) = ks.map (pgT h)) : KX Q R H' S' p' tb root r B h ks' keys w' kv vv iv := by
 have hb := hT.kept k.box k.boxH
 refine ⟨hG, k.tbx.turn hT, hk, ?_, hb.1, hb.2, k.low, k.tbB⟩
 rw [hm]
 exact k.nt.turn hT k.pg.noU
end Go.Proofs.YtafilaiinbggoaaGreat
namespace Go.Proofs.YtafilaiinbggoaaGreat
open Go.RowKit Go.Maps
theorem KX.kids {Q : PQ} {R : Int -> Option Bts} {H : HS} {S : PS} {p tb : Nat} {root : Int} {r B h : Nat} {ks : List (Tree h)} {keys : List Bts} {w : World} {kv vv iv : Value} (k : KX Q R H S p tb root r B h ks keys w kv vv iv) (hne : 0 < ks.length) : ∃ (g ic : Nat) (cur : Array Value), iv = .slice (some ⟨g, 0, none⟩) ks.length ic /\ w.heap[g]? = some (.cells cur 3 (0, 0)) /\ ∀ i x, ks[i]? = some x -> w.cell? ⟨g, i, none⟩ = some (.int .i64 (pgT h x : Int)) := by
 obtain ⟨cs, ho⟩ := k.nt.own.kids
 have hl : (nodeN (ks.map (pgT h)) keys).kids.length = ks.length := List.length_map _
 rw [hl] at ho
 obtain ⟨g, ic, cur, rfl, hg, _⟩ := own_slice ho hne
 refine ⟨g, ic, cur, rfl, hg, fun i x hx => ?_⟩
 obtain ⟨jb, jo, ej, hkc⟩ := sat_cell k.nt.own.nat.kids (mem_map_nat.2 (show (nodeN (ks.map (pgT h)) keys).kids[i]? = some (pgT h x) by show (ks.map (pgT h))[i]? = _; rw [List.getElem?_map, hx]; rfl))
 obtain ⟨rfl, rfl⟩ : g = jb /\ 0 = jo := by
  simp only [Option.some.injEq, Addr.mk.injEq, and_true] at ej
  exact ej
 rw [Nat.zero_add] at hkc
 exact hkc
theorem KX.cells {Q : PQ} {R : Int -> Option Bts} {H : HS} {S : PS} {p tb : Nat} {root : Int} {r B h : Nat} {ks : List (Tree h)} {keys : List Bts} {w : World} {kv vv iv : Value} (k : KX Q R H S p tb root r B h ks keys w kv vv iv) : w.cell? ⟨r, 1, none⟩ = some kv /\ w.cell? ⟨r, 2, none⟩ = some vv /\ w.cell? ⟨r, 3, none⟩ = some iv := by
 have := k.box
 refine ⟨?_, ?_, ?_⟩ <;> simp [World.cell?, this]
theorem NT.box {H : HS} {B : Nat} {w w' : World} {n : ND} {kv vv iv : Value} (h : NT H B w n kv vv iv) {q : Nat} {cur : Array Value} (hq : w.heap[q]? = some (.cells cur 107 (0, 0))) (hg : w.grownBy w' (some q)) : NT H B w' n kv vv iv := ⟨(h.own.grown hq hg).1, h.off⟩
structure KY (Q : PQ) (R : Int -> Option Bts) (H : HS) (S : PS) (p tb : Nat) (root : Int) (r B : Nat) (n : ND) (w : World) (kv vv iv : Value) : Prop where
 pg : PG Q R H S p w
 tbx : TB H w tb Q.pb root
 nt : NT H B w n kv vv iv
 box : w.heap[r]? = some (.cells #[.bool false, kv, vv, iv] 107 (0, 0))
 boxH : ¬ H.all r
 low : B <= r
 tbB : tb < B
theorem KY.below {Q : PQ} {R : Int -> Option Bts} {H : HS} {S : PS} {p tb : Nat} {root : Int} {r B : Nat} {n : ND} {w w' : World} {kv vv iv : Value} (k : KY Q R H S p tb root r B n w kv vv iv) (hb : Below w.heap.size w w') : KY Q R H S p tb root r B n w' kv vv iv :=
 ⟨k.pg.below hb, k.tbx.below hb, k.nt.below hb, kept k.box hb, k.boxH, k.low, k.tbB⟩
theorem KY.turn {Q : PQ} {R : Int -> Option Bts} {H H' : HS} {S S' : PS} {p p' tb : Nat} {root : Int} {r B : Nat} {n : ND} {w w' : World} {kv vv iv : Value} (k : KY Q R H S p tb root r B n w kv vv iv) (hG : PG Q R H' S' p' w') (hT : TurnS H.all w H'.all w') : KY Q R H' S' p' tb root r B n w' kv vv iv := by
 have hb := hT.kept k.box k.boxH
 exact ⟨hG, k.tbx.turn hT, k.nt.turn hT k.pg.noU, hb.1, hb.2, k.low, k.tbB⟩
theorem KY.cells {Q : PQ} {R : Int -> Option Bts} {H : HS} {S : PS} {p tb : Nat} {root : Int} {r B : Nat} {n : ND} {w : World} {kv vv iv : Value} (k : KY Q R H S p tb root r B n w kv vv iv) : w.cell? ⟨r, 1, none⟩ = some kv /\ w.cell? ⟨r, 2, none⟩ = some vv /\ w.cell? ⟨r, 3, none⟩ = some iv := by
 have := k.box
 refine ⟨?_, ?_, ?_⟩ <;> simp [World.cell?, this]
end Go.Proofs.YtafilaiinbggoaaGreat
namespace Go.Proofs.YtafilaiinbggoaaGreat
open Go.RowKit Go.Maps
structure JL (Q : PQ) (R : Int -> Option Bts) (H : HS) (S : PS) (p tb : Nat) (root : Int) (r B h kk sI : Nat) (ks : List (Tree h)) (keys : List Bts) (w : World) (kv vv iv : Value) (j : Nat) (H' : HS) (S' : PS) (p' : Nat) (wr : World) : Prop where
 kx : KX Q R H' S' p' tb root r B h ks keys wr kv vv iv
 same : SameP S S'
 turn : TurnB B H.all w H'.all wr
 few : p' <= p + 8 * j
 row : wr.heap[sI]? = some (.cells #[.int .i64 ((kk : Int) - 1), .int .i64 (kk : Int)] 3 (0, 0))
 rowH : ¬ H'.all sI
 one : 1 <= j -> ∀ i, kk = i + 1 -> cannotJ h ks keys i
 two : 2 <= j -> cannotJ h ks keys kk
theorem JL.next {Q : PQ} {R : Int -> Option Bts} {H H' H2 : HS} {S S' S2 : PS} {p p' p2 tb : Nat} {root : Int} {r B h kk sI : Nat} {ks : List (Tree h)} {keys : List Bts} {w wr w2 : World} {kv vv iv : Value} {j i : Nat} (hl : JL Q R H S p tb root r B h kk sI ks keys w kv vv iv j H' S' p' wr) (hij : (j = 0 /\ kk = i + 1) \/ (j = 1 /\ i = kk)) (hc : cannotJ h ks keys i) (hk : KX Q R H2 S2 p2 tb root r B h ks keys w2 kv vv iv) (hs : SameP S' S2) (hT : TurnS H'.all wr H2.all w2) (hp : p2 <= p' + 8) : JL Q R H S p tb root r B h kk sI ks keys w kv vv iv (j + 1) H2 S2 p2 w2 := by
 obtain ⟨h1, h2⟩ := hT.kept hl.row hl.rowH
 refine ⟨hk, hl.same.trans hs, hl.turn.trans (hT.toB hl.kx.base), by have := hl.few; omega, h1, h2, fun _ i' hi' => ?_, fun h2j => ?_⟩
 ·rcases hij with ⟨rfl, e⟩ | ⟨rfl, e⟩
  ·obtain rfl : i' = i := by omega
   exact hc
  ·exact hl.one (Nat.le_refl _) i' hi'
 ·rcases hij with ⟨rfl, e⟩ | ⟨rfl, e⟩
  ·omega
  ·exact e ▸ hc
def JOut (B : Nat) (J : ND) (v : Value) (w : World) : Prop :=
 (sizeN J <= 1024 /\ ∃ g1 n1 c1 g2 n2 c2 g3 n3 c3, v = .tuple #[.agg #[.bool J.leaf, .slice g1 n1 c1, .slice g2 n2 c2, .slice g3 n3 c3], .bool true] /\ NOwn B w J (.slice g1 n1 c1) (.slice g2 n2 c2) (.slice g3 n3 c3)) \/
 (1024 < sizeN J /\ v = .tuple #[.agg #[.bool false, .slice none 0 0, .slice none 0 0, .slice none 0 0], .bool false])
theorem JOut.below {B : Nat} {J : ND} {v : Value} {w w' : World} (h : JOut B J v w) (hb : Below w.heap.size w w') : JOut B J v w' := by
 rcases h with ⟨h1, g1, n1, c1, g2, n2, c2, g3, n3, c3, e, h2⟩ | h
 ·exact .inl ⟨h1, g1, n1, c1, g2, n2, c2, g3, n3, c3, e, h2.below hb⟩
 ·exact .inr h
end Go.Proofs.YtafilaiinbggoaaGreat
