import Derived.Test.YtafilaiinbggoaaGreatQT06
import Derived.Test.YtafilaiinbggoaaGreatQT35
namespace Go.Proofs.YtafilaiinbggoaaGreat
open Go.RowKit Go.Maps
def KeepL (P : BS) (w : World) (ds : List Nat) : Array Bool -> World -> Prop := fun l w' => (ds.any fun d => !l.getD d true) = true -> ∀ b, P b -> w'.heap[b]? = w.heap[b]?
theorem keepL_back {P : BS} {w : World} {ds is : List Nat} (h : (is.all fun i => !ds.contains i) = true) : ∀ i ∈ is, ∀ l w', KeepL P w ds (l.setIfInBounds i true) w' -> KeepL P w ds l w' := fun i hi l w' h2 h3 => h2 (by
 have hni : ¬ i ∈ ds := by
  have := List.all_eq_true.1 h i hi
  simpa using this
 rw [List.any_eq_true] at h3 |-
 obtain ⟨d, hd, h4⟩ := h3
 exact ⟨d, hd, by rw [getD_set_ne true (fun e => hni (by rw [e]; exact hd))]; exact h4⟩)
theorem keepL_in {P : BS} {w : World} {ds : List Nat} {d : Nat} (hd : d ∈ ds) : ∀ l w', l.getD d true = false -> KeepL P w ds l w' -> KeepSC P w w' := fun l w' h1 h2 => keepSC (h2 (List.any_eq_true.2 ⟨d, hd, by rw [h1]; rfl⟩))
theorem keepL_base {P : BS} {w : World} {ds : List Nat} : ∀ l w', KeepL P w ds l w' -> KeepSC (fun _ => False) w w' := fun _ _ _ => keepSC fun _ h => h.elim
theorem keepL_on {P : BS} {w w' : World} {ds : List Nat} {l : Array Bool} (h : ∀ b, P b -> w'.heap[b]? = w.heap[b]?) : KeepL P w ds l w' := fun _ => h
theorem keepL_off {P : BS} {w w' : World} {ds : List Nat} {l : Array Bool} (k : (ds.any fun d => !l.getD d true) = false) : KeepL P w ds l w' := fun e => by rw [k] at e; cases e
structure ES (Q : PQ) (R : Int -> Option Bts) (H : HS) (S : PS) (p B : Nat) (w0 w : World) (n : ND) (kv vv iv : Value) : Prop where
 pg : PG Q R H S p w
 nt : NT H B w n kv vv iv
 size : w0.heap.size <= w.heap.size
 os : w.os = w0.os
 tape : w.tape = w0.tape
 output : w.output = w0.output
 box : ∀ (b : Nat) cs T, w0.heap[b]? = some (.cells cs T (0, 0)) -> T ≠ 23 -> T ≠ 3 -> w.heap[b]? = some (.cells cs T (0, 0))
 out : ∀ b, b < B -> w.heap[b]? = w0.heap[b]?
 le : CLe (cfU w0) (cfU w)
theorem ES.start {Q : PQ} {R : Int -> Option Bts} {H : HS} {S : PS} {p B : Nat} {w : World} {n : ND} {kv vv iv : Value} (h : PG Q R H S p w) (k : NT H B w n kv vv iv) : ES Q R H S p B w w n kv vv iv := ⟨h, k, Nat.le_refl _, rfl, rfl, rfl, fun _ _ _ h _ _ => h, fun _ _ => rfl, fun _ _ _ h => h⟩
theorem ES.below {Q : PQ} {R : Int -> Option Bts} {H : HS} {S : PS} {p B : Nat} {w0 w w' : World} {n : ND} {kv vv iv : Value} (h : ES Q R H S p B w0 w n kv vv iv) (hb : Below w.heap.size w w') (hB : B <= w0.heap.size) : ES Q R H S p B w0 w' n kv vv iv :=
 ⟨h.pg.below hb, h.nt.below hb, Nat.le_trans h.size hb.size, hb.os.trans h.os, hb.tape.trans h.tape, hb.output.trans h.output, fun b cs T h1 h2 h3 => kept (h.box b cs T h1 h2 h3) hb, fun b hlt => (hb.block b (Nat.lt_of_lt_of_le hlt (Nat.le_trans hB h.size))).trans (h.out b hlt), fun _ _ _ hu => cfU_below hb _ _ _ (h.le _ _ _ hu)⟩
theorem rb_cells {c : CF} {T : TypeId} {B : Nat} {w : World} {sl : Value} {p : Nat} {xs : List Bts} {cs : List Value} (h : OwnS 1 (RB c) T B w sl p xs cs) : ∀ u ∈ cs, u.oneCell' = true := fun u hu => by
 obtain ⟨i, hi⟩ := List.getElem?_of_mem hu
 have h1 := row1_of h.row
 have hlt : i < xs.length := by rw [<- h1.1]; exact (List.getElem?_eq_some_iff.1 hi).1
 exact RB_one c _ _ _ (h1.2 i _ u (List.getElem?_eq_getElem hlt) hi) u (List.mem_singleton.2 rfl)
structure Handed (H : HS) (B : Nat) (w w' : World) (n' : ND) (old new : Value) (kv vv iv : Value) (p : Nat) : Prop where
 nt : NT H B w' n' kv vv iv
 by_ : w.grownBy w' old.ownBlock
 own : ∀ g, new.ownBlock = some g -> old.ownBlock = some g \/ w.heap.size <= g
 le : CLe (cfU w) (cfU w')
 shape : ∃ a cap, new = .slice a p cap
theorem node_insK {H : HS} {B : Nat} {w : World} {n : ND} {kv vv iv : Value} {k s0 : Nat} {u : Value} {x : Bts} (h : NT H B w n kv vv iv) (hH : ∀ b, H.all b -> b < w.heap.size) (hk : k <= n.keys.length) (hl : n.keys.length <= 1000000) (hs : w.heap[s0]? = some (.cells [u].toArray 23 (0, 0))) (hne : kv.ownBlock ≠ some s0) (hy : YAt (cfU w) u x) :
  Calls Tryz.prog 50 #[kv, .int .i64 (k : Int), .slice (some ⟨s0, 0, none⟩) 1 1] w fun e w' => ∃ kv', e = .returned kv' /\ Handed H B w w' { n with keys := insAt k x n.keys } kv kv' kv' vv iv (n.keys.length + 1) := by
 obtain ⟨cs, ho⟩ := h.own.keys
 have hu1 : u.oneCell' = true := RB_one (cfU w) (cf w) x [u] ⟨u, rfl, hy⟩ u (List.mem_singleton.2 rfl)
 refine (insByt_any B w kv n.keys.length cs ho.own k hk s0 [u] hs rfl (fun v hv => by rw [List.mem_singleton.1 hv]; exact hu1) (rb_cells ho) ho.le hl hne).mono ?_
 rintro e w' ⟨kv', he, hown, hg, hn⟩
 have hi := OwnS.ins (fun _ _ _ _ h => h) (k := k) (x := x) (u := u) ho ⟨u, rfl, hy⟩ hown hg hk
 have hlen : (insAt k x n.keys).length = n.keys.length + 1 := by unfold insAt; rw [List.length_append, List.length_cons, List.length_take, List.length_drop]; omega
 obtain ⟨e1, e2⟩ := h.edK ⟨hg, hn⟩ hH (by rw [hlen]; exact hi)
 exact ⟨kv', he, e1, hg, hn, e2, hi.shape⟩
theorem node_insV {H : HS} {B : Nat} {w : World} {n : ND} {kv vv iv : Value} {k s0 : Nat} {u : Value} {x : Bts} (h : NT H B w n kv vv iv) (hH : ∀ b, H.all b -> b < w.heap.size) (hk : k <= n.vals.length) (hl : n.vals.length <= 1000000) (hs : w.heap[s0]? = some (.cells [u].toArray 23 (0, 0))) (hne : vv.ownBlock ≠ some s0) (hy : YAt (cfU w) u x) :
  Calls Tryz.prog 50 #[vv, .int .i64 (k : Int), .slice (some ⟨s0, 0, none⟩) 1 1] w fun e w' => ∃ vv', e = .returned vv' /\ Handed H B w w' { n with vals := insAt k x n.vals } vv vv' kv vv' iv (n.vals.length + 1) := by
 obtain ⟨cs, ho⟩ := h.own.vals
 have hu1 : u.oneCell' = true := RB_one (cfU w) (cf w) x [u] ⟨u, rfl, hy⟩ u (List.mem_singleton.2 rfl)
 refine (insByt_any B w vv n.vals.length cs ho.own k hk s0 [u] hs rfl (fun v hv => by rw [List.mem_singleton.1 hv]; exact hu1) (rb_cells ho) ho.le hl hne).mono ?_
 rintro e w' ⟨vv', he, hown, hg, hn⟩
 have hi := OwnS.ins (fun _ _ _ _ h => h) (k := k) (x := x) (u := u) ho ⟨u, rfl, hy⟩ hown hg hk
 have hlen : (insAt k x n.vals).length = n.vals.length + 1 := by unfold insAt; rw [List.length_append, List.length_cons, List.length_take, List.length_drop]; omega
 obtain ⟨e1, e2⟩ := h.edV ⟨hg, hn⟩ hH (by rw [hlen]; exact hi)
 exact ⟨vv', he, e1, hg, hn, e2, hi.shape⟩
theorem insAt_map {α β : Type} (f : α -> β) (k : Nat) (x : α) (l : List α) : insAt k (f x) (l.map f) = (insAt k x l).map f := by
 unfold insAt
 rw [List.map_append, List.map_cons, List.map_take, List.map_drop]
theorem node_insI {H : HS} {B : Nat} {w : World} {n : ND} {kv vv iv : Value} {k s0 x : Nat} (h : NT H B w n kv vv iv) (hH : ∀ b, H.all b -> b < w.heap.size) (hk : k <= n.kids.length) (hl : n.kids.length <= 1000000) (hs : w.heap[s0]? = some (.cells [Value.int .i64 (x : Int)].toArray 3 (0, 0))) (hne : iv.ownBlock ≠ some s0) :
  Calls Tryz.prog 51 #[iv, .int .i64 (k : Int), .slice (some ⟨s0, 0, none⟩) 1 1] w fun e w' => ∃ iv', e = .returned iv' /\ Handed H B w w' { n with kids := insAt k x n.kids } iv iv' kv vv iv' (n.kids.length + 1) := by
 obtain ⟨cs, ho⟩ := h.own.kids
 have hcs : cs = (n.kids.map Int.ofNat).map fun x => .int .i64 x := ri_cells ho.row
 refine (insInt_any B w iv n.kids.length cs ho.own k hk s0 [.int .i64 (x : Int)] hs rfl (fun v hv => by rw [List.mem_singleton.1 hv]; rfl) (fun v hv => by rw [hcs] at hv; obtain ⟨x, _, rfl⟩ := List.mem_map.1 hv; rfl) ho.le hl hne).mono ?_
 rintro e w' ⟨iv', he, hown, hg, hn⟩
 have hi := OwnS.ins (fun _ _ _ _ h => h) (k := k) (x := (x : Int)) (u := .int .i64 (x : Int)) ho rfl hown hg hk
 have hlen : (insAt k x n.kids).length = n.kids.length + 1 := by unfold insAt; rw [List.length_append, List.length_cons, List.length_take, List.length_drop]; omega
 have hmm : insAt k (x : Int) (n.kids.map Int.ofNat) = (insAt k x n.kids).map Int.ofNat := insAt_map Int.ofNat k x n.kids
 obtain ⟨e1, e2⟩ := h.edI (ks := insAt k x n.kids) ⟨hg, hn⟩ hH (by rw [hlen, <- hmm]; exact hi)
 exact ⟨iv', he, e1, hg, hn, e2, hi.shape⟩
theorem ES.hand {Q : PQ} {R : Int -> Option Bts} {H : HS} {S : PS} {p B m : Nat} {w0 w w' : World} {n n' : ND} {kv vv iv kv' vv' iv' old new : Value} (h : ES Q R H S p B w0 w n kv vv iv) (hh : Handed H B w w' n' old new kv' vv' iv' m) (ho : old = kv \/ old = vv \/ old = iv) (hB : B <= w0.heap.size) : ES Q R H S p B w0 w' n' kv' vv' iv' := by
 have hob : ∀ g, old.ownBlock = some g -> kv.ownBlock = some g \/ vv.ownBlock = some g \/ iv.ownBlock = some g := fun g e => by
  rcases ho with rfl | rfl | rfl
  ·exact .inl e
  ·exact .inr (.inl e)
  ·exact .inr (.inr e)
 have hkd : ∀ g, old.ownBlock = some g -> ¬ IsU w g /\ ¬ H.all g /\ B <= g /\ ∃ cur T, w.heap[g]? = some (.cells cur T (0, 0)) /\ (T = 23 \/ T = 3) := fun g e => ⟨(h.nt.own.low (hob g e)).2.2, h.nt.off g (hob g e), (h.nt.own.low (hob g e)).1, h.nt.own.kind (hob g e)⟩
 refine ⟨h.pg.beside hh.by_ (fun b e => ⟨(hkd b e).2.1, (hkd b e).1⟩), hh.nt, Nat.le_trans h.size hh.by_.size, hh.by_.os.trans h.os, hh.by_.tape.trans h.tape, hh.by_.output.trans h.output, fun b cs T h1 h2 h3 => ?_, fun b hlt => ?_, fun b o u hu => hh.le _ _ _ (h.le _ _ _ hu)⟩
 ·have h4 := h.box b cs T h1 h2 h3
  rw [hh.by_.block b (heap_lt h4) (fun e => ?_)]
  ·exact h4
  ·obtain ⟨_, _, _, cur, T2, e2, e3⟩ := hkd b e.symm
   rw [h4] at e2
   cases e2
   rcases e3 with e3 | e3
   ·exact h2 e3
   ·exact h3 e3
 ·exact (hh.by_.block b (Nat.lt_of_lt_of_le hlt (Nat.le_trans hB h.size)) (fun e => by have := (hkd b e.symm).2.2.1; omega)).trans (h.out b hlt)
theorem ES.cell {Q : PQ} {R : Int -> Option Bts} {H : HS} {S : PS} {p B r : Nat} {w0 w w' : World} {n : ND} {kv vv iv : Value} {cur : Array Value} (h : ES Q R H S p B w0 w n kv vv iv) (hr : w.heap[r]? = some (.cells cur 107 (0, 0))) (hH : ¬ H.all r) (hg : w.grownBy w' (some r)) : NT H B w' n kv vv iv /\ PG Q R H S p w' /\ CLe (cfU w) (cfU w') := by
 obtain ⟨h1, h2⟩ := h.nt.own.grown hr hg
 exact ⟨⟨h1, h.nt.off⟩, h.pg.beside hg (fun b e => by cases e; exact ⟨hH, fun ⟨_, _, e2⟩ => by rw [hr] at e2; cases e2⟩), h2⟩
theorem ES.turn {Q : PQ} {R : Int -> Option Bts} {H H1 : HS} {S : PS} {p B : Nat} {w w0 w' : World} {n : ND} {kv vv iv : Value} (h : ES Q R H1 S p B w0 w' n kv vv iv) (ht : TurnS H.all w H1.all w0) (hB : w.heap.size <= B) : TurnS H.all w H1.all w' :=
 ⟨h.os.trans ht.os, h.tape.trans ht.tape, h.output.trans ht.output, Nat.le_trans ht.size h.size, fun b hb hn => by
  obtain ⟨h1, h2⟩ := ht.out b hb hn
  exact ⟨(h.out b (Nat.lt_of_lt_of_le hb hB)).trans h1, h2⟩⟩
theorem nodup_len {A B : List Nat} (hA : A.Nodup) (hB : B.Nodup) (h : ∀ p ∈ A, p ∈ B) : A.length <= B.length := by
 have hp : A.Perm (B.filter fun p => decide (p ∈ A)) := by
  refine (List.perm_ext_iff_of_nodup hA (hB.filter _)).2 fun p => ?_
  simp only [List.mem_filter, decide_eq_true_eq]
  exact ⟨fun hpa => ⟨h p hpa, hpa⟩, fun ⟨_, b⟩ => b⟩
 rw [hp.length_eq]
 exact List.length_filter_le ..
theorem Moves.free2 {S S' : PS} {old new : List Nat} (h : Moves S S' old new) (hn : old.Nodup) (hf : ∀ p ∈ old, S.is[p]? = some 2) : freeP S + old.length <= freeP S' + new.length := by
 rw [free_range, free_range, h.len]
 have hm : ∀ (T : PS) (p : Nat), p ∈ ((List.range S.is.length).filter fun p => T.is[p]? == some 0) ↔ p < S.is.length /\ T.is[p]? = some 0 := fun T p => by
  rw [List.mem_filter, List.mem_range, beq_iff_eq]
 rw [<- List.length_append, <- List.length_append]
 refine nodup_len (List.nodup_append.2 ⟨List.nodup_range.filter _, hn, fun a ha b hb e => ?_⟩) (List.nodup_append.2 ⟨List.nodup_range.filter _, h.nd, fun a ha b hb e => ?_⟩) fun p hp => ?_
 ·subst e
  have h1 := ((hm S a).1 ha).2
  rw [hf a hb] at h1
  cases h1
 ·subst e
  have h1 := ((hm S' a).1 ha).2
  rw [h.fresh a hb] at h1
  cases h1
 ·by_cases e : p ∈ new
  ·exact List.mem_append_right _ e
  ·refine List.mem_append_left _ ((hm S' p).2 ?_)
   rcases List.mem_append.1 hp with hp | hp
   ·obtain ⟨h1, h2⟩ := (hm S p).1 hp
    by_cases ho : p ∈ old
    ·exact ⟨h1, h.left p ho e⟩
    ·exact ⟨h1, by rw [h.same p ho e]; exact h2⟩
   ·exact ⟨(List.getElem?_eq_some_iff.1 (hf p hp)).1, h.left p hp e⟩
theorem free_same {S S' : PS} (h : SameP S S') : freeP S' = freeP S := by unfold freeP; rw [h.1]
end Go.Proofs.YtafilaiinbggoaaGreat
