import Derived.Test.YtmiphphombkpdaaGreatWB22
import Derived.Test.YtmiphphombkpdaaGreatWB33
import Derived.Test.YtmiphphombkpdaaGreatWB42
namespace Go.Proofs.YtmiphphombkpdaaGreat
open Go.RowKit
def cmpI (a b : Int) : Int := if a < b then -1 else if b < a then 1 else 0
theorem lex_step {a b : List UInt8} {j : Nat} {c d : UInt8} (hc : a[j]? = some c) (hd : b[j]? = some d) : lexC (a.drop j) (b.drop j) = if c.toNat < d.toNat then -1 else if d.toNat < c.toNat then 1 else lexC (a.drop (j + 1)) (b.drop (j + 1)) := by
 obtain ⟨h1, e1⟩ := List.getElem?_eq_some_iff.1 hc
 obtain ⟨h2, e2⟩ := List.getElem?_eq_some_iff.1 hd
 rw [List.drop_eq_getElem_cons h1, List.drop_eq_getElem_cons h2, lexC, e1, e2]
theorem lex_end {a b : List UInt8} {j : Nat} (h : ¬ (j < a.length /\ j < b.length)) (h1 : j <= a.length) (h2 : j <= b.length) : lexC (a.drop j) (b.drop j) = cmpI a.length b.length := by
 by_cases x : j < a.length
 ·have y : b.drop j = [] := List.drop_eq_nil_of_le (by omega)
  rw [y, List.drop_eq_getElem_cons x, lexC]
  unfold cmpI; rw [if_neg (by omega), if_pos (by omega)]
 ·have x2 : a.drop j = [] := List.drop_eq_nil_of_le (by omega)
  rw [x2]
  by_cases y : j < b.length
  ·rw [List.drop_eq_getElem_cons y, lexC]
   unfold cmpI; rw [if_pos (by omega)]
  ·have y2 : b.drop j = [] := List.drop_eq_nil_of_le (by omega)
   rw [y2, lexC]
   unfold cmpI; rw [if_neg (by omega), if_neg (by omega)]
def EqTo {α : Type} (a b : List α) (j : Nat) : Prop := ∀ q, q < j -> a[q]? = b[q]?
theorem EqTo.all {α : Type} {a b : List α} (hl : a.length = b.length) (h : EqTo a b a.length) : a = b := by
 apply List.ext_getElem?
 intro i
 by_cases hi : i < a.length
 ·exact h i hi
 ·rw [List.getElem?_eq_none (by omega), List.getElem?_eq_none (by omega)]
theorem EqTo.next {α : Type} {a b : List α} {j : Nat} (h : EqTo a b j) (hj : a[j]? = b[j]?) : EqTo a b (j + 1) := fun q hq => by
 by_cases e : q = j
 ·rw [e]; exact hj
 ·exact h q (by omega)
def sameY (l m : List UInt8) : Bool := decide (l = m)
theorem sameY_no {x y : List UInt8} (h : x ≠ y) : sameY x y = false := by unfold sameY; exact decide_eq_false h
theorem sameY_yes {x y : List UInt8} (h : x = y) : sameY x y = true := by unfold sameY; exact decide_eq_true h
def lessY (l m : List UInt8) : Bool := decide (lexC l m < 0)
set_option maxRecDepth 100000 in
set_option maxHeartbeats 4000000 in
theorem Same4_any (l m : List UInt8) (u v : Value) (w : World) (hu : BytesAt (cf w) u l) (hv : BytesAt (cf w) v m) :
  Calls Tryz.prog 16 #[u, v] w fun e w' => e = .returned (.bool (sameY l m)) /\ Below w.heap.size w w' := by
 obtain ⟨la, lcap, rfl, hlen, hel⟩ := hu
 obtain ⟨ma, mcap, rfl, hmlen, hem⟩ := hv
 have HE := HoldT.mk hel
 have HM := HoldT.mk hem
 clear hel hem
 by_cases h3 : l.length = m.length
 ·have b3 : (((l.length : Nat) : Int) != ((m.length : Nat) : Int)) = false := by rw [h3]; simp
  have HL := HoldT.mk h3
  clear h3
  go_enter Tryz.func16, Tryz.ntmps16
  go_wp2_with fail
  go_loopw [5] (fun i wr => ∃ j : Nat, i = .int .i64 j /\ j <= l.length /\ EqTo l m j /\ Below w.heap.size w wr) (fun i _ => l.length - (intOf i).toNat)
  case atStart => exact ⟨0, rfl, Nat.zero_le _, fun q hq => by omega, Below.refl _ _⟩
  case round =>
   obtain ⟨j, rfl, hj, hq, hbl⟩ := hrel
   have HQ := HoldT.mk hq
   have HB := HoldT.mk hbl
   clear hq hbl
   by_cases hlt : j < l.length
   ·have hlt2 : j < m.length := by rw [<- HL.out]; exact hlt
    obtain ⟨f, hf⟩ : ∃ s, l[j]? = some s := ⟨l[j], List.getElem?_eq_getElem hlt⟩
    obtain ⟨g, hg⟩ : ∃ s, m[j]? = some s := ⟨m[j], List.getElem?_eq_getElem hlt2⟩
    obtain ⟨b, off, rfl, x0⟩ := HE.out j f hf
    obtain ⟨b2, off2, rfl, v0⟩ := HM.out j g hg
    replace x0 := cle_below HB.out _ _ _ x0
    replace v0 := cle_below HB.out _ _ _ v0
    unfold cf at x0 v0
    have HF := HoldT.mk hf
    have HG := HoldT.mk hg
    clear hf hg
    by_cases hs : f = g
    ·subst hs
     have HNX := HoldT.mk (HQ.out.next (HF.out.trans HG.out.symm))
     go_wp2_with fail
     go_quiet (fail)
     go_wp2_with fail
     exact ⟨⟨j + 1, by go_num, hlt, HNX.out, ⟨HB.out.os, HB.out.tape, HB.out.output, HB.out.size, HB.out.block⟩⟩, by simp [intOf]; omega⟩
    ·have bs : (((f.toNat : Nat) : Int) != ((g.toNat : Nat) : Int)) = true := by rw [bne_iff_ne]; exact fun e => hs (UInt8.toNat_inj.1 (by omega))
     have HR : HoldT (sameY l m = false) := ⟨sameY_no (fun e => hs (by cases e; have := HF.out.symm.trans HG.out; simpa using this))⟩
     clear hs
     go_wp2_with fail
     go_quiet (fail)
     go_wp2_with fail
     go_ret
     exact ⟨by rw [HR.out]; rfl, ⟨HB.out.os, HB.out.tape, HB.out.output, HB.out.size, HB.out.block⟩⟩
   ·obtain rfl : j = l.length := by omega
    have HR : HoldT (sameY l m = true) := ⟨sameY_yes (EqTo.all HL.out HQ.out)⟩
    go_wp2_with fail
    go_ret
    exact ⟨by rw [HR.out]; rfl, HB.out⟩
 ·have b3 : (((l.length : Nat) : Int) != ((m.length : Nat) : Int)) = true := by simp; omega
  have HR : HoldT (sameY l m = false) := ⟨sameY_no (fun e => h3 (by cases e; rfl))⟩
  clear h3
  go_enter Tryz.func16, Tryz.ntmps16
  go_wp2_with fail
  go_ret
  exact ⟨by rw [HR.out]; rfl, Below.refl _ _⟩
set_option maxRecDepth 100000 in
set_option maxHeartbeats 4000000 in
theorem Less4_any (l m : List UInt8) (u v : Value) (w : World) (hu : BytesAt (cf w) u l) (hv : BytesAt (cf w) v m) :
  Calls Tryz.prog 10 #[u, v] w fun e w' => e = .returned (.bool (lessY l m)) /\ Below w.heap.size w w' := by
 obtain ⟨la, lcap, rfl, hlen, hel⟩ := hu
 obtain ⟨ma, mcap, rfl, hmlen, hem⟩ := hv
 have HE := HoldT.mk hel
 have HM := HoldT.mk hem
 clear hel hem
 go_enter Tryz.func10, Tryz.ntmps10
 go_wp2_with fail
 go_loopw [5] (fun i wr => ∃ j : Nat, i = .int .i64 j /\ j <= l.length /\ j <= m.length /\ lexC l m = lexC (l.drop j) (m.drop j) /\ Below w.heap.size w wr) (fun i _ => l.length - (intOf i).toNat)
 case atStart => exact ⟨0, rfl, Nat.zero_le _, Nat.zero_le _, rfl, Below.refl _ _⟩
 case round =>
  obtain ⟨j, rfl, hj1, hj2, hst, hbl⟩ := hrel
  have HST := HoldT.mk hst
  have HB := HoldT.mk hbl
  clear hst hbl
  by_cases h1 : j < l.length
  ·by_cases h2 : j < m.length
   ·obtain ⟨f, hf⟩ : ∃ s, l[j]? = some s := ⟨l[j], List.getElem?_eq_getElem h1⟩
    obtain ⟨g, hg⟩ : ∃ s, m[j]? = some s := ⟨m[j], List.getElem?_eq_getElem h2⟩
    obtain ⟨b, off, rfl, x0⟩ := HE.out j f hf
    obtain ⟨b2, off2, rfl, v0⟩ := HM.out j g hg
    replace x0 := cle_below HB.out _ _ _ x0
    replace v0 := cle_below HB.out _ _ _ v0
    unfold cf at x0 v0
    have HS := HoldT.mk (HST.out.trans (lex_step hf hg))
    clear hf hg
    by_cases hlt : f.toNat < g.toNat
    ·have bs : (((f.toNat : Nat) : Int) != ((g.toNat : Nat) : Int)) = true := by rw [bne_iff_ne]; omega
     have HR : HoldT (lessY l m = true) := ⟨by unfold lessY; rw [HS.out, if_pos hlt]; rfl⟩
     go_wp2_with fail
     go_quiet (fail)
     go_wp2_with fail
     go_quiet (fail)
     go_wp2_with fail
     go_ret
     exact ⟨by rw [HR.out]; rfl, ⟨HB.out.os, HB.out.tape, HB.out.output, HB.out.size, HB.out.block⟩⟩
    by_cases hgt : g.toNat < f.toNat
    ·have bs : (((f.toNat : Nat) : Int) != ((g.toNat : Nat) : Int)) = true := by rw [bne_iff_ne]; omega
     have HR : HoldT (lessY l m = false) := ⟨by unfold lessY; rw [HS.out, if_neg hlt, if_pos hgt]; rfl⟩
     go_wp2_with fail
     go_quiet (fail)
     go_wp2_with fail
     go_quiet (fail)
     go_wp2_with fail
     go_ret
     exact ⟨by rw [HR.out]; rfl, ⟨HB.out.os, HB.out.tape, HB.out.output, HB.out.size, HB.out.block⟩⟩
    have bs : (((f.toNat : Nat) : Int) != ((g.toNat : Nat) : Int)) = false := by
     have : f.toNat = g.toNat := by omega
     rw [this]; simp
    replace HS := HoldT.mk ((HS.out.trans (if_neg hlt)).trans (if_neg hgt))
    clear hlt hgt
    go_wp2_with fail
    go_quiet (fail)
    go_wp2_with fail
    exact ⟨⟨j + 1, by go_num, h1, h2, HS.out, ⟨HB.out.os, HB.out.tape, HB.out.output, HB.out.size, HB.out.block⟩⟩, by simp [intOf]; omega⟩
   ·have HR : HoldT (lessY l m = decide (l.length < m.length)) := ⟨by
     unfold lessY; rw [HST.out, lex_end (by omega) (by omega) (by omega)]; unfold cmpI
     have : ¬ ((l.length : Int) < m.length) := by omega
     have h3 : ¬ (l.length < m.length) := by omega
     rw [if_neg this]; simp only [h3]; split <;> rfl⟩
    go_wp2_with fail
    go_ret
    exact ⟨by rw [HR.out]; simp, HB.out⟩
  ·have HR : HoldT (lessY l m = decide (l.length < m.length)) := ⟨by
    unfold lessY; rw [HST.out, lex_end (by omega) (by omega) (by omega)]; unfold cmpI
    by_cases h3 : l.length < m.length
    ·rw [if_pos (by omega)]; simp [h3]
    ·rw [if_neg (by omega)]; simp only [h3]; split <;> rfl⟩
   go_wp2_with fail
   go_ret
   exact ⟨by rw [HR.out]; simp, HB.out⟩
end Go.Proofs.YtmiphphombkpdaaGreat
namespace Go.Proofs.YtmiphphombkpdaaGreat
open Go.RowKit Go.Maps
structure RM (w : World) (mb : Nat) (sl : Value) (es : EL) : Prop where
 box : w.heap[mb]? = some (.cells #[sl] 67 (0, 0))
 row : ∃ cs, OwnS 2 (RE (cfU w)) 46 0 w sl es.length es cs
def mapX (mb : Nat) (sl : Value) : BS := fun b => b = mb \/ sl.ownBlock = some b
theorem RM.kind {w : World} {mb : Nat} {sl : Value} {es : EL} (h : RM w mb sl es) {b : Nat} (hb : mapX mb sl b) : b < w.heap.size /\ ∃ cur T, w.heap[b]? = some (.cells cur T (0, 0)) /\ (T = 67 \/ T = 46) := by
 obtain ⟨cs, ho⟩ := h.row
 rcases hb with rfl | hb
 ·exact ⟨heap_lt h.box, _, _, h.box, .inl rfl⟩
 ·obtain ⟨cur, hc⟩ := own_kind ho hb
  exact ⟨(ho.low b hb).2, _, _, hc, .inr rfl⟩
theorem RM.noU {w : World} {mb : Nat} {sl : Value} {es : EL} (h : RM w mb sl es) : ∀ b, mapX mb sl b -> ¬ IsU w b := fun b hb ⟨_, _, e⟩ => by
 obtain ⟨_, _, T, e2, e3⟩ := h.kind hb
 rw [e2] at e
 cases e
 rcases e3 with e3 | e3 <;> exact absurd e3 (by decide)
theorem RM.stand {w w' : World} {mb : Nat} {sl : Value} {es : EL} (h : RM w mb sl es) (hs : w.heap.size <= w'.heap.size) (hk : ∀ b, mapX mb sl b -> w'.heap[b]? = w.heap[b]?) (hu : CLe (cfU w) (cfU w')) : RM w' mb sl es := by
 obtain ⟨cs, ho⟩ := h.row
 exact ⟨(hk mb (.inl rfl)).trans h.box, ⟨cs, (own_stand (fun _ _ _ _ h => h) ho hs fun g e => hk g (.inr e)).rep (RE_le hu)⟩⟩
theorem RM.below {w w' : World} {mb : Nat} {sl : Value} {es : EL} (h : RM w mb sl es) (hb : Below w.heap.size w w') : RM w' mb sl es := h.stand hb.size (fun b hx => hb.block b (h.kind hx).1) (cfU_below hb)
theorem RM.turn {K K' : BS} {w w' : World} {mb : Nat} {sl : Value} {es : EL} (h : RM w mb sl es) (hT : TurnS K w K' w') (hd : ∀ b, mapX mb sl b -> ¬ K b) (hn : ∀ b, K b -> ¬ IsU w b) : RM w' mb sl es /\ ∀ b, mapX mb sl b -> ¬ K' b :=
 ⟨h.stand hT.size (fun b hx => (hT.out b (h.kind hx).1 (hd b hx)).1) (cfU_turn hT hn), fun b hx => (hT.out b (h.kind hx).1 (hd b hx)).2⟩
theorem RM.at_ {w : World} {mb : Nat} {sl : Value} {es : EL} (h : RM w mb sl es) : SAt 2 (RE (cfU w)) (cf w) sl es := by
 obtain ⟨cs, ho⟩ := h.row
 exact ho.at_ (RE_mono _)
theorem infoR : (Tryz.prog.info? 46).map (fun i => (i.zero, i.size, i.bytes)) = some (some (.agg #[.slice none 0 0, .slice none 0 0]), 2, 48) := by kernel_rfl
def foundB (k : Bts) (l : List Bts) : Bool := decide (l[placeB k l]? = some k)
theorem placeB_here {k : Bts} : ∀ {l : List Bts} {x : Bts}, l[placeB k l]? = some x -> ltB x k = false
 | [], x, h => by simp at h
 | y :: l, x, h => by
  unfold placeB at h
  split at h
  ·exact placeB_here (l := l) (by simpa using h)
  ·rename_i hy
   obtain rfl : y = x := by simpa using h
   simpa using hy
theorem placeB_next {k : Bts} {l : List Bts} {j : Nat} {x : Bts} (h : j <= placeB k l) (hx : l[j]? = some x) (hl : ltB x k = true) : j + 1 <= placeB k l := by
 by_cases e : j = placeB k l
 ·rw [e] at hx; rw [placeB_here hx] at hl; cases hl
 ·omega
theorem placeB_stop {k : Bts} {l : List Bts} {j : Nat} {x : Bts} (h : j <= placeB k l) (hx : l[j]? = some x) (hl : ltB x k = false) : j = placeB k l := by
 by_cases e : j < placeB k l
 ·rw [placeB_lt e hx] at hl; cases hl
 ·omega
theorem at_key {es : EL} {j : Nat} {x : Bts × Bts} (h : es[j]? = some x) : (es.map (·.1))[j]? = some x.1 := by rw [List.getElem?_map, h]; rfl
theorem row_at {c : CF} {w : World} {a : Option Addr} {n cap : Nat} {l : EL} (h : SAt 2 (RE c) (cf w) (.slice a n cap) l) {i : Nat} {x : Bts × Bts} (hx : l[i]? = some x) : ∃ b off ka kc va vc, a = some ⟨b, off, none⟩ /\ w.cell? ⟨b, off + i * 2, none⟩ = some (.slice ka x.1.length kc) /\ w.cell? ⟨b, off + i * 2 + 1, none⟩ = some (.slice va x.2.length vc) /\ YAt c (.slice ka x.1.length kc) x.1 /\ YAt c (.slice va x.2.length vc) x.2 := by
 obtain ⟨a2, cap2, e, _, _, h3⟩ := h
 simp only [Value.slice.injEq] at e
 obtain ⟨b, off, d, ea, hd, hc, kv, vv, hr, h4, h5⟩ := h3 i x hx
 obtain ⟨ka, kc, rfl⟩ := h4.form
 obtain ⟨va, vc, rfl⟩ := h5.form
 have c0 := hc 0 _ (by rw [hr]; rfl)
 have c1 := hc 1 _ (by rw [hr]; rfl)
 rw [Nat.add_zero] at c0
 exact ⟨b, off, ka, kc, va, vc, by rw [e.1, ea], c0, c1, h4, h5⟩
set_option maxHeartbeats 8000000 in
set_option maxRecDepth 100000 in
theorem ref_place {w : World} {mb : Nat} {sl kv : Value} {es : EL} {k : Bts} (h : RM w mb sl es) (hk : YAt (cfU w) kv k) (hl : es.length <= 1000000) :
  Calls Tryz.prog 46 #[.pointer (some ⟨mb, 0, none⟩), kv] w fun e w' => e = .returned (.tuple #[.int .i64 (placeB k (es.map (·.1)) : Int), .bool (foundB k (es.map (·.1)))]) /\ Below w.heap.size w w' := by
 obtain ⟨ka, kc, rfl⟩ := hk.form
 obtain ⟨kl, hkl⟩ : ∃ x, x = k.length := ⟨_, rfl⟩
 rw [<- hkl] at hk |-
 obtain ⟨a, cap, rfl⟩ := h.at_.form
 obtain ⟨n, hn⟩ : ∃ x, x = es.length := ⟨_, rfl⟩
 rw [<- hn] at h hl
 obtain ⟨m, hm⟩ : ∃ x, x = placeB k (es.map (·.1)) := ⟨_, rfl⟩
 obtain ⟨f, hf⟩ : ∃ x, x = foundB k (es.map (·.1)) := ⟨_, rfl⟩
 have hmn : m <= n := by rw [hm, hn]; have := placeB_le k (es.map (·.1)); rwa [List.length_map] at this
 rw [<- hm, <- hf]
 have HH := HoldT.mk (And.intro h (And.intro hk (And.intro hn (And.intro hm hf))))
 clear h hk hn hkl hm hf
 go_enter Tryz.func46, Tryz.ntmps46
 go_wp2_with fail
 go_loopw [6] (fun s6 wr => ∃ j : Nat, s6 = .int .i64 (j : Int) /\ j <= m /\ HoldT (Below w.heap.size w wr)) (fun s6 _ => n - (intOf s6).toNat)
 case atStart => exact ⟨0, rfl, Nat.zero_le _, ⟨Below.refl _ _⟩⟩
 case round =>
  obtain ⟨j, rfl, hj, HB⟩ := hrel
  have h2 := HH.out.1.below HB.out
  have hbx := h2.box
  have x0 : wr.cell? ⟨mb, 0, none⟩ = some (.slice a n cap) := by simp [World.cell?, hbx]
  by_cases hlt : j < n
  ·obtain ⟨x, hx⟩ : ∃ x, es[j]? = some x := ⟨es[j]'(by rw [<- HH.out.2.2.1]; exact hlt), List.getElem?_eq_getElem _⟩
   obtain ⟨b, off, xa, xc, ya, yc, rfl, z0, z1, hy1, hy2⟩ := row_at HH.out.1.at_ hx
   have HC := HoldT.mk (Less4_any x.1 k (.slice xa x.1.length xc) (.slice ka kl kc) wr (ybytes (hy1.mono RY_mono (cfU_below HB.out))) (ybytes (HH.out.2.1.mono RY_mono (cfU_below HB.out))))
   obtain ⟨xl, hxl⟩ : ∃ q, q = x.1.length := ⟨_, rfl⟩
   have c0 := cle_below HB.out _ _ _ (show cf w b (off + j * 2) = some (.slice xa x.1.length xc) from z0)
   rw [<- hxl] at c0 HC
   unfold cf at c0
   have HX := HoldT.mk hx
   clear h2 hbx z0 z1 hy1 hy2 hx hxl
   cases hlx : lessY x.1 k with
   | true =>
    have hj2 : j + 1 <= m := by rw [HH.out.2.2.2.1] at hj |-; exact placeB_next hj (at_key HX.out) hlx
    rw [hlx] at HC
    clear hlx
    go_wp2_with fail
    refine HC.out.mono ?_
    rintro e w2 ⟨rfl, hb2⟩
    have HB2 := HoldT.mk (HB.out.trans (hb2.mono HB.out.size))
    clear hb2
    go_wp2_with fail
    exact ⟨⟨j + 1, by go_num, hj2, HB2⟩, by simp [intOf]; omega⟩
   | false =>
    have hj2 : j = m := by rw [HH.out.2.2.2.1] at hj |-; exact placeB_stop hj (at_key HX.out) hlx
    have HF := HoldT.mk (show sameY x.1 k = f by rw [HH.out.2.2.2.2]; unfold foundB sameY; rw [<- HH.out.2.2.2.1, <- hj2, at_key HX.out]; simp)
    rw [hlx] at HC
    clear hlx
    have HJ := HoldT.mk hj2
    clear hj2
    go_wp2_with fail
    refine HC.out.mono ?_
    rintro e w2 ⟨rfl, hb2⟩
    have HB2 := HoldT.mk (HB.out.trans (hb2.mono HB.out.size))
    clear hb2
    have hbx := (HH.out.1.below HB2.out).box
    have x1 : w2.cell? ⟨mb, 0, none⟩ = some (.slice (some ⟨b, off, none⟩) n cap) := by simp [World.cell?, hbx]
    obtain ⟨b', off', xa', xc', ya', yc', e0, z0, z1, hy1, hy2⟩ := row_at HH.out.1.at_ HX.out
    simp only [Option.some.injEq, Addr.mk.injEq, and_true] at e0
    obtain ⟨rfl, rfl⟩ := e0
    have HS := HoldT.mk (Same4_any x.1 k (.slice xa' x.1.length xc') (.slice ka kl kc) w2 (ybytes (hy1.mono RY_mono (cfU_below HB2.out))) (ybytes (HH.out.2.1.mono RY_mono (cfU_below HB2.out))))
    have c1 := cle_below HB2.out _ _ _ (show cf w b (off + j * 2) = some (.slice xa' x.1.length xc') from z0)
    unfold cf at c1
    rw [HF.out] at HS
    obtain ⟨xm, hxm⟩ : ∃ q, q = x.1.length := ⟨_, rfl⟩
    rw [<- hxm] at HS c1
    clear hbx z0 z1 hy1 hy2 x0 c0 hxm
    go_wp2_with fail
    refine HS.out.mono ?_
    rintro e w3 ⟨rfl, hb3⟩
    have HB3 := HoldT.mk (HB2.out.trans (hb3.mono HB2.out.size))
    clear hb3
    go_wp2_with fail
    refine bodyPost_ret (v := .tuple #[.int .i64 (j : Int), .bool f]) (by simp [results, Tryz.results46, go_sem]) rfl ⟨by rw [HJ.out], HB3.out⟩
  ·obtain rfl : j = n := by omega
   have HJ := HoldT.mk (show j = m by omega)
   have HF := HoldT.mk (show f = false by
    rw [HH.out.2.2.2.2]
    unfold foundB
    rw [<- HH.out.2.2.2.1, <- HJ.out, HH.out.2.2.1, List.getElem?_eq_none (by rw [List.length_map]; exact Nat.le_refl _)]
    simp)
   go_wp2_with fail
   refine bodyPost_ret (v := .tuple #[.int .i64 (j : Int), .bool false]) (by simp [results, Tryz.results46, go_sem]) rfl ⟨by rw [HF.out, <- HJ.out], HB.out⟩
end Go.Proofs.YtmiphphombkpdaaGreat
namespace Go.Proofs.YtmiphphombkpdaaGreat
open Go.RowKit Go.Maps
theorem putE_parts (k v : Bts) : ∀ es : EL, putE k v es = es.take (placeB k (es.map (·.1))) ++ [(k, v)] ++ es.drop (if foundB k (es.map (·.1)) = true then placeB k (es.map (·.1)) + 1 else placeB k (es.map (·.1)))
 | [] => by simp [putE, placeB, foundB]
 | (x, y) :: l => by
  have ih := putE_parts k v l
  unfold putE
  by_cases h : ltB x k = true
  ·rw [if_pos h, ih]
   have e1 : placeB k (((x, y) :: l).map (·.1)) = placeB k (l.map (·.1)) + 1 := by simp [placeB, h]
   have e2 : foundB k (((x, y) :: l).map (·.1)) = foundB k (l.map (·.1)) := by unfold foundB; rw [e1]; simp
   rw [e1, e2]
   by_cases h2 : foundB k (l.map (·.1)) = true
   ·rw [if_pos h2, if_pos h2]; simp
   ·rw [if_neg h2, if_neg h2]; simp
  ·have h' : ltB x k = false := by simpa using h
   have e1 : placeB k (((x, y) :: l).map (·.1)) = 0 := by simp [placeB, h']
   have e2 : foundB k (((x, y) :: l).map (·.1)) = decide (x = k) := by unfold foundB; rw [e1]; simp
   rw [if_neg h, e1, e2]
   by_cases h2 : x = k
   ·rw [if_pos h2, decide_eq_true h2, if_pos rfl]; simp
   ·rw [if_neg h2, decide_eq_false h2, if_neg (by decide)]; simp
theorem delE_parts (k : Bts) : ∀ es : EL, delE k es = if foundB k (es.map (·.1)) = true then es.take (placeB k (es.map (·.1))) ++ es.drop (placeB k (es.map (·.1)) + 1) else es
 | [] => by simp [delE, foundB]
 | (x, y) :: l => by
  have ih := delE_parts k l
  unfold delE
  by_cases h : ltB x k = true
  ·rw [if_pos h, ih]
   have e1 : placeB k (((x, y) :: l).map (·.1)) = placeB k (l.map (·.1)) + 1 := by simp [placeB, h]
   have e2 : foundB k (((x, y) :: l).map (·.1)) = foundB k (l.map (·.1)) := by unfold foundB; rw [e1]; simp
   rw [e1, e2]
   by_cases h2 : foundB k (l.map (·.1)) = true
   ·rw [if_pos h2, if_pos h2]; simp
   ·rw [if_neg h2, if_neg h2]
  ·have h' : ltB x k = false := by simpa using h
   have e1 : placeB k (((x, y) :: l).map (·.1)) = 0 := by simp [placeB, h']
   have e2 : foundB k (((x, y) :: l).map (·.1)) = decide (x = k) := by unfold foundB; rw [e1]; simp
   rw [if_neg h, e1, e2]
   by_cases h2 : x = k
   ·rw [if_pos h2, decide_eq_true h2, if_pos rfl]; simp
   ·rw [if_neg h2, decide_eq_false h2, if_neg (by decide)]
theorem found_get (k : Bts) : ∀ es : EL, foundB k (es.map (·.1)) = (getE k es).isSome
 | [] => by simp [getE, foundB]
 | (x, y) :: l => by
  have ih := found_get k l
  unfold getE
  by_cases h : ltB x k = true
  ·have e1 : placeB k (((x, y) :: l).map (·.1)) = placeB k (l.map (·.1)) + 1 := by simp [placeB, h]
   have e2 : foundB k (((x, y) :: l).map (·.1)) = foundB k (l.map (·.1)) := by unfold foundB; rw [e1]; simp
   rw [if_pos h, e2, ih]
  ·have h' : ltB x k = false := by simpa using h
   have e1 : placeB k (((x, y) :: l).map (·.1)) = 0 := by simp [placeB, h']
   have e2 : foundB k (((x, y) :: l).map (·.1)) = decide (x = k) := by unfold foundB; rw [e1]; simp
   rw [if_neg h, e2]
   by_cases h2 : x = k
   ·rw [if_pos h2, decide_eq_true h2]; rfl
   ·rw [if_neg h2, decide_eq_false h2]; rfl
theorem slice_headR (a : Option Addr) (len cap k : Nat) (hk : k <= cap) (w : World) : (Instr.slice 38 (.slice a len cap) none (some (.int .i64 (k : Int))) none).run Tryz.prog w = .ok (.slice a k cap) w := by
 obtain ⟨i0, hi, hz0, hz1, hz2⟩ := info_parts infoR
 have he : Tryz.prog.elem 38 = 46 := by kernel_rfl
 rw [run_slice_h (P := Tryz.prog) (w := w) 38 a len cap (by rw [he]; exact Tryz.underlying38) .i64 (k : Int) (by omega) (by omega), he]
 simp [sizeOf, typeInfo, hi, hz1, Result.andThen, sliced]
 intro _
 cases a with
 | none => rfl
 | some x => simp [Addr.add]
def MapPost (v : Value) (mb : Nat) (sl : Value) (es : EL) (w : World) (e : Ending) (w' : World) : Prop :=
 ∃ sl', e = .returned v /\ RM w' mb sl' es /\ TurnS (mapX mb sl) w (mapX mb sl') w'
theorem map_set {w w1 w2 : World} {mb : Nat} {sl sl2 : Value} {es es2 : EL} {cs : List Value} {u : CF} (h : RM w mb sl es) (hb : Below w.heap.size w w2) (ho : OwnS 2 (RE u) 46 w1.heap.size w2 sl2 es2.length es2 cs) (hw : w.heap.size <= w1.heap.size) (hu : CLe u (cfU w2)) (v : Value) : MapPost v mb sl es2 w (.returned v) (w2.setCell ⟨mb, 0, none⟩ sl2) := by
 have h2 := h.below hb
 have hg : w2.grownBy (w2.setCell ⟨mb, 0, none⟩ sl2) (some mb) := set6_grown _ _
 have hlt := heap_lt h.box
 have hu2 : CLe (cfU w2) (cfU (w2.setCell ⟨mb, 0, none⟩ sl2)) := cfU_grown hg fun b e => by cases e; exact h2.noU mb (.inl rfl)
 refine ⟨sl2, rfl, ⟨by rw [set_selfT h2.box]; rfl, cs, ?_⟩, ?_⟩
 ·exact (own_base (own_keep (fun _ _ _ _ h => h) ho hg (fun g hg e => by have := (ho.low g hg).1; cases e; omega)) (Nat.zero_le _)).rep (RE_le (hu.trans hu2))
 ·exact ⟨hg.os.trans hb.os, hg.tape.trans hb.tape, hg.output.trans hb.output, Nat.le_trans hb.size hg.size, fun b hbl hn => ⟨(hg.block b (Nat.lt_of_lt_of_le hbl hb.size) (fun e => hn (.inl (Option.some.inj e)))).trans (hb.block b hbl), fun e => e.elim (fun e => hn (.inl e)) (fun e => by have := (ho.low b e).1; omega)⟩⟩
set_option maxHeartbeats 8000000 in
set_option maxRecDepth 100000 in
theorem ref_Put {w : World} {mb : Nat} {sl kv vv : Value} {es : EL} {k v : Bts} (h : RM w mb sl es) (hk : YAt (cfU w) kv k) (hv : YAt (cfU w) vv v) (h1 : keyOk k) (h2 : v.length <= 260) (hl : es.length <= 1000000) :
  Calls Tryz.prog 31 #[.pointer (some ⟨mb, 0, none⟩), kv, vv] w (MapPost (.int .i64 0) mb sl (putE k v es) w) := by
 have hC := ref_place h hk hl
 obtain ⟨ka, kc, rfl⟩ := hk.form
 obtain ⟨va, vc, rfl⟩ := hv.form
 have k1 := h1.1
 have k2 := h1.2
 obtain ⟨kl, hkl⟩ : ∃ x, x = k.length := ⟨_, rfl⟩
 obtain ⟨vl, hvl⟩ : ∃ x, x = v.length := ⟨_, rfl⟩
 rw [<- hkl] at hk hC k1 k2 |-
 rw [<- hvl] at hv h2 |-
 obtain ⟨a, cap, rfl⟩ := h.at_.form
 obtain ⟨_, cap', e1, hle, hcap, _⟩ := h.at_
 obtain rfl : cap = cap' := by simp only [Value.slice.injEq] at e1; exact e1.2.2
 clear e1
 obtain ⟨m, hm⟩ : ∃ x, x = placeB k (es.map (·.1)) := ⟨_, rfl⟩
 obtain ⟨f, hf⟩ : ∃ x, x = foundB k (es.map (·.1)) := ⟨_, rfl⟩
 have hmn : m <= es.length := by rw [hm]; have := placeB_le k (es.map (·.1)); rwa [List.length_map] at this
 have hfn : f = true -> m + 1 <= es.length := fun e => by
  rw [hf] at e
  have := (List.getElem?_eq_some_iff.1 (of_decide_eq_true e)).1
  rw [<- hm, List.length_map] at this
  omega
 have HE := HoldT.mk (putE_parts k v es)
 rw [<- hm, <- hf] at hC HE
 obtain ⟨n, hn⟩ : ∃ x, x = es.length := ⟨_, rfl⟩
 rw [<- hn] at h hl hle hmn hfn |-
 have HC := HoldT.mk hC
 have HH := HoldT.mk (And.intro h (And.intro hk (And.intro hv hn)))
 clear h hk hv hn hkl hvl hm hf hC h1
 go_enter Tryz.func31, Tryz.ntmps31
 go_wp2_with fail
 refine HC.out.mono ?_
 rintro e w1 ⟨rfl, hb1⟩
 have HM1 := HoldT.mk (HH.out.1.below hb1)
 have hu1 := cfU_below hb1
 have HK := HoldT.mk (And.intro (HH.out.2.1.mono RY_mono hu1) (HH.out.2.2.1.mono RY_mono hu1))
 have HB1 := HoldT.mk hb1
 have hbx := HM1.out.box
 have x0 : w1.cell? ⟨mb, 0, none⟩ = some (.slice a n cap) := by simp [World.cell?, hbx]
 have hsl : ∀ w, (Instr.slice 38 (.slice a n cap) none (some (.int .i64 (m : Int))) none).run Tryz.prog w = .ok (.slice a m cap) w := fun w => slice_headR a n cap m (by omega) w
 obtain ⟨t1, ht1⟩ : ∃ t, t = es.take m := ⟨_, rfl⟩
 have hl1 : t1.length = m := by rw [ht1, List.length_take, <- HH.out.2.2.2]; omega
 have HS1 := HoldT.mk (show SAt 2 (RE (cfU w1)) (cfN (.slice none 0 0) w1) (.slice a m cap) t1 by
  rw [ht1]
  exact (SAt.take HM1.out.at_ (by rw [<- HH.out.2.2.2]; exact hmn)).mono (RE_mono _) (cle_cfN_old (Below.refl _ _) (fun g hg => by cases hg)))
 have HT1 := HoldT.mk (And.intro ht1 hl1)
 clear hb1 hu1 hbx ht1 hl1
 go_wp2_with (at_builtin; refine push_src (RE_mono _) (RE_one _) rfl _ _ rfl infoR Tryz.underlying38 rfl (by decide) w1.heap.size _ _ 0 [] [] (OwnS.start 2 (RE (cfU w1)) _ (Nat.le_refl _)) rfl _ t1 HS1.out rfl (by rw [HT1.out.2]; omega) (by decide) ?_)
 intro sl2 w2 cs2 ho2 hg2
 rw [HT1.out.2] at ho2
 obtain ⟨a2, cap2, rfl⟩ := ho2.shape
 have hb2 : Below w1.heap.size w1 w2 := hg2.below (Nat.le_refl _) (fun g hg => by cases hg)
 have HO2 := HoldT.mk ho2
 have HB2 := HoldT.mk (HB1.out.trans (hb2.mono HB1.out.size))
 have HM2 := HoldT.mk (HM1.out.below hb2)
 have HB12 := HoldT.mk hb2
 clear ho2 hg2 hb2 x0 hsl
 go_wp2_with (at_builtin; refine push_new (RE_mono _) rfl _ _ rfl infoR Tryz.underlying38 rfl (by decide) w1.heap.size _ _ m _ _ HO2.out rfl _ [.slice ka kl kc, .slice va vl vc] rfl rfl (by simp [Value.oneCell']) (k, v) ⟨_, _, rfl, HK.out.1, HK.out.2⟩ _ rfl rfl (by omega) (by decide) ?_)
 intro sl3 w3 ho3 hg3
 obtain ⟨a3, cap3, rfl⟩ := ho3.shape
 have hb3 : Below w1.heap.size w2 w3 := hg3.below (HO2.out.le) (fun g hg => (HO2.out.low g hg).1)
 have hb13 : Below w.heap.size w w3 := HB2.out.trans (hb3.mono HB1.out.size)
 have HO3 := HoldT.mk ho3
 have HB23 := HoldT.mk hb3
 have HB3 := HoldT.mk hb13
 have HM3 := HoldT.mk (HH.out.1.below hb13)
 have hbx := HM3.out.box
 have x0 : w3.cell? ⟨mb, 0, none⟩ = some (.slice a n cap) := by simp [World.cell?, hbx]
 clear ho3 hg3 hb3 hb13 hbx
 obtain ⟨t2, ht2⟩ : ∃ t, t = t1 ++ [(k, v)] := ⟨_, rfl⟩
 rw [<- ht2] at HO3
 have HL2 := HoldT.mk (show t2.length = m + 1 by rw [ht2, List.length_append, HT1.out.2]; rfl)
 have HT2 := HoldT.mk ht2
 have HB13 := HoldT.mk ((HB12.out).trans HB23.out)
 clear ht2
 cases f
 ·have hm2n : m <= n := hmn
  obtain ⟨a', hsl0, hsl1⟩ := slice_tail (n := 2) Tryz.underlying38 (by kernel_rfl) infoR a n cap (m) hm2n hle hcap
  have hsl : ∀ w, (Instr.slice 38 (.slice a n cap) (some (.int .i64 ((m : Int)))) none none).run Tryz.prog w = .ok (.slice a' (n - (m)) (cap - (m))) w := hsl0
  obtain ⟨t3, ht3⟩ : ∃ t, t = es.drop (m) := ⟨_, rfl⟩
  have hl3 : t3.length = n - (m) := by rw [ht3, List.length_drop, HH.out.2.2.2]
  have HS3 := HoldT.mk (show SAt 2 (RE (cfU w1)) (cfN (.slice a3 (m + 1) cap3) w3) (.slice a' (n - (m)) (cap - (m))) t3 by
   rw [ht3]
   exact ((hsl1 HH.out.2.2.2.symm HM1.out.at_).mono (RE_mono _) (cle_cfN_old HB13.out (fun g hg => (HO3.out.low g hg).1))))
  have HT3 := HoldT.mk (And.intro ht3 hl3)
  have hdl : t3.length <= 1000000 := by omega
  clear hsl0 hsl1 ht3 hl3
  go_wp2_with (at_builtin; refine push_src (RE_mono _) (RE_one _) rfl _ _ rfl infoR Tryz.underlying38 rfl (by decide) w1.heap.size _ _ ((m + 1)) _ _ HO3.out rfl _ t3 HS3.out rfl (by omega) (by decide) ?_)
  intro sl4 w4 cs4 ho4 hg4
  obtain ⟨a4, cap4, rfl⟩ := ho4.shape
  have hb4 : Below w1.heap.size w3 w4 := hg4.below (HO3.out.le) (fun g hg => (HO3.out.low g hg).1)
  have hb14 := HB3.out.trans (hb4.mono HB1.out.size)
  have hb24 := HB13.out.trans (hb4.mono (Nat.le_refl _))
  have hM4 := HH.out.1.below hb14
  have x1 : w4.cell? ⟨mb, 0, none⟩ = some (.slice a n cap) := by have := hM4.box; simp [World.cell?, this]
  have f1 : w4.frozen? ⟨mb, 0, none⟩ = false := by have := hM4.box; simp [World.frozen?, this]
  have HP := HoldT.mk (fun v => map_set (w1 := w1) (es2 := t2 ++ t3) (cs := cs4) HH.out.1 hb14 (by rw [List.length_append, HL2.out]; exact ho4) HB1.out.size (cfU_below hb24) v)
  clear ho4 hg4 hb4 hb14 hb24 hM4 hsl hdl x0
  go_wp2_with fail
  go_ret
  have := HP.out (.int .i64 0)
  rw [HE.out, if_neg (by decide), <- HT1.out.1, <- HT2.out, <- HT3.out.1]
  exact this
 ·have hm2n : m + 1 <= n := hfn rfl
  obtain ⟨a', hsl0, hsl1⟩ := slice_tail (n := 2) Tryz.underlying38 (by kernel_rfl) infoR a n cap (m + 1) hm2n hle hcap
  have hsl : ∀ w, (Instr.slice 38 (.slice a n cap) (some (.int .i64 ((m : Int) + 1))) none none).run Tryz.prog w = .ok (.slice a' (n - (m + 1)) (cap - (m + 1))) w := hsl0
  obtain ⟨t3, ht3⟩ : ∃ t, t = es.drop (m + 1) := ⟨_, rfl⟩
  have hl3 : t3.length = n - (m + 1) := by rw [ht3, List.length_drop, HH.out.2.2.2]
  have HS3 := HoldT.mk (show SAt 2 (RE (cfU w1)) (cfN (.slice a3 (m + 1) cap3) w3) (.slice a' (n - (m + 1)) (cap - (m + 1))) t3 by
   rw [ht3]
   exact ((hsl1 HH.out.2.2.2.symm HM1.out.at_).mono (RE_mono _) (cle_cfN_old HB13.out (fun g hg => (HO3.out.low g hg).1))))
  have HT3 := HoldT.mk (And.intro ht3 hl3)
  have hdl : t3.length <= 1000000 := by omega
  clear hsl0 hsl1 ht3 hl3
  go_wp2_with (at_builtin; refine push_src (RE_mono _) (RE_one _) rfl _ _ rfl infoR Tryz.underlying38 rfl (by decide) w1.heap.size _ _ ((m + 1)) _ _ HO3.out rfl _ t3 HS3.out rfl (by omega) (by decide) ?_)
  intro sl4 w4 cs4 ho4 hg4
  obtain ⟨a4, cap4, rfl⟩ := ho4.shape
  have hb4 : Below w1.heap.size w3 w4 := hg4.below (HO3.out.le) (fun g hg => (HO3.out.low g hg).1)
  have hb14 := HB3.out.trans (hb4.mono HB1.out.size)
  have hb24 := HB13.out.trans (hb4.mono (Nat.le_refl _))
  have hM4 := HH.out.1.below hb14
  have x1 : w4.cell? ⟨mb, 0, none⟩ = some (.slice a n cap) := by have := hM4.box; simp [World.cell?, this]
  have f1 : w4.frozen? ⟨mb, 0, none⟩ = false := by have := hM4.box; simp [World.frozen?, this]
  have HP := HoldT.mk (fun v => map_set (w1 := w1) (es2 := t2 ++ t3) (cs := cs4) HH.out.1 hb14 (by rw [List.length_append, HL2.out]; exact ho4) HB1.out.size (cfU_below hb24) v)
  clear ho4 hg4 hb4 hb14 hb24 hM4 hsl hdl x0
  go_wp2_with fail
  go_ret
  have := HP.out (.int .i64 0)
  rw [HE.out, if_pos trivial, <- HT1.out.1, <- HT2.out, <- HT3.out.1]
  exact this
set_option maxHeartbeats 8000000 in
set_option maxRecDepth 100000 in
theorem ref_Delete {w : World} {mb : Nat} {sl kv : Value} {es : EL} {k : Bts} (h : RM w mb sl es) (hk : YAt (cfU w) kv k) (hl : es.length <= 1000000) :
  Calls Tryz.prog 30 #[.pointer (some ⟨mb, 0, none⟩), kv] w (MapPost (.bool (getE k es).isSome) mb sl (delE k es) w) := by
 have hC := ref_place h hk hl
 obtain ⟨ka, kc, rfl⟩ := hk.form
 obtain ⟨kl, hkl⟩ : ∃ x, x = k.length := ⟨_, rfl⟩
 rw [<- hkl] at hk hC |-
 obtain ⟨a, cap, rfl⟩ := h.at_.form
 obtain ⟨_, cap', e1, hle, hcap, _⟩ := h.at_
 obtain rfl : cap = cap' := by simp only [Value.slice.injEq] at e1; exact e1.2.2
 clear e1
 obtain ⟨m, hm⟩ : ∃ x, x = placeB k (es.map (·.1)) := ⟨_, rfl⟩
 obtain ⟨f, hf⟩ : ∃ x, x = foundB k (es.map (·.1)) := ⟨_, rfl⟩
 have hmn : m <= es.length := by rw [hm]; have := placeB_le k (es.map (·.1)); rwa [List.length_map] at this
 have hfn : f = true -> m + 1 <= es.length := fun e => by
  rw [hf] at e
  have := (List.getElem?_eq_some_iff.1 (of_decide_eq_true e)).1
  rw [<- hm, List.length_map] at this
  omega
 have HE := HoldT.mk (delE_parts k es)
 rw [<- hm, <- hf] at hC HE
 have HGE := HoldT.mk (found_get k es)
 rw [<- hf] at HGE
 rw [<- HGE.out]
 obtain ⟨n, hn⟩ : ∃ x, x = es.length := ⟨_, rfl⟩
 rw [<- hn] at h hl hle hmn hfn |-
 have HC := HoldT.mk hC
 have HH := HoldT.mk (And.intro h (And.intro hk (And.intro hk hn)))
 clear h hk hn hkl hm hf hC
 go_enter Tryz.func30, Tryz.ntmps30
 go_wp2_with fail
 refine HC.out.mono ?_
 rintro e w1 ⟨rfl, hb1⟩
 have HM1 := HoldT.mk (HH.out.1.below hb1)
 have hu1 := cfU_below hb1
 have HB1 := HoldT.mk hb1
 have hbx := HM1.out.box
 have x0 : w1.cell? ⟨mb, 0, none⟩ = some (.slice a n cap) := by simp [World.cell?, hbx]
 have hsl : ∀ w, (Instr.slice 38 (.slice a n cap) none (some (.int .i64 (m : Int))) none).run Tryz.prog w = .ok (.slice a m cap) w := fun w => slice_headR a n cap m (by omega) w
 obtain ⟨t1, ht1⟩ : ∃ t, t = es.take m := ⟨_, rfl⟩
 have hl1 : t1.length = m := by rw [ht1, List.length_take, <- HH.out.2.2.2]; omega
 have HS1 := HoldT.mk (show SAt 2 (RE (cfU w1)) (cfN (.slice none 0 0) w1) (.slice a m cap) t1 by
  rw [ht1]
  exact (SAt.take HM1.out.at_ (by rw [<- HH.out.2.2.2]; exact hmn)).mono (RE_mono _) (cle_cfN_old (Below.refl _ _) (fun g hg => by cases hg)))
 have HT1 := HoldT.mk (And.intro ht1 hl1)
 clear hb1 hu1 hbx ht1 hl1
 cases f
 ·have HP := HoldT.mk (show MapPost (.bool false) mb (.slice a n cap) (delE k es) w (.returned (.bool false)) w1 by
   rw [HE.out, if_neg (by decide)]
   exact ⟨_, rfl, HM1.out, TurnS.quiet HB1.out⟩)
  clear HE
  go_wp2_with fail
  go_ret
  exact HP.out
 go_wp2_with (at_builtin; refine push_src (RE_mono _) (RE_one _) rfl _ _ rfl infoR Tryz.underlying38 rfl (by decide) w1.heap.size _ _ 0 [] [] (OwnS.start 2 (RE (cfU w1)) _ (Nat.le_refl _)) rfl _ t1 HS1.out rfl (by rw [HT1.out.2]; omega) (by decide) ?_)
 intro sl2 w2 cs2 ho2 hg2
 rw [HT1.out.2] at ho2
 obtain ⟨a2, cap2, rfl⟩ := ho2.shape
 have hb2 : Below w1.heap.size w1 w2 := hg2.below (Nat.le_refl _) (fun g hg => by cases hg)
 have HO2 := HoldT.mk ho2
 have HB2 := HoldT.mk (HB1.out.trans (hb2.mono HB1.out.size))
 have HM2 := HoldT.mk (HM1.out.below hb2)
 have HB12 := HoldT.mk hb2
 clear ho2 hg2 hb2 x0 hsl
 have hbx := HM2.out.box
 have x0 : w2.cell? ⟨mb, 0, none⟩ = some (.slice a n cap) := by simp [World.cell?, hbx]
 clear hbx
 have hm2n : m + 1 <= n := hfn trivial
 obtain ⟨a', hsl0, hsl1⟩ := slice_tail (n := 2) Tryz.underlying38 (by kernel_rfl) infoR a n cap (m + 1) hm2n hle hcap
 have hsl : ∀ w, (Instr.slice 38 (.slice a n cap) (some (.int .i64 ((m : Int) + 1))) none none).run Tryz.prog w = .ok (.slice a' (n - (m + 1)) (cap - (m + 1))) w := hsl0
 obtain ⟨t3, ht3⟩ : ∃ t, t = es.drop (m + 1) := ⟨_, rfl⟩
 have hl3 : t3.length = n - (m + 1) := by rw [ht3, List.length_drop, HH.out.2.2.2]
 have HS3 := HoldT.mk (show SAt 2 (RE (cfU w1)) (cfN (.slice a2 m cap2) w2) (.slice a' (n - (m + 1)) (cap - (m + 1))) t3 by
  rw [ht3]
  exact ((hsl1 HH.out.2.2.2.symm HM1.out.at_).mono (RE_mono _) (cle_cfN_old HB12.out (fun g hg => (HO2.out.low g hg).1))))
 have HT3 := HoldT.mk (And.intro ht3 hl3)
 have hdl : t3.length <= 1000000 := by omega
 clear hsl0 hsl1 ht3 hl3
 go_wp2_with (at_builtin; refine push_src (RE_mono _) (RE_one _) rfl _ _ rfl infoR Tryz.underlying38 rfl (by decide) w1.heap.size _ _ (m) _ _ HO2.out rfl _ t3 HS3.out rfl (by omega) (by decide) ?_)
 intro sl4 w4 cs4 ho4 hg4
 obtain ⟨a4, cap4, rfl⟩ := ho4.shape
 have hb4 : Below w1.heap.size w2 w4 := hg4.below (HO2.out.le) (fun g hg => (HO2.out.low g hg).1)
 have hb14 := HB2.out.trans (hb4.mono HB1.out.size)
 have hb24 := HB12.out.trans (hb4.mono (Nat.le_refl _))
 have hM4 := HH.out.1.below hb14
 have x1 : w4.cell? ⟨mb, 0, none⟩ = some (.slice a n cap) := by have := hM4.box; simp [World.cell?, this]
 have f1 : w4.frozen? ⟨mb, 0, none⟩ = false := by have := hM4.box; simp [World.frozen?, this]
 have HP := HoldT.mk (fun v => map_set (w1 := w1) (es2 := t1 ++ t3) (cs := cs4) HH.out.1 hb14 (by rw [List.length_append, HT1.out.2]; exact ho4) HB1.out.size (cfU_below hb24) v)
 clear ho4 hg4 hb4 hb14 hb24 hM4 hsl hdl x0
 go_wp2_with fail
 go_ret
 have := HP.out (.bool true)
 rw [HE.out, if_pos trivial, <- HT1.out.1, <- HT3.out.1]
 exact this
end Go.Proofs.YtmiphphombkpdaaGreat
