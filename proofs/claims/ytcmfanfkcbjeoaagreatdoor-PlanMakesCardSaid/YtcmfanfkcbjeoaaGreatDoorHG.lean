/- Plans: add and some of the program. -/
import Derived.Test.YtcmfanfkcbjeoaaGreatDoorHF
namespace Go.Proofs.YtcmfanfkcbjeoaaGreatDoor
open Go.RowKit

theorem grown_below {w w' : World} {b : Option Nat} (k : Below w.heap.size w w') : w.grownBy w' b := ⟨k.os, k.tape, k.output, k.size, fun q hq _ => k.block q hq⟩
theorem grown_trans {w w1 w2 : World} {b : Option Nat} (h : w.grownBy w1 b) (k : w1.grownBy w2 b) : w.grownBy w2 b :=
  ⟨k.os.trans h.os, k.tape.trans h.tape, k.output.trans h.output, Nat.le_trans h.size k.size, fun q hq hne => (k.block q (Nat.lt_of_lt_of_le hq h.size) hne).trans (h.block q hq hne)⟩

set_option maxRecDepth 100000 in
set_option maxHeartbeats 2000000 in
theorem add_any {c : CF} {B bA : Nat} {l : List AskP} {nA nI : Nat} {g : ByteArray → Option Nat} {w : World} (h : AskG c B bA l nA nI g w) (s t : ByteArray) (b : Nat) (hg : g s = some b) (ht : t.size ≤ 1000000) (hn : nI ≤ 100000000000) (x : JV) (v : Value) (hv : JAt c x v) :
    Calls Tryz.prog 136 #[.map (some b), .string t, v] w fun e w' => e = .returned (.tuple #[]) ∧ AskG c B bA (l ++ [(s, t, x)]) nA (nI + 1) g w' ∧ w.grownBy w' (some b) := by
  obtain ⟨_, hbA, m, f, hm, hf, ho⟩ := h.inn s b hg
  have HV := Hold.mk hv
  obtain ⟨k, n, u, nm, it, na, ncap, ia, icap, _, rfl, _⟩ := id hv.open
  obtain ⟨w1, hw1⟩ : ∃ w1, w1 = w.alloc (.cells #[.int .i64 k, .int .i64 n, .string u, .slice na nm.length ncap, .slice ia it.length icap] 25) := ⟨_, rfl⟩
  have hb1 : Below w.heap.size w w1 := by rw [hw1]; exact (Below.refl _ w).alloc (Nat.le_refl _) _
  have hbox : w1.heap[w.heap.size]? = some (.cells #[.int .i64 k, .int .i64 n, .string u, .slice na nm.length ncap, .slice ia it.length icap] 25 (0, 0)) := by rw [hw1]; exact heap_alloc_new w _
  have hf1 := hf.quiet hb1
  have hL := hf1.look_ok Tryz.underlying155 (zeroJ_run w1) t ht
  obtain ⟨y0, y1, y2, y3, y4⟩ := cells_five hbox
  have HH := Hold.mk h
  have HO := Hold.mk ho
  have HB1 := Hold.mk hb1
  have HG := Hold.mk hg
  cases hft : f t with
  | some y =>
    rw [hft] at hL
    obtain ⟨k2, n2, u2, na2, nl2, nc2, ia2, il2, ic2, rfl⟩ : Val5 y := by
      have h2 := ho t
      rw [hft] at h2
      cases e : firstF l s t with
      | none => rw [e] at h2; exact h2.elim
      | some q => rw [e] at h2; exact Val5.of h2
    simp only [Option.getD_some, Option.isSome_some] at hL
    have HP : Hold (∀ w', Below w1.heap.size w1 w' → AskG c B bA (l ++ [(s, t, x)]) nA (nI + 1) g w' ∧ w.grownBy w' (some b)) := ⟨fun w' hw' => by
      have hb := HB1.out.trans (hw'.mono HB1.out.size)
      refine ⟨HH.out.add (m := m) HG.out HO.out ?_ (by omega) HV.out (grown_below hb), grown_below hb⟩
      refine cast (congrArg (fun q => MapV b m q w') ?_) (hf.quiet hb)
      funext r
      by_cases e : r = t
      · subst e; simp [hft]
      · simp [e]⟩
    clear hf hf1 hft ho h hb1 hbox hv hg
    go_enter Tryz.func136, Tryz.ntmps136
    go_upto_region 1 with (fail)
    rw [← hw1]
    clear hw1
    go_wp2_with fail
    (go_end0; exact ⟨rfl, HP.out _ ((Below.refl _ _).alloc (Nat.le_refl _) _)⟩)
  | none =>
    rw [hft] at hL
    simp only [Option.getD_none, Option.isSome_none] at hL
    obtain ⟨w2, hw2⟩ : ∃ w2, w2 = w1.alloc (.cells #[.int .i64 0, .int .i64 0, .string ⟨#[]⟩, .slice none 0 0, .slice none 0 0] 25) := ⟨_, rfl⟩
    have hb2 : Below w1.heap.size w1 w2 := by rw [hw2]; exact (Below.refl _ w1).alloc (Nat.le_refl _) _
    have z0 := cle_below hb2 _ _ _ y0
    have z1 := cle_below hb2 _ _ _ y1
    have z2 := cle_below hb2 _ _ _ y2
    have z3 := cle_below hb2 _ _ _ y3
    have z4 := cle_below hb2 _ _ _ y4
    unfold cf at z0 z1 z2 z3 z4
    obtain ⟨w3, hrun, hm3, hg3⟩ := (hf1.quiet hb2).putN Tryz.underlying155 t ht (.agg #[.int .i64 k, .int .i64 n, .string u, .slice na nm.length ncap, .slice ia it.length icap]) (by omega)
    have HP : Hold (AskG c B bA (l ++ [(s, t, x)]) nA (nI + 1) g w3 ∧ w.grownBy w3 (some b)) := ⟨by
      have hg := grown_trans (grown_below (b := some b) (HB1.out.trans (hb2.mono HB1.out.size))) hg3
      refine ⟨HH.out.add (m := m + 1) HG.out HO.out ?_ (by omega) HV.out hg, hg⟩
      rw [hft]
      exact hm3⟩
    clear hf hf1 hft ho h hb1 hbox hv hg hb2 hm3 hg3
    go_enter Tryz.func136, Tryz.ntmps136
    go_upto_region 1 with (fail)
    rw [← hw1]
    clear hw1
    go_upto_region 3 with (fail)
    rw [← hw2]
    clear hw2 hL
    go_wp2_with fail
    (go_end0; exact ⟨rfl, HP.out⟩)

set_option maxRecDepth 100000 in
set_option maxHeartbeats 2000000 in
theorem some1_any {c : CF} {B bA : Nat} {l : List AskP} {nA nI : Nat} {g : ByteArray → Option Nat} {w : World} (h : AskG c B bA l nA nI g w) (s t : ByteArray) (ht : t.size ≤ 1000000) (k : Nat) (hk : w.cell? ⟨k, 0, none⟩ = some (.map (g s))) :
    Calls Tryz.prog 137 #[.string t, .pointer (some ⟨k, 0, none⟩)] w fun e w' => e = .returned (.bool (firstF l s t).isSome) ∧ Below w.heap.size w w' := by
  obtain ⟨v, hL, hv, _⟩ := h.test s t ht
  obtain ⟨k2, n2, u2, na2, nl2, nc2, ia2, il2, ic2, rfl⟩ := hv
  generalize g s = gs at hk hL
  generalize (firstF l s t).isSome = r at hL ⊢
  clear h
  go_enter Tryz.func137, Tryz.ntmps137
  go_wp2_with fail
  go_ret
  exact ⟨rfl, (Below.refl _ _).alloc (Nat.le_refl _) _⟩
theorem some1_enters (args : Array Value) (w : World) : (callFunc 137 args).run Tryz.prog w = .ok (.enter 137 args) w := enters_of Tryz.func137 (by kernel_rfl) rfl args w

abbrev nm5 : List ByteArray := [bEq, bGt, bGe, bLt, bLe]
theorem nm5_at {w : World} {q : Nat} (h : w.heap[q]? = some (.cells #[.string bEq, .string bGt, .string bGe, .string bLt, .string bLe] 9 (0, 0))) : StrsAt (cf w) (.slice (some ⟨q, 0, none⟩) 5 5) nm5 := by
  refine ⟨some ⟨q, 0, none⟩, 5, rfl, by decide, fun i s hs => ?_⟩
  have hc : ∀ j u, #[Value.string bEq, .string bGt, .string bGe, .string bLt, .string bLe][j]? = some u → cf w q (0 + j) = some u := fun j u hu => by
    unfold cf World.cell?
    rw [h, Nat.zero_add]; exact hu
  match i, hs with
  | 0, hs => cases hs; exact ⟨by decide, q, 0, rfl, hc 0 _ rfl⟩
  | 1, hs => cases hs; exact ⟨by decide, q, 0, rfl, hc 1 _ rfl⟩
  | 2, hs => cases hs; exact ⟨by decide, q, 0, rfl, hc 2 _ rfl⟩
  | 3, hs => cases hs; exact ⟨by decide, q, 0, rfl, hc 3 _ rfl⟩
  | 4, hs => cases hs; exact ⟨by decide, q, 0, rfl, hc 4 _ rfl⟩
  | i + 5, hs => simp at hs
theorem nm5_size : ∀ t ∈ nm5, t.size ≤ 1000000 := by decide

set_option maxRecDepth 100000 in
set_option maxHeartbeats 2000000 in
theorem some_any {c : CF} {B bA : Nat} {l : List AskP} {nA nI : Nat} {g : ByteArray → Option Nat} {w : World} (h : AskG c B bA l nA nI g w) (s : ByteArray) :
    Calls Tryz.prog 97 #[.map (g s)] w fun e w' => e = .returned (.bool (someB l s)) ∧ Below w.heap.size w w' := by
  obtain ⟨w2, hw2⟩ : ∃ w2, w2 = (w.alloc (.cells #[.map (g s)] 155)).alloc (.cells #[.string bEq, .string bGt, .string bGe, .string bLt, .string bLe] 9) := ⟨_, rfl⟩
  have hb2 : Below w.heap.size w w2 := by rw [hw2]; exact ((Below.refl _ w).alloc (Nat.le_refl _) _).alloc (by simp) _
  have e0 : w2.heap[w.heap.size]? = some (.cells #[.map (g s)] 155 (0, 0)) := by rw [hw2]; exact kept (heap_alloc_new w _) ((Below.refl _ _).alloc (Nat.le_refl _) _)
  have e1 : w2.heap[w.heap.size + 1]? = some (.cells #[.string bEq, .string bGt, .string bGe, .string bLt, .string bLe] 9 (0, 0)) := by
    rw [hw2]
    have := heap_alloc_new (w.alloc (.cells #[.map (g s)] 155)) (.cells #[.string bEq, .string bGt, .string bGe, .string bLt, .string bLe] 9)
    simpa using this
  have HX := Hold.mk (strsAnyC_any 137 some1_enters ⟨w.heap.size, 0, none⟩ (fun t => (firstF l s t).isSome) _ nm5 w2 (nm5_at e1) (fun t ht wr hb => some1_any (h.kept (hb2.trans (hb.mono hb2.size))) s t (nm5_size t ht) w.heap.size (by
    have := kept e0 hb
    simp [World.cell?, this])))
  have HB := Hold.mk hb2
  have HE : Hold (nm5.any (fun t => (firstF l s t).isSome) = someB l s) := ⟨rfl⟩
  generalize g s = gs at hw2
  clear h hb2 e0 e1
  go_enter Tryz.func97, Tryz.ntmps97
  go_wp2_with fail
  rw [← hw2]
  refine HX.out.mono ?_
  rw [HE.out]
  rintro e w3 ⟨rfl, hb3⟩
  have HB3 := Hold.mk (HB.out.trans (hb3.mono HB.out.size))
  clear hb3 HX
  go_wp2_with fail
  go_ret
  exact ⟨rfl, HB3.out⟩

end Go.Proofs.YtcmfanfkcbjeoaaGreatDoor
