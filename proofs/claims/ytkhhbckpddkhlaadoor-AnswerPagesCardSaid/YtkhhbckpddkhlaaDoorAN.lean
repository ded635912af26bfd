/- Answers: the ids that were seen: a map of bools by texts, made by the call. Answers: a document tested, two compared by the closure, documents sorted: slices.SortFunc at documents of the call's own. -/
import Derived.Test.YtkhhbckpddkhlaaDoorAG
import Derived.Maps.OwnSet
import Derived.Test.YtkhhbckpddkhlaaDoorAM
import Derived.Test.YtkhhbckpddkhlaaDoorZD
import Derived.Test.YtkhhbckpddkhlaaDoorBLays
namespace Go.Proofs.YtkhhbckpddkhlaaDoor
open Go.Shelf Go.RowKit Go.Maps Go.WideMaps

theorem mapKeyed : Keyed Tryd.prog 9 := string_keyed Tryd.underlying9
/-- block b is a map in which just the ids of l are true -/
def SeenM (b : Nat) (l : List DR) (w : World) : Prop :=
  ∃ D : DataW Unit, w.ownsMap Tryd.prog 9 (plainElem Tryd.prog 4) b l.length D ∧ IsMap D ∧ ∀ s : ByteArray, D.atKey (.string s.data.toList) (.lit (.bool false)) = .lit (.bool (seenA l s))
theorem SeenM.start (w : World) : SeenM w.heap.size [] (w.alloc (.map #[] 0)) := ⟨.map [], World.ownsMap_made _ _ _ _, isMap_empty, fun _ => rfl⟩
theorem SeenM.lt {b : Nat} {l : List DR} {w : World} (h : SeenM b l w) : b < w.heap.size := by obtain ⟨D, h1, _⟩ := h; exact h1.lt
theorem SeenM.quiet {b : Nat} {l : List DR} {w w' : World} (h : SeenM b l w) (k : Below w.heap.size w w') : SeenM b l w' := by
  obtain ⟨D, h1, h2, h3⟩ := h
  exact ⟨D, h1.kept (row := none) ⟨k.os, k.tape, k.output, k.size, fun q hq _ => k.block q hq⟩ (by simp), h2, h3⟩
theorem SeenM.grown {b : Nat} {l : List DR} {w w' : World} {row : Option Nat} (h : SeenM b l w) (k : w.grownBy w' row) (hne : some b ≠ row) : SeenM b l w' := by
  obtain ⟨D, h1, h2, h3⟩ := h
  exact ⟨D, h1.kept k hne, h2, h3⟩
theorem SeenM.drew {b : Nat} {l : List DR} {w : World} (h : SeenM b l w) : SeenM b l w.drew := by
  obtain ⟨D, h1, h2, h3⟩ := h
  exact ⟨D, h1.drew, h2, h3⟩
theorem plain_bool_inv {v : Value} {y : Bool} {ps : List MemPlace} (h : plainElem (H := Unit) Tryd.prog 4 v = some (.lit (.bool y), ps)) : v = .bool y := by
  unfold plainElem at h
  rw [show Tryd.prog.underlying 4 = some .bool from Tryd.underlying4] at h
  split at h
  · simp only [Option.some.injEq, Prod.mk.injEq, DataW.lit.injEq, Lit.bool.injEq] at h
    rw [h.1]
  · rename_i hh; cases hh
  · rename_i hh; cases hh
  · cases h
theorem SeenM.look {b : Nat} {l : List DR} {w : World} (h : SeenM b l w) (s : ByteArray) (hs : s.size ≤ 1000000) : (Instr.lookup 49 (.map (some b)) (.string s) false).run Tryd.prog w = .ok (.bool (seenA l s)) w := by
  obtain ⟨D, h1, _, h3⟩ := h
  obtain ⟨v, ps, hrun, hv⟩ := h1.lookup mapKeyed Tryd.underlying49 (z := .bool false) (Tryd.zeroValue4 w) (plainElem_bool Tryd.underlying4 false) (keyOf_string_mk Tryd.underlying9 (s := s) (by unfold maxLen; omega))
  rw [h3] at hv
  rw [hrun, plain_bool_inv hv]
theorem seenA_snoc (l : List DR) (x : DR) (s : ByteArray) : seenA (l ++ [x]) s = (seenA l s || decide (x.id = s)) := by
  unfold seenA; rw [List.any_append]; simp
theorem SeenM.put {b : Nat} {l : List DR} {w : World} (h : SeenM b l w) (x : DR) (hs : x.id.size ≤ 1000000) (hl : l.length ≤ 1000000) : ∃ w', (Instr.mapUpdate 49 (.map (some b)) (.string x.id) (.bool true)).run Tryd.prog w = .ok () w' ∧ SeenM b (l ++ [x]) w' ∧ w.grownBy w' (some b) := by
  obtain ⟨D, h1, h2, h3⟩ := h
  obtain ⟨w', hrun, hown, hg⟩ := h1.update mapKeyed Tryd.underlying49 (by unfold maxLen; omega) (keyOf_string_mk Tryd.underlying9 (s := x.id) (by unfold maxLen; omega)) (plainElem_bool Tryd.underlying4 true)
  refine ⟨w', hrun, ⟨_, by rw [List.length_append]; exact hown, h2.put _ _, fun s => ?_⟩, hg⟩
  rw [seenA_snoc]
  by_cases e : x.id = s
  · subst e
    rw [atKey_put_same h2 (show WideAt.IsKeyLit (.string x.id.data.toList) from trivial)]; simp
  · rw [atKey_put_other (fun e2 => e (by
      have := Lit.string.inj e2
      have := Array.toList_inj.1 this
      cases s; cases hx : x.id; simp_all)), h3 s]
    simp [e]

end Go.Proofs.YtkhhbckpddkhlaaDoor

namespace Go.Proofs.YtkhhbckpddkhlaaDoor
open Go.Shelf Go.RowKit

set_option maxRecDepth 100000 in
set_option maxHeartbeats 8000000 in
theorem qDocument_any (x : DR) (d : List Value) (w : World) (hx : RD (cf w) x d) (hid : x.id.size ≤ 1000000) (hT : Tabs w) :
    Calls Tryd.prog 17 #[.agg d.toArray] w fun e w' => e = .returned (.bool (docF x)) ∧ Below w.heap.size w w' := by
  obtain ⟨k, n, t, na, nl, ncap, ia, il, icap, rfl, _, hk, hj⟩ := hx
  obtain ⟨id, v⟩ := x
  simp only at hid hk hj ⊢
  obtain ⟨W, hW⟩ : ∃ W, W = w.alloc (.cells #[.string id, .int .i64 k, .int .i64 n, .string t, .slice na nl ncap, .slice ia il icap] 33) := ⟨_, rfl⟩
  have hb : Below w.heap.size w W := by rw [hW]; exact (Below.refl _ w).alloc (Nat.le_refl _) _
  have HX : Hold (W.heap[w.heap.size]? = some (.cells #[.string id, .int .i64 k, .int .i64 n, .string t, .slice na nl ncap, .slice ia il icap] 33 (0, 0))) := ⟨by rw [hW]; exact heap_alloc_new w _⟩
  have HB := Hold.mk hb
  have HV := Hold.mk (validW id W hid (hT.below hb))
  have HT := Hold.mk (hT.below hb)

  have HJ := Hold.mk (hj.mono (cle_below hb))
  have HDF : Hold (docF ⟨id, v⟩ = (decide (1 ≤ id.size) && decide (id.size ≤ 16) && Lib.validD id.data.toList && decide (k = 6) && formedF 6 v)) := ⟨by unfold docF idF; rw [← hk]⟩
  obtain ⟨r, hr⟩ : ∃ r, r = docF ⟨id, v⟩ := ⟨_, rfl⟩
  rw [← hr] at HDF ⊢
  clear hb hr hk hj hT
  go_enter Tryd.func17, Tryd.ntmps17
  go_upto_region 1 with (fail)
  rw [← hW]
  clear hW
  obtain ⟨y0, y1, y2, y3, y4, y5⟩ := cells6D HX.out
  by_cases h1 : 1 ≤ id.size
  · by_cases h2 : id.size ≤ 16
    · have k1 : (1 : Int) ≤ (id.size : Int) := by omega
      have k2 : (id.size : Int) ≤ 16 := by omega
      rw [decide_eq_true h1, decide_eq_true h2] at HDF
      clear h1 h2
      go_wp2_with fail
      clear y0 y1 y2 y3 y4 y5
      refine HV.out.mono ?_
      rintro e w2 ⟨rfl, hb2⟩
      replace HB := Hold.mk (HB.out.trans (hb2.mono HB.out.size))
      replace HX := Hold.mk (kept HX.out hb2)
      replace HJ := Hold.mk (HJ.out.mono (cle_below hb2))
      have HB2 := Hold.mk hb2
      clear hb2 HV
      obtain ⟨y0, y1, y2, y3, y4, y5⟩ := cells6D HX.out
      generalize Lib.validD id.data.toList = b at HDF ⊢
      cases b with
      | false =>
        have HR : Hold (r = false) := ⟨by rw [HDF.out]; rfl⟩
        have HBF := HB.out
        go_wp2_with fail
        go_ret
        exact ⟨by rw [HR.out] <;> rfl, HBF⟩
      | true =>
        by_cases h6 : k = 6
        · subst h6
          have HR : Hold (r = formedF 6 v) := ⟨by rw [HDF.out]; simp⟩
          have HF := Hold.mk (Formed_any v _ w2 HJ.out (HT.out.below HB2.out))
          go_wp2_with fail
          clear y0 y1 y2 y3 y4 y5
          refine HF.out.mono ?_
          rintro e w3 ⟨rfl, hb3⟩
          have HBF := HB.out.trans (hb3.mono HB.out.size)
          clear hb3 HF
          go_wp2_with fail
          go_ret
          exact ⟨by rw [HR.out] <;> rfl, HBF⟩
        · have HR : Hold (r = false) := ⟨by rw [HDF.out]; simp [h6]⟩
          have h6b : (k == 6) = false := by simpa using h6
          have HBF := HB.out
          clear h6
          go_wp2_with fail
          go_ret
          exact ⟨by rw [HR.out] <;> rfl, HBF⟩
    · have HR : Hold (r = false) := ⟨by rw [HDF.out]; simp [h2]⟩
      have k1 : (1 : Int) ≤ (id.size : Int) := by omega
      have k2 : ¬ (id.size : Int) ≤ 16 := by omega
      have HBF := HB.out
      clear h1 h2
      go_wp2_with fail
      go_ret
      exact ⟨by rw [HR.out] <;> rfl, HBF⟩
  · have HR : Hold (r = false) := ⟨by rw [HDF.out]; simp [h1]⟩
    have k1 : ¬ (1 : Int) ≤ (id.size : Int) := by omega
    have HBF := HB.out
    clear h1
    go_wp2_with fail
    go_ret
    exact ⟨by rw [HR.out] <;> rfl, HBF⟩

set_option maxRecDepth 100000 in
set_option maxHeartbeats 8000000 in
theorem run1_any (q : QR) (a b : DR) (d da db : List Value) (zb : Nat) (w : World) (hz : w.heap[zb]? = some (.cells d.toArray 28 (0, 0))) (hq : QAt (cf w) q d) (ha : RD (cf w) a da) (hb : RD (cf w) b db) (hsz : ∀ o ∈ q.sort, o.path.size ≤ 1000000) (hT : Tabs w) :
    Calls Tryd.prog 19 #[.agg da.toArray, .agg db.toArray, .pointer (some ⟨zb, 0, none⟩)] w fun e w' => e = .returned (.int .i64 (docC q.sort a b)) ∧ Below w.heap.size w w' := by
  have HQ := Hold.mk hq
  have HA := Hold.mk ha
  have HB := Hold.mk hb
  have HSZ := Hold.mk hsz
  have HT := Hold.mk hT
  obtain ⟨qk, qn, qt, qna, qnl, qnc, qia, qil, qic, sv, fv, rfl, _, _, _⟩ := hq
  obtain ⟨k, n, t, na, nl, ncap, ia, il, icap, rfl, _, _, _⟩ := ha
  obtain ⟨k2, n2, t2, na2, nl2, ncap2, ia2, il2, icap2, rfl, _, _, _⟩ := hb
  have H2 := Hold.mk (TwoB.refl w #[.string a.id, .int .i64 k, .int .i64 n, .string t, .slice na nl ncap, .slice ia il icap] #[.string b.id, .int .i64 k2, .int .i64 n2, .string t2, .slice na2 nl2 ncap2, .slice ia2 il2 icap2] 33 33)
  have HZ := Hold.mk hz
  clear hz hsz hT
  go_enter Tryd.func19, Tryd.ntmps19
  go_upto_region 1 with (fail)
  obtain ⟨W, hW⟩ : ∃ W, W = ((w.alloc (.cells #[.string a.id, .int .i64 k, .int .i64 n, .string t, .slice na nl ncap, .slice ia il icap] 33)).alloc (.cells #[.string b.id, .int .i64 k2, .int .i64 n2, .string t2, .slice na2 nl2 ncap2, .slice ia2 il2 icap2] 33)) := ⟨_, rfl⟩
  rw [← hW] at H2 ⊢
  clear hW
  obtain ⟨y0, y1, y2, y3, y4, y5⟩ := cells6D H2.out.one
  obtain ⟨z0, z1, z2, z3, z4, z5⟩ := cells6D H2.out.two
  obtain ⟨x0, x1, x2, x3, x4, x5, x6, x7, x8⟩ := cells9A (kept HZ.out H2.out.bel)
  have HC := Hold.mk (qcompare_any q a b _ _ _ W (HQ.out.mono (cle_below H2.out.bel)) (RD_mono _ _ _ _ (cle_below H2.out.bel) HA.out) (RD_mono _ _ _ _ (cle_below H2.out.bel) HB.out) HSZ.out (HT.out.below H2.out.bel))
  go_wp2_with fail
  refine HC.out.mono ?_
  rintro e w3 ⟨rfl, hb3⟩
  have HBF := H2.out.bel.trans (hb3.mono H2.out.bel.size)
  clear hb3 HC
  go_wp2_with fail
  go_ret
  exact ⟨rfl, HBF⟩
theorem run1_enters (args : Array Value) (w : World) : (callFunc 19 args).run Tryd.prog w = .ok (.enter 19 args) w := enters_of Tryd.func19 (by kernel_rfl) rfl args w

open Go.Sort in
/-- a world that has grown is the old one, some draws on, with new blocks -/
theorem below_grow {w w' : World} (h : Below w.heap.size w w') (hd : w.drawn ≤ w'.drawn) : ∃ q os', w' = grow (w.drewN q) os' := by
  refine ⟨w'.drawn - w.drawn, w'.heap.extract w.heap.size w'.heap.size, ?_⟩
  obtain ⟨h1, h2, h3, h4, h5⟩ := h
  obtain ⟨hp, tp, dr, os, out⟩ := w
  obtain ⟨hp', tp', dr', os', out'⟩ := w'
  simp only at h1 h2 h3 h4 h5 hd
  subst h1; subst h2; subst h3
  simp only [grow, World.drewN]
  have e1 : dr + (dr' - dr) = dr' := by omega
  have e2 : hp ++ hp'.extract hp.size hp'.size = hp' := by
    apply Array.ext_getElem?
    intro i
    rw [Array.getElem?_append]
    split
    · rename_i hi; exact (h5 i hi).symm
    · rename_i hi
      rw [Array.getElem?_extract]
      by_cases hj : i < hp'.size
      · rw [if_pos (by omega), show hp.size + (i - hp.size) = i by omega]
      · rw [if_neg (by omega), Array.getElem?_eq_none (by omega)]
  rw [e1, e2]

open Go.Sort in
theorem modify_heap (w : World) (g : Nat) (f : Array Value → Array Value) {q : Nat} (hq : q ≠ g) : (mapBlock w g f).heap[q]? = w.heap[q]? := by
  unfold mapBlock
  simp only [Array.getElem?_modify]
  rw [if_neg (fun e => hq e.symm)]
open Go.Sort in
theorem sort_heap {α : Type} [Inhabited α] (enc : α → List Value) (k : Nat) (w : World) (g off m : Nat) (dk : Array α) (os : Array Obj) (q : Nat) (hq : q < w.heap.size) (hne : q ≠ g) : (sortWorldK enc k w g off m dk os).heap[q]? = w.heap[q]? := by
  unfold sortWorldK grow putRowK putRow
  simp only
  rw [Array.getElem?_append_left (by rw [show (mapBlock (Go.Sort.ahead w m) g _).heap.size = w.heap.size by simp [mapBlock, Go.Sort.ahead]]; exact hq), modify_heap _ _ _ hne]
  rfl
open Go.Sort in
theorem sort_grown {α : Type} [Inhabited α] (enc : α → List Value) (k : Nat) (w : World) (g off m : Nat) (dk : Array α) (os : Array Obj) : w.grownBy (sortWorldK enc k w g off m dk os) (some g) :=
  ⟨rfl, rfl, rfl, size_sortWorldK_c enc k w g off m dk os, fun q hq hne => sort_heap enc k w g off m dk os q hq (fun e => hne (by rw [e]))⟩
open Go.Sort in
theorem sort_row {α : Type} [Inhabited α] (enc : α → List Value) (k : Nat) (w : World) (g m : Nat) (dk : Array α) (os : Array Obj) {cur : Array Value} {T : TypeId} (h : w.heap[g]? = some (.cells cur T (0, 0))) : ∃ cur' : Array Value, (sortWorldK enc k w g 0 m dk os).heap[g]? = some (.cells cur' T (0, 0)) ∧ cur'.size = cur.size := by
  have hlt := heap_lt h
  refine ⟨putCells id 0 (flatK enc k dk) cur, ?_, by simp [putCells]⟩
  unfold sortWorldK grow putRowK putRow
  simp only
  rw [Array.getElem?_append_left (by rw [show (mapBlock (Go.Sort.ahead w m) g _).heap.size = w.heap.size by simp [mapBlock, Go.Sort.ahead]]; exact hlt)]
  unfold mapBlock
  simp only [Array.getElem?_modify, if_true]
  rw [show (Go.Sort.ahead w m).heap[g]? = w.heap[g]? from rfl, h]
  rfl
/-- a document with its cells, as they lie in the memory c -/
abbrev DC (c : CF) : Type := { z : DR × List Value // RD c z.1 z.2 ∧ z.2.length = 6 }
theorem rd_six {c : CF} {x : DR} {d : List Value} (h : RD c x d) : d.length = 6 := by
  obtain ⟨k, n, t, na, nl, ncap, ia, il, icap, rfl, _⟩ := h
  rfl
theorem good_swo (l : List OR) {c : CF} : Go.Sort.SWO (ltOf fun (a b : DC c) => docC l a.1.1 b.1.1) where
  irrefl x := by
    have := (good_doc l).anti x.1.1 x.1.1
    unfold ltOf
    refine decide_eq_false ?_
    show ¬ docC l x.1.1 x.1.1 < 0
    omega
  trans x y z h k := by
    unfold ltOf at *
    have h1 : docC l x.1.1 y.1.1 < 0 := of_decide_eq_true h
    have k1 : docC l y.1.1 z.1.1 < 0 := of_decide_eq_true k
    refine decide_eq_true ?_
    show docC l x.1.1 z.1.1 < 0
    have e1 := (good_doc l).anti x.1.1 y.1.1
    have e2 := (good_doc l).anti y.1.1 z.1.1
    have e3 := (good_doc l).anti x.1.1 z.1.1
    have t1 := (good_doc l).trans x.1.1 y.1.1 z.1.1
    have t2 := (good_doc l).trans y.1.1 z.1.1 x.1.1
    omega
  ntrans x y z h k := by
    unfold ltOf at *
    have h1 : ¬ docC l x.1.1 y.1.1 < 0 := of_decide_eq_false h
    have k1 : ¬ docC l y.1.1 z.1.1 < 0 := of_decide_eq_false k
    refine decide_eq_false ?_
    show ¬ docC l x.1.1 z.1.1 < 0
    have e1 := (good_doc l).anti x.1.1 y.1.1
    have e2 := (good_doc l).anti y.1.1 z.1.1
    have e3 := (good_doc l).anti x.1.1 z.1.1
    have t1 := (good_doc l).trans z.1.1 y.1.1 x.1.1
    omega
theorem isAggD (w : World) : (isAgg 33).run Tryd.prog w = .ok true w := Tryd.isAgg33 w
theorem sizeD (w : World) : (Go.sizeOf 33).run Tryd.prog w = .ok 6 w := Tryd.sizeOf33 w

open Go.Sort in
set_option maxHeartbeats 4000000 in
theorem sort_docs (q : QR) (d : List Value) (zb : Nat) (B g p cap : Nat) (xs : List DR) (cs : List Value) (w : World) (ho : OwnS 6 RD 33 B w (.slice (some ⟨g, 0, none⟩) p cap) p xs cs) (hp : 0 < p) (hp2 : p ≤ 1000000)
    (hz : w.heap[zb]? = some (.cells d.toArray 28 (0, 0))) (hzg : zb ≠ g) (hq : QAt (cfN (.slice (some ⟨g, 0, none⟩) p cap) w) q d) (hsz : ∀ o ∈ q.sort, o.path.size ≤ 1000000) (hT : ∀ w', w.grownBy w' (some g) → Tabs w') :
    Calls Tryd.prog 18 #[.slice (some ⟨g, 0, none⟩) p cap, .func (.func 19) #[] #[.pointer (some ⟨zb, 0, none⟩)]] w fun e w' => e = .returned (.tuple #[]) ∧
      ∃ xs' cs', xs'.Perm xs ∧ xs'.Pairwise (leA q.sort) ∧ OwnS 6 RD 33 B w' (.slice (some ⟨g, 0, none⟩) p cap) p xs' cs' ∧ w.grownBy w' (some g) := by
  obtain ⟨c0, hc0⟩ : ∃ c0, c0 = cfN (.slice (some ⟨g, 0, none⟩) p cap) w := ⟨_, rfl⟩
  have hlen := ho.len
  have hch : ∀ i : Fin p, ∃ z : DC c0, xs[i.1]? = some z.1.1 ∧ ∀ (j : Nat) u, z.1.2[j]? = some u → cs[i.1 * 6 + j]? = some u := fun i => by
    have hi : i.1 < xs.length := by rw [hlen]; exact i.2
    obtain ⟨e, h1, h2, h3⟩ := ho.row.2 i.1 _ (List.getElem?_eq_getElem hi)
    rw [← hc0] at h3
    exact ⟨⟨(xs[i.1], e), h3, h1⟩, List.getElem?_eq_getElem hi, h2⟩
  haveI : Inhabited (DC c0) := ⟨Classical.choose (hch ⟨0, hp⟩)⟩
  obtain ⟨ds, hds⟩ : ∃ ds : Array (DC c0), ds = Array.ofFn fun i : Fin p => Classical.choose (hch i) := ⟨_, rfl⟩
  have hdsz : ds.size = p := by rw [hds]; simp
  have hdi : ∀ i (hi : i < p), xs[i]? = some ds[i]!.1.1 ∧ ∀ (j : Nat) u, ds[i]!.1.2[j]? = some u → cs[i * 6 + j]? = some u := fun i hi => by
    have e : ds[i]! = Classical.choose (hch ⟨i, hi⟩) := by
      rw [getElem!_pos ds i (by omega)]
      simp [hds]
    rw [e]
    exact Classical.choose_spec (hch ⟨i, hi⟩)
  obtain ⟨enc, henc⟩ : ∃ enc : DC c0 → List Value, enc = fun z => z.1.2 := ⟨_, rfl⟩
  have hk : ∀ x, (enc x).length = 6 := fun x => by rw [henc]; exact x.2.2
  have h1 : ∀ x, ∀ v ∈ enc x, v.oneCell' = true := fun x => by rw [henc]; exact RD_one _ _ _ x.2.1
  obtain ⟨cur, hg, hcs, htk⟩ : ∃ cur, w.heap[g]? = some (.cells cur 33 (0, 0)) ∧ cur.size = cap * 6 ∧ cur.toList.take (p * 6) = cs := by
    rcases ho.own.2 with ⟨_, hn⟩ | ⟨g', cap', cur, hv, _, hg, _, _, hcs, htk⟩
    · omega
    · simp only [Value.slice.injEq, Option.some.injEq, Addr.mk.injEq, and_true, true_and] at hv
      obtain ⟨rfl, rfl⟩ := hv
      exact ⟨cur, hg, hcs, htk⟩
  obtain ⟨hcap, hcap2⟩ : p ≤ cap ∧ cap ≤ 9223372036854775807 := by
    obtain ⟨_, _, e, h, h'⟩ := own_shapeA ho.own
    cases e; exact ⟨h, h'⟩
  have hH : HoldsK enc 6 w g 0 ds := fun t ht => by
    rw [size_flatK, hdsz] at ht
    have hd1 : t / 6 < p := by omega
    obtain ⟨_, h2⟩ := hdi (t / 6) hd1
    have hm : t % 6 < (ds[t / 6]!).1.2.length := by rw [ds[t / 6]!.2.2]; omega
    have h3 := h2 (t % 6) _ (List.getElem?_eq_getElem hm)
    rw [show t / 6 * 6 + t % 6 = t by omega] at h3
    have h4 := ho.own.cells (g := g) rfl t _ h3
    rw [addr_at] at h4
    refine ⟨?_, free_box hg _⟩
    rw [Nat.zero_add, h4, get_flatK enc 6 ds t (by rw [hdsz]; exact ht), henc]
    simp only [id]
    exact congrArg some (getElem!_pos (ds[t / 6]!).1.2 (t % 6) hm).symm
  have hcmp : CmpLays Tryd.prog 19 #[.pointer (some ⟨zb, 0, none⟩)] enc 6 (fun a b => docC q.sort a.1.1 b.1.1) g 0 ds.size w := fun m os dk hs x y => by
    have hgr := sort_grown enc 6 w g 0 m dk os
    have hcf : CLe c0 (cf (sortWorldK enc 6 w g 0 m dk os)) := fun b o u hu => by
      rw [hc0] at hu
      unfold cfN at hu
      split at hu
      · cases hu
      · rename_i hne
        exact hgr.cell hu (fun e => hne e.symm)
    have hzs : (sortWorldK enc 6 w g 0 m dk os).heap[zb]? = some (.cells d.toArray 28 (0, 0)) := by
      rw [sort_heap enc 6 w g 0 m dk os zb (heap_lt hz) hzg]; exact hz
    have hr := run1_any q x.1.1 y.1.1 d x.1.2 y.1.2 zb _ hzs ((hc0 ▸ hq).mono hcf) (RD_mono _ _ _ _ hcf x.2.1) (RD_mono _ _ _ _ hcf y.2.1) hsz (hT _ hgr)
    have hr2 := calls_drawn hr (fun w' h => by cases h.1)
    have ex : enc x = x.1.2 := by rw [henc]
    have ey : enc y = y.1.2 := by rw [henc]
    rw [ex, ey]
    exact Calls.mono hr2 (fun e w' h => ⟨h.1.1, below_grow h.1.2 h.2⟩)
  have hS := AnyQ.slices_SortFunc Tryd.laysSF 6 isAggD sizeD enc hk h1 (fun a b => docC q.sort a.1.1 b.1.1) (good_swo q.sort) 19 #[.pointer (some ⟨zb, 0, none⟩)] g 0 cap ds w (run1_enters) hcmp hH (heap_lt hg) (by omega)
  rw [hdsz] at hS
  refine Calls.mono hS ?_
  rintro e w' ⟨rfl, ds', m, os, hperm, hsort, rfl⟩
  refine ⟨rfl, ?_⟩
  have hsz' : ds'.size = p := by rw [hperm.1, hdsz]
  have hH' := holdsK_sortWorldK_c enc 6 w g 0 ds ds' m os hH (heap_lt hg) hperm.1
  have hgr := sort_grown enc 6 w g 0 m ds' os
  obtain ⟨cur', hg', hcs'⟩ := sort_row enc 6 w g m ds' os hg
  have hxs : xs = ds.toList.map fun z => z.1.1 := by
    refine List.ext_getElem? fun i => ?_
    rw [List.getElem?_map]
    by_cases hi : i < p
    · rw [(hdi i hi).1, Array.getElem?_toList, Array.getElem?_eq_getElem (by omega), getElem!_pos ds i (by omega)]; rfl
    · rw [List.getElem?_eq_none (by omega), List.getElem?_eq_none (by rw [Array.length_toList]; omega)]; rfl
  have hcl : (cur'.toList.take (p * 6)).length = p * 6 := by
    rw [List.length_take, Array.length_toList]; omega
  refine ⟨ds'.toList.map fun z => z.1.1, cur'.toList.take (p * 6), ?_, ?_, ⟨⟨hcl, .inr ⟨g, cap, cur', rfl, (ho.own.lt g rfl).1, hg', hcap, ?_, by rw [hcs', hcs], rfl⟩⟩, by rw [List.length_map, Array.length_toList]; exact hsz', ⟨by rw [hcl, List.length_map, Array.length_toList, hsz'], fun i x hx => ?_⟩, Nat.le_trans ho.le hgr.size⟩, hgr⟩
  · rw [hxs]
    have h5 := hperm.2.2
    rw [Array.extract_eq_self_of_le (by omega), Array.extract_eq_self_of_le (by omega)] at h5
    exact h5.map _
  · rw [List.pairwise_map]
    refine List.pairwise_iff_getElem.2 fun i j hi hj hij => ?_
    rw [Array.length_toList] at hi hj
    have := hsort i j (Nat.zero_le _) hij (by omega)
    rw [getElem!_pos ds' i hi, getElem!_pos ds' j hj] at this
    unfold ltOf at this
    exact of_decide_eq_false this
  · unfold maxLen; omega
  · rw [List.getElem?_map, Option.map_eq_some_iff] at hx
    obtain ⟨z, hz1, rfl⟩ := hx
    have hi : i < p := by have := (List.getElem?_eq_some_iff.1 hz1).1; rw [Array.length_toList] at this; omega
    have hzi : ds'[i]! = z := by
      rw [getElem!_pos ds' i (by omega)]
      rw [Array.getElem?_toList, Array.getElem?_eq_getElem (by omega)] at hz1
      exact Option.some.inj hz1
    refine ⟨z.1.2, z.2.2, fun j u hu => ?_, RD_mono _ _ _ _ (fun b o v hv => ?_) z.2.1⟩
    · have hj : j < 6 := by rw [← z.2.2]; exact (List.getElem?_eq_some_iff.1 hu).1
      have hc := (HoldsK.cell hH' (i := i) (c := j) (by omega) hj).1
      rw [hzi, Nat.zero_add] at hc
      have hu2 : (enc z)[j]! = u := by
        rw [henc]
        obtain ⟨hjl, e⟩ := List.getElem?_eq_some_iff.1 hu
        show z.1.2[j]! = u
        exact (getElem!_pos z.1.2 j hjl).trans e
      rw [hu2] at hc
      rw [List.getElem?_take, if_pos (by omega)]
      simp only [World.cell?] at hc
      rw [hg'] at hc
      simpa using hc
    · rw [hc0] at hv
      unfold cfN at hv ⊢
      split at hv
      · cases hv
      · rename_i hne
        rw [if_neg hne]
        exact hgr.cell hv (fun e => hne e.symm)

end Go.Proofs.YtkhhbckpddkhlaaDoor
