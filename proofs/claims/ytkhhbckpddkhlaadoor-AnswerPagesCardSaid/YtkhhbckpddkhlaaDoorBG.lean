/- Answers: Run of the program, told in a memory: what it hands back lies there, or in new blocks. (printed out of XAN, XAO, XAP) -/
import Derived.Test.YtkhhbckpddkhlaaDoorBF
namespace Go.Proofs.YtkhhbckpddkhlaaDoor
open Go.Shelf Go.RowKit

/-- below B0 the memory c, else m -/
def cfR (c : CF) (B0 : Nat) (m : CF) : CF := fun b o => if b < B0 then c b o else m b o
theorem cfR_mono {c : CF} {B0 : Nat} {m m' : CF} (h : CLe m m') : CLe (cfR c B0 m) (cfR c B0 m') := fun b o v hv => by
  unfold cfR at hv ⊢
  split at hv
  · rename_i hb; rw [if_pos hb]; exact hv
  · rename_i hb; rw [if_neg hb]; exact h _ _ _ hv
theorem cfR_in {c : CF} {B0 : Nat} {w : World} (h : CLe c (cfU B0 w)) (m : CF) : CLe c (cfR c B0 m) := fun b o v hv => by
  unfold cfR
  rw [if_pos (cfU_lt (h _ _ _ hv)).1]; exact hv
theorem cfR_cf {c m : CF} {B0 : Nat} {w : World} (h : CLe c (cf w)) (hm : CLe m (cf w)) : CLe (cfR c B0 m) (cf w) := fun b o v hv => by
  unfold cfR at hv
  split at hv
  · exact h _ _ _ hv
  · exact hm _ _ _ hv
/-- a document, told in c where that lies below B0 -/
def RDs (c : CF) (B0 : Nat) : Rep DR := fun m x d => RD (cfR c B0 m) x d
theorem RDs_mono (c : CF) (B0 : Nat) : Mono (RDs c B0) := fun _ _ _ _ h hx => RD_mono _ _ _ _ (cfR_mono h) hx
theorem RDs_one (c : CF) (B0 : Nat) : ∀ (m : CF) (x : DR) (d : List Value), RDs c B0 m x d → ∀ u ∈ d, u.oneCell' = true := fun _ _ _ h => RD_one _ _ _ h

open Go.Sort in
set_option maxHeartbeats 4000000 in
theorem sort_docsS {c : CF} {B0 : Nat} (q : QR) (d : List Value) (zb : Nat) (B g p cap : Nat) (xs : List DR) (cs : List Value) (w : World) (ho : OwnS 6 (RDs c B0) 33 B w (.slice (some ⟨g, 0, none⟩) p cap) p xs cs) (hp : 0 < p) (hp2 : p ≤ 1000000)
    (hz : w.heap[zb]? = some (.cells d.toArray 28 (0, 0))) (hzg : zb ≠ g) (hq : QAt (cfN (.slice (some ⟨g, 0, none⟩) p cap) w) q d) (hcw : CLe c (cfU B0 w)) (hB0 : B0 ≤ B) (hsz : ∀ o ∈ q.sort, o.path.size ≤ 1000000) (hT : ∀ w', w.grownBy w' (some g) → Tabs w') :
    Calls Tryd.prog 18 #[.slice (some ⟨g, 0, none⟩) p cap, .func (.func 19) #[] #[.pointer (some ⟨zb, 0, none⟩)]] w fun e w' => e = .returned (.tuple #[]) ∧
      ∃ xs' cs', xs'.Perm xs ∧ xs'.Pairwise (leA q.sort) ∧ OwnS 6 (RDs c B0) 33 B w' (.slice (some ⟨g, 0, none⟩) p cap) p xs' cs' ∧ w.grownBy w' (some g) := by
  obtain ⟨c0, hc0⟩ : ∃ c0, c0 = cfR c B0 (cfN (.slice (some ⟨g, 0, none⟩) p cap) w) := ⟨_, rfl⟩
  have hgB := (ho.low g rfl).1
  have hlen := ho.len
  have hch : ∀ i : Fin p, ∃ z : DC c0, xs[i.1]? = some z.1.1 ∧ ∀ (j : Nat) u, z.1.2[j]? = some u → cs[i.1 * 6 + j]? = some u := fun i => by
    have hi : i.1 < xs.length := by rw [hlen]; exact i.2
    obtain ⟨e, h1, h2, h3⟩ := ho.row.2 i.1 _ (List.getElem?_eq_getElem hi)
    have h3 : RD c0 xs[i.1] e := by rw [hc0]; exact h3
    exact ⟨⟨(xs[i.1], e), h3, h1⟩, List.getElem?_eq_getElem hi, h2⟩
  haveI : Inhabited (DC c0) := ⟨Classical.choose (hch ⟨0, hp⟩)⟩
  obtain ⟨ds, hds⟩ : ∃ ds : Array (DC c0), ds = Array.ofFn fun i : Fin p => Classical.choose (hch i) := ⟨_, rfl⟩
  have hdsz : ds.size = p := by rw [hds]; simp
  have hdi : ∀ i (hi : i < p), xs[i]? = some ds[i]!.1.1 ∧ ∀ (j : Nat) u, ds[i]!.1.2[j]? = some u → cs[i * 6 + j]? = some u := fun i hi => by
    have e : ds[i]! = Classical.choose (hch ⟨i, hi⟩) := by
      rw [getElem!_pos ds i (by omega)]
      simp [hds]
    rw [e]
    exact Classical.choose_spec (hch ⟨i, hi⟩)
  obtain ⟨enc, henc⟩ : ∃ enc : DC c0 → List Value, enc = fun z => z.1.2 := ⟨_, rfl⟩
  have hk : ∀ x, (enc x).length = 6 := fun x => by rw [henc]; exact x.2.2
  have h1 : ∀ x, ∀ v ∈ enc x, v.oneCell' = true := fun x => by rw [henc]; exact RD_one _ _ _ x.2.1
  obtain ⟨cur, hg, hcs, htk⟩ : ∃ cur, w.heap[g]? = some (.cells cur 33 (0, 0)) ∧ cur.size = cap * 6 ∧ cur.toList.take (p * 6) = cs := by
    rcases ho.own.2 with ⟨_, hn⟩ | ⟨g', cap', cur, hv, _, hg, _, _, hcs, htk⟩
    · omega
    · simp only [Value.slice.injEq, Option.some.injEq, Addr.mk.injEq, and_true, true_and] at hv
      obtain ⟨rfl, rfl⟩ := hv
      exact ⟨cur, hg, hcs, htk⟩
  obtain ⟨hcap, hcap2⟩ : p ≤ cap ∧ cap ≤ 9223372036854775807 := by
    obtain ⟨_, _, e, h, h'⟩ := own_shapeA ho.own
    cases e; exact ⟨h, h'⟩
  have hH : HoldsK enc 6 w g 0 ds := fun t ht => by
    rw [size_flatK, hdsz] at ht
    have hd1 : t / 6 < p := by omega
    obtain ⟨_, h2⟩ := hdi (t / 6) hd1
    have hm : t % 6 < (ds[t / 6]!).1.2.length := by rw [ds[t / 6]!.2.2]; omega
    have h3 := h2 (t % 6) _ (List.getElem?_eq_getElem hm)
    rw [show t / 6 * 6 + t % 6 = t by omega] at h3
    have h4 := ho.own.cells (g := g) rfl t _ h3
    rw [addr_at] at h4
    refine ⟨?_, free_box hg _⟩
    rw [Nat.zero_add, h4, get_flatK enc 6 ds t (by rw [hdsz]; exact ht), henc]
    simp only [id]
    exact congrArg some (getElem!_pos (ds[t / 6]!).1.2 (t % 6) hm).symm
  have hcmp : CmpLays Tryd.prog 19 #[.pointer (some ⟨zb, 0, none⟩)] enc 6 (fun a b => docC q.sort a.1.1 b.1.1) g 0 ds.size w := fun m os dk hs x y => by
    have hgr := sort_grown enc 6 w g 0 m dk os
    have hcn : CLe (cfN (.slice (some ⟨g, 0, none⟩) p cap) w) (cf (sortWorldK enc 6 w g 0 m dk os)) := fun b o u hu => by
      unfold cfN at hu
      split at hu
      · cases hu
      · rename_i hne
        exact hgr.cell hu (fun e => hne e.symm)
    have hcf : CLe c0 (cf (sortWorldK enc 6 w g 0 m dk os)) := fun b o u hu => by
      rw [hc0] at hu
      unfold cfR at hu
      split at hu
      · obtain ⟨h1, h2⟩ := cfU_lt (hcw _ _ _ hu)
        exact hgr.cell h2 (fun e => by have e2 : b = g := Option.some.inj e; omega)
      · exact hcn _ _ _ hu
    have hzs : (sortWorldK enc 6 w g 0 m dk os).heap[zb]? = some (.cells d.toArray 28 (0, 0)) := by
      rw [sort_heap enc 6 w g 0 m dk os zb (heap_lt hz) hzg]; exact hz
    have hr := run1_any q x.1.1 y.1.1 d x.1.2 y.1.2 zb _ hzs (hq.mono hcn) (RD_mono _ _ _ _ hcf x.2.1) (RD_mono _ _ _ _ hcf y.2.1) hsz (hT _ hgr)
    have hr2 := calls_drawn hr (fun w' h => by cases h.1)
    have ex : enc x = x.1.2 := by rw [henc]
    have ey : enc y = y.1.2 := by rw [henc]
    rw [ex, ey]
    exact Calls.mono hr2 (fun e w' h => ⟨h.1.1, below_grow h.1.2 h.2⟩)
  have hS := AnyQ.slices_SortFunc Tryd.laysSF 6 isAggD sizeD enc hk h1 (fun a b => docC q.sort a.1.1 b.1.1) (good_swo q.sort) 19 #[.pointer (some ⟨zb, 0, none⟩)] g 0 cap ds w (run1_enters) hcmp hH (heap_lt hg) (by omega)
  rw [hdsz] at hS
  refine Calls.mono hS ?_
  rintro e w' ⟨rfl, ds', m, os, hperm, hsort, rfl⟩
  refine ⟨rfl, ?_⟩
  have hsz' : ds'.size = p := by rw [hperm.1, hdsz]
  have hH' := holdsK_sortWorldK_c enc 6 w g 0 ds ds' m os hH (heap_lt hg) hperm.1
  have hgr := sort_grown enc 6 w g 0 m ds' os
  obtain ⟨cur', hg', hcs'⟩ := sort_row enc 6 w g m ds' os hg
  have hxs : xs = ds.toList.map fun z => z.1.1 := by
    refine List.ext_getElem? fun i => ?_
    rw [List.getElem?_map]
    by_cases hi : i < p
    · rw [(hdi i hi).1, Array.getElem?_toList, Array.getElem?_eq_getElem (by omega), getElem!_pos ds i (by omega)]; rfl
    · rw [List.getElem?_eq_none (by omega), List.getElem?_eq_none (by rw [Array.length_toList]; omega)]; rfl
  have hcl : (cur'.toList.take (p * 6)).length = p * 6 := by
    rw [List.length_take, Array.length_toList]; omega
  refine ⟨ds'.toList.map fun z => z.1.1, cur'.toList.take (p * 6), ?_, ?_, ⟨⟨hcl, .inr ⟨g, cap, cur', rfl, (ho.own.lt g rfl).1, hg', hcap, ?_, by rw [hcs', hcs], rfl⟩⟩, by rw [List.length_map, Array.length_toList]; exact hsz', ⟨by rw [hcl, List.length_map, Array.length_toList, hsz'], fun i x hx => ?_⟩, Nat.le_trans ho.le hgr.size⟩, hgr⟩
  · rw [hxs]
    have h5 := hperm.2.2
    rw [Array.extract_eq_self_of_le (by omega), Array.extract_eq_self_of_le (by omega)] at h5
    exact h5.map _
  · rw [List.pairwise_map]
    refine List.pairwise_iff_getElem.2 fun i j hi hj hij => ?_
    rw [Array.length_toList] at hi hj
    have := hsort i j (Nat.zero_le _) hij (by omega)
    rw [getElem!_pos ds' i hi, getElem!_pos ds' j hj] at this
    unfold ltOf at this
    exact of_decide_eq_false this
  · unfold maxLen; omega
  · rw [List.getElem?_map, Option.map_eq_some_iff] at hx
    obtain ⟨z, hz1, rfl⟩ := hx
    have hi : i < p := by have := (List.getElem?_eq_some_iff.1 hz1).1; rw [Array.length_toList] at this; omega
    have hzi : ds'[i]! = z := by
      rw [getElem!_pos ds' i (by omega)]
      rw [Array.getElem?_toList, Array.getElem?_eq_getElem (by omega)] at hz1
      exact Option.some.inj hz1
    refine ⟨z.1.2, z.2.2, fun j u hu => ?_, RD_mono _ _ _ _ (fun b o v hv => ?_) z.2.1⟩
    · have hj : j < 6 := by rw [← z.2.2]; exact (List.getElem?_eq_some_iff.1 hu).1
      have hc := (HoldsK.cell hH' (i := i) (c := j) (by omega) hj).1
      rw [hzi, Nat.zero_add] at hc
      have hu2 : (enc z)[j]! = u := by
        rw [henc]
        obtain ⟨hjl, e⟩ := List.getElem?_eq_some_iff.1 hu
        show z.1.2[j]! = u
        exact (getElem!_pos z.1.2 j hjl).trans e
      rw [hu2] at hc
      rw [List.getElem?_take, if_pos (by omega)]
      simp only [World.cell?] at hc
      rw [hg'] at hc
      simpa using hc
    · rw [hc0] at hv
      unfold cfR at hv ⊢
      split at hv
      · rename_i hb0; rw [if_pos hb0]; exact hv
      rename_i hb0
      rw [if_neg hb0]
      unfold cfN at hv ⊢
      split at hv
      · cases hv
      · rename_i hne
        rw [if_neg hne]
        exact hgr.cell hv (fun e => hne e.symm)


/-- the loop over the documents -/
structure RunLS (c : CF) (B0 : Nat) (q : QR) (l : List DR) (Q9 : Array Value) (w wr : World) (bm : Nat) (sl : Value) (j p : Nat) (cs : List Value) : Prop where
  qb : wr.heap[w.heap.size]? = some (.cells Q9 28 (0, 0))
  sm : SeenM bm (l.take j) wr
  low : w.heap.size < bm
  own : OwnS 6 (RDs c B0) 33 (bm + 1) wr sl p (keepA q (l.take j)) cs
  ok : okA [] (l.take j) = true
  bel : Below w.heap.size w wr
theorem RunLS.quiet {c : CF} {B0 : Nat} {q : QR} {l : List DR} {Q9 : Array Value} {w wr w' : World} {bm : Nat} {sl : Value} {j p : Nat} {cs : List Value} (h : RunLS c B0 q l Q9 w wr bm sl j p cs) (hb : Below wr.heap.size wr w') : RunLS c B0 q l Q9 w w' bm sl j p cs :=
  ⟨kept h.qb hb, h.sm.quiet hb, h.low, h.own.quiet (RDs_mono c B0) hb, h.ok, h.bel.trans (hb.mono h.bel.size)⟩
/-- an id more, a document or none -/
theorem RunLS.id_ {c : CF} {B0 : Nat} {q : QR} {l : List DR} {Q9 : Array Value} {w wr w' : World} {bm : Nat} {sl : Value} {j p : Nat} {cs : List Value} {x : DR} (h : RunLS c B0 q l Q9 w wr bm sl j p cs) (hx : l[j]? = some x) (hm : SeenM bm (l.take j ++ [x]) w') (hg : wr.grownBy w' (some bm)) :
    w'.heap[w.heap.size]? = some (.cells Q9 28 (0, 0)) ∧ SeenM bm (l.take (j + 1)) w' ∧ OwnS 6 (RDs c B0) 33 (bm + 1) w' sl p (keepA q (l.take j)) cs ∧ Below w.heap.size w w' ∧ Below bm wr w' := by
  have hlow := h.low
  have hsl : ∀ g, sl.ownBlock = some g → bm + 1 ≤ g ∧ g < wr.heap.size := h.own.low
  refine ⟨?_, by rw [take_nextW hx]; exact hm, ⟨own_grownA h.own.own hg (fun q hq e => by have := (hsl q hq).1; have := Option.some.inj e; omega), h.own.len, h.own.row.mono (RDs_mono c B0) (fun b o u hu => ?_), Nat.le_trans h.own.le hg.size⟩, h.bel.grown hg h.bel.size (fun k hk => by have := Option.some.inj hk; omega), (Below.refl bm wr).grown hg (Nat.le_of_lt h.sm.lt) (fun k hk => by have := Option.some.inj hk; omega)⟩
  · rw [hg.block _ (heap_lt h.qb) (fun e => by have := Option.some.inj e; omega)]; exact h.qb
  · unfold cfN at hu ⊢
    split at hu
    · cases hu
    · rename_i hne
      rw [if_neg hne]
      refine hg.cell hu (fun e => ?_)
      have e2 : b = bm := Option.some.inj e
      subst e2
      obtain ⟨D, ⟨es, cl, hmp, _⟩, _⟩ := h.sm
      unfold World.cell? at hu
      rw [hmp] at hu
      cases hu

/-- a part of a row of the call's own, in block g -/
structure PRowS (c : CF) (B0 : Nat) (B : Nat) (w : World) (sl : Value) (xs : List DR) : Prop where
  shape : ∃ a cap, sl = .slice a xs.length cap ∧ xs.length ≤ cap ∧ cap ≤ 9223372036854775807
  low : ∀ g, sl.ownBlock = some g → B ≤ g ∧ ∃ cur, w.heap[g]? = some (.cells cur 33 (0, 0))
  lies : ∀ (i : Nat) x, xs[i]? = some x → ∃ g off cap d, sl = .slice (some ⟨g, off, none⟩) xs.length cap ∧ d.length = 6 ∧ (∀ (j : Nat) u, d[j]? = some u → w.cell? ⟨g, off + i * 6 + j, none⟩ = some u) ∧ RDs c B0 (cfN sl w) x d
theorem PRowS.of_own {c : CF} {B0 : Nat} {B : Nat} {w : World} {sl : Value} {p : Nat} {xs : List DR} {cs : List Value} (h : OwnS 6 (RDs c B0) 33 B w sl p xs cs) : PRowS c B0 B w sl xs := by
  obtain ⟨a, cap, rfl, h1, h2⟩ := own_shapeA h.own
  have hl := h.len
  subst hl
  refine ⟨⟨a, cap, rfl, h1, h2⟩, fun g hg => ⟨(h.low g hg).1, ?_⟩, fun i x hx => ?_⟩
  · rcases h.own.2 with ⟨hv, hn⟩ | ⟨g', cap', cur, hv, _, hg', _⟩
    · rw [hv] at hg; cases hg
    · rw [hv] at hg
      obtain rfl : g' = g := by simpa [Value.ownBlock] using hg
      exact ⟨cur, hg'⟩
  · rcases id h.own.2 with ⟨hv, hn⟩ | ⟨g', cap', cur, hv, _, hg', _⟩
    · have := (List.getElem?_eq_some_iff.1 hx).1; omega
    · obtain ⟨d, h3, h4, h5⟩ := h.row.2 i x hx
      refine ⟨g', 0, cap', d, hv, h3, fun j u hu => ?_, h5⟩
      have := h.own.cells (g := g') (by rw [hv]; rfl) (i * 6 + j) u (h4 j u hu)
      rw [addr_at] at this
      rw [Nat.zero_add]; exact this
theorem PRowS.sat {c : CF} {B0 : Nat} {B : Nat} {w : World} {sl : Value} {xs : List DR} (h : PRowS c B0 B w sl xs) : SAt 6 (RDs c B0) (cf w) sl xs := by
  obtain ⟨a, cap, e, h1, h2⟩ := h.shape
  refine ⟨a, cap, e, h1, h2, fun i x hx => ?_⟩
  obtain ⟨g, off, cap', d, e2, h3, h4, h5⟩ := h.lies i x hx
  rw [e] at e2
  cases e2
  exact ⟨g, off, d, rfl, h3, h4, RDs_mono c B0 _ _ _ _ (cfN_cf _ _) h5⟩
theorem PRowS.quiet {c : CF} {B0 : Nat} {B : Nat} {w w' : World} {sl : Value} {xs : List DR} (h : PRowS c B0 B w sl xs) (hb : Below w.heap.size w w') : PRowS c B0 B w' sl xs := by
  refine ⟨h.shape, fun g hg => ⟨(h.low g hg).1, ?_⟩, fun i x hx => ?_⟩
  · obtain ⟨cur, hc⟩ := (h.low g hg).2
    exact ⟨cur, kept hc hb⟩
  · obtain ⟨g, off, cap', d, e2, h3, h4, h5⟩ := h.lies i x hx
    exact ⟨g, off, cap', d, e2, h3, fun j u hu => cle_below hb _ _ _ (h4 j u hu), RDs_mono c B0 _ _ _ _ (cfN_quiet hb) h5⟩
/-- the end of it -/
theorem prow_tailS {c : CF} {B0 : Nat} {ts : TypeId} (a : Option Addr) (len cap k : Nat) (hts : Tryd.prog.underlying ts = some (.slice 33)) (he : Tryd.prog.elem ts = 33) (hk : k ≤ len) (hc : len ≤ cap) (hcap : cap ≤ 9223372036854775807) :
    ∃ a', (∀ w, (Instr.slice ts (.slice a len cap) (some (.int .i64 (k : Int))) Option.none Option.none).run Tryd.prog w = .ok (.slice a' (len - k) (cap - k)) w) ∧
      ∀ {B : Nat} {w : World} {xs : List DR}, xs.length = len → PRowS c B0 B w (.slice a len cap) xs → PRowS c B0 B w (.slice a' (len - k) (cap - k)) (xs.drop k) := by
  obtain ⟨i0, hi, hz1⟩ := Option.map_eq_some_iff.1 infoDp
  have hz2 : i0.size = 6 := by have := congrArg (fun p => p.2.1) hz1; simpa using this
  have hrun : ∀ w, (Instr.slice ts (.slice a len cap) (some (.int .i64 (k : Int))) Option.none Option.none).run Tryd.prog w = .ok (sliced a k len cap 6) w := fun w => by
    rw [run_slice_l (P := Tryd.prog) (w := w) ts a len cap (by rw [he]; exact hts) .i64 (k : Int) (by omega) (by omega), he]
    simp [sizeOf, typeInfo, hi, hz2, Result.andThen]
  by_cases h0 : cap = k
  · refine ⟨a, fun w => by rw [hrun w]; unfold sliced; rw [if_pos h0], fun {B w xs} hl h => ?_⟩
    have hx : xs.drop k = [] := List.drop_eq_nil_of_le (by omega)
    rw [hx]
    have hz : len - k = 0 := by omega
    rw [hz]
    exact ⟨⟨a, cap - k, rfl, Nat.zero_le _, by omega⟩, fun g hg => h.low g (by rw [own_blk] at hg ⊢; exact hg), fun i x hx => by simp at hx⟩
  · refine ⟨a.map fun x => x.add (k * 6), fun w => by rw [hrun w]; unfold sliced; rw [if_neg h0], fun {B w xs} hl h => ?_⟩
    have hob : (Value.slice (a.map fun x => x.add (k * 6)) (len - k) (cap - k)).ownBlock = (Value.slice a len cap).ownBlock := by
      cases a with
      | none => rfl
      | some x =>
        obtain ⟨b, o, v⟩ := x
        simp only [Option.map_some, Value.ownBlock]
        unfold Addr.add; split <;> rfl
    refine ⟨⟨_, _, by rw [List.length_drop, hl], by rw [List.length_drop]; omega, by omega⟩, fun g hg => h.low g (by rw [← hob]; exact hg), fun i x hx => ?_⟩
    rw [List.getElem?_drop] at hx
    obtain ⟨g, off, cap', d, e2, h3, h4, h5⟩ := h.lies (k + i) x hx
    simp only [Value.slice.injEq] at e2
    obtain ⟨rfl, _, rfl⟩ := e2
    have e : (⟨g, off, Option.none⟩ : Addr).add (k * 6) = ⟨g, off + k * 6, Option.none⟩ := addr_addA _ _ _
    refine ⟨g, off + k * 6, cap - k, d, by rw [List.length_drop, hl, Option.map_some, e], h3, fun j u hu => ?_, RDs_mono c B0 _ _ _ _ (fun b o u hu => ?_) h5⟩
    · have := h4 j u hu
      rw [Nat.add_mul] at this
      rw [show off + k * 6 + i * 6 + j = off + (k * 6 + i * 6) + j by omega]; exact this
    · unfold cfN at hu ⊢
      rw [hob]; exact hu
/-- its beginning -/
theorem prow_headS {c : CF} {B0 : Nat} {ts : TypeId} (a : Option Addr) (len cap k : Nat) (hts : Tryd.prog.underlying ts = some (.slice 33)) (he : Tryd.prog.elem ts = 33) (hk : k ≤ len) (hc : len ≤ cap) :
    (∀ w, (Instr.slice ts (.slice a len cap) Option.none (some (.int .i64 (k : Int))) Option.none).run Tryd.prog w = .ok (.slice a k cap) w) ∧
      ∀ {B : Nat} {w : World} {xs : List DR}, xs.length = len → PRowS c B0 B w (.slice a len cap) xs → PRowS c B0 B w (.slice a k cap) (xs.take k) := by
  obtain ⟨i0, hi, hz1⟩ := Option.map_eq_some_iff.1 infoDp
  have hz2 : i0.size = 6 := by have := congrArg (fun p => p.2.1) hz1; simpa using this
  refine ⟨fun w => ?_, fun {B w xs} hl h => ?_⟩
  · rw [run_slice_h (P := Tryd.prog) (w := w) ts a len cap (by rw [he]; exact hts) .i64 (k : Int) (by omega) (by omega), he]
    simp [sizeOf, typeInfo, hi, hz2, Result.andThen, sliced]
    intro _
    cases a with
    | none => rfl
    | some x => simp [Addr.add]
  · obtain ⟨a2, cap2, e, h1, h2⟩ := h.shape
    cases e
    refine ⟨⟨a, cap, by rw [List.length_take, Nat.min_eq_left (by omega)], by rw [List.length_take]; omega, h2⟩, fun g hg => h.low g (by rw [own_blk] at hg ⊢; exact hg), fun i x hx => ?_⟩
    rw [List.getElem?_take] at hx
    split at hx
    · obtain ⟨g, off, cap', d, e2, h3, h4, h5⟩ := h.lies i x hx
      cases e2
      exact ⟨g, off, cap, d, by rw [List.length_take, Nat.min_eq_left (by omega)], h3, h4, h5⟩
    · cases hx
/-- one document's value is stored -/
theorem PRowS.set {c : CF} {B0 : Nat} {B : Nat} {w : World} {g off m cap i : Nat} {xs : List DR} {x y : DR} {s : ByteArray} {c0 c1 c2 c3 c4 : Value} (h : PRowS c B0 B w (.slice (some ⟨g, off, none⟩) m cap) xs) (hx : xs[i]? = some x) (hs : x.id = s)
    (hy : RDs c B0 (cfN (.slice (some ⟨g, off, none⟩) m cap) w) y [.string s, c0, c1, c2, c3, c4]) : PRowS c B0 B (set5A w g (off + i * 6 + 1) c0 c1 c2 c3 c4) (.slice (some ⟨g, off, none⟩) m cap) (xs.set i y) ∧ w.grownBy (set5A w g (off + i * 6 + 1) c0 c1 c2 c3 c4) (some g) := by
  obtain ⟨a2, cap2, e, h1, h2⟩ := h.shape
  cases e
  obtain ⟨hB, cur, hcur⟩ := h.low g rfl
  have hi := (List.getElem?_eq_some_iff.1 hx).1
  obtain ⟨g2, off2, cap3, d, e2, hd, hdc, hdr⟩ := h.lies i x hx
  cases e2
  have hsz : ∀ j, j < 6 → off + i * 6 + j < cur.size := fun j hj => by
    have h3 := hdc j _ (List.getElem?_eq_getElem (by omega))
    simp only [World.cell?] at h3
    rw [hcur] at h3
    exact (Array.getElem?_eq_some_iff.1 h3).1
  have hg : w.grownBy (set5A w g (off + i * 6 + 1) c0 c1 c2 c3 c4) (some g) := by
    have hb : Below g w (set5A w g (off + i * 6 + 1) c0 c1 c2 c3 c4) := (((((Below.refl g w).setCell (p := ⟨g, _, none⟩) (Nat.le_refl _) _).setCell (p := ⟨g, _, none⟩) (Nat.le_refl _) _).setCell (p := ⟨g, _, none⟩) (Nat.le_refl _) _).setCell (p := ⟨g, _, none⟩) (Nat.le_refl _) _).setCell (p := ⟨g, _, none⟩) (Nat.le_refl _) _
    refine ⟨hb.os, hb.tape, hb.output, hb.size, fun k _ hk => ?_⟩
    have hk : k ≠ g := fun e => hk (by rw [e])
    rw [Below.heap_setCell _ _ _ _ hk, Below.heap_setCell _ _ _ _ hk, Below.heap_setCell _ _ _ _ hk, Below.heap_setCell _ _ _ _ hk, Below.heap_setCell _ _ _ _ hk]
  have hcell : (set5A w g (off + i * 6 + 1) c0 c1 c2 c3 c4).heap[g]? = some (.cells (((((cur.set! (off + i * 6 + 1) c0).set! (off + i * 6 + 1 + 1) c1).set! (off + i * 6 + 1 + 2) c2).set! (off + i * 6 + 1 + 3) c3).set! (off + i * 6 + 1 + 4) c4) 33 (0, 0)) :=
    set_self (set_self (set_self (set_self (set_self hcur))))
  have hle : CLe (cfN (.slice (some ⟨g, off, none⟩) xs.length cap) w) (cfN (.slice (some ⟨g, off, none⟩) xs.length cap) (set5A w g (off + i * 6 + 1) c0 c1 c2 c3 c4)) := fun b o u hu => by
    unfold cfN at hu ⊢
    split at hu
    · cases hu
    · rename_i hne
      rw [if_neg hne]
      exact hg.cell hu (fun e => hne e.symm)
  refine ⟨⟨⟨_, cap, by rw [List.length_set], by rw [List.length_set]; exact h1, h2⟩, fun g' hg' => ?_, fun k z hz => ?_⟩, hg⟩
  · obtain rfl : g = g' := by simpa [Value.ownBlock] using hg'
    exact ⟨hB, _, hcell⟩
  · by_cases e : k = i
    · subst e
      rw [List.getElem?_set_self hi] at hz
      obtain rfl := Option.some.inj hz
      refine ⟨g, off, cap, _, by rw [List.length_set], rfl, fun j u hu => ?_, RDs_mono c B0 _ _ _ _ hle hy⟩
      have hj : j < 6 := by simpa using (List.getElem?_eq_some_iff.1 hu).1
      rw [cell_cur hcell]
      have hc0 := hdc 0 _ (List.getElem?_eq_getElem (by omega))
      rw [cell_cur hcur] at hc0
      have s0 := hsz 0 (by omega)
      have s1 := hsz 1 (by omega)
      have s2 := hsz 2 (by omega)
      have s3 := hsz 3 (by omega)
      have s4 := hsz 4 (by omega)
      have s5 := hsz 5 (by omega)
      match j, hj, hu with
      | 0, _, hu =>
        simp at hu
        subst hu
        obtain ⟨k2, n2, t2, na2, nl2, nc2, ia2, il2, ic2, rfl, _⟩ := hdr
        simp only [List.getElem_cons_zero, Nat.add_zero, hs] at hc0
        rw [Nat.add_zero]
        simp only [Array.set!_eq_setIfInBounds]
        rw [Array.getElem?_setIfInBounds_ne (by omega), Array.getElem?_setIfInBounds_ne (by omega), Array.getElem?_setIfInBounds_ne (by omega), Array.getElem?_setIfInBounds_ne (by omega), Array.getElem?_setIfInBounds_ne (by omega)]
        exact hc0
      | 1, _, hu => simp at hu; subst hu; simp [Array.getElem?_setIfInBounds]; omega
      | 2, _, hu => simp at hu; subst hu; simp [Array.getElem?_setIfInBounds]; omega
      | 3, _, hu => simp at hu; subst hu; simp [Array.getElem?_setIfInBounds]; omega
      | 4, _, hu => simp at hu; subst hu; simp [Array.getElem?_setIfInBounds]; omega
      | 5, _, hu => simp at hu; subst hu; simp [Array.getElem?_setIfInBounds]; omega
    · rw [List.getElem?_set_ne (fun h => e h.symm)] at hz
      obtain ⟨g3, off3, cap4, d3, e3, h3, h4, h5⟩ := h.lies k z hz
      cases e3
      refine ⟨g, off, cap, d3, by rw [List.length_set], h3, fun j u hu => ?_, RDs_mono c B0 _ _ _ _ hle h5⟩
      have hj : j < 6 := by rw [← h3]; exact (List.getElem?_eq_some_iff.1 hu).1
      have := h4 j u hu
      rw [cell_cur hcur] at this
      rw [cell_cur hcell]
      simp only [Array.set!_eq_setIfInBounds]
      rw [Array.getElem?_setIfInBounds_ne (by omega), Array.getElem?_setIfInBounds_ne (by omega), Array.getElem?_setIfInBounds_ne (by omega), Array.getElem?_setIfInBounds_ne (by omega), Array.getElem?_setIfInBounds_ne (by omega)]
      exact this
/-- all kept documents are sorted -/
theorem sort_allS {c : CF} {B0 : Nat} (q : QR) (d : List Value) (zb : Nat) (B p : Nat) (sl : Value) (xs : List DR) (cs : List Value) (w : World) (ho : OwnS 6 (RDs c B0) 33 B w sl p xs cs) (hp2 : p ≤ 1000000)
    (hz : w.heap[zb]? = some (.cells d.toArray 28 (0, 0))) (hzb : zb < B) (hq : QAt (cfN sl w) q d) (hcw : CLe c (cfU B0 w)) (hB0 : B0 ≤ B) (hsz : ∀ o ∈ q.sort, o.path.size ≤ 1000000) (hT : ∀ w', Below B w w' → Tabs w') :
    Calls Tryd.prog 18 #[sl, .func (.func 19) #[] #[.pointer (some ⟨zb, 0, none⟩)]] w fun e w' => e = .returned (.tuple #[]) ∧
      ∃ xs' cs', xs'.Perm xs ∧ xs'.Pairwise (leA q.sort) ∧ OwnS 6 (RDs c B0) 33 B w' sl p xs' cs' ∧ w.grownBy w' sl.ownBlock := by
  obtain ⟨a, cap, rfl, _, _⟩ := own_shapeA ho.own
  by_cases h0 : 0 < p
  · rcases id ho.own.2 with ⟨_, hn⟩ | ⟨g, cap', cur, hv, hB, hg, _⟩
    · omega
    · simp only [Value.slice.injEq] at hv
      obtain ⟨rfl, _, rfl⟩ := hv
      exact sort_docsS q d zb B g p cap xs cs w ho h0 hp2 hz (by omega) hq hcw hB0 hsz (fun w' h => hT w' ((Below.refl B w).grown h ho.le (fun k hk => by rw [← Option.some.inj hk]; exact hB)))
  · obtain rfl : p = 0 := by omega
    have hS := AnyF.slices_SortFunc_none Tryd.laysSF a cap (.func (.func 19) #[] #[.pointer (some ⟨zb, 0, none⟩)]) w
    refine Calls.mono hS ?_
    rintro e w' ⟨rfl, rfl⟩
    have hx : xs = [] := List.length_eq_zero_iff.1 ho.len
    subst hx
    exact ⟨rfl, [], cs, List.Perm.refl _, List.Pairwise.nil, ho, World.grownBy.refl _ _⟩


end Go.Proofs.YtkhhbckpddkhlaaDoor
