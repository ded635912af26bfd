import Derived.Test.YtafilaiinbggoaaGreatQS02
import Derived.Test.YtafilaiinbggoaaGreatQS28
namespace Go.Proofs.YtafilaiinbggoaaGreat
open Go.RowKit
section
variable {P : Program} {ops : Array Oper} {Q : Exit -> Act -> World -> Prop} {md : Region.Mode} {C : Array Bool -> World -> Prop} {U : Array Bool -> Prop}
def wpAnyL (P : Program) (md : Region.Mode) (ops : Array Oper) (C : Array Bool -> World -> Prop) (Q : Exit -> Act -> World -> Prop) : Nat -> Array Bool -> Act -> World -> Prop
 | 0, listed, a, w => C listed w /\ Region.ready md ops listed = [] /\ Q .normal a w
 | fuel + 1, listed, a, w => C listed w /\ (Region.ready md ops listed = [] -> Q .normal a w) /\
  ∀ i ∈ Region.ready md ops listed, wpOp P ops Q i (wpAnyL P md ops C Q fuel (listed.setIfInBounds i true)) a w
theorem wpAny_of_L : ∀ (fuel : Nat) (listed : Array Bool) (a : Act) (w : World), wpAnyL P md ops C Q fuel listed a w -> wpAny P md ops Q fuel listed a w
 | 0, _, _, _, h => ⟨h.2.1, h.2.2⟩
 | fuel + 1, _, _, _, h => ⟨h.2.1, fun i hi => wpOp_mono (fun a' w' h' => wpAny_of_L fuel _ a' w' h') (h.2.2 i hi)⟩
def YieldsL (P : Program) (ops : Array Oper) (C : Array Bool -> World -> Prop) (U : Array Bool -> Prop) (o : Oper) (v : Value) (a : Act) : Prop :=
 (Region.wanted o (yielded ops a.tmps) = true /\ ∀ l w, U l -> C l w -> (execOp a.eval o).run P w = .ok (.value v) w) \/
 (Region.wanted o (yielded ops a.tmps) = false /\ v = undef)
theorem YieldsL.wpOp {i : Nat} {o : Oper} {v : Value} {a : Act} (hi : ops[i]? = some o) (hy : YieldsL P ops C U o v a)
  {K : Act -> World -> Prop} {l : Array Bool} {w : World} (hU : U l) (hC : C l w) (h : K (a.put o.dst v) w) : wpOp P ops Q i K a w := by
 unfold Go.wpOp
 simp only [hi]
 rcases hy with ⟨hw, hv⟩ | ⟨hw, rfl⟩
 ·simp only [hw, if_true, Oper.wp, hv l w hU hC, Oper.upon]; exact .inl h
 ·simp only [hw, Bool.false_eq_true, if_false]; exact h
theorem YieldsL.of_same {o : Oper} {v : Value} {a a' : Act} (hy : YieldsL P ops C U o v a) (he : execOp a'.eval o = execOp a.eval o)
  (hw : Region.wanted o (yielded ops a'.tmps) = Region.wanted o (yielded ops a.tmps)) : YieldsL P ops C U o v a' := by
 unfold YieldsL at *
 rw [he, hw]
 exact hy
theorem wpOp_putL {j : Nat} {oi oj : Oper} {v : Value} (hj : ops[j]? = some oj) (hap : oi.apart ops oj = true)
  (hsi : ∀ cs b, oi.op ≠ .select cs b) (hsj : ∀ cs b, oj.op ≠ .select cs b)
  (hQ : ∀ c a d v w, Q (.panic c) (Act.put a d v) w -> Q (.panic c) a w) {K : Act -> World -> Prop} {a : Act} {w : World}
  (hy : YieldsL P ops C U oi v a) (h : wpOp P ops Q j K (a.put oi.dst v) w) :
  wpOp P ops Q j (fun a' w' => YieldsL P ops C U oi v a' /\ K (a'.put oi.dst v) w') a w := by
 obtain ⟨h1, h2, h3⟩ := Oper.apart_spec hap
 have keep : ∀ (a : Act), YieldsL P ops C U oi v a -> ∀ u, YieldsL P ops C U oi v (a.put oj.dst u) := fun a hy u =>
  hy.of_same (execOp_put oi hsi a oj.dst u h3) (wanted_put oi a oj.dst u h3)
 have keepD : ∀ d, YieldsL P ops C U oi v { a with defers := d :: a.defers } := fun d => hy.of_same rfl rfl
 unfold wpOp at *
 simp only [hj] at *
 rw [wanted_put oj a oi.dst v h1] at h
 split
 ·rename_i hw
  simp only [hw, if_true] at h
  rcases h with h | ⟨hasks, hlets⟩
  case inr => exact .inr ⟨by unfold Oper.asks at *; rw [execOp_put oj hsj a oi.dst v h1] at hasks; exact hasks, hlets⟩
  refine .inl ?_
  unfold Oper.wp at *
  rw [execOp_put oj hsj a oi.dst v h1] at h
  generalize (execOp a.eval oj).run P w = r at *
  cases r with
  | ok n w' =>
   cases n <;> simp only [Oper.upon] at h |-
   case value u => exact ⟨keep a hy u, by rw [<- Act.put_comm a v u h2]; exact h⟩
   case skip => exact ⟨keep a hy _, by rw [<- Act.put_comm a v undef h2]; exact h⟩
   case defer d =>
    refine ⟨keep _ (keepD d) _, ?_⟩
    rw [<- Act.put_comm _ v undef h2, <- Act.put_defers]
    exact h
   case enter f args =>
    refine Calls.mono h fun e w'' he => ?_
    cases e with
    | returned u => exact ⟨keep a hy u, by rw [<- Act.put_comm a v u h2]; exact he⟩
    | panicked c => exact hQ _ _ _ _ _ he
    | outgrown => exact he
   case row row args => exact Rows.mono h fun u w'' he => ⟨keep a hy u, by rw [<- Act.put_comm a v u h2]; exact he⟩
  | halt x w' =>
   cases x <;> simp only [Oper.upon] at h |-
   case panic u => exact hQ _ _ _ _ _ h
 ·rename_i hw
  simp only [hw] at h
  exact ⟨keep a hy _, by rw [<- Act.put_comm a v undef h2]; exact h⟩
theorem wpAnyL_first {i : Nat} {oi : Oper} {v : Value} (hi : ops[i]? = some oi) (hsel : ∀ (j : Nat) (o : Oper) cs b, ops[j]? = some o -> o.op ≠ .select cs b)
  (hQ : ∀ c a d v w, Q (.panic c) (Act.put a d v) w -> Q (.panic c) a w) (hC : ∀ l w, C (l.setIfInBounds i true) w -> C l w)
  (hU : ∀ l j, U l -> i ∈ Region.ready md ops l -> j ≠ i -> j ∈ Region.ready md ops l -> U (l.setIfInBounds j true)) :
  ∀ (fuel : Nat) (listed : Array Bool) (a : Act) (w : World),
   (∀ j oj, ops[j]? = some oj -> j ≠ i -> listed.getD j true = false -> (∀ e ∈ oj.after, Region.binds md e = true -> e.on ≠ i) -> oi.apart ops oj = true) ->
   i ∈ Region.ready md ops listed -> U listed -> YieldsL P ops C U oi v a ->
   wpAnyL P md ops C Q fuel (listed.setIfInBounds i true) (a.put oi.dst v) w -> wpAnyL P md ops C Q (fuel + 1) listed a w := by
 intro fuel
 induction fuel with
 | zero =>
  intro listed a w _ hr hu hy H
  refine ⟨hC _ _ H.1, fun h => (by rw [h] at hr; cases hr), fun j hj => ?_⟩
  by_cases hji : j = i
  ·subst hji; exact hy.wpOp hi hu (hC _ _ H.1) H
  ·have := ready_mono hj hji
   rw [H.2.1] at this
   cases this
 | succ fuel ih =>
  intro listed a w hfree hr hu hy H
  refine ⟨hC _ _ H.1, fun h => (by rw [h] at hr; cases hr), fun j hj => ?_⟩
  by_cases hji : j = i
  ·subst hji; exact hy.wpOp hi hu (hC _ _ H.1) H
  ·have h1 := H.2.2 j (ready_mono hj hji)
   obtain ⟨hjun, oj, hoj, hall⟩ := mem_ready.1 hj
   have hnot : ∀ e ∈ oj.after, Region.binds md e = true -> e.on ≠ i := fun e he hb heq => by
    have h1 := hall e he hb
    have h0 := (mem_ready.1 hr).1
    rw [heq] at h1
    rcases Nat.lt_or_ge i listed.size with h' | h'
    ·simp [h'] at h0 h1; rw [h0] at h1; cases h1
    ·simp [Array.getElem?_eq_none h'] at h1
   have h2 := wpOp_putL hoj (hfree j oj hoj hji hjun hnot) (fun cs b => hsel i oi cs b hi) (fun cs b => hsel j oj cs b hoj) hQ hy h1
   have hfree' : ∀ k ok, ops[k]? = some ok -> k ≠ i -> (listed.setIfInBounds j true).getD k true = false ->
     (∀ e ∈ ok.after, Region.binds md e = true -> e.on ≠ i) -> oi.apart ops ok = true := fun k ok hk hki hun hno => by
    refine hfree k ok hk hki ?_ hno
    by_cases hjk : j = k
    ·subst hjk; exact hjun
    ·rw [getD_set_ne true hjk] at hun; exact hun
   have hu' := hU listed j hu hr hji hj
   refine wpOp_mono (fun a' w' h3 => ih (listed.setIfInBounds j true) a' w' hfree' (ready_mono hr (Ne.symm hji)) hu' h3.1 ?_) h2
   rw [Array.setIfInBounds_comm _ _ hji]
   exact h3.2
end
section
variable {P : Program} {Q : Exit -> Act -> World -> Prop} {md : Region.Mode} {C : Array Bool -> World -> Prop} {L : List Oper}
theorem quiet_yields {ops : Array Oper} {U : Array Bool -> Prop} {D : World -> Prop} {o : Oper} {l : List Oper} {a : Act} {K : Act -> Prop} (ho : readsB o = true) (hD : ∀ l w, U l -> C l w -> D w) (h : wpQuiet P ops D K (o :: l) a) :
  ∃ v, YieldsL P ops C U o v a /\ wpQuiet P ops D K l (a.put o.dst v) := by
 unfold wpQuiet at h
 by_cases hw : Region.wanted o (yielded ops a.tmps) = true
 ·rw [if_pos hw] at h
  obtain ⟨v, hv, hn⟩ := h
  refine ⟨v, .inl ⟨hw, fun l1 w1 hl1 hw1 => ?_⟩, hn⟩
  have h1 := hv w1 (hD l1 w1 hl1 hw1)
  unfold Oper.quietAt at h1
  cases hrun : (execOp a.eval o).run P w1 with
  | ok n w2 =>
   obtain ⟨u, rfl⟩ := reads_value ho hrun
   rw [hrun] at h1
   simp only [Oper.quietUpon] at h1
   rw [h1.1, h1.2]
  | halt x w2 => rw [hrun] at h1; simp only [Oper.quietUpon] at h1
 ·rw [if_neg hw] at h
  exact ⟨undef, .inr ⟨by simpa using hw, rfl⟩, h⟩
theorem mixL_seg0 {ops : Array Oper} (hs : Region.noSelect ops = true) (hQ : ∀ c a d v w, Q (.panic c) (Act.put a d v) w -> Q (.panic c) a w) (D : World -> Prop) (hD : ∀ l w, C l w -> D w) : ∀ (is : List Nat) (_ : ∀ i ∈ is, ∀ l w, C (l.setIfInBounds i true) w -> C l w) (l : List Oper) (fuel : Nat) (listed : Array Bool) (a : Act) (w : World),
  is.map (fun i => ops[i]?) = l.map some -> segB md ops listed is = true ->
  wpQuiet P ops D (fun a' => wpAnyL P md ops C Q fuel (setAll listed is) a' w) l a -> wpAnyL P md ops C Q (fuel + is.length) listed a w
 | [], _, [], _, _, _, _, _, _, h => h
 | [], _, _ :: _, _, _, _, _, hl, _, _ => by simp at hl
 | _ :: _, _, [], _, _, _, _, hl, _, _ => by simp at hl
 | i :: is, hCi, o :: l, fuel, listed, a, w, hl, hB, h => by
  simp only [List.map_cons, List.cons.injEq] at hl
  obtain ⟨hi, hl⟩ := hl
  simp only [segB, hi, Option.map_some, Option.getD_some, Bool.and_eq_true] at hB
  obtain ⟨⟨⟨hf, hr⟩, ho⟩, hB⟩ := hB
  obtain ⟨v, hy, hn⟩ := quiet_yields (C := C) (U := fun _ => True) ho (fun l w _ hc => hD l w hc) h
  exact wpAnyL_first hi (Region.noSelect_spec hs) hQ (hCi i (by simp)) (fun _ _ _ _ _ _ => trivial) (fuel + is.length) listed a w (Region.free_spec hi hf) (by simpa using hr) trivial hy (mixL_seg0 hs hQ D hD is (fun j hj => hCi j (by simp [hj])) l fuel _ _ w hl hB hn)
theorem mixL_seg (hs : Region.noSelect L.toArray = true) (hQ : ∀ c a d v w, Q (.panic c) (Act.put a d v) w -> Q (.panic c) a w) (D : World -> Prop) (hD : ∀ l w, C l w -> D w) (is : List Nat) (hCi : ∀ i ∈ is, ∀ l w, C (l.setIfInBounds i true) w -> C l w) (l : List Oper) (fuel n : Nat) (hn : fuel + is.length = n) (listed : Array Bool) (a : Act) (w : World)
  (hl : is.map (opAt L) = l.map some) (hB : segB md L.toArray listed is = true)
  (h : wpQuiet P L.toArray D (fun a' => wpAnyL P md L.toArray C Q fuel (setAll listed is) a' w) l a) : wpAnyL P md L.toArray C Q n listed a w := by
 subst hn
 exact mixL_seg0 hs hQ D hD is hCi l fuel listed a w (by rw [<- hl]; exact List.map_congr_left fun i _ => (opAt_eq L i).symm) hB h
def waitsB (md : Region.Mode) (ops : Array Oper) (d i : Nat) : Bool := ((ops[d]?).map fun o => o.after.any fun e => Region.binds md e && decide (e.on = i)).getD false
theorem mixL_one (hs : Region.noSelect L.toArray = true) (hQ : ∀ c a d v w, Q (.panic c) (Act.put a d v) w -> Q (.panic c) a w) (D : World -> Prop) (d : Nat) (hD : ∀ l w, l.getD d true = false -> C l w -> D w) (i : Nat) (hCi : ∀ l w, C (l.setIfInBounds i true) w -> C l w) (o : Oper) (fuel : Nat) (listed : Array Bool) (a : Act) (w : World)
  (hi : opAt L i = some o) (hd : waitsB md L.toArray d i = true) (hB : segB md L.toArray listed [i] = true) (hdl : listed.getD d true = false)
  (h : wpQuiet P L.toArray D (fun a' => wpAnyL P md L.toArray C Q fuel (listed.setIfInBounds i true) a' w) [o] a) : wpAnyL P md L.toArray C Q (fuel + 1) listed a w := by
 rw [opAt_eq] at hi
 simp only [segB, hi, Option.map_some, Option.getD_some, Bool.and_eq_true, and_true] at hB
 obtain ⟨⟨hf, hr⟩, ho⟩ := hB
 obtain ⟨v, hy, hn⟩ := quiet_yields (C := C) (U := fun l => l.getD d true = false) ho (fun l w hu hc => hD l w hu hc) h
 unfold wpQuiet at hn
 refine wpAnyL_first hi (Region.noSelect_spec hs) hQ hCi (fun l j hu hri hji hj => ?_) fuel listed a w (Region.free_spec hi hf) (by simpa using hr) hdl hy hn
 by_cases hjd : j = d
 ·subst hjd
  obtain ⟨_, oj, hoj, hall⟩ := mem_ready.1 hj
  unfold waitsB at hd
  rw [hoj] at hd
  simp only [Option.map_some, Option.getD_some] at hd
  obtain ⟨e, he, h1⟩ : ∃ e ∈ oj.after, (Region.binds md e && decide (e.on = i)) = true := by
   simp only [Array.any_eq_true] at hd
   obtain ⟨q, hq, h1⟩ := hd
   exact ⟨_, Array.getElem_mem hq, h1⟩
  rw [Bool.and_eq_true, decide_eq_true_eq] at h1
  have h2 := hall e he h1.1
  have h0 := (mem_ready.1 hri).1
  rw [h1.2] at h2
  rcases Nat.lt_or_ge i l.size with h' | h'
  ·simp [h'] at h0 h2; rw [h0] at h2; cases h2
  ·simp [Array.getElem?_eq_none h'] at h2
 ·rw [getD_set_ne true hjd]; exact hu
theorem mixL_act {i : Nat} {o : Oper} {fuel : Nat} {listed : Array Bool} {a : Act} {w : World} (hi : opAt L i = some o) (hr : Region.ready md L.toArray listed = [i]) (hC : C listed w) (hw : Region.wanted o (yielded L.toArray a.tmps) = true)
  (h : ∀ K : Act -> World -> Prop, (∀ a' w', wpAnyL P md L.toArray C Q fuel (listed.setIfInBounds i true) a' w' -> K a' w') -> o.wp P a w K Q) : wpAnyL P md L.toArray C Q (fuel + 1) listed a w := by
 refine ⟨hC, fun h0 => (by rw [hr] at h0; cases h0), fun j hj => ?_⟩
 rw [hr] at hj
 obtain rfl : j = i := by simpa using hj
 rw [opAt_eq] at hi
 unfold wpOp
 simp only [hi, hw, if_true]
 exact .inl (h _ fun _ _ h => h)
theorem mixL_two {i j : Nat} {o p : Oper} {fuel : Nat} {listed : Array Bool} {a : Act} {w : World} (hi : opAt L i = some o) (hj : opAt L j = some p) (hr : Region.ready md L.toArray listed = [i, j]) (hC : C listed w) (hw : Region.wanted o (yielded L.toArray a.tmps) = true) (hv : Region.wanted p (yielded L.toArray a.tmps) = true)
  (h : ∀ K : Act -> World -> Prop, (∀ a' w', wpAnyL P md L.toArray C Q fuel (listed.setIfInBounds i true) a' w' -> K a' w') -> o.wp P a w K Q)
  (h2 : ∀ K : Act -> World -> Prop, (∀ a' w', wpAnyL P md L.toArray C Q fuel (listed.setIfInBounds j true) a' w' -> K a' w') -> p.wp P a w K Q) : wpAnyL P md L.toArray C Q (fuel + 1) listed a w := by
 rw [opAt_eq] at hi hj
 refine ⟨hC, fun h0 => (by rw [hr] at h0; cases h0), fun k hk => ?_⟩
 rw [hr] at hk
 unfold wpOp
 rcases List.mem_cons.1 hk with rfl | hk
 ·simp only [hi, hw, if_true]
  exact .inl (h _ fun _ _ h => h)
 ·obtain rfl : k = j := by simpa using hk
  simp only [hj, hv, if_true]
  exact .inl (h2 _ fun _ _ h => h)
theorem mixL_done {ops : Array Oper} {fuel : Nat} {listed : Array Bool} {a : Act} {w : World} (hr : Region.ready md ops listed = []) (hC : C listed w) (h : Q .normal a w) : wpAnyL P md ops C Q fuel listed a w := by
 cases fuel with
 | zero => exact ⟨hC, hr, h⟩
 | succ n => exact ⟨hC, fun _ => h, by rw [hr]; simp⟩
end
theorem wp_region_mixL {P : Program} {id : Nat} {Q : Exit -> Act -> World -> Prop} {a : Act} {w : World} {l : List Oper} (C : Array Bool -> World -> Prop) (n : Nat) (hn : l.length = n) (hm : P.follows .mixedOrders = true)
  (h : wpAnyL P .any l.toArray C Q n (Array.replicate n false) a w.drew) : (Code.region id l.toArray true).wp P Q a w := by
 subst hn
 refine wp_region_any hm ?_
 have := wpAny_of_L _ _ _ _ h
 simpa using this
def KeepC (B zb : Nat) (w : World) (ds : List Nat) : Array Bool -> World -> Prop := fun l w' => Below B w w' /\ ((ds.any fun d => !l.getD d true) = true -> w'.heap[zb]? = w.heap[zb]?)
theorem keepC_back {B zb : Nat} {w : World} {ds is : List Nat} (h : (is.all fun i => !ds.contains i) = true) : ∀ i ∈ is, ∀ l w', KeepC B zb w ds (l.setIfInBounds i true) w' -> KeepC B zb w ds l w' := fun i hi l w' ⟨h1, h2⟩ => by
 refine ⟨h1, fun h3 => h2 ?_⟩
 have hni : ¬ i ∈ ds := by
  have := List.all_eq_true.1 h i hi
  simpa using this
 rw [List.any_eq_true] at h3 |-
 obtain ⟨d, hd, h4⟩ := h3
 exact ⟨d, hd, by rw [getD_set_ne true (fun e => hni (by rw [e]; exact hd))]; exact h4⟩
theorem keepC_base {B zb : Nat} {w : World} {ds : List Nat} : ∀ l w', KeepC B zb w ds l w' -> GrowBC B w w' := fun _ _ h => growBC h.1
def BoxT (B zb : Nat) (w : World) : Type := { w' : World // Below B w w' /\ w'.heap[zb]? = w.heap[zb]? }
instance (B zb : Nat) (w : World) : Nonempty (BoxT B zb w) := ⟨⟨w, Below.refl _ w, rfl⟩⟩
theorem BoxT.cell {B zb : Nat} {w : World} {o : Nat} {v : Value} (h : w.cell? ⟨zb, o, none⟩ = some v) (e : BoxT B zb w) : e.val.cell? ⟨zb, o, none⟩ = some v := by
 rw [World.cell?_of_block (w := w) e.property.2]; exact h
abbrev BoxC (B zb : Nat) (w : World) : World -> Prop := fun w' => ∃ e : BoxT B zb w, w' = e.val
theorem keepC_box {B zb : Nat} {w : World} {ds : List Nat} {d : Nat} (hd : d ∈ ds) : ∀ l w', l.getD d true = false -> KeepC B zb w ds l w' -> BoxC B zb w w' := fun l w' h1 ⟨h2, h3⟩ =>
 ⟨⟨w', h2, h3 (List.any_eq_true.2 ⟨d, hd, by rw [h1]; rfl⟩)⟩, rfl⟩
theorem keepC_on {B zb : Nat} {w w' : World} {ds : List Nat} {l : Array Bool} (h : Below B w w') (k : w'.heap[zb]? = w.heap[zb]?) : KeepC B zb w ds l w' := ⟨h, fun _ => k⟩
theorem keepC_off {B zb : Nat} {w w' : World} {ds : List Nat} {l : Array Bool} (h : Below B w w') (k : (ds.any fun d => !l.getD d true) = false) : KeepC B zb w ds l w' := ⟨h, fun e => by rw [k] at e; cases e⟩
end Go.Proofs.YtafilaiinbggoaaGreat
namespace Go.Proofs.YtafilaiinbggoaaGreat
open Go.RowKit Go.Maps
def KeepL (P : BS) (w : World) (ds : List Nat) : Array Bool -> World -> Prop := fun l w' => (ds.any fun d => !l.getD d true) = true -> ∀ b, P b -> w'.heap[b]? = w.heap[b]?
theorem keepL_back {P : BS} {w : World} {ds is : List Nat} (h : (is.all fun i => !ds.contains i) = true) : ∀ i ∈ is, ∀ l w', KeepL P w ds (l.setIfInBounds i true) w' -> KeepL P w ds l w' := fun i hi l w' h2 h3 => h2 (by
 have hni : ¬ i ∈ ds := by
  have := List.all_eq_true.1 h i hi
  simpa using this
 rw [List.any_eq_true] at h3 |-
 obtain ⟨d, hd, h4⟩ := h3
 exact ⟨d, hd, by rw [getD_set_ne true (fun e => hni (by rw [e]; exact hd))]; exact h4⟩)
theorem keepL_in {P : BS} {w : World} {ds : List Nat} {d : Nat} (hd : d ∈ ds) : ∀ l w', l.getD d true = false -> KeepL P w ds l w' -> KeepSC P w w' := fun l w' h1 h2 => keepSC (h2 (List.any_eq_true.2 ⟨d, hd, by rw [h1]; rfl⟩))
theorem keepL_base {P : BS} {w : World} {ds : List Nat} : ∀ l w', KeepL P w ds l w' -> KeepSC (fun _ => False) w w' := fun _ _ _ => keepSC fun _ h => h.elim
theorem keepL_on {P : BS} {w w' : World} {ds : List Nat} {l : Array Bool} (h : ∀ b, P b -> w'.heap[b]? = w.heap[b]?) : KeepL P w ds l w' := fun _ => h
theorem keepL_off {P : BS} {w w' : World} {ds : List Nat} {l : Array Bool} (k : (ds.any fun d => !l.getD d true) = false) : KeepL P w ds l w' := fun e => by rw [k] at e; cases e
structure ES (Q : PQ) (R : Int -> Option Bts) (H : HS) (S : PS) (p B : Nat) (w0 w : World) (n : ND) (kv vv iv : Value) : Prop where
 pg : PG Q R H S p w
 nt : NT H B w n kv vv iv
 size : w0.heap.size <= w.heap.size
 os : w.os = w0.os
 tape : w.tape = w0.tape
 output : w.output = w0.output
 box : ∀ (b : Nat) cs T, w0.heap[b]? = some (.cells cs T (0, 0)) -> T ≠ 23 -> T ≠ 3 -> w.heap[b]? = some (.cells cs T (0, 0))
 out : ∀ b, b < B -> w.heap[b]? = w0.heap[b]?
 le : CLe (cfU w0) (cfU w)
theorem ES.start {Q : PQ} {R : Int -> Option Bts} {H : HS} {S : PS} {p B : Nat} {w : World} {n : ND} {kv vv iv : Value} (h : PG Q R H S p w) (k : NT H B w n kv vv iv) : ES Q R H S p B w w n kv vv iv := ⟨h, k, Nat.le_refl _, rfl, rfl, rfl, fun _ _ _ h _ _ => h, fun _ _ => rfl, fun _ _ _ h => h⟩
theorem ES.below {Q : PQ} {R : Int -> Option Bts} {H : HS} {S : PS} {p B : Nat} {w0 w w' : World} {n : ND} {kv vv iv : Value} (h : ES Q R H S p B w0 w n kv vv iv) (hb : Below w.heap.size w w') (hB : B <= w0.heap.size) : ES Q R H S p B w0 w' n kv vv iv :=
 ⟨h.pg.below hb, h.nt.below hb, Nat.le_trans h.size hb.size, hb.os.trans h.os, hb.tape.trans h.tape, hb.output.trans h.output, fun b cs T h1 h2 h3 => kept (h.box b cs T h1 h2 h3) hb, fun b hlt => (hb.block b (Nat.lt_of_lt_of_le hlt (Nat.le_trans hB h.size))).trans (h.out b hlt), fun _ _ _ hu => cfU_below hb _ _ _ (h.le _ _ _ hu)⟩
theorem rb_cells {c : CF} {T : TypeId} {B : Nat} {w : World} {sl : Value} {p : Nat} {xs : List Bts} {cs : List Value} (h : OwnS 1 (RB c) T B w sl p xs cs) : ∀ u ∈ cs, u.oneCell' = true := fun u hu => by
 obtain ⟨i, hi⟩ := List.getElem?_of_mem hu
 have h1 := row1_of h.row
 have hlt : i < xs.length := by rw [<- h1.1]; exact (List.getElem?_eq_some_iff.1 hi).1
 exact RB_one c _ _ _ (h1.2 i _ u (List.getElem?_eq_getElem hlt) hi) u (List.mem_singleton.2 rfl)
structure Handed (H : HS) (B : Nat) (w w' : World) (n' : ND) (old new : Value) (kv vv iv : Value) (p : Nat) : Prop where
 nt : NT H B w' n' kv vv iv
 by_ : w.grownBy w' old.ownBlock
 own : ∀ g, new.ownBlock = some g -> old.ownBlock = some g \/ w.heap.size <= g
 le : CLe (cfU w) (cfU w')
 shape : ∃ a cap, new = .slice a p cap
theorem node_insK {H : HS} {B : Nat} {w : World} {n : ND} {kv vv iv : Value} {k s0 : Nat} {u : Value} {x : Bts} (h : NT H B w n kv vv iv) (hH : ∀ b, H.all b -> b < w.heap.size) (hk : k <= n.keys.length) (hl : n.keys.length <= 1000000) (hs : w.heap[s0]? = some (.cells [u].toArray 23 (0, 0))) (hne : kv.ownBlock ≠ some s0) (hy : YAt (cfU w) u x) :
  Calls Tryz.prog 50 #[kv, .int .i64 (k : Int), .slice (some ⟨s0, 0, none⟩) 1 1] w fun e w' => ∃ kv', e = .returned kv' /\ Handed H B w w' { n with keys := insAt k x n.keys } kv kv' kv' vv iv (n.keys.length + 1) := by
 obtain ⟨cs, ho⟩ := h.own.keys
 have hu1 : u.oneCell' = true := RB_one (cfU w) (cf w) x [u] ⟨u, rfl, hy⟩ u (List.mem_singleton.2 rfl)
 refine (insByt_any B w kv n.keys.length cs ho.own k hk s0 [u] hs rfl (fun v hv => by rw [List.mem_singleton.1 hv]; exact hu1) (rb_cells ho) ho.le hl hne).mono ?_
 rintro e w' ⟨kv', he, hown, hg, hn⟩
 have hi := OwnS.ins (fun _ _ _ _ h => h) (k := k) (x := x) (u := u) ho ⟨u, rfl, hy⟩ hown hg hk
 have hlen : (insAt k x n.keys).length = n.keys.length + 1 := by unfold insAt; rw [List.length_append, List.length_cons, List.length_take, List.length_drop]; omega
 obtain ⟨e1, e2⟩ := h.edK ⟨hg, hn⟩ hH (by rw [hlen]; exact hi)
 exact ⟨kv', he, e1, hg, hn, e2, hi.shape⟩
theorem node_insV {H : HS} {B : Nat} {w : World} {n : ND} {kv vv iv : Value} {k s0 : Nat} {u : Value} {x : Bts} (h : NT H B w n kv vv iv) (hH : ∀ b, H.all b -> b < w.heap.size) (hk : k <= n.vals.length) (hl : n.vals.length <= 1000000) (hs : w.heap[s0]? = some (.cells [u].toArray 23 (0, 0))) (hne : vv.ownBlock ≠ some s0) (hy : YAt (cfU w) u x) :
  Calls Tryz.prog 50 #[vv, .int .i64 (k : Int), .slice (some ⟨s0, 0, none⟩) 1 1] w fun e w' => ∃ vv', e = .returned vv' /\ Handed H B w w' { n with vals := insAt k x n.vals } vv vv' kv vv' iv (n.vals.length + 1) := by
 obtain ⟨cs, ho⟩ := h.own.vals
 have hu1 : u.oneCell' = true := RB_one (cfU w) (cf w) x [u] ⟨u, rfl, hy⟩ u (List.mem_singleton.2 rfl)
 refine (insByt_any B w vv n.vals.length cs ho.own k hk s0 [u] hs rfl (fun v hv => by rw [List.mem_singleton.1 hv]; exact hu1) (rb_cells ho) ho.le hl hne).mono ?_
 rintro e w' ⟨vv', he, hown, hg, hn⟩
 have hi := OwnS.ins (fun _ _ _ _ h => h) (k := k) (x := x) (u := u) ho ⟨u, rfl, hy⟩ hown hg hk
 have hlen : (insAt k x n.vals).length = n.vals.length + 1 := by unfold insAt; rw [List.length_append, List.length_cons, List.length_take, List.length_drop]; omega
 obtain ⟨e1, e2⟩ := h.edV ⟨hg, hn⟩ hH (by rw [hlen]; exact hi)
 exact ⟨vv', he, e1, hg, hn, e2, hi.shape⟩
theorem insAt_map {α β : Type} (f : α -> β) (k : Nat) (x : α) (l : List α) : insAt k (f x) (l.map f) = (insAt k x l).map f := by
 unfold insAt
 rw [List.map_append, List.map_cons, List.map_take, List.map_drop]
theorem node_insI {H : HS} {B : Nat} {w : World} {n : ND} {kv vv iv : Value} {k s0 x : Nat} (h : NT H B w n kv vv iv) (hH : ∀ b, H.all b -> b < w.heap.size) (hk : k <= n.kids.length) (hl : n.kids.length <= 1000000) (hs : w.heap[s0]? = some (.cells [Value.int .i64 (x : Int)].toArray 3 (0, 0))) (hne : iv.ownBlock ≠ some s0) :
  Calls Tryz.prog 51 #[iv, .int .i64 (k : Int), .slice (some ⟨s0, 0, none⟩) 1 1] w fun e w' => ∃ iv', e = .returned iv' /\ Handed H B w w' { n with kids := insAt k x n.kids } iv iv' kv vv iv' (n.kids.length + 1) := by
 obtain ⟨cs, ho⟩ := h.own.kids
 have hcs : cs = (n.kids.map Int.ofNat).map fun x => .int .i64 x := ri_cells ho.row
 refine (insInt_any B w iv n.kids.length cs ho.own k hk s0 [.int .i64 (x : Int)] hs rfl (fun v hv => by rw [List.mem_singleton.1 hv]; rfl) (fun v hv => by rw [hcs] at hv; obtain ⟨x, _, rfl⟩ := List.mem_map.1 hv; rfl) ho.le hl hne).mono ?_
 rintro e w' ⟨iv', he, hown, hg, hn⟩
 have hi := OwnS.ins (fun _ _ _ _ h => h) (k := k) (x := (x : Int)) (u := .int .i64 (x : Int)) ho rfl hown hg hk
 have hlen : (insAt k x n.kids).length = n.kids.length + 1 := by unfold insAt; rw [List.length_append, List.length_cons, List.length_take, List.length_drop]; omega
 have hmm : insAt k (x : Int) (n.kids.map Int.ofNat) = (insAt k x n.kids).map Int.ofNat := insAt_map Int.ofNat k x n.kids
 obtain ⟨e1, e2⟩ := h.edI (ks := insAt k x n.kids) ⟨hg, hn⟩ hH (by rw [hlen, <- hmm]; exact hi)
 exact ⟨iv', he, e1, hg, hn, e2, hi.shape⟩
theorem ES.hand {Q : PQ} {R : Int -> Option Bts} {H : HS} {S : PS} {p B m : Nat} {w0 w w' : World} {n n' : ND} {kv vv iv kv' vv' iv' old new : Value} (h : ES Q R H S p B w0 w n kv vv iv) (hh : Handed H B w w' n' old new kv' vv' iv' m) (ho : old = kv \/ old = vv \/ old = iv) (hB : B <= w0.heap.size) : ES Q R H S p B w0 w' n' kv' vv' iv' := by
 have hob : ∀ g, old.ownBlock = some g -> kv.ownBlock = some g \/ vv.ownBlock = some g \/ iv.ownBlock = some g := fun g e => by
  rcases ho with rfl | rfl | rfl
  ·exact .inl e
  ·exact .inr (.inl e)
  ·exact .inr (.inr e)
 have hkd : ∀ g, old.ownBlock = some g -> ¬ IsU w g /\ ¬ H.all g /\ B <= g /\ ∃ cur T, w.heap[g]? = some (.cells cur T (0, 0)) /\ (T = 23 \/ T = 3) := fun g e => ⟨(h.nt.own.low (hob g e)).2.2, h.nt.off g (hob g e), (h.nt.own.low (hob g e)).1, h.nt.own.kind (hob g e)⟩
 refine ⟨h.pg.beside hh.by_ (fun b e => ⟨(hkd b e).2.1, (hkd b e).1⟩), hh.nt, Nat.le_trans h.size hh.by_.size, hh.by_.os.trans h.os, hh.by_.tape.trans h.tape, hh.by_.output.trans h.output, fun b cs T h1 h2 h3 => ?_, fun b hlt => ?_, fun b o u hu => hh.le _ _ _ (h.le _ _ _ hu)⟩
 ·have h4 := h.box b cs T h1 h2 h3
  rw [hh.by_.block b (heap_lt h4) (fun e => ?_)]
  ·exact h4
  ·obtain ⟨_, _, _, cur, T2, e2, e3⟩ := hkd b e.symm
   rw [h4] at e2
   cases e2
   rcases e3 with e3 | e3
   ·exact h2 e3
   ·exact h3 e3
 ·exact (hh.by_.block b (Nat.lt_of_lt_of_le hlt (Nat.le_trans hB h.size)) (fun e => by have := (hkd b e.symm).2.2.1; omega)).trans (h.out b hlt)
theorem ES.cell {Q : PQ} {R : Int -> Option Bts} {H : HS} {S : PS} {p B r : Nat} {w0 w w' : World} {n : ND} {kv vv iv : Value} {cur : Array Value} (h : ES Q R H S p B w0 w n kv vv iv) (hr : w.heap[r]? = some (.cells cur 107 (0, 0))) (hH : ¬ H.all r) (hg : w.grownBy w' (some r)) : NT H B w' n kv vv iv /\ PG Q R H S p w' /\ CLe (cfU w) (cfU w') := by
 obtain ⟨h1, h2⟩ := h.nt.own.grown hr hg
 exact ⟨⟨h1, h.nt.off⟩, h.pg.beside hg (fun b e => by cases e; exact ⟨hH, fun ⟨_, _, e2⟩ => by rw [hr] at e2; cases e2⟩), h2⟩
theorem ES.turn {Q : PQ} {R : Int -> Option Bts} {H H1 : HS} {S : PS} {p B : Nat} {w w0 w' : World} {n : ND} {kv vv iv : Value} (h : ES Q R H1 S p B w0 w' n kv vv iv) (ht : TurnS H.all w H1.all w0) (hB : w.heap.size <= B) : TurnS H.all w H1.all w' :=
 ⟨h.os.trans ht.os, h.tape.trans ht.tape, h.output.trans ht.output, Nat.le_trans ht.size h.size, fun b hb hn => by
  obtain ⟨h1, h2⟩ := ht.out b hb hn
  exact ⟨(h.out b (Nat.lt_of_lt_of_le hb hB)).trans h1, h2⟩⟩
theorem nodup_len {A B : List Nat} (hA : A.Nodup) (hB : B.Nodup) (h : ∀ p ∈ A, p ∈ B) : A.length <= B.length := by
 have hp : A.Perm (B.filter fun p => decide (p ∈ A)) := by
  refine (List.perm_ext_iff_of_nodup hA (hB.filter _)).2 fun p => ?_
  simp only [List.mem_filter, decide_eq_true_eq]
  exact ⟨fun hpa => ⟨h p hpa, hpa⟩, fun ⟨_, b⟩ => b⟩
 rw [hp.length_eq]
 exact List.length_filter_le ..
theorem Moves.free2 {S S' : PS} {old new : List Nat} (h : Moves S S' old new) (hn : old.Nodup) (hf : ∀ p ∈ old, S.is[p]? = some 2) : freeP S + old.length <= freeP S' + new.length := by
 rw [free_range, free_range, h.len]
 have hm : ∀ (T : PS) (p : Nat), p ∈ ((List.range S.is.length).filter fun p => T.is[p]? == some 0) ↔ p < S.is.length /\ T.is[p]? = some 0 := fun T p => by
  rw [List.mem_filter, List.mem_range, beq_iff_eq]
 rw [<- List.length_append, <- List.length_append]
 refine nodup_len (List.nodup_append.2 ⟨List.nodup_range.filter _, hn, fun a ha b hb e => ?_⟩) (List.nodup_append.2 ⟨List.nodup_range.filter _, h.nd, fun a ha b hb e => ?_⟩) fun p hp => ?_
 ·subst e
  have h1 := ((hm S a).1 ha).2
  rw [hf a hb] at h1
  cases h1
 ·subst e
  have h1 := ((hm S' a).1 ha).2
  rw [h.fresh a hb] at h1
  cases h1
 ·by_cases e : p ∈ new
  ·exact List.mem_append_right _ e
  ·refine List.mem_append_left _ ((hm S' p).2 ?_)
   rcases List.mem_append.1 hp with hp | hp
   ·obtain ⟨h1, h2⟩ := (hm S p).1 hp
    by_cases ho : p ∈ old
    ·exact ⟨h1, h.left p ho e⟩
    ·exact ⟨h1, by rw [h.same p ho e]; exact h2⟩
   ·exact ⟨(List.getElem?_eq_some_iff.1 (hf p hp)).1, h.left p hp e⟩
theorem free_same {S S' : PS} (h : SameP S S') : freeP S' = freeP S := by unfold freeP; rw [h.1]
end Go.Proofs.YtafilaiinbggoaaGreat
