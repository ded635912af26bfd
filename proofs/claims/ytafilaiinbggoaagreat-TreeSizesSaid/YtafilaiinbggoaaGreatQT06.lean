import Derived.Test.YtafilaiinbggoaaGreatQT03
namespace Go.Proofs.YtafilaiinbggoaaGreat
open Go.RowKit
section
variable {P : Program} {ops : Array Oper} {Q : Exit -> Act -> World -> Prop} {md : Region.Mode} {C : Array Bool -> World -> Prop} {U : Array Bool -> Prop}
def wpAnyL (P : Program) (md : Region.Mode) (ops : Array Oper) (C : Array Bool -> World -> Prop) (Q : Exit -> Act -> World -> Prop) : Nat -> Array Bool -> Act -> World -> Prop
 | 0, listed, a, w => C listed w /\ Region.ready md ops listed = [] /\ Q .normal a w
 | fuel + 1, listed, a, w => C listed w /\ (Region.ready md ops listed = [] -> Q .normal a w) /\
  ∀ i ∈ Region.ready md ops listed, wpOp P ops Q i (wpAnyL P md ops C Q fuel (listed.setIfInBounds i true)) a w
theorem wpAny_of_L : ∀ (fuel : Nat) (listed : Array Bool) (a : Act) (w : World), wpAnyL P md ops C Q fuel listed a w -> wpAny P md ops Q fuel listed a w
 | 0, _, _, _, h => ⟨h.2.1, h.2.2⟩
 | fuel + 1, _, _, _, h => ⟨h.2.1, fun i hi => wpOp_mono (fun a' w' h' => wpAny_of_L fuel _ a' w' h') (h.2.2 i hi)⟩
def YieldsL (P : Program) (ops : Array Oper) (C : Array Bool -> World -> Prop) (U : Array Bool -> Prop) (o : Oper) (v : Value) (a : Act) : Prop :=
 (Region.wanted o (yielded ops a.tmps) = true /\ ∀ l w, U l -> C l w -> (execOp a.eval o).run P w = .ok (.value v) w) \/
 (Region.wanted o (yielded ops a.tmps) = false /\ v = undef)
theorem YieldsL.wpOp {i : Nat} {o : Oper} {v : Value} {a : Act} (hi : ops[i]? = some o) (hy : YieldsL P ops C U o v a)
  {K : Act -> World -> Prop} {l : Array Bool} {w : World} (hU : U l) (hC : C l w) (h : K (a.put o.dst v) w) : wpOp P ops Q i K a w := by
 unfold Go.wpOp
 simp only [hi]
 rcases hy with ⟨hw, hv⟩ | ⟨hw, rfl⟩
 ·simp only [hw, if_true, Oper.wp, hv l w hU hC, Oper.upon]; exact .inl h
 ·simp only [hw, Bool.false_eq_true, if_false]; exact h
theorem YieldsL.of_same {o : Oper} {v : Value} {a a' : Act} (hy : YieldsL P ops C U o v a) (he : execOp a'.eval o = execOp a.eval o)
  (hw : Region.wanted o (yielded ops a'.tmps) = Region.wanted o (yielded ops a.tmps)) : YieldsL P ops C U o v a' := by
 unfold YieldsL at *
 rw [he, hw]
 exact hy
theorem wpOp_putL {j : Nat} {oi oj : Oper} {v : Value} (hj : ops[j]? = some oj) (hap : oi.apart ops oj = true)
  (hsi : ∀ cs b, oi.op ≠ .select cs b) (hsj : ∀ cs b, oj.op ≠ .select cs b)
  (hQ : ∀ c a d v w, Q (.panic c) (Act.put a d v) w -> Q (.panic c) a w) {K : Act -> World -> Prop} {a : Act} {w : World}
  (hy : YieldsL P ops C U oi v a) (h : wpOp P ops Q j K (a.put oi.dst v) w) :
  wpOp P ops Q j (fun a' w' => YieldsL P ops C U oi v a' /\ K (a'.put oi.dst v) w') a w := by
 obtain ⟨h1, h2, h3⟩ := Oper.apart_spec hap
 have keep : ∀ (a : Act), YieldsL P ops C U oi v a -> ∀ u, YieldsL P ops C U oi v (a.put oj.dst u) := fun a hy u =>
  hy.of_same (execOp_put oi hsi a oj.dst u h3) (wanted_put oi a oj.dst u h3)
 have keepD : ∀ d, YieldsL P ops C U oi v { a with defers := d :: a.defers } := fun d => hy.of_same rfl rfl
 unfold wpOp at *
 simp only [hj] at *
 rw [wanted_put oj a oi.dst v h1] at h
 split
 ·rename_i hw
  simp only [hw, if_true] at h
  rcases h with h | ⟨hasks, hlets⟩
  case inr => exact .inr ⟨by unfold Oper.asks at *; rw [execOp_put oj hsj a oi.dst v h1] at hasks; exact hasks, hlets⟩
  refine .inl ?_
  unfold Oper.wp at *
  rw [execOp_put oj hsj a oi.dst v h1] at h
  generalize (execOp a.eval oj).run P w = r at *
  cases r with
  | ok n w' =>
   cases n <;> simp only [Oper.upon] at h |-
   case value u => exact ⟨keep a hy u, by rw [<- Act.put_comm a v u h2]; exact h⟩
   case skip => exact ⟨keep a hy _, by rw [<- Act.put_comm a v undef h2]; exact h⟩
   case defer d =>
    refine ⟨keep _ (keepD d) _, ?_⟩
    rw [<- Act.put_comm _ v undef h2, <- Act.put_defers]
    exact h
   case enter f args =>
    refine Calls.mono h fun e w'' he => ?_
    cases e with
    | returned u => exact ⟨keep a hy u, by rw [<- Act.put_comm a v u h2]; exact he⟩
    | panicked c => exact hQ _ _ _ _ _ he
    | outgrown => exact he
   case row row args => exact Rows.mono h fun u w'' he => ⟨keep a hy u, by rw [<- Act.put_comm a v u h2]; exact he⟩
  | halt x w' =>
   cases x <;> simp only [Oper.upon] at h |-
   case panic u => exact hQ _ _ _ _ _ h
 ·rename_i hw
  simp only [hw] at h
  exact ⟨keep a hy _, by rw [<- Act.put_comm a v undef h2]; exact h⟩
theorem wpAnyL_first {i : Nat} {oi : Oper} {v : Value} (hi : ops[i]? = some oi) (hsel : ∀ (j : Nat) (o : Oper) cs b, ops[j]? = some o -> o.op ≠ .select cs b)
  (hQ : ∀ c a d v w, Q (.panic c) (Act.put a d v) w -> Q (.panic c) a w) (hC : ∀ l w, C (l.setIfInBounds i true) w -> C l w)
  (hU : ∀ l j, U l -> i ∈ Region.ready md ops l -> j ≠ i -> j ∈ Region.ready md ops l -> U (l.setIfInBounds j true)) :
  ∀ (fuel : Nat) (listed : Array Bool) (a : Act) (w : World),
   (∀ j oj, ops[j]? = some oj -> j ≠ i -> listed.getD j true = false -> (∀ e ∈ oj.after, Region.binds md e = true -> e.on ≠ i) -> oi.apart ops oj = true) ->
   i ∈ Region.ready md ops listed -> U listed -> YieldsL P ops C U oi v a ->
   wpAnyL P md ops C Q fuel (listed.setIfInBounds i true) (a.put oi.dst v) w -> wpAnyL P md ops C Q (fuel + 1) listed a w := by
 intro fuel
 induction fuel with
 | zero =>
  intro listed a w _ hr hu hy H
  refine ⟨hC _ _ H.1, fun h => (by rw [h] at hr; cases hr), fun j hj => ?_⟩
  by_cases hji : j = i
  ·subst hji; exact hy.wpOp hi hu (hC _ _ H.1) H
  ·have := ready_mono hj hji
   rw [H.2.1] at this
   cases this
 | succ fuel ih =>
  intro listed a w hfree hr hu hy H
  refine ⟨hC _ _ H.1, fun h => (by rw [h] at hr; cases hr), fun j hj => ?_⟩
  by_cases hji : j = i
  ·subst hji; exact hy.wpOp hi hu (hC _ _ H.1) H
  ·have h1 := H.2.2 j (ready_mono hj hji)
   obtain ⟨hjun, oj, hoj, hall⟩ := mem_ready.1 hj
   have hnot : ∀ e ∈ oj.after, Region.binds md e = true -> e.on ≠ i := fun e he hb heq => by
    have h1 := hall e he hb
    have h0 := (mem_ready.1 hr).1
    rw [heq] at h1
    rcases Nat.lt_or_ge i listed.size with h' | h'
    ·simp [h'] at h0 h1; rw [h0] at h1; cases h1
    ·simp [Array.getElem?_eq_none h'] at h1
   have h2 := wpOp_putL hoj (hfree j oj hoj hji hjun hnot) (fun cs b => hsel i oi cs b hi) (fun cs b => hsel j oj cs b hoj) hQ hy h1
   have hfree' : ∀ k ok, ops[k]? = some ok -> k ≠ i -> (listed.setIfInBounds j true).getD k true = false ->
     (∀ e ∈ ok.after, Region.binds md e = true -> e.on ≠ i) -> oi.apart ops ok = true := fun k ok hk hki hun hno => by
    refine hfree k ok hk hki ?_ hno
    by_cases hjk : j = k
    ·subst hjk; exact hjun
    ·rw [getD_set_ne true hjk] at hun; exact hun
   have hu' := hU listed j hu hr hji hj
   refine wpOp_mono (fun a' w' h3 => ih (listed.setIfInBounds j true) a' w' hfree' (ready_mono hr (Ne.symm hji)) hu' h3.1 ?_) h2
   rw [Array.setIfInBounds_comm _ _ hji]
   exact h3.2
end
section
variable {P : Program} {Q : Exit -> Act -> World -> Prop} {md : Region.Mode} {C : Array Bool -> World -> Prop} {L : List Oper}
theorem quiet_yields {ops : Array Oper} {U : Array Bool -> Prop} {D : World -> Prop} {o : Oper} {l : List Oper} {a : Act} {K : Act -> Prop} (ho : readsB o = true) (hD : ∀ l w, U l -> C l w -> D w) (h : wpQuiet P ops D K (o :: l) a) :
  ∃ v, YieldsL P ops C U o v a /\ wpQuiet P ops D K l (a.put o.dst v) := by
 unfold wpQuiet at h
 by_cases hw : Region.wanted o (yielded ops a.tmps) = true
 ·rw [if_pos hw] at h
  obtain ⟨v, hv, hn⟩ := h
  refine ⟨v, .inl ⟨hw, fun l1 w1 hl1 hw1 => ?_⟩, hn⟩
  have h1 := hv w1 (hD l1 w1 hl1 hw1)
  unfold Oper.quietAt at h1
  cases hrun : (execOp a.eval o).run P w1 with
  | ok n w2 =>
   obtain ⟨u, rfl⟩ := reads_value ho hrun
   rw [hrun] at h1
   simp only [Oper.quietUpon] at h1
   rw [h1.1, h1.2]
  | halt x w2 => rw [hrun] at h1; simp only [Oper.quietUpon] at h1
 ·rw [if_neg hw] at h
  exact ⟨undef, .inr ⟨by simpa using hw, rfl⟩, h⟩
theorem mixL_seg0 {ops : Array Oper} (hs : Region.noSelect ops = true) (hQ : ∀ c a d v w, Q (.panic c) (Act.put a d v) w -> Q (.panic c) a w) (D : World -> Prop) (hD : ∀ l w, C l w -> D w) : ∀ (is : List Nat) (_ : ∀ i ∈ is, ∀ l w, C (l.setIfInBounds i true) w -> C l w) (l : List Oper) (fuel : Nat) (listed : Array Bool) (a : Act) (w : World),
  is.map (fun i => ops[i]?) = l.map some -> segB md ops listed is = true ->
  wpQuiet P ops D (fun a' => wpAnyL P md ops C Q fuel (setAll listed is) a' w) l a -> wpAnyL P md ops C Q (fuel + is.length) listed a w
 | [], _, [], _, _, _, _, _, _, h => h
 | [], _, _ :: _, _, _, _, _, hl, _, _ => by simp at hl
 | _ :: _, _, [], _, _, _, _, hl, _, _ => by simp at hl
 | i :: is, hCi, o :: l, fuel, listed, a, w, hl, hB, h => by
  simp only [List.map_cons, List.cons.injEq] at hl
  obtain ⟨hi, hl⟩ := hl
  simp only [segB, hi, Option.map_some, Option.getD_some, Bool.and_eq_true] at hB
  obtain ⟨⟨⟨hf, hr⟩, ho⟩, hB⟩ := hB
  obtain ⟨v, hy, hn⟩ := quiet_yields (C := C) (U := fun _ => True) ho (fun l w _ hc => hD l w hc) h
  exact wpAnyL_first hi (Region.noSelect_spec hs) hQ (hCi i (by simp)) (fun _ _ _ _ _ _ => trivial) (fuel + is.length) listed a w (Region.free_spec hi hf) (by simpa using hr) trivial hy (mixL_seg0 hs hQ D hD is (fun j hj => hCi j (by simp [hj])) l fuel _ _ w hl hB hn)
theorem mixL_seg (hs : Region.noSelect L.toArray = true) (hQ : ∀ c a d v w, Q (.panic c) (Act.put a d v) w -> Q (.panic c) a w) (D : World -> Prop) (hD : ∀ l w, C l w -> D w) (is : List Nat) (hCi : ∀ i ∈ is, ∀ l w, C (l.setIfInBounds i true) w -> C l w) (l : List Oper) (fuel n : Nat) (hn : fuel + is.length = n) (listed : Array Bool) (a : Act) (w : World)
  (hl : is.map (opAt L) = l.map some) (hB : segB md L.toArray listed is = true)
  (h : wpQuiet P L.toArray D (fun a' => wpAnyL P md L.toArray C Q fuel (setAll listed is) a' w) l a) : wpAnyL P md L.toArray C Q n listed a w := by
 subst hn
 exact mixL_seg0 hs hQ D hD is hCi l fuel listed a w (by rw [<- hl]; exact List.map_congr_left fun i _ => (opAt_eq L i).symm) hB h
def waitsB (md : Region.Mode) (ops : Array Oper) (d i : Nat) : Bool := ((ops[d]?).map fun o => o.after.any fun e => Region.binds md e && decide (e.on = i)).getD false
theorem mixL_one (hs : Region.noSelect L.toArray = true) (hQ : ∀ c a d v w, Q (.panic c) (Act.put a d v) w -> Q (.panic c) a w) (D : World -> Prop) (d : Nat) (hD : ∀ l w, l.getD d true = false -> C l w -> D w) (i : Nat) (hCi : ∀ l w, C (l.setIfInBounds i true) w -> C l w) (o : Oper) (fuel : Nat) (listed : Array Bool) (a : Act) (w : World)
  (hi : opAt L i = some o) (hd : waitsB md L.toArray d i = true) (hB : segB md L.toArray listed [i] = true) (hdl : listed.getD d true = false)
  (h : wpQuiet P L.toArray D (fun a' => wpAnyL P md L.toArray C Q fuel (listed.setIfInBounds i true) a' w) [o] a) : wpAnyL P md L.toArray C Q (fuel + 1) listed a w := by
 rw [opAt_eq] at hi
 simp only [segB, hi, Option.map_some, Option.getD_some, Bool.and_eq_true, and_true] at hB
 obtain ⟨⟨hf, hr⟩, ho⟩ := hB
 obtain ⟨v, hy, hn⟩ := quiet_yields (C := C) (U := fun l => l.getD d true = false) ho (fun l w hu hc => hD l w hu hc) h
 unfold wpQuiet at hn
 refine wpAnyL_first hi (Region.noSelect_spec hs) hQ hCi (fun l j hu hri hji hj => ?_) fuel listed a w (Region.free_spec hi hf) (by simpa using hr) hdl hy hn
 by_cases hjd : j = d
 ·subst hjd
  obtain ⟨_, oj, hoj, hall⟩ := mem_ready.1 hj
  unfold waitsB at hd
  rw [hoj] at hd
  simp only [Option.map_some, Option.getD_some] at hd
  obtain ⟨e, he, h1⟩ : ∃ e ∈ oj.after, (Region.binds md e && decide (e.on = i)) = true := by
   simp only [Array.any_eq_true] at hd
   obtain ⟨q, hq, h1⟩ := hd
   exact ⟨_, Array.getElem_mem hq, h1⟩
  rw [Bool.and_eq_true, decide_eq_true_eq] at h1
  have h2 := hall e he h1.1
  have h0 := (mem_ready.1 hri).1
  rw [h1.2] at h2
  rcases Nat.lt_or_ge i l.size with h' | h'
  ·simp [h'] at h0 h2; rw [h0] at h2; cases h2
  ·simp [Array.getElem?_eq_none h'] at h2
 ·rw [getD_set_ne true hjd]; exact hu
theorem mixL_act {i : Nat} {o : Oper} {fuel : Nat} {listed : Array Bool} {a : Act} {w : World} (hi : opAt L i = some o) (hr : Region.ready md L.toArray listed = [i]) (hC : C listed w) (hw : Region.wanted o (yielded L.toArray a.tmps) = true)
  (h : ∀ K : Act -> World -> Prop, (∀ a' w', wpAnyL P md L.toArray C Q fuel (listed.setIfInBounds i true) a' w' -> K a' w') -> o.wp P a w K Q) : wpAnyL P md L.toArray C Q (fuel + 1) listed a w := by
 refine ⟨hC, fun h0 => (by rw [hr] at h0; cases h0), fun j hj => ?_⟩
 rw [hr] at hj
 obtain rfl : j = i := by simpa using hj
 rw [opAt_eq] at hi
 unfold wpOp
 simp only [hi, hw, if_true]
 exact .inl (h _ fun _ _ h => h)
theorem mixL_two {i j : Nat} {o p : Oper} {fuel : Nat} {listed : Array Bool} {a : Act} {w : World} (hi : opAt L i = some o) (hj : opAt L j = some p) (hr : Region.ready md L.toArray listed = [i, j]) (hC : C listed w) (hw : Region.wanted o (yielded L.toArray a.tmps) = true) (hv : Region.wanted p (yielded L.toArray a.tmps) = true)
  (h : ∀ K : Act -> World -> Prop, (∀ a' w', wpAnyL P md L.toArray C Q fuel (listed.setIfInBounds i true) a' w' -> K a' w') -> o.wp P a w K Q)
  (h2 : ∀ K : Act -> World -> Prop, (∀ a' w', wpAnyL P md L.toArray C Q fuel (listed.setIfInBounds j true) a' w' -> K a' w') -> p.wp P a w K Q) : wpAnyL P md L.toArray C Q (fuel + 1) listed a w := by
 rw [opAt_eq] at hi hj
 refine ⟨hC, fun h0 => (by rw [hr] at h0; cases h0), fun k hk => ?_⟩
 rw [hr] at hk
 unfold wpOp
 rcases List.mem_cons.1 hk with rfl | hk
 ·simp only [hi, hw, if_true]
  exact .inl (h _ fun _ _ h => h)
 ·obtain rfl : k = j := by simpa using hk
  simp only [hj, hv, if_true]
  exact .inl (h2 _ fun _ _ h => h)
theorem mixL_done {ops : Array Oper} {fuel : Nat} {listed : Array Bool} {a : Act} {w : World} (hr : Region.ready md ops listed = []) (hC : C listed w) (h : Q .normal a w) : wpAnyL P md ops C Q fuel listed a w := by
 cases fuel with
 | zero => exact ⟨hC, hr, h⟩
 | succ n => exact ⟨hC, fun _ => h, by rw [hr]; simp⟩
end
theorem wp_region_mixL {P : Program} {id : Nat} {Q : Exit -> Act -> World -> Prop} {a : Act} {w : World} {l : List Oper} (C : Array Bool -> World -> Prop) (n : Nat) (hn : l.length = n) (hm : P.follows .mixedOrders = true)
  (h : wpAnyL P .any l.toArray C Q n (Array.replicate n false) a w.drew) : (Code.region id l.toArray true).wp P Q a w := by
 subst hn
 refine wp_region_any hm ?_
 have := wpAny_of_L _ _ _ _ h
 simpa using this
def BoxT (B zb : Nat) (w : World) : Type := { w' : World // Below B w w' /\ w'.heap[zb]? = w.heap[zb]? }
instance (B zb : Nat) (w : World) : Nonempty (BoxT B zb w) := ⟨⟨w, Below.refl _ w, rfl⟩⟩
theorem BoxT.cell {B zb : Nat} {w : World} {o : Nat} {v : Value} (h : w.cell? ⟨zb, o, none⟩ = some v) (e : BoxT B zb w) : e.val.cell? ⟨zb, o, none⟩ = some v := by
 rw [World.cell?_of_block (w := w) e.property.2]; exact h
end Go.Proofs.YtafilaiinbggoaaGreat
