import Derived.Test.YtafilaiinbggoaaGreatQS29
namespace Go.Proofs.YtafilaiinbggoaaGreat
open Go.RowKit
def dstD (L : List Oper) (i : Nat) : Tmp := ((opAt L i).bind (·.dst)).getD 0
def withD (L : List Oper) (a0 : Act) (env : Nat -> Value) : List Nat -> Act
 | [] => a0
 | i :: is => (withD L a0 env is).put (some (dstD L i)) (env i)
def AllI (p : Nat -> Prop) : List Nat -> Prop
 | [] => True
 | i :: is => p i /\ AllI p is
theorem allI_mem {p : Nat -> Prop} : ∀ {l : List Nat}, AllI p l -> ∀ i ∈ l, p i
 | [], _, _, h => by cases h
 | _ :: _, ha, i, h => by
  rcases List.mem_cons.1 h with rfl | h
  ·exact ha.1
  ·exact allI_mem ha.2 i h
theorem allI_of {p : Nat -> Prop} : ∀ {l : List Nat}, (∀ i ∈ l, p i) -> AllI p l
 | [], _ => trivial
 | i :: _, h => ⟨h i (List.mem_cons_self ..), allI_of fun j hj => h j (List.mem_cons_of_mem _ hj)⟩
theorem with_congr {L : List Oper} {a0 : Act} {env env' : Nat -> Value} : ∀ {s : List Nat}, (∀ i ∈ s, env i = env' i) -> withD L a0 env s = withD L a0 env' s
 | [], _ => rfl
 | i :: s, h => by
  show (withD L a0 env s).put _ (env i) = (withD L a0 env' s).put _ (env' i)
  rw [with_congr fun j hj => h j (List.mem_cons_of_mem _ hj), h i (List.mem_cons_self ..)]
theorem with_perm {L : List Oper} {a0 : Act} {env : Nat -> Value} {s s' : List Nat} (hp : s.Perm s') : (s.map (dstD L)).Nodup -> withD L a0 env s = withD L a0 env s' := by
 induction hp with
 | nil => intro _; rfl
 | cons x _ ih =>
  intro h
  show (withD L a0 env _).put _ _ = (withD L a0 env _).put _ _
  rw [ih (List.nodup_cons.1 (by simpa using h)).2]
 | swap x y l =>
  intro h
  show ((withD L a0 env l).put _ (env x)).put _ (env y) = ((withD L a0 env l).put _ (env y)).put _ (env x)
  refine (Act.put_comm _ _ _ fun d hd e => ?_)
  have h1 := (List.nodup_cons.1 (show (dstD L y :: dstD L x :: l.map (dstD L)).Nodup from h)).1
  rw [<- hd] at e
  exact h1 (by rw [Option.some.inj e]; exact List.mem_cons_self ..)
 | trans h1 _ ih1 ih2 =>
  intro h
  rw [ih1 h, ih2 ((h1.map _).nodup_iff.1 h)]
theorem setAll_get : ∀ (s : List Nat) (l : Array Bool) (j : Nat), (setAll l s)[j]? = if j ∈ s then (l[j]?).map (fun _ => true) else l[j]?
 | [], l, j => by simp [setAll]
 | i :: s, l, j => by
  rw [setAll, setAll_get s]
  by_cases hj : j ∈ s
  ·rw [if_pos hj, if_pos (List.mem_cons_of_mem _ hj)]
   by_cases hij : i = j
   ·subst hij
    rcases Nat.lt_or_ge i l.size with h | h
    ·simp [h]
    ·simp [h]
   ·rw [Array.getElem?_setIfInBounds_ne hij]
  ·rw [if_neg hj]
   by_cases hij : i = j
   ·subst hij
    rw [if_pos (List.mem_cons_self ..)]
    rcases Nat.lt_or_ge i l.size with h | h
    ·simp [h]
    ·simp [h]
   ·rw [Array.getElem?_setIfInBounds_ne hij, if_neg (by simp [hj, Ne.symm hij])]
theorem setAll_same {l : Array Bool} {s s' : List Nat} (h : ∀ j, j ∈ s ↔ j ∈ s') : setAll l s = setAll l s' := by
 refine Array.ext_getElem? fun j => ?_
 rw [setAll_get, setAll_get]
 simp only [h j]
theorem setAll_cons (l : Array Bool) (i : Nat) (s : List Nat) : (setAll l s).setIfInBounds i true = setAll l (i :: s) := by
 have e : setAll l (i :: s) = setAll l (s ++ [i]) := setAll_same fun j => by simp [or_comm]
 rw [e]
 have : ∀ (s : List Nat) (l : Array Bool), setAll l (s ++ [i]) = (setAll l s).setIfInBounds i true := fun s => by
  induction s with
  | nil => intro l; rfl
  | cons j s ih => intro l; exact ih _
 exact (this s l).symm
def subsI : List Nat -> List (List Nat)
 | [] => [[]]
 | i :: l => subsI l ++ (subsI l).map (i :: ·)
theorem filter_subs (p : Nat -> Bool) : ∀ l : List Nat, l.filter p ∈ subsI l
 | [] => by simp [subsI]
 | i :: l => by
  have ih := filter_subs p l
  unfold subsI
  rw [List.filter_cons]
  split
  ·exact List.mem_append_right _ (List.mem_map.2 ⟨_, ih, rfl⟩)
  ·exact List.mem_append_left _ ih
def nodupB : List Nat -> Bool
 | [] => true
 | i :: l => !l.contains i && nodupB l
theorem nodupB_spec : ∀ {l : List Nat}, nodupB l = true -> l.Nodup
 | [], _ => List.nodup_nil
 | i :: l, h => by
  unfold nodupB at h
  rw [Bool.and_eq_true] at h
  exact List.nodup_cons.2 ⟨by simpa using h.1, nodupB_spec h.2⟩
def closedB (md : Region.Mode) (ops : Array Oper) (listed : Array Bool) (s : List Nat) : Bool := s.all fun i => ((ops[i]?).map fun o => o.after.all fun e => !Region.binds md e || listed.getD e.on false).getD false
def opOkB (L : List Oper) (acts : List Nat) (deps : Nat -> List Nat) (i : Nat) : Bool := match opAt L i with
 | some o => o.dst.isSome && o.guard.isNone && (match o.op with | .select .. => false | _ => true) && o.op.operands.toList.all fun x => match x with
  | .tmp t => acts.all fun k => dstD L k != t || (deps i).contains k
  | _ => true
 | none => false
def actsB (md : Region.Mode) (L : List Oper) (acts : List Nat) (deps : Nat -> List Nat) (listed : Array Bool) : Bool :=
 nodupB acts && nodupB (acts.map (dstD L)) && acts.all (opOkB L acts deps) && acts.all (fun i => nodupB (deps i)) && (subsI acts).all fun s =>
  let li := setAll listed s
  !closedB md L.toArray li s || s.length == acts.length || (!(Region.ready md L.toArray li).isEmpty && (Region.ready md L.toArray li).all fun i => acts.contains i && !s.contains i && (deps i).all fun j => s.contains j)
theorem filter_perm {acts s : List Nat} (hN : acts.Nodup) (hs : s.Nodup) (hsub : ∀ i ∈ s, i ∈ acts) : (acts.filter fun k => s.contains k).Perm s := (List.perm_ext_iff_of_nodup (hN.filter _) hs).2 fun j => by
 rw [List.mem_filter]
 simp only [List.contains_iff_mem]
 exact ⟨fun h => h.2, fun h => ⟨hsub j h, h⟩⟩
theorem perm_full {acts s : List Nat} (hN : acts.Nodup) (hs : s.Nodup) (hsub : ∀ i ∈ s, i ∈ acts) (hl : s.length = acts.length) : s.Perm acts := by
 have h1 := filter_perm hN hs hsub
 have h2 : acts.filter (fun k => s.contains k) = acts := List.filter_eq_self.2 (List.length_filter_eq_length_iff.1 (h1.length_eq.trans hl))
 rw [h2] at h1
 exact h1.symm
theorem put_alike {a b : Act} {d : Option Tmp} {u v : Value} (hs : a.tmps.size = b.tmps.size) (h : a.put d u = a.put d v) : b.put d u = b.put d v := by
 cases d with
 | none => rfl
 | some d =>
  simp only [Act.put] at h |-
  have h1 : a.tmps.setIfInBounds d u = a.tmps.setIfInBounds d v := congrArg Act.tmps h
  congr 1
  rcases Nat.lt_or_ge d a.tmps.size with hd | hd
  ·have h2 := congrArg (fun x : Array Value => x[d]?) h1
   simp only [Array.getElem?_setIfInBounds_self_of_lt hd, Option.some.injEq] at h2
   rw [h2]
  ·rw [Array.setIfInBounds_eq_of_size_le (by omega), Array.setIfInBounds_eq_of_size_le (by omega)]
theorem put_size (a : Act) (d : Option Tmp) (v : Value) : (a.put d v).tmps.size = a.tmps.size := by cases d <;> simp [Act.put]
theorem with_size {L : List Oper} {a0 : Act} {env : Nat -> Value} : ∀ {s : List Nat}, (withD L a0 env s).tmps.size = a0.tmps.size
 | [] => rfl
 | _ :: _ => (put_size _ _ _).trans with_size
section
variable {P : Program} {Q : Exit -> Act -> World -> Prop} {md : Region.Mode} {L : List Oper} {C D : World -> Prop} {a0 : Act} {acts : List Nat} {deps : Nat -> List Nat} {Φ : Nat -> List Value -> Value -> World -> Prop}
theorem wp_frame {o : Oper} {a a' : Act} {w : World} {K K' : Act -> World -> Prop} (he : execOp a.eval o = execOp a'.eval o) (hw : o.wp P a' w K' (fun _ _ _ => False)) (hK : ∀ v w', K' (a'.put o.dst v) w' -> K (a.put o.dst v) w') (hK2 : ∀ d v w', ¬ K' ({ a' with defers := d :: a'.defers }.put o.dst v) w') : o.wp P a w K Q := by
 unfold Oper.wp at *
 rw [he]
 generalize (execOp a'.eval o).run P w = r at *
 cases r with
 | ok n w' =>
  cases n <;> simp only [Oper.upon] at hw |-
  case value u => exact hK _ _ hw
  case skip => exact hK _ _ hw
  case defer d => exact absurd hw (hK2 _ _ _)
  case enter f args =>
   refine Calls.mono hw fun e w'' h => ?_
   cases e with
   | returned u => exact hK _ _ h
   | panicked c => exact h.elim
   | outgrown => exact (by obtain ⟨_, _, h⟩ := h; exact h.elim)
  case row row args => exact Rows.mono hw fun u w'' h => hK _ _ h
 | halt x w' => cases x <;> simp only [Oper.upon] at hw
theorem put_defers (a : Act) (d : Option Tmp) (v : Value) : (a.put d v).defers = a.defers := by cases d <;> rfl
theorem with_eval {env : Nat -> Value} {x : Operand} : ∀ {s : List Nat} (t : List Nat), (∀ k ∈ s, (∀ d, x = .tmp d -> dstD L k ≠ d) \/ k ∈ t) -> (∀ k ∈ t, k ∈ s) -> (s.map (dstD L)).Nodup -> t.Nodup -> (withD L a0 env s).eval x = (withD L a0 env t).eval x := by
 intro s t h1 h2 hs ht
 have hsn : s.Nodup := List.Pairwise.of_map (dstD L) (fun a b h e => h (by rw [e])) hs
 have hp : s.Perm (s.filter (fun k => !t.contains k) ++ t) := by
  refine (List.perm_ext_iff_of_nodup hsn (List.nodup_append.2 ⟨hsn.filter _, ht, fun a ha b hb e => ?_⟩)).2 fun k => ?_
  ·subst e
   have := (List.mem_filter.1 ha).2
   simp [hb] at this
  ·rw [List.mem_append, List.mem_filter]
   constructor
   ·intro hk
    by_cases hkt : k ∈ t
    ·exact .inr hkt
    ·exact .inl ⟨hk, by simp [hkt]⟩
   ·rintro (⟨hk, _⟩ | hk)
    ·exact hk
    ·exact h2 k hk
 rw [with_perm hp hs]
 have : ∀ u : List Nat, (∀ k ∈ u, ∀ d, x = .tmp d -> dstD L k ≠ d) -> (withD L a0 env (u ++ t)).eval x = (withD L a0 env t).eval x := fun u => by
  induction u with
  | nil => intro _; rfl
  | cons k u ih =>
   intro hu
   show ((withD L a0 env (u ++ t)).put _ _).eval x = _
   rw [Act.eval_put fun d hd e => ?_]
   ·exact ih fun j hj => hu j (List.mem_cons_of_mem _ hj)
   ·exact hu k (List.mem_cons_self ..) d e (Option.some.inj hd)
 refine this _ fun k hk d e => ?_
 obtain ⟨hk, hnt⟩ := List.mem_filter.1 hk
 rcases h1 k hk with h | h
 ·exact h d e
 ·simp [h] at hnt
theorem mixl_acts (acts : List Nat) (deps : Nat -> List Nat) (D : World -> Prop) (Φ : Nat -> List Value -> Value -> World -> Prop) (fuel n : Nat) (hn : fuel + acts.length = n) (listed : Array Bool) (a0 : Act) (w : World)
  (hDC : ∀ w, D w -> C w) (hB : actsB md L acts deps listed = true)
  (hΦ : ∀ i ds v w w', Φ i ds v w -> Below w.heap.size w w' -> Φ i ds v w')
  (spec : AllI (fun i => ∃ o, opAt L i = some o /\ ∀ env w, D w -> AllI (fun j => Φ j ((deps j).map env) (env j) w) (deps i) -> ∀ K : Act -> World -> Prop, (∀ v w', D w' -> Below w.heap.size w w' -> Φ i ((deps i).map env) v w' -> K ((withD L a0 env (deps i)).put o.dst v) w') -> o.wp P (withD L a0 env (deps i)) w K (fun _ _ _ => False)) acts)
  (hw : D w) (fin : ∀ env w, D w -> AllI (fun i => Φ i ((deps i).map env) (env i) w) acts -> wpAnyC P md L.toArray C Q fuel (setAll listed acts) (withD L a0 env acts) w) : wpAnyC P md L.toArray C Q n listed a0 w := by
 unfold actsB at hB
 simp only [Bool.and_eq_true] at hB
 obtain ⟨⟨⟨⟨hN, hND⟩, hO⟩, hDN⟩, hR⟩ := hB
 have hN := nodupB_spec hN
 have hND := nodupB_spec hND
 have key : ∀ (m : Nat) (s : List Nat) (env : Nat -> Value) (w : World), m + s.length = acts.length -> s.Nodup -> (∀ i ∈ s, i ∈ acts) -> closedB md L.toArray (setAll listed s) s = true -> (∀ i ∈ s, ∀ j ∈ deps i, j ∈ s) -> D w -> (∀ i ∈ s, Φ i ((deps i).map env) (env i) w) -> wpAnyC P md L.toArray C Q (fuel + m) (setAll listed s) (withD L a0 env s) w := by
  intro m
  induction m with
  | zero =>
   intro s env w hm hs hsub hcl hds hw hf
   have hp : s.Perm acts := perm_full hN hs hsub (by omega)
   rw [with_perm hp ((hp.map _).nodup_iff.2 hND), setAll_same (s' := acts) fun j => hp.mem_iff]
   exact fin env w hw (allI_of fun i hi => hf i (hp.mem_iff.2 hi))
  | succ m ih =>
   intro s env w hm hs hsub hcl hds hw hf
   have hcs : ∀ j, j ∈ acts.filter (fun k => s.contains k) ↔ j ∈ s := fun j => by
    rw [List.mem_filter]
    simp only [List.contains_iff_mem]
    exact ⟨fun h => h.2, fun h => ⟨hsub j h, h⟩⟩
   have hcp : (acts.filter (fun k => s.contains k)).Perm s := (List.perm_ext_iff_of_nodup (hN.filter _) hs).2 hcs
   have h1 := List.all_eq_true.1 hR _ (filter_subs (fun k => s.contains k) acts)
   generalize hc : acts.filter (fun k => s.contains k) = c at hcs hcp h1
   have hli : setAll listed c = setAll listed s := setAll_same hcs
   simp only [hli] at h1
   have hclc : closedB md L.toArray (setAll listed s) c = true := by
    unfold closedB at hcl |-
    rw [List.all_eq_true] at hcl |-
    exact fun i hi => hcl i ((hcs i).1 hi)
   have hlen : (c.length == acts.length) = false := by
    rw [hcp.length_eq]
    exact beq_false_of_ne (by omega)
   rw [hclc, hlen] at h1
   simp only [Bool.not_true, Bool.false_or, Bool.and_eq_true] at h1
   obtain ⟨hne, hall⟩ := h1
   rw [List.all_eq_true] at hall
   refine ⟨hDC w hw, fun h0 => (by rw [h0] at hne; cases hne), fun i hi => ?_⟩
   have h2 := hall i hi
   simp only [Bool.and_eq_true, List.all_eq_true] at h2
   obtain ⟨⟨hia, his⟩, hid⟩ := h2
   have hia : i ∈ acts := by simpa using hia
   have his : i ∉ s := fun e => by
    have := (hcs i).2 e
    simp [this] at his
   have hid : ∀ j ∈ deps i, j ∈ s := fun j hj => (hcs j).1 (by simpa using hid j hj)
   obtain ⟨o, ho, hsp⟩ := allI_mem spec i hia
   have hok := List.all_eq_true.1 hO i hia
   unfold opOkB at hok
   rw [ho] at hok
   simp only [Bool.and_eq_true] at hok
   obtain ⟨⟨⟨hd1, hg⟩, hse⟩, hop⟩ := hok
   have hdn := nodupB_spec (List.all_eq_true.1 hDN i hia)
   have hdst : o.dst = some (dstD L i) := by
    unfold dstD
    rw [ho]
    cases e : o.dst with
    | none => rw [e] at hd1; cases hd1
    | some d => simp [e]
   have hsn : (s.map (dstD L)).Nodup := by
    refine ((filter_perm hN hs hsub).map _).nodup_iff.1 ?_
    exact List.Pairwise.sublist ((List.filter_sublist (p := fun k => s.contains k) (l := acts)).map _) hND
   have hex : execOp (withD L a0 env s).eval o = execOp (withD L a0 env (deps i)).eval o := by
    refine execOp_congr o (fun cs b e => by rw [e] at hse; cases hse) fun x hx => ?_
    refine with_eval (deps i) (fun k hk => ?_) hid hsn hdn
    have h3 := List.all_eq_true.1 hop x (by simpa using hx)
    by_cases hkd : k ∈ deps i
    ·exact .inr hkd
    ·refine .inl fun d e => ?_
     subst e
     have h4 := List.all_eq_true.1 h3 k (hsub k hk)
     simp [hkd] at h4
     exact h4
   have hopE : L.toArray[i]? = some o := by rw [<- opAt_eq]; exact ho
   have hwant : Region.wanted o (yielded L.toArray (withD L a0 env s).tmps) = true := by
    unfold Region.wanted
    cases e : o.guard with
    | none => rfl
    | some g => rw [e] at hg; cases hg
   unfold wpOp
   simp only [hopE, hwant, if_true]
   have hspE := hsp env w hw (allI_of fun j hj => hf j (hid j hj)) (fun a' w' => ∃ v, a' = (withD L a0 env (deps i)).put o.dst v /\ D w' /\ Below w.heap.size w w' /\ Φ i ((deps i).map env) v w') (fun v w' h1 h2 h3 => ⟨v, rfl, h1, h2, h3⟩)
   refine .inl (wp_frame hex hspE ?_ ?_)
   ·rintro u w' ⟨v, he, h1, h2, h3⟩
    rw [put_alike (by rw [with_size, with_size]) he]
    obtain ⟨env', hee⟩ : ∃ env' : Nat -> Value, env' = fun k => if k = i then v else env k := ⟨_, rfl⟩
    have he1 : ∀ k ∈ s, env k = env' k := fun k hk => by
     have hki : ¬ k = i := fun e => his (by rw [<- e]; exact hk)
     rw [hee]
     exact (if_neg hki).symm
    have he2 : env' i = v := by rw [hee]; exact if_pos rfl
    have hgo := ih (i :: s) env' w' (by simp only [List.length_cons]; omega) (List.nodup_cons.2 ⟨his, hs⟩) (fun k hk => by
     rcases List.mem_cons.1 hk with rfl | hk
     ·exact hia
     ·exact hsub k hk) ?_ (fun k hk j hj => by
     rcases List.mem_cons.1 hk with rfl | hk
     ·exact List.mem_cons_of_mem _ (hid j hj)
     ·exact List.mem_cons_of_mem _ (hds k hk j hj)) h1 (fun k hk => by
     rcases List.mem_cons.1 hk with rfl | hk
     ·rw [he2, <- List.map_congr_left fun j hj => he1 j (hid j hj)]
      exact h3
     ·rw [<- he1 k hk, <- List.map_congr_left fun j hj => he1 j (hds k hk j hj)]
      exact hΦ _ _ _ _ _ (hf k hk) h2)
    ·rw [setAll_cons]
     have e : withD L a0 env' (i :: s) = (withD L a0 env s).put o.dst v := by
      show (withD L a0 env' s).put _ (env' i) = _
      rw [<- with_congr he1, he2, hdst]
     rw [<- e]
     exact hgo
    ·unfold closedB at hcl |-
     rw [List.all_cons, Bool.and_eq_true]
     refine ⟨?_, ?_⟩
     ·rw [hopE]
      obtain ⟨_, o2, ho2, he3⟩ := mem_ready.1 hi
      rw [hopE] at ho2
      obtain rfl := Option.some.inj ho2
      simp only [Option.map_some, Option.getD_some, Array.all_eq_true_iff_forall_mem, Bool.or_eq_true, Bool.not_eq_true']
      intro e hem
      cases hb : Region.binds md e with
      | false => exact .inl rfl
      | true =>
       refine .inr ?_
       rw [<- setAll_cons]
       exact getD_set_true (he3 e hem hb)
     ·rw [List.all_eq_true] at hcl |-
      intro k hk
      have h4 := hcl k hk
      cases hok : L.toArray[k]? with
      | none => rw [hok] at h4; cases h4
      | some ok =>
       rw [hok] at h4
       simp only [Option.map_some, Option.getD_some, Array.all_eq_true_iff_forall_mem, Bool.or_eq_true, Bool.not_eq_true'] at h4 |-
       intro e hem
       rcases h4 e hem with h5 | h5
       ·exact .inl h5
       ·refine .inr ?_
        rw [<- setAll_cons]
        exact getD_set_true h5
   ·rintro d v w' ⟨u, he, _⟩
    have h5 := congrArg Act.defers he
    rw [put_defers, put_defers] at h5
    exact absurd (congrArg List.length h5) (by simp)
 have := key acts.length [] (fun _ => undef) w (by simp) List.nodup_nil (fun i hi => by cases hi) rfl (fun i hi => by cases hi) hw (fun i hi => by cases hi)
 rw [hn] at this
 exact this
end
end Go.Proofs.YtafilaiinbggoaaGreat
