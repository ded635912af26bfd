/- Plans: what is gathered lies in a map of maps. -/
import Derived.Test.YtcmfanfkcbjeoaaGreatDoorHA
import Derived.Test.YtcmfanfkcbjeoaaGreatDoorHC
namespace Go.Proofs.YtcmfanfkcbjeoaaGreatDoor
open Go.RowKit Go.Maps Go.WideMaps

theorem MapV.mono {b n m : Nat} {f : ByteArray → Option Value} {w : World} (h : MapV b n f w) (hm : n ≤ m) : MapV b m f w := by
  obtain ⟨D, h1, h2, h3⟩ := h
  exact ⟨D, h1.mono hm, h2, h3⟩
theorem MapV.block {b n : Nat} {f : ByteArray → Option Value} {w : World} (h : MapV b n f w) : ∃ es k, w.heap[b]? = some (.map es k) := by
  obtain ⟨D, ⟨es, k, h1, _⟩, _⟩ := h
  exact ⟨es, k, h1⟩
theorem MapV.setCell {b n : Nat} {f : ByteArray → Option Value} {w : World} (h : MapV b n f w) {a : Addr} (ha : b ≠ a.block) (u : Value) : MapV b n f (w.setCell a u) := by
  obtain ⟨D, h1, h2, h3⟩ := h
  exact ⟨D, h1.setCell ha u, h2, h3⟩
theorem MapV.putN {b n : Nat} {f : ByteArray → Option Value} {w : World} {t e : TypeId} (h : MapV b n f w) (ht : Tryz.prog.underlying t = some (.map 9 e)) (s : ByteArray) (hs : s.size ≤ 1000000) (v : Value) (hn : n ≤ 100000000000) :
    ∃ w', (Instr.mapUpdate t (.map (some b)) (.string s) v).run Tryz.prog w = .ok () w' ∧ MapV b (n + 1) (fun k => if k = s then some v else f k) w' ∧ w.grownBy w' (some b) := by
  obtain ⟨D, h1, h2, h3⟩ := h
  obtain ⟨w', hrun, hown, hg⟩ := h1.update mapKeyedV ht (by unfold maxLen; omega) (keyOf_string_mk Tryz.underlying9 (s := s) (by unfold maxLen; omega)) (show heldElem v = some (.held v, []) from rfl)
  refine ⟨w', hrun, ⟨_, hown, h2.put _ _, fun k zd => ?_⟩, hg⟩
  by_cases e : k = s
  · subst e
    rw [atKey_put_same h2 (show WideAt.IsKeyLit (.string k.data.toList) from trivial)]
    simp
  · rw [atKey_put_other (fun e2 => e (by
      have := Lit.string.inj e2
      have := Array.toList_inj.1 this
      cases k; cases s; simp_all)), h3 k]
    simp [e]
theorem nil_look {t e : TypeId} {z : Value} {w : World} (ht : Tryz.prog.underlying t = some (.map 9 e)) (hz : (zeroValue e).run Tryz.prog w = .ok z w) (s : ByteArray) (hs : s.size ≤ 1000000) :
    (Instr.lookup t (.map none) (.string s) true).run Tryz.prog w = .ok (.tuple #[z, .bool false]) w := by
  have := Maps.look_nil true mapKeyedV ht hz (keyOf_string_mk Tryz.underlying9 (s := s) (by unfold maxLen; omega))
  simpa using this

/-- no block but maps has turned -/
structure KeepM (w w' : World) : Prop where
  size : w.heap.size ≤ w'.heap.size
  block : ∀ (q : Nat) (o : Obj), w.heap[q]? = some o → (∀ es k, o ≠ .map es k) → w'.heap[q]? = some o
theorem KeepM.refl (w : World) : KeepM w w := ⟨Nat.le_refl _, fun _ _ h _ => h⟩
theorem KeepM.trans {w w1 w2 : World} (h : KeepM w w1) (k : KeepM w1 w2) : KeepM w w2 := ⟨Nat.le_trans h.size k.size, fun q o ho hn => k.block q o (h.block q o ho hn) hn⟩
theorem KeepM.cells {w w' : World} (h : KeepM w w') {q : Nat} {cs : Array Value} {t : TypeId} {fr : Nat × Nat} (hq : w.heap[q]? = some (.cells cs t fr)) : w'.heap[q]? = some (.cells cs t fr) := h.block q _ hq (fun _ _ e => by cases e)
theorem KeepM.cle {w w' : World} (h : KeepM w w') : CLe (cf w) (cf w') := fun b o v hv => by
  unfold cf World.cell? at hv ⊢
  cases e : w.heap[b]? with
  | none => simp [e] at hv
  | some ob =>
    cases ob with
    | cells cs t fr => rw [h.cells e]; simpa [e] using hv
    | _ => simp [e] at hv
theorem KeepM.below {w w' : World} (k : Below w.heap.size w w') : KeepM w w' := ⟨k.size, fun _ _ h _ => kept h k⟩
theorem KeepM.grown {w w' : World} {b : Nat} {es : Array MapEntry} {k : Nat} (hm : w.heap[b]? = some (.map es k)) (g : w.grownBy w' (some b)) : KeepM w w' := ⟨g.size, fun q o ho hn => by
  by_cases e : q = b
  · subst e; rw [hm] at ho; cases ho; exact absurd rfl (hn es k)
  · rw [g.block q (heap_lt ho) (fun e2 => e (Option.some.inj e2))]; exact ho⟩

/-- what lies there is what is asked -/
def OptJ (c : CF) : Option JV → Option Value → Prop
  | none, none => True
  | some x, some v => JAt c x v
  | _, _ => False
theorem OptJ.none_ {c : CF} {v : Option Value} (h : OptJ c none v) : v = none := by cases v <;> simp_all [OptJ]
theorem OptJ.some_ {c : CF} {x : JV} {v : Option Value} (h : OptJ c (some x) v) : ∃ y, v = some y ∧ JAt c x y := by cases v <;> simp_all [OptJ]
theorem OptJ.is {c : CF} {x : Option JV} {v : Option Value} (h : OptJ c x v) : v.isSome = x.isSome := by cases x <;> cases v <;> simp_all [OptJ]
theorem OptJ.mono {c c' : CF} {x : Option JV} {v : Option Value} (h : OptJ c x v) (hc : CLe c c') : OptJ c' x v := by
  cases x <;> cases v <;> simp_all [OptJ]
  exact h.mono hc

/-- block bA is a map of maps: g tells each path's, in which lies the first of each name -/
structure AskG (c : CF) (B bA : Nat) (l : List AskP) (nA nI : Nat) (g : ByteArray → Option Nat) (w : World) : Prop where
  all : MapV bA nA (fun p => (g p).map fun b => Value.map (some b)) w
  inn : ∀ p b, g p = some b → B ≤ b ∧ b ≠ bA ∧ ∃ m h, m ≤ nI ∧ MapV b m h w ∧ ∀ t, OptJ c (firstF l p t) (h t)
  inj : ∀ p q b, g p = some b → g q = some b → p = q
  out : ∀ p, g p = none → ∀ t, firstF l p t = none
  lo : B ≤ bA
theorem AskG.start (c : CF) {B : Nat} {w : World} (hB : B ≤ w.heap.size) : AskG c B w.heap.size [] 0 0 (fun _ => none) (w.alloc (.map #[] 0)) :=
  ⟨by simpa using MapV.start w, fun p b h => (by cases h), fun p q b h => (by cases h), fun _ _ _ => rfl, hB⟩
theorem AskG.kept {c : CF} {B bA : Nat} {l : List AskP} {nA nI : Nat} {g : ByteArray → Option Nat} {w w' : World} (h : AskG c B bA l nA nI g w) (k : Below w.heap.size w w') : AskG c B bA l nA nI g w' :=
  ⟨h.all.quiet k, fun p b hb => by
    obtain ⟨h1, h2, m, f, h3, h4, h5⟩ := h.inn p b hb
    exact ⟨h1, h2, m, f, h3, h4.quiet k, h5⟩, h.inj, h.out, h.lo⟩
theorem AskG.drew {c : CF} {B bA : Nat} {l : List AskP} {nA nI : Nat} {g : ByteArray → Option Nat} {w : World} (h : AskG c B bA l nA nI g w) : AskG c B bA l nA nI g w.drew :=
  ⟨h.all.drew, fun p b hb => by
    obtain ⟨h1, h2, m, f, h3, h4, h5⟩ := h.inn p b hb
    exact ⟨h1, h2, m, f, h3, h4.drew, h5⟩, h.inj, h.out, h.lo⟩
theorem AskG.look {c : CF} {B bA : Nat} {l : List AskP} {nA nI : Nat} {g : ByteArray → Option Nat} {w : World} (h : AskG c B bA l nA nI g w) (s : ByteArray) (hs : s.size ≤ 1000000) :
    (Instr.lookup 152 (.map (some bA)) (.string s) false).run Tryz.prog w = .ok (.map (g s)) w := by
  have := h.all.look Tryz.underlying152 (show (zeroValue 155).run Tryz.prog w = .ok (.map none) w by kernel_rfl) s hs
  rw [this]
  cases g s <;> rfl
/-- a path's map is made -/
theorem AskG.make {c : CF} {B bA : Nat} {l : List AskP} {nA nI : Nat} {g : ByteArray → Option Nat} {w : World} (h : AskG c B bA l nA nI g w) (s : ByteArray) (hs : s.size ≤ 1000000) (hg : g s = none) (hn : nA ≤ 100000000000) (hB : B ≤ w.heap.size) :
    ∃ w', (Instr.mapUpdate 152 (.map (some bA)) (.string s) (.map (some w.heap.size))).run Tryz.prog (w.alloc (.map #[] 0)) = .ok () w' ∧ AskG c B bA l (nA + 1) nI (fun p => if p = s then some w.heap.size else g p) w' ∧ KeepM w w' ∧ Below B w w' := by
  have hk : Below w.heap.size w (w.alloc (.map #[] 0)) := (Below.refl _ w).alloc (Nat.le_refl _) _
  have h2 := h.kept hk
  obtain ⟨w', hrun, hm, hgr⟩ := h2.all.putN Tryz.underlying152 s hs (.map (some w.heap.size)) hn
  have hlt := h.all.lt
  obtain ⟨es, q, hes⟩ := h2.all.block
  refine ⟨w', hrun, ⟨?_, ?_, ?_, ?_, h.lo⟩, (KeepM.below hk).trans (KeepM.grown hes hgr), (hk.mono hB).grown hgr (by simp; omega) (fun k e => by cases e; exact h.lo)⟩
  · refine cast (congrArg (fun f => MapV bA (nA + 1) f w') ?_) hm
    funext p
    by_cases e : p = s <;> simp [e]
  · intro p b hb
    by_cases e : p = s
    · subst e
      rw [if_pos rfl] at hb
      obtain rfl := Option.some.inj hb
      refine ⟨hB, by omega, 0, _, Nat.zero_le _, (MapV.start w).kept hgr (fun e => by have := Option.some.inj e; omega), fun t => ?_⟩
      rw [h.out p hg t]; trivial
    · rw [if_neg e] at hb
      obtain ⟨h1, h3, m, f, h4, h5, h6⟩ := h2.inn p b hb
      exact ⟨h1, h3, m, f, h4, h5.kept hgr (fun e => h3 (Option.some.inj e)), h6⟩
  · intro p r b hp hr
    by_cases e : p = s <;> by_cases e2 : r = s
    · rw [e, e2]
    · rw [if_pos e] at hp; rw [if_neg e2] at hr
      obtain ⟨_, _, m, f, _, h5, _⟩ := h.inn r b hr
      have := h5.lt; have := Option.some.inj hp; omega
    · rw [if_neg e] at hp; rw [if_pos e2] at hr
      obtain ⟨_, _, m, f, _, h5, _⟩ := h.inn p b hp
      have := h5.lt; have := Option.some.inj hr; omega
    · rw [if_neg e] at hp; rw [if_neg e2] at hr; exact h.inj p r b hp hr
  · intro p hp
    by_cases e : p = s
    · rw [if_pos e] at hp; cases hp
    · rw [if_neg e] at hp; exact h.out p hp
/-- a test is added -/
theorem first_snoc (l : List AskP) (s t : ByteArray) (x : JV) (p k : ByteArray) : firstF (l ++ [(s, t, x)]) p k = match firstF l p k with | some v => some v | none => if s = p ∧ t = k then some x else none := by
  rw [firstF_app]
  cases firstF l p k with
  | some v => rfl
  | none => unfold firstF; by_cases h : s = p ∧ t = k <;> simp [h]
theorem AskG.add {c : CF} {B bA : Nat} {l : List AskP} {nA nI : Nat} {g : ByteArray → Option Nat} {w w' : World} (h : AskG c B bA l nA nI g w) {s t : ByteArray} {b m : Nat} {f : ByteArray → Option Value} {x : JV} {v : Value} (hg : g s = some b)
    (ho : ∀ k, OptJ c (firstF l s k) (f k)) (hm : MapV b m (fun k => if k = t then some ((f t).getD v) else f k) w') (hmn : m ≤ nI + 1) (hx : JAt c x v) (hgr : w.grownBy w' (some b)) : AskG c B bA (l ++ [(s, t, x)]) nA (nI + 1) g w' := by
  obtain ⟨h1, h2, _⟩ := h.inn s b hg
  refine ⟨h.all.kept hgr (fun e => h2 (Option.some.inj e).symm), fun p q hp => ?_, h.inj, fun p hp k => ?_, h.lo⟩
  · by_cases e : p = s
    · subst e
      rw [hg] at hp
      obtain rfl := Option.some.inj hp
      refine ⟨h1, h2, m, _, hmn, hm, fun k => ?_⟩
      have hk := ho k
      rw [first_snoc]
      by_cases e : k = t
      · subst e
        cases e1 : firstF l p k with
        | some y =>
          rw [e1] at hk
          obtain ⟨z, hz, hj⟩ := hk.some_
          simp [hz, OptJ, hj]
        | none =>
          rw [e1] at hk
          simp [hk.none_, OptJ, hx]
      · rw [if_neg e]
        have e2 : ¬ (p = p ∧ t = k) := fun e3 => e e3.2.symm
        cases e1 : firstF l p k with
        | some y => rw [e1] at hk; exact hk
        | none => rw [e1] at hk; show OptJ c (if p = p ∧ t = k then some x else none) (f k); rw [if_neg e2]; exact hk
    · obtain ⟨h3, h4, m2, f2, h5, h6, h7⟩ := h.inn p q hp
      refine ⟨h3, h4, m2, f2, by omega, h6.kept hgr (fun e2 => e ?_), fun k => ?_⟩
      · have := Option.some.inj e2
        subst this
        exact h.inj p s q hp hg
      · rw [first_snoc]
        have e2 : ¬ (s = p ∧ t = k) := fun e3 => e e3.1.symm
        have := h7 k
        cases e1 : firstF l p k with
        | some y => rw [e1] at this; exact this
        | none => rw [e1] at this; show OptJ c (if s = p ∧ t = k then some x else none) (f2 k); rw [if_neg e2]; exact this
  · rw [first_snoc, h.out p hp k]
    by_cases e : s = p ∧ t = k
    · rw [e.1] at hg; rw [hg] at hp; cases hp
    · show (if s = p ∧ t = k then some x else none) = none; rw [if_neg e]
/-- five cells of a value -/
def Val5 (v : Value) : Prop := ∃ k n u na nl nc ia il ic, v = .agg #[.int .i64 k, .int .i64 n, .string u, .slice na nl nc, .slice ia il ic]
theorem Val5.of {c : CF} {x : JV} {v : Value} (h : JAt c x v) : Val5 v := by
  obtain ⟨k, n, u, nm, it, na, ncap, ia, icap, _, rfl, _⟩ := h.open
  exact ⟨_, _, _, _, _, _, _, _, _, rfl⟩
abbrev zeroJ : Value := .agg #[.int .i64 0, .int .i64 0, .string ⟨#[]⟩, .slice none 0 0, .slice none 0 0]
theorem zeroJ_run (w : World) : (zeroValue 25).run Tryz.prog w = .ok zeroJ w := by kernel_rfl
/-- what a path's map answers to a name -/
theorem AskG.test {c : CF} {B bA : Nat} {l : List AskP} {nA nI : Nat} {g : ByteArray → Option Nat} {w : World} (h : AskG c B bA l nA nI g w) (s t : ByteArray) (ht : t.size ≤ 1000000) :
    ∃ v, (Instr.lookup 155 (.map (g s)) (.string t) true).run Tryz.prog w = .ok (.tuple #[v, .bool (firstF l s t).isSome]) w ∧ Val5 v ∧ ∀ x, firstF l s t = some x → JAt c x v := by
  cases hg : g s with
  | none =>
    have e := h.out s hg t
    refine ⟨zeroJ, ?_, ⟨_, _, _, _, _, _, _, _, _, rfl⟩, fun x hx => by rw [e] at hx; cases hx⟩
    rw [e]
    exact nil_look Tryz.underlying155 (zeroJ_run w) t ht
  | some b =>
    obtain ⟨_, _, m, f, _, hm, ho⟩ := h.inn s b hg
    have h1 := hm.look_ok Tryz.underlying155 (zeroJ_run w) t ht
    have h2 := ho t
    rw [h2.is] at h1
    refine ⟨_, h1, ?_, fun x hx => ?_⟩
    · cases e : firstF l s t with
      | none => rw [e] at h2; rw [h2.none_]; show Val5 zeroJ; exact ⟨_, _, _, _, _, _, _, _, _, rfl⟩
      | some x =>
        rw [e] at h2
        obtain ⟨y, hy, hj⟩ := h2.some_
        rw [hy]; exact Val5.of hj
    · rw [hx] at h2
      obtain ⟨y, hy, hj⟩ := h2.some_
      rw [hy]; exact hj
theorem AskG.keepM {c : CF} {B bA : Nat} {l : List AskP} {nA nI : Nat} {g : ByteArray → Option Nat} {w w' : World} (h : AskG c B bA l nA nI g w) {s : ByteArray} {b : Nat} (hg : g s = some b) (hgr : w.grownBy w' (some b)) : KeepM w w' := by
  obtain ⟨_, _, m, f, _, h5, _⟩ := h.inn s b hg
  obtain ⟨es, k, hes⟩ := h5.block
  exact KeepM.grown hes hgr

end Go.Proofs.YtcmfanfkcbjeoaaGreatDoor
