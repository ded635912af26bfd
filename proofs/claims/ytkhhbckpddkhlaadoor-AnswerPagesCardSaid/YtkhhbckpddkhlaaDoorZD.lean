/- No step of the machine takes a drawn answer back: a call that ends has drawn no fewer than it began with. -/
import Derived.Calls
import Derived.StepT
import Derived.Lone
namespace Go.Proofs.YtkhhbckpddkhlaaDoor
open Go

def _root_.Go.Result.worldZ {α : Type} : Result α → World
  | .ok _ w => w
  | .halt _ w => w
theorem setCell_dr (w : World) (a : Addr) (v : Value) : (w.setCell a v).drawn = w.drawn := rfl
theorem freeze_dr (w : World) (a : Addr) (n : Nat) : (w.freeze a n).drawn = w.drawn := by unfold World.freeze; split <;> rfl
theorem exc_bind {ε α β : Type} {x : Except ε α} {f : α → Except ε β} {r : β} (h : (x >>= f) = .ok r) : ∃ a, x = .ok a ∧ f a = .ok r := by
  cases x with
  | error e => cases h
  | ok a => exact ⟨a, rfl, h⟩
theorem viewStore_dr {p : Program} {w w' : World} {at_ : Addr} {u : TypeId} {a : Addr} {v : Value} {b : Bool} {l : List Addr} (h : w.viewStore p at_ u a v b = .ok (w', l)) : w'.drawn = w.drawn := by
  unfold World.viewStore at h
  simp only [] at h
  repeat' first
    | (cases h; rfl)
    | (cases h; done)
    | (obtain ⟨_, _, h⟩ := exc_bind h)
    | split at h
theorem farStore_dr {p : Program} {w w' : World} {a : Addr} {v : Value} {b : Bool} {l : List Addr} (h : w.farStore p a v b = .ok (w', l)) : w'.drawn = w.drawn := by
  unfold World.farStore at h
  split at h
  · split at h
    · rename_i r hr; cases h; exact viewStore_dr hr
    · cases h
  · cases h
theorem ask_dr {α : Type} : ∀ (k : Ask α) (w : World), w.drawn ≤ (w.ask k).2.drawn
  | .done a, w => Nat.le_refl _
  | .ask what range k, w => by
    simp only [World.ask]
    split
    · exact ask_dr _ w
    · exact Nat.le_trans (Nat.le_succ w.drawn) (ask_dr (k _) { w with drawn := w.drawn + 1 })
theorem sys_dr (w : World) (c : Sys) : w.drawn ≤ (w.sys c).2.drawn := by
  have := ask_dr (Kernel.perform c w.os) w
  unfold World.sys
  split
  · exact Nat.le_refl _
  · rename_i h; rw [h] at this; exact this
theorem run_dr {α : Type} (p : Program) : ∀ (s : Sem α) (w : World), w.drawn ≤ (s.run p w).worldZ.drawn := by
  intro s
  induction s with
  | pure a => intro w; exact Nat.le_refl _
  | load m a k ih =>
    intro w
    simp only [Sem.run]
    split
    · exact ih _ _
    · split
      · exact ih _ _
      · exact Nat.le_refl _
  | store m a v k ih =>
    intro w
    cases v <;> simp only [Sem.run] <;> first
      | exact Nat.le_refl _
      | (split
         · split
           · exact Nat.le_refl _
           · rw [← setCell_dr w a]; exact ih _
         · split
           · rename_i h; rw [← farStore_dr h]; exact ih _
           · exact Nat.le_refl _)
  | new o k ih => intro w; simp only [Sem.run]; exact ih _ { w with heap := w.heap.push o }
  | shape r k ih => intro w; simp only [Sem.run]; exact ih _ _
  | freeze a n k ih => intro w; simp only [Sem.run]; rw [← freeze_dr w a n]; exact ih _
  | frozen a k ih => intro w; simp only [Sem.run]; exact ih _ _
  | getObj r k ih =>
    intro w; simp only [Sem.run]
    split
    · exact Nat.le_refl _
    · exact ih _ _
    · exact Nat.le_refl _
  | setObj r o k ih =>
    intro w; simp only [Sem.run]
    split
    · exact Nat.le_refl _
    · exact ih { w with heap := w.heap.setIfInBounds r o }
    · exact Nat.le_refl _
  | choose q k ih =>
    intro w; simp only [Sem.run]
    split
    · exact ih _ _
    · exact Nat.le_trans (Nat.le_succ w.drawn) (ih _ { w with drawn := w.drawn + 1 })
  | sys c k ih => intro w; simp only [Sem.run]; exact Nat.le_trans (sys_dr w c) (ih _ _)
  | program k ih => intro w; simp only [Sem.run]; exact ih _ _
  | mark m k ih => intro w; simp only [Sem.run]; exact ih _
  | halt h => intro w; exact Nat.le_refl _
theorem run_ok {α : Type} {p : Program} {s : Sem α} {w w' : World} {a : α} (h : s.run p w = .ok a w') : w.drawn ≤ w'.drawn := by have := run_dr p s w; rw [h] at this; exact this
theorem run_halt {α : Type} {p : Program} {s : Sem α} {w w' : World} {a : Halt} (h : s.run p w = .halt a w') : w.drawn ≤ w'.drawn := by have := run_dr p s w; rw [h] at this; exact this

def _root_.Go.GStep.worldZ : GStep → World
  | .go _ w _ => w
  | .comm _ _ _ _ w _ => w
  | .spawn _ _ w _ => w
  | .count _ w _ => w
  | .timer _ _ w _ => w
  | .alone _ _ w _ => w
  | .newcoro _ _ _ w _ => w
  | .coroswitch _ _ _ w _ => w
  | .collect _ w _ => w
  | .watch _ w _ => w
  | .ended _ w _ => w
theorem ite_wz {c : Prop} [Decidable c] {w : World} {a b : GStep} (h1 : w.drawn ≤ a.worldZ.drawn) (h2 : w.drawn ≤ b.worldZ.drawn) : w.drawn ≤ (if c then a else b).worldZ.drawn := by split <;> assumption
theorem after_wz (es : Array Event) (s : GStep) : (GStep.after es s).worldZ = s.worldZ := by cases s <;> rfl
theorem doReturn_dr (p : Program) (main : Bool) (fr : Frame) (callers : List Frame) (dying : Option Dying) (v : Value) (w : World) : w.drawn ≤ (doReturn p main fr callers dying v w).worldZ.drawn := by
  unfold doReturn
  repeat' first
    | exact Nat.le_refl _
    | split
theorem endWith_dr (w : World) (fd : Nat) (text : ByteArray) (o : Outcome) : w.drawn ≤ (endWith w fd text o).worldZ.drawn := by
  have h := sys_dr w (.write fd text)
  unfold endWith
  simp only []
  repeat' first
    | (rename_i e; rw [e] at h; exact h)
    | (rename_i e _; rw [e] at h; exact h)
    | split
theorem dieOf_dr (fr : Frame) (l : List ByteArray) (m : String) (b : Bool) (w : World) : w.drawn ≤ (dieOf fr l m b w).worldZ.drawn := Nat.le_refl _
theorem endPrinting_dr (p : Program) (fr : Frame) (v : Value) (w : World) : w.drawn ≤ (endPrinting p fr v w).worldZ.drawn := by
  unfold endPrinting endThrow
  simp only []
  split <;> exact Nat.le_refl _
theorem endFatal_dr (p : Program) (fr : Frame) (callers : List Frame) (dying : Option Dying) (m : String) (w : World) : w.drawn ≤ (endFatal p fr callers dying m w).worldZ.drawn := by
  unfold endFatal
  simp only []
  split
  · rename_i h; exact run_ok h
  · rename_i h; exact run_halt h
  · rename_i h; exact run_halt h
theorem writeOn_dr (p : Program) (fr : Frame) (d : Dying) (f : Fatal) (w : World) : w.drawn ≤ (writeOn p fr d f w).worldZ.drawn := by
  unfold writeOn
  simp only [Sem.runT_eq]
  split
  · exact Nat.le_refl _
  · split
    · rename_i h; exact run_ok (Prod.mk.inj h).1
    · rename_i h; exact run_halt (Prod.mk.inj h).1
    · rename_i h; exact run_halt (Prod.mk.inj h).1
    · rename_i h; exact run_halt (Prod.mk.inj h).1

theorem die_dr (p : Program) (fr : Frame) (d : Dying) (w : World) : w.drawn ≤ (die p fr d w).worldZ.drawn := by
  unfold die
  split
  · exact writeOn_dr _ _ _ _ _
  · split
    · split
      · exact Nat.le_refl _
      · exact endWith_dr _ _ _ _
    · simp only [Sem.runT_eq]
      split
      · exact Nat.le_refl _
      · split
        · rename_i h; exact run_ok h
        · rename_i h; exact run_halt h
      · rw [after_wz]
        split
        · rename_i h; exact run_ok h
        · rename_i h; exact run_ok h
        · rename_i h; exact run_halt h
        · rename_i h; exact Nat.le_trans (run_halt h) (endPrinting_dr _ _ _ _)
        · exact Nat.le_refl _
      · exact Nat.le_refl _
theorem callDeferred_dr (p : Program) (fr : Frame) (callers : List Frame) (dying : Option Dying) (d : Deferred) (w : World) : w.drawn ≤ (callDeferred p fr callers dying d w).worldZ.drawn := by
  unfold callDeferred
  refine ite_wz ?_ ?_
  · exact Nat.le_refl _
  · simp only [Sem.runT_eq]
    rw [after_wz]
    have hr := run_dr p (invoke d.target d.args) w
    generalize (invoke d.target d.args).run p w = r at hr
    repeat' first
      | exact hr
      | exact Nat.le_trans hr (endFatal_dr _ _ _ _ _ _)
      | split
theorem early_dr (p : Program) (fr : Frame) (callers : List Frame) (dying : Option Dying) (g : Nat) (w : World) : w.drawn ≤ (early p fr callers dying g w).worldZ.drawn := by
  unfold early
  simp only []
  have hr := run_dr p (choose (.early g)) w
  generalize (choose (.early g)).run p w = r at hr
  repeat' first
    | exact Nat.le_refl _
    | exact hr
    | split
theorem unwind_dr (p : Program) (main : Bool) (fr : Frame) (callers : List Frame) (dying : Option Dying) (w : World) : w.drawn ≤ (unwind p main fr callers dying w).worldZ.drawn := by
  unfold unwind
  simp only [Sem.runT_eq]
  split
  · rw [after_wz]
    split
    · rename_i h; exact run_ok h
    · rename_i h; exact run_halt h
  · exact callDeferred_dr _ _ _ _ _ _
  · split
    · exact Nat.le_refl _
    · split
      · exact Nat.le_refl _
      · split
        · exact Nat.le_refl _
        · split
          · split
            · exact Nat.le_refl _
            · split
              · rename_i h; exact run_ok h
              · rename_i h; exact run_halt h
              · rename_i h; exact run_halt h
          · split
            · exact endPrinting_dr _ _ _ _
            · exact Nat.le_refl _
    · split
      · exact doReturn_dr _ _ _ _ _ _ _
      · rw [after_wz]
        split
        · rename_i h; exact Nat.le_trans (run_ok h) (doReturn_dr _ _ _ _ _ _ _)
        · rename_i h; exact run_halt h
        · rename_i h; exact run_halt h
theorem apply_dr (p : Program) (listen : Bool) (fr : Frame) (callers : List Frame) (dying : Option Dying) (s : Sem Next) (w : World) : w.drawn ≤ (stepG.apply p listen fr callers dying s w).worldZ.drawn := by
  unfold stepG.apply
  simp only [Sem.runT_eq]
  rw [after_wz]
  have hr := run_dr p s w
  generalize s.run p w = r at hr
  have he : ∀ es, (if listen = true then (r, es) else (r, (#[] : Array Event))).fst = r := fun es => by split <;> rfl
  rw [he]
  (repeat' first
    | exact hr
    | exact Nat.le_trans hr (endFatal_dr _ _ _ _ _ _)
    | exact Nat.le_trans hr (early_dr _ _ _ _ _ _)
    | split)

theorem oper_dr (p : Program) (listen : Bool) (fr : Frame) (callers : List Frame) (dying : Option Dying) (w : World) : w.drawn ≤ (stepG.oper p listen fr callers dying w).worldZ.drawn := by
  unfold stepG.oper
  split
  · exact Nat.le_refl _
  · split <;> exact apply_dr _ _ _ _ _ _ _
theorem go_z {g : Goroutine} {w w' : World} {es : Array Event} (h : w.drawn ≤ w'.drawn) : w.drawn ≤ (GStep.go g w' es).worldZ.drawn := h
theorem ended_z {o : Outcome} {w w' : World} {es : Array Event} (h : w.drawn ≤ w'.drawn) : w.drawn ≤ (GStep.ended o w' es).worldZ.drawn := h
theorem after_z {es : Array Event} {w : World} {s : GStep} (h : w.drawn ≤ s.worldZ.drawn) : w.drawn ≤ (GStep.after es s).worldZ.drawn := by rw [after_wz]; exact h
theorem elim_z {α : Type} {w : World} {o : Option α} {a : GStep} {f : α → GStep} (h1 : w.drawn ≤ a.worldZ.drawn) (h2 : ∀ x, w.drawn ≤ (f x).worldZ.drawn) : w.drawn ≤ (o.elim a f).worldZ.drawn := by
  cases o
  · exact h1
  · exact h2 _
set_option maxHeartbeats 4000000 in
theorem exec_dr (p : Program) (main listen : Bool) (fr : Frame) (callers : List Frame) (dying : Option Dying) (w : World) : w.drawn ≤ (stepG.exec p main listen fr callers dying w).worldZ.drawn := by
  unfold stepG.exec
  simp only [Sem.runT_eq]
  repeat' first
    | with_reducible exact go_z (Nat.le_refl _)
    | with_reducible exact ended_z (Nat.le_refl _)
    | with_reducible exact apply_dr _ _ _ _ _ _ _
    | with_reducible exact oper_dr _ _ _ _ _ _
    | with_reducible refine after_z ?_
    | with_reducible refine elim_z ?_ (fun _ => ?_)
    | (rename_i h; with_reducible exact Nat.le_trans (run_ok h) (doReturn_dr _ _ _ _ _ _ _))
    | (rename_i h; with_reducible exact Nat.le_trans (run_ok h) (apply_dr _ _ _ _ _ _ _))
    | (rename_i h; with_reducible exact go_z (run_ok h))
    | (rename_i h; with_reducible exact go_z (run_halt h))
    | (rename_i h; with_reducible exact ended_z (run_halt h))
    | (rename_i h; with_reducible exact ended_z (run_ok h))
    | with_reducible refine ite_wz ?_ ?_
    | split

theorem stepG_dr (p : Program) (main : Bool) (g : Goroutine) (w : World) (listen : Bool) : w.drawn ≤ (stepG p main g w listen).worldZ.drawn := by
  unfold stepG
  simp only []
  split
  · exact die_dr _ _ _ _
  · exact exec_dr _ _ _ _ _ _ _
  · exact unwind_dr _ _ _ _ _ _
theorem communicate_dr (p : Program) (rest : Rest) (gs : Array Goroutine) (i : Nat) (g : Goroutine) (cases : Array CommCase) (blocking : Bool)
    (shape : CommShape) (w : World) (m' : Machine) (h : (communicate p rest gs i g cases blocking shape w).1 = .next m') : w.drawn ≤ m'.world.drawn := by
  unfold communicate at h
  simp only [] at h
  have hwait : ∀ {w' : World}, waitingAt rest cases w = some w' → w'.drawn = w.drawn := fun {w'} h => by
    unfold waitingAt at h
    repeat' first
      | (cases h; rfl)
      | (cases h; done)
      | split at h
  repeat' first
    | (simp at h; done)
    | (simp only [Stepped.next.injEq] at h; subst h; first | exact Nat.le_refl _ | assumption | (simp only; omega))
    | (split at h <;> (try (rename_i e; have e2 := run_ok e)) <;> (try (rename_i e; have e2 := run_halt e)) <;> (try (rename_i e; have e2 := hwait e)))
theorem look_dr (p : Program) (gs : Array Goroutine) (rest : Rest) (w : World) (m' : Machine) (h : look p gs rest w = .next m') : w.drawn ≤ m'.world.drawn := by
  unfold look at h
  simp only [] at h
  repeat' first
    | (simp at h; done)
    | (simp only [Stepped.next.injEq] at h; subst h; first | assumption | (simp only; omega))
    | (split at h <;> (try (rename_i e; have e2 := run_ok e)))
theorem retime_dr (m : Machine) (k : Nat) (t : Timer) (a b : Nat) : (retime m k t a b).2.world.drawn = m.world.drawn := by
  unfold retime drain
  simp only []
  split <;> (try split) <;> rfl
theorem timerOp_dr (m : Machine) (op : TimerOp) (v : Value) (m' : Machine) (h : timerOp m op = .ok (v, m')) : m.world.drawn = m'.world.drawn := by
  have hn : ∀ (m : Machine) (var : Addr) (f : Nat → Timer → Value × Machine), (∀ k t, (f k t).2.world.drawn = m.world.drawn) → ∀ r, timerOp.named m var f = .ok r → r.2.world.drawn = m.world.drawn := fun m var f hf r hr => by
    unfold timerOp.named at hr
    split at hr
    · cases hr; exact hf _ _
    · cases hr
  have ho : ∀ var m₂, timerOp.opened m var = some m₂ → m₂.world.drawn = m.world.drawn := fun var m₂ h => by
    unfold timerOp.opened at h
    repeat' first
      | (cases h; rfl)
      | (cases h; done)
      | split at h
  cases op with
  | new t =>
    simp only [timerOp] at h
    repeat' first
      | (cases h; rfl)
      | (cases h; done)
      | split at h
  | stop var => exact (hn _ _ _ (fun k t => retime_dr _ _ _ _ _) _ h).symm
  | reset var when period =>
    simp only [timerOp] at h
    split at h
    · rename_i m₂ e
      exact (hn _ _ _ (fun k t => by first | exact retime_dr _ _ _ _ _ | (rw [retime_dr]; exact (ho _ _ e).symm) | (rw [retime_dr]; exact ho _ _ e)) _ h).symm
    · cases h
  | deadline ctx read write when =>
    simp only [timerOp] at h
    cases h; rfl
theorem endThrow_go {fr : Frame} {msg : String} {w w' : World} {g : Goroutine} {es : Array Event} (h : endThrow fr msg w = .go g w' es) : w' = w := by
  unfold endThrow dieOf at h
  simp only [GStep.go.injEq] at h
  exact h.2.1.symm
theorem runT_dr (p : Program) (m m' : Machine) (i : Nat) (b : Bool) (h : (runT p m i b).1 = .next m') : m.world.drawn ≤ m'.world.drawn := by
  simp only [runT] at h
  generalize m.gs.swapAt! i { (default : Goroutine) with status := .finished } = gg at h
  have hs := stepG_dr p (i == 0) gg.1 m.world b
  generalize stepG p (i == 0) gg.1 m.world b = s at h hs
  cases s <;> simp only [GStep.worldZ] at h hs
  all_goals first
    | (simp at h; done)
    | exact Nat.le_trans hs (communicate_dr _ _ _ _ _ _ _ _ _ _ h)
    | exact Nat.le_trans hs (look_dr _ _ _ _ _ h)
    | (simp only [Stepped.next.injEq] at h; subst h; exact hs)
    | (repeat' first
        | (simp at h; done)
        | (simp only [Stepped.next.injEq] at h; subst h; exact hs)
        | (simp only [Stepped.next.injEq] at h; subst h; rename_i e; have e2 := timerOp_dr _ _ _ _ e; simp only at e2 ⊢; omega)
        | (simp only [Stepped.next.injEq] at h; subst h; rename_i e; have e2 := endThrow_go e; simp only [e2]; exact hs)
        | split at h)
theorem serve_dr (p : Program) (m m' : Machine) (k : Nat) (h : serve p m k = .next m') : m.world.drawn ≤ m'.world.drawn := by
  unfold serve at h
  simp only [] at h
  repeat' first
    | (simp at h; done)
    | (simp only [Stepped.next.injEq] at h; subst h; exact Nat.le_refl _)
    | split at h
theorem askOn_dr (p : Program) (m m' : Machine) (ops : Array MemOp) (h : askOn p m = .machine (.next m') ops) : m.world.drawn ≤ m'.world.drawn := by
  unfold askOn at h
  simp only [] at h
  repeat' first
    | (simp at h; done)
    | (simp only [Move.machine.injEq] at h; have e3 := serve_dr _ _ _ _ h.1; simp only at e3; omega)
    | (simp only [Move.machine.injEq, Stepped.next.injEq] at h; obtain ⟨rfl, _⟩ := h; simp only [Machine.advanceTo]; omega)
    | (split at h <;> (try (rename_i e; have e2 := run_ok e)))
theorem askOn_drg (p : Program) (m m' : Machine) (i : Nat) (h : askOn p m = .goroutine m' i) : m.world.drawn ≤ m'.world.drawn := by
  unfold askOn at h
  simp only [] at h
  repeat' first
    | (simp at h; done)
    | (simp only [Move.goroutine.injEq] at h; obtain ⟨rfl, _⟩ := h; simp only [Machine.advanceTo] at *; omega)
    | (split at h <;> (try (rename_i e; have e2 := run_ok e)))
theorem ask_dr2 (p : Program) (m : Machine) : (∃ m₂, m.world.drawn ≤ m₂.world.drawn ∧ ask p m = askOn p m₂) ∨ (∃ o w, ask p m = .machine (.ended o w) #[]) := by
  unfold ask
  by_cases hw : m.rest.watch = true
  · rw [if_pos hw]
    cases hr : (choose (.extern "collector.look" 2)).run p m.world with
    | halt h w => exact .inr ⟨_, _, rfl⟩
    | ok k world =>
      have e2 := run_ok hr
      rcases k with _ | _ | k
      · exact .inl ⟨{ m with world }, e2, rfl⟩
      · show (∃ m₂, m.world.drawn ≤ m₂.world.drawn ∧ (match look p m.gs m.rest world with | .next m => askOn p m | e => Move.machine e) = askOn p m₂) ∨
          (∃ o w, (match look p m.gs m.rest world with | .next m => askOn p m | e => Move.machine e) = .machine (.ended o w) #[])
        cases hl : look p m.gs m.rest world with
        | next m₂ => exact .inl ⟨m₂, Nat.le_trans e2 (look_dr _ _ _ _ _ hl), rfl⟩
        | ended o w => exact .inr ⟨o, w, rfl⟩
      · exact .inl ⟨{ m with world }, e2, rfl⟩
  · simp only [hw, Bool.false_eq_true, if_false]
    exact .inl ⟨m, Nat.le_refl _, rfl⟩
theorem move_drg (p : Program) (m m' : Machine) (i : Nat) (h : move p m = .goroutine m' i) : m.world.drawn ≤ m'.world.drawn := by
  have ha : ∀ m₁ : Machine, ask p m₁ = .goroutine m' i → m₁.world.drawn ≤ m'.world.drawn := fun m₁ h => by
    rcases ask_dr2 p m₁ with ⟨m₂, h1, h2⟩ | ⟨o, w, he⟩
    · rw [h2] at h; exact Nat.le_trans h1 (askOn_drg _ _ _ _ h)
    · rw [he] at h; cases h
  unfold move at h
  repeat' first
    | (simp at h; done)
    | (have e3 := ha _ h; exact e3)
    | (simp only [Move.goroutine.injEq] at h; obtain ⟨rfl, _⟩ := h; exact Nat.le_refl _)
    | split at h
theorem move_drm (p : Program) (m m' : Machine) (ops : Array MemOp) (h : move p m = .machine (.next m') ops) : m.world.drawn ≤ m'.world.drawn := by
  have ha : ∀ m₁ : Machine, ask p m₁ = .machine (.next m') ops → m₁.world.drawn ≤ m'.world.drawn := fun m₁ h => by
    rcases ask_dr2 p m₁ with ⟨m₂, h1, h2⟩ | ⟨o, w, he⟩
    · rw [h2] at h; exact Nat.le_trans h1 (askOn_dr _ _ _ _ h)
    · rw [he] at h; simp at h
  unfold move at h
  repeat' first
    | (simp at h; done)
    | (have e3 := ha _ h; exact e3)
    | split at h
theorem step_dr {p : Program} {m m' : Machine} (h : step p m = .next m') : m.world.drawn ≤ m'.world.drawn := by
  unfold step stepT at h
  split at h
  · rename_i m₁ i hm
    exact Nat.le_trans (move_drg p m m₁ i hm) (runT_dr p m₁ m' i _ h)
  · rename_i s ops hm
    simp only [] at h
    subst h
    exact move_drm p m m' ops hm
theorem runN_dr {p : Program} : ∀ {n : Nat} {m m' : Machine}, runN p n m = .next m' → m.world.drawn ≤ m'.world.drawn
  | 0, m, m', h => by simp only [runN, Stepped.next.injEq] at h; subst h; exact Nat.le_refl _
  | n + 1, m, m', h => by
    simp only [runN] at h
    split at h
    · rename_i m₁ e; exact Nat.le_trans (step_dr e) (runN_dr h)
    · rename_i e; exact absurd h (by intro h2; exact e _ h2)
theorem steps_dr {p : Program} {m m' : Machine} (h : Steps p m m') : m.world.drawn ≤ m'.world.drawn := by obtain ⟨n, hn⟩ := h; exact runN_dr hn
/-- A CALL THAT ENDS NEVER HAS FEWER ANSWERS DRAWN THAN IT BEGAN WITH. -/
theorem calls_drawn {P : Program} {f : FuncId} {args : Array Value} {w : World} {R : Ending → World → Prop} (h : Calls P f args w R) (hR : ∀ w', ¬ R .outgrown w') : Calls P f args w fun e w' => R e w' ∧ w.drawn ≤ w'.drawn := by
  intro cs
  obtain ⟨e, w', fr, hr, hc, hf, hl⟩ := h cs
  refine ⟨e, w', fr, ⟨hr, ?_⟩, hc, hf, hl⟩
  cases e with
  | outgrown => exact absurd hr (hR _)
  | returned v => exact steps_dr hc
  | panicked chain => exact steps_dr hc
end Go.Proofs.YtkhhbckpddkhlaaDoor
