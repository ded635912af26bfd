import Derived.Test.YtafilaiinbggoaaGreatRows
import Derived.WalkKit
import Derived.WalkSpells
import Derived.WalkLawsBesides
import Derived.Lib.Hide
import Derived.ProofKit
import Derived.Deep.Slices
import Derived.BigQuiet
import Derived.OwnWalk
import Derived.Deep.AppendLies
import Derived.Lib.Overlaps
import Derived.Lib.AppendZerosOnto
import Derived.Shelf.Spec.SlicesInsert
import Derived.Laws.CopyRow
namespace Go.Proofs.YtafilaiinbggoaaGreat
open Go.RowKit
inductive JV where
 | mk (kind n : Int) (text : ByteArray) (names : List ByteArray) (items : List JV)
def JV.kind : JV -> Int | .mk k _ _ _ _ => k
abbrev CF := Nat -> Nat -> Option Value
def cf (w : World) : CF := fun b o => w.cell? ⟨b, o, none⟩
def CLe (c d : CF) : Prop := ∀ b o v, c b o = some v -> d b o = some v
theorem CLe.refl (c : CF) : CLe c c := fun _ _ _ h => h
theorem CLe.trans {a b c : CF} (h : CLe a b) (k : CLe b c) : CLe a c := fun x o v hv => k x o v (h x o v hv)
theorem lt_of_cell {w : World} {b o : Nat} {v : Value} (h : w.cell? ⟨b, o, none⟩ = some v) : b < w.heap.size := by
 rcases Nat.lt_or_ge b w.heap.size with h' | h'
 ·exact h'
 ·simp [World.cell?, Array.getElem?_eq_none h'] at h
theorem cle_below {w w' : World} (h : Below w.heap.size w w') : CLe (cf w) (cf w') := fun b o v hv => by
 unfold cf at *; rw [h.cell (p := ⟨b, o, none⟩) (lt_of_cell hv)]; exact hv
def StrsAt (c : CF) (v : Value) (names : List ByteArray) : Prop :=
 ∃ a cap, v = .slice a names.length cap /\ names.length <= 9223372036854775807 /\ ∀ (i : Nat) s, names[i]? = some s -> s.size <= 9223372036854775807 /\ ∃ b off, a = some ⟨b, off, none⟩ /\ c b (off + i) = some (.string s)
theorem StrsAt.mono {c d : CF} {v : Value} {names : List ByteArray} (h : StrsAt c v names) (hl : CLe c d) : StrsAt d v names := by
 obtain ⟨a, cap, hv, hm, hs⟩ := h
 refine ⟨a, cap, hv, hm, fun i s hi => ?_⟩
 obtain ⟨h1, b, off, h2, h3⟩ := hs i s hi
 exact ⟨h1, b, off, h2, hl _ _ _ h3⟩
def Cells5 (c : CF) (b o : Nat) (v : Value) : Prop :=
 ∃ c0 c1 c2 c3 c4, v = .agg #[c0, c1, c2, c3, c4] /\ c b o = some c0 /\ c b (o + 1) = some c1 /\ c b (o + 2) = some c2 /\ c b (o + 3) = some c3 /\ c b (o + 4) = some c4
theorem Cells5.mono {c d : CF} {b o : Nat} {v : Value} (h : Cells5 c b o v) (hl : CLe c d) : Cells5 d b o v := by
 obtain ⟨c0, c1, c2, c3, c4, e, h0, h1, h2, h3, h4⟩ := h
 exact ⟨c0, c1, c2, c3, c4, e, hl _ _ _ h0, hl _ _ _ h1, hl _ _ _ h2, hl _ _ _ h3, hl _ _ _ h4⟩
inductive JAt (c : CF) : JV -> Value -> Prop
 | mk (kind n : Int) (text : ByteArray) (names : List ByteArray) (items : List JV) (nv : Value) (a : Option Addr) (cap : Nat) (cell : Nat -> Value)
  (hk : (Lit.int .i64 kind).wf = true) (hn : (Lit.int .i64 n).wf = true) (ht : text.size <= 9223372036854775807) (hs : StrsAt c nv names) (hl : items.length <= 9223372036854775807)
  (hc : ∀ (i : Nat) v, items[i]? = some v -> ∃ b off, a = some ⟨b, off, none⟩ /\ Cells5 c b (off + i * 5) (cell i))
  (hi : ∀ (i : Nat) v, items[i]? = some v -> JAt c v (cell i)) :
  JAt c (.mk kind n text names items) (.agg #[.int .i64 kind, .int .i64 n, .string text, nv, .slice a items.length cap])
theorem JAt.mono {c d : CF} (hl : CLe c d) {v : JV} {x : Value} (h : JAt c v x) : JAt d v x := by
 induction h with
 | mk kind n text names items nv a cap cell hk hn ht hs hlen hc hi ih =>
  refine .mk kind n text names items nv a cap cell hk hn ht (hs.mono hl) hlen (fun i v hv => ?_) (fun i v hv => ih i v hv)
  obtain ⟨b, off, h1, h2⟩ := hc i v hv
  exact ⟨b, off, h1, h2.mono hl⟩
def ItemsAt (c : CF) (v : Value) (items : List JV) : Prop :=
 ∃ a cap, v = .slice a items.length cap /\ items.length <= 9223372036854775807 /\ ∀ (i : Nat) x, items[i]? = some x -> ∃ b off k n t nm it na ncap ia icap, a = some ⟨b, off, none⟩ /\ x = .mk k n t nm it /\
  c b (off + i * 5) = some (.int .i64 k) /\ c b (off + i * 5 + 1) = some (.int .i64 n) /\ c b (off + i * 5 + 2) = some (.string t) /\ c b (off + i * 5 + 3) = some (.slice na nm.length ncap) /\ c b (off + i * 5 + 4) = some (.slice ia it.length icap) /\
  JAt c x (.agg #[.int .i64 k, .int .i64 n, .string t, .slice na nm.length ncap, .slice ia it.length icap])
theorem JAt.open {c : CF} {v : JV} {x : Value} (h : JAt c v x) : ∃ k n t nm it na ncap ia icap, v = .mk k n t nm it /\ x = .agg #[.int .i64 k, .int .i64 n, .string t, .slice na nm.length ncap, .slice ia it.length icap] /\
  (Lit.int .i64 k).wf = true /\ (Lit.int .i64 n).wf = true /\ t.size <= 9223372036854775807 /\ StrsAt c (.slice na nm.length ncap) nm /\ ItemsAt c (.slice ia it.length icap) it := by
 cases h with
 | mk kind n text names items nv a cap cell hk hn ht hs hl hc hi =>
  obtain ⟨na, ncap, rfl, _⟩ := id hs
  refine ⟨kind, n, text, names, items, na, ncap, a, cap, rfl, rfl, hk, hn, ht, hs, a, cap, rfl, hl, fun i x hx => ?_⟩
  obtain ⟨b, off, h1, c0, c1, c2, c3, c4, e, h2, h3, h4, h5, h6⟩ := hc i x hx
  have hj := hi i x hx
  rw [e] at hj
  cases hj with
  | mk k n t nm it nv a2 cap2 cell hk hn ht hs hl hc hi =>
   obtain ⟨na2, ncap2, rfl, _⟩ := id hs
   exact ⟨b, off, k, n, t, nm, it, na2, ncap2, a2, cap2, h1, rfl, h2, h3, h4, h5, h6, .mk k n t nm it _ a2 cap2 cell hk hn ht hs hl hc hi⟩
theorem ItemsAt.mono {c d : CF} {v : Value} {items : List JV} (h : ItemsAt c v items) (hl : CLe c d) : ItemsAt d v items := by
 obtain ⟨a, cap, hv, hm, hs⟩ := h
 refine ⟨a, cap, hv, hm, fun i x hi => ?_⟩
 obtain ⟨b, off, k, n, t, nm, it2, na, ncap, ia, icap, h1, h2, h3, h4, h5, h6, h7, h8⟩ := hs i x hi
 exact ⟨b, off, k, n, t, nm, it2, na, ncap, ia, icap, h1, h2, hl _ _ _ h3, hl _ _ _ h4, hl _ _ _ h5, hl _ _ _ h6, hl _ _ _ h7, h8.mono hl⟩
structure Boxed (w wr : World) (o : Obj) : Prop where
 bel : Below (w.heap.size + 1) (w.alloc o) wr
theorem Boxed.refl (w : World) (o : Obj) : Boxed w (w.alloc o) o := ⟨Below.refl _ _⟩
theorem Boxed.below {w wr : World} {o : Obj} (h : Boxed w wr o) : Below w.heap.size w wr :=
 ((Below.refl _ w).alloc (Nat.le_refl _) o).trans (h.bel.mono (by omega))
theorem Boxed.lt {w wr : World} {o : Obj} (h : Boxed w wr o) : w.heap.size + 1 <= wr.heap.size := by have := h.bel.size; simpa using this
theorem Boxed.next {w wr w' : World} {o : Obj} (h : Boxed w wr o) (hb : Below wr.heap.size wr w') : Boxed w w' o := ⟨h.bel.trans (hb.mono h.lt)⟩
theorem Boxed.alloc {w wr : World} {o x : Obj} (h : Boxed w wr o) : Boxed w (wr.alloc x) o := ⟨h.bel.alloc h.lt x⟩
theorem Boxed.drew {w wr : World} {o : Obj} (h : Boxed w wr o) : Boxed w wr.drew o := ⟨h.bel.drew⟩
theorem take_succ {α : Type} {l : List α} {i : Nat} {x : α} (h : l[i]? = some x) : l.take (i + 1) = l.take i ++ [x] := by
 obtain ⟨hi, e⟩ := List.getElem?_eq_some_iff.1 h
 rw [List.take_succ_eq_append_getElem hi, e]
end Go.Proofs.YtafilaiinbggoaaGreat
namespace Go.Proofs.YtafilaiinbggoaaGreat
open Go.RowKit
end Go.Proofs.YtafilaiinbggoaaGreat
namespace Go.Proofs.YtafilaiinbggoaaGreat
open Go.RowKit
def Grow (w : World) : Type := { w' : World // Below w.heap.size w w' }
instance (w : World) : Nonempty (Grow w) := ⟨⟨w, Below.refl _ w⟩⟩
theorem Grow.cell {w : World} {b o : Nat} {v : Value} (h : w.cell? ⟨b, o, none⟩ = some v) (e : Grow w) : e.val.cell? ⟨b, o, none⟩ = some v := by
 rw [e.property.cell (p := ⟨b, o, none⟩) (lt_of_cell h)]; exact h
theorem Calls.grow {P : Program} {f : FuncId} {args : Array Value} {w : World} {v : Value} (h : ∀ e : Grow w, Calls P f args e.val fun r w' => r = .returned v /\ Below e.val.heap.size e.val w') (e : Grow w) :
  Calls P f args e.val fun r w' => r = .returned v /\ ∃ e2 : Grow w, w' = e2.val :=
 (h e).mono fun _ w' ⟨he, hb⟩ => ⟨he, ⟨w', e.property.trans (hb.mono e.property.size)⟩, rfl⟩
end Go.Proofs.YtafilaiinbggoaaGreat
namespace Go.Proofs.YtafilaiinbggoaaGreat
open Go.RowKit
section
variable {P : Program} {ops : Array Oper} {Q : Exit -> Act -> World -> Prop} {md : Region.Mode} {C : World -> Prop}
def wpAnyC (P : Program) (md : Region.Mode) (ops : Array Oper) (C : World -> Prop) (Q : Exit -> Act -> World -> Prop) : Nat -> Array Bool -> Act -> World -> Prop
 | 0, listed, a, w => C w /\ Region.ready md ops listed = [] /\ Q .normal a w
 | fuel + 1, listed, a, w => C w /\ (Region.ready md ops listed = [] -> Q .normal a w) /\
  ∀ i ∈ Region.ready md ops listed, wpOp P ops Q i (wpAnyC P md ops C Q fuel (listed.setIfInBounds i true)) a w
theorem wpAny_of_C : ∀ (fuel : Nat) (listed : Array Bool) (a : Act) (w : World), wpAnyC P md ops C Q fuel listed a w -> wpAny P md ops Q fuel listed a w
 | 0, _, _, _, h => ⟨h.2.1, h.2.2⟩
 | fuel + 1, _, _, _, h => ⟨h.2.1, fun i hi => wpOp_mono (fun a' w' h' => wpAny_of_C fuel _ a' w' h') (h.2.2 i hi)⟩
def YieldsC (P : Program) (ops : Array Oper) (C : World -> Prop) (o : Oper) (v : Value) (a : Act) : Prop :=
 (Region.wanted o (yielded ops a.tmps) = true /\ ∀ w, C w -> (execOp a.eval o).run P w = .ok (.value v) w) \/
 (Region.wanted o (yielded ops a.tmps) = false /\ v = undef)
theorem YieldsC.wpOp {i : Nat} {o : Oper} {v : Value} {a : Act} (hi : ops[i]? = some o) (hy : YieldsC P ops C o v a)
  {K : Act -> World -> Prop} {w : World} (hC : C w) (h : K (a.put o.dst v) w) : wpOp P ops Q i K a w := by
 unfold Go.wpOp
 simp only [hi]
 rcases hy with ⟨hw, hv⟩ | ⟨hw, rfl⟩
 ·simp only [hw, if_true, Oper.wp, hv w hC, Oper.upon]; exact .inl h
 ·simp only [hw, Bool.false_eq_true, if_false]; exact h
theorem YieldsC.of_same {o : Oper} {v : Value} {a a' : Act} (hy : YieldsC P ops C o v a) (he : execOp a'.eval o = execOp a.eval o)
  (hw : Region.wanted o (yielded ops a'.tmps) = Region.wanted o (yielded ops a.tmps)) : YieldsC P ops C o v a' := by
 unfold YieldsC at *
 rw [he, hw]
 exact hy
theorem wpOp_putC {j : Nat} {oi oj : Oper} {v : Value} (hj : ops[j]? = some oj) (hap : oi.apart ops oj = true)
  (hsi : ∀ cs b, oi.op ≠ .select cs b) (hsj : ∀ cs b, oj.op ≠ .select cs b)
  (hQ : ∀ c a d v w, Q (.panic c) (Act.put a d v) w -> Q (.panic c) a w) {K : Act -> World -> Prop} {a : Act} {w : World}
  (hy : YieldsC P ops C oi v a) (h : wpOp P ops Q j K (a.put oi.dst v) w) :
  wpOp P ops Q j (fun a' w' => YieldsC P ops C oi v a' /\ K (a'.put oi.dst v) w') a w := by
 obtain ⟨h1, h2, h3⟩ := Oper.apart_spec hap
 have keep : ∀ (a : Act), YieldsC P ops C oi v a -> ∀ u, YieldsC P ops C oi v (a.put oj.dst u) := fun a hy u =>
  hy.of_same (execOp_put oi hsi a oj.dst u h3) (wanted_put oi a oj.dst u h3)
 have keepD : ∀ d, YieldsC P ops C oi v { a with defers := d :: a.defers } := fun d => hy.of_same rfl rfl
 unfold wpOp at *
 simp only [hj] at *
 rw [wanted_put oj a oi.dst v h1] at h
 split
 ·rename_i hw
  simp only [hw, if_true] at h
  rcases h with h | ⟨hasks, hlets⟩
  case inr => exact .inr ⟨by unfold Oper.asks at *; rw [execOp_put oj hsj a oi.dst v h1] at hasks; exact hasks, hlets⟩
  refine .inl ?_
  unfold Oper.wp at *
  rw [execOp_put oj hsj a oi.dst v h1] at h
  generalize (execOp a.eval oj).run P w = r at *
  cases r with
  | ok n w' =>
   cases n <;> simp only [Oper.upon] at h |-
   case value u => exact ⟨keep a hy u, by rw [<- Act.put_comm a v u h2]; exact h⟩
   case skip => exact ⟨keep a hy _, by rw [<- Act.put_comm a v undef h2]; exact h⟩
   case defer d =>
    refine ⟨keep _ (keepD d) _, ?_⟩
    rw [<- Act.put_comm _ v undef h2, <- Act.put_defers]
    exact h
   case enter f args =>
    refine Calls.mono h fun e w'' he => ?_
    cases e with
    | returned u => exact ⟨keep a hy u, by rw [<- Act.put_comm a v u h2]; exact he⟩
    | panicked c => exact hQ _ _ _ _ _ he
    | outgrown => exact he
   case row row args => exact Rows.mono h fun u w'' he => ⟨keep a hy u, by rw [<- Act.put_comm a v u h2]; exact he⟩
  | halt x w' =>
   cases x <;> simp only [Oper.upon] at h |-
   case panic u => exact hQ _ _ _ _ _ h
 ·rename_i hw
  simp only [hw] at h
  exact ⟨keep a hy _, by rw [<- Act.put_comm a v undef h2]; exact h⟩
theorem wpAnyC_first {i : Nat} {oi : Oper} {v : Value} (hi : ops[i]? = some oi) (hsel : ∀ (j : Nat) (o : Oper) cs b, ops[j]? = some o -> o.op ≠ .select cs b)
  (hQ : ∀ c a d v w, Q (.panic c) (Act.put a d v) w -> Q (.panic c) a w) :
  ∀ (fuel : Nat) (listed : Array Bool) (a : Act) (w : World),
   (∀ j oj, ops[j]? = some oj -> j ≠ i -> listed.getD j true = false -> (∀ e ∈ oj.after, Region.binds md e = true -> e.on ≠ i) -> oi.apart ops oj = true) ->
   i ∈ Region.ready md ops listed -> YieldsC P ops C oi v a ->
   wpAnyC P md ops C Q fuel (listed.setIfInBounds i true) (a.put oi.dst v) w -> wpAnyC P md ops C Q (fuel + 1) listed a w := by
 intro fuel
 induction fuel with
 | zero =>
  intro listed a w _ hr hy H
  refine ⟨H.1, fun h => (by rw [h] at hr; cases hr), fun j hj => ?_⟩
  by_cases hji : j = i
  ·subst hji; exact hy.wpOp hi H.1 H
  ·have := ready_mono hj hji
   rw [H.2.1] at this
   cases this
 | succ fuel ih =>
  intro listed a w hfree hr hy H
  refine ⟨H.1, fun h => (by rw [h] at hr; cases hr), fun j hj => ?_⟩
  by_cases hji : j = i
  ·subst hji; exact hy.wpOp hi H.1 H
  ·have h1 := H.2.2 j (ready_mono hj hji)
   obtain ⟨hjun, oj, hoj, hall⟩ := mem_ready.1 hj
   have hnot : ∀ e ∈ oj.after, Region.binds md e = true -> e.on ≠ i := fun e he hb heq => by
    have h1 := hall e he hb
    have h0 := (mem_ready.1 hr).1
    rw [heq] at h1
    rcases Nat.lt_or_ge i listed.size with h' | h'
    ·simp [h'] at h0 h1; rw [h0] at h1; cases h1
    ·simp [Array.getElem?_eq_none h'] at h1
   have h2 := wpOp_putC hoj (hfree j oj hoj hji hjun hnot) (fun cs b => hsel i oi cs b hi) (fun cs b => hsel j oj cs b hoj) hQ hy h1
   have hfree' : ∀ k ok, ops[k]? = some ok -> k ≠ i -> (listed.setIfInBounds j true).getD k true = false ->
     (∀ e ∈ ok.after, Region.binds md e = true -> e.on ≠ i) -> oi.apart ops ok = true := fun k ok hk hki hun hno => by
    refine hfree k ok hk hki ?_ hno
    by_cases hjk : j = k
    ·subst hjk; exact hjun
    ·rw [getD_set_ne true hjk] at hun; exact hun
   refine wpOp_mono (fun a' w' h3 => ih (listed.setIfInBounds j true) a' w' hfree' (ready_mono hr (Ne.symm hji)) h3.1 ?_) h2
   rw [Array.setIfInBounds_comm _ _ hji]
   exact h3.2
def readsB (o : Oper) : Bool :=
 match o.op with
 | .move _ | .assign _ | .pick .. | .load .. | .index .. | .indexAddr .. | .fieldAddr .. | .field .. | .binOp .. | .unOp .. | .convert .. | .extract .. | .slice .. | .build .. | .nilCheck _ => true
 | .call c => match c.callee with
  | .builtin .len | .builtin .min | .builtin .max | .builtin .cap => true
  | _ => false
 | _ => false
theorem run_value_only (s : Sem Value) (P : Program) (w w' : World) (n : Next) (h : (do pure (Next.value (<- s)) : Sem Next).run P w = .ok n w') : ∃ v, n = .value v := by
 have h2 : ((s.run P w).andThen fun v w' => Result.ok (Next.value v) w') = .ok n w' := by simpa [go_sem] using h
 cases hr : s.run P w with
 | ok v w1 => rw [hr] at h2; simp only [Result.andThen] at h2; cases h2; exact ⟨v, rfl⟩
 | halt x w1 => rw [hr] at h2; simp only [Result.andThen] at h2; cases h2
theorem run_pick_only (s : Sem Bool) (f : Bool -> Value) (P : Program) (w w' : World) (n : Next) (h : (do pure (Next.value (f (<- s))) : Sem Next).run P w = .ok n w') : ∃ v, n = .value v := by
 have h2 : ((s.run P w).andThen fun v w' => Result.ok (Next.value (f v)) w') = .ok n w' := by simpa [go_sem] using h
 cases hr : s.run P w with
 | ok v w1 => rw [hr] at h2; simp only [Result.andThen] at h2; cases h2; exact ⟨f v, rfl⟩
 | halt x w1 => rw [hr] at h2; simp only [Result.andThen] at h2; cases h2
theorem run_bind_value {α : Type} (s : Sem α) (f : α -> Sem Next) (P : Program) (w w' : World) (n : Next) (hf : ∀ a w1, (f a).run P w1 = .ok n w' -> ∃ v, n = .value v) (h : (s >>= f).run P w = .ok n w') : ∃ v, n = .value v := by
 rw [Sem.run_bind] at h
 cases hr : s.run P w with
 | ok v w1 => rw [hr] at h; exact hf v w1 h
 | halt x w1 => rw [hr] at h; simp only [Result.andThen] at h; cases h
theorem check_value {x : Operand} {dst : Option Nat} {ty : TypeId} {pos : String} {after : Array Edge} {guard : Option (Nat × Bool)} {ρ : Operand -> Value} {w w' : World} {n : Next} (h : (execOp ρ ⟨dst, .nilCheck x, ty, pos, after, guard⟩).run P w = .ok n w') : ∃ v, n = .value v := by
 unfold execOp at h
 simp only at h
 split at h
 ·simp [go_sem, runtimePanic] at h
 ·simp [go_sem, runtimePanic] at h
 ·simp [go_sem, runtimePanic] at h
 ·split at h
  ·simp [go_sem, runtimePanic] at h
  ·refine run_bind_value _ _ P w w' n (fun _ w1 h1 => run_bind_value _ _ P w1 w' n (fun _ w2 h2 => ?_) h1) h
   split at h2
   ·refine run_bind_value _ _ P w2 w' n (fun _ w3 h3 => ?_) h2
    cases h3; exact ⟨_, rfl⟩
   ·cases h2; exact ⟨_, rfl⟩
  ·cases h; exact ⟨_, rfl⟩
 ·cases h; exact ⟨_, rfl⟩
theorem reads_value {o : Oper} {ρ : Operand -> Value} {w w' : World} {n : Next} (ho : readsB o = true) (h : (execOp ρ o).run P w = .ok n w') : ∃ v, n = .value v := by
 obtain ⟨dst, op, type, pos, after, guard⟩ := o
 cases op
 case nilCheck x => exact check_value h
 case call c =>
  obtain ⟨callee, args, argTypes⟩ := c
  cases callee <;> first | (simp [readsB] at ho; done) | skip
  rename_i b
  cases b <;> first | (simp [readsB] at ho; done) | exact run_value_only _ P w w' n h
 all_goals unfold execOp at h
 all_goals first | (simp [readsB] at ho; done) | skip
 all_goals simp only at h
 all_goals first
  | exact run_value_only _ P w w' n h
  | (have h2 : Result.ok (Next.value _) w = .ok n w' := h; cases h2; exact ⟨_, rfl⟩)
  | exact run_pick_only _ (fun b => if b then _ else _) P w w' n h
def opAt : List Oper -> Nat -> Option Oper
 | [], _ => none
 | o :: _, 0 => some o
 | _ :: l, n + 1 => opAt l n
theorem opAt_eq : ∀ (l : List Oper) (i : Nat), opAt l i = l.toArray[i]?
 | [], i => by simp [opAt]
 | o :: l, 0 => by simp [opAt]
 | o :: l, i + 1 => by rw [opAt, opAt_eq l i]; simp
def segB (md : Region.Mode) (ops : Array Oper) : Array Bool -> List Nat -> Bool
 | _, [] => true
 | listed, i :: is => Region.free md ops listed i && (Region.ready md ops listed).contains i && ((ops[i]?).map readsB).getD false && segB md ops (listed.setIfInBounds i true) is
def setAll : Array Bool -> List Nat -> Array Bool
 | listed, [] => listed
 | listed, i :: is => setAll (listed.setIfInBounds i true) is
theorem mix_seg (hs : Region.noSelect ops = true) (hQ : ∀ c a d v w, Q (.panic c) (Act.put a d v) w -> Q (.panic c) a w) : ∀ (is : List Nat) (l : List Oper) (fuel : Nat) (listed : Array Bool) (a : Act) (w : World),
  is.map (fun i => ops[i]?) = l.map some -> segB md ops listed is = true -> C w ->
  wpQuiet P ops C (fun a' => wpAnyC P md ops C Q fuel (setAll listed is) a' w) l a -> wpAnyC P md ops C Q (fuel + is.length) listed a w
 | [], [], _, _, _, _, _, _, _, h => h
 | [], _ :: _, _, _, _, _, hl, _, _, _ => by simp at hl
 | _ :: _, [], _, _, _, _, hl, _, _, _ => by simp at hl
 | i :: is, o :: l, fuel, listed, a, w, hl, hB, hC, h => by
  simp only [List.map_cons, List.cons.injEq] at hl
  obtain ⟨hi, hl⟩ := hl
  simp only [segB, hi, Option.map_some, Option.getD_some, Bool.and_eq_true] at hB
  obtain ⟨⟨⟨hf, hr⟩, ho⟩, hB⟩ := hB
  have key : ∃ v, YieldsC P ops C o v a /\ wpQuiet P ops C (fun a' => wpAnyC P md ops C Q fuel (setAll (listed.setIfInBounds i true) is) a' w) l (a.put o.dst v) := by
   unfold wpQuiet at h
   by_cases hw : Region.wanted o (yielded ops a.tmps) = true
   ·rw [if_pos hw] at h
    obtain ⟨v, hv, hn⟩ := h
    refine ⟨v, .inl ⟨hw, fun w1 hw1 => ?_⟩, hn⟩
    have h1 := hv w1 hw1
    unfold Oper.quietAt at h1
    cases hrun : (execOp a.eval o).run P w1 with
    | ok n w2 =>
     obtain ⟨u, rfl⟩ := reads_value ho hrun
     rw [hrun] at h1
     simp only [Oper.quietUpon] at h1
     rw [h1.1, h1.2]
    | halt x w2 => rw [hrun] at h1; simp only [Oper.quietUpon] at h1
   ·rw [if_neg hw] at h
    exact ⟨undef, .inr ⟨by simpa using hw, rfl⟩, h⟩
  obtain ⟨v, hy, hn⟩ := key
  exact wpAnyC_first hi (Region.noSelect_spec hs) hQ (fuel + is.length) listed a w (Region.free_spec hi hf) (by simpa using hr) hy (mix_seg hs hQ is l fuel _ _ w hl hB hC hn)
theorem mix_act {i : Nat} {o : Oper} {fuel : Nat} {listed : Array Bool} {a : Act} {w : World} (hi : ops[i]? = some o) (hr : Region.ready md ops listed = [i]) (hC : C w) (hw : Region.wanted o (yielded ops a.tmps) = true)
  (h : ∀ K : Act -> World -> Prop, (∀ a' w', wpAnyC P md ops C Q fuel (listed.setIfInBounds i true) a' w' -> K a' w') -> o.wp P a w K Q) : wpAnyC P md ops C Q (fuel + 1) listed a w := by
 refine ⟨hC, fun h0 => (by rw [hr] at h0; cases h0), fun j hj => ?_⟩
 rw [hr] at hj
 obtain rfl : j = i := by simpa using hj
 unfold wpOp
 simp only [hi, hw, if_true]
 exact .inl (h _ fun _ _ h => h)
theorem mix_two {i j : Nat} {o p : Oper} {fuel : Nat} {listed : Array Bool} {a : Act} {w : World} (hi : ops[i]? = some o) (hj : ops[j]? = some p) (hr : Region.ready md ops listed = [i, j]) (hC : C w) (hw : Region.wanted o (yielded ops a.tmps) = true) (hv : Region.wanted p (yielded ops a.tmps) = true)
  (h : ∀ K : Act -> World -> Prop, (∀ a' w', wpAnyC P md ops C Q fuel (listed.setIfInBounds i true) a' w' -> K a' w') -> o.wp P a w K Q)
  (h2 : ∀ K : Act -> World -> Prop, (∀ a' w', wpAnyC P md ops C Q fuel (listed.setIfInBounds j true) a' w' -> K a' w') -> p.wp P a w K Q) : wpAnyC P md ops C Q (fuel + 1) listed a w := by
 refine ⟨hC, fun h0 => (by rw [hr] at h0; cases h0), fun k hk => ?_⟩
 rw [hr] at hk
 unfold wpOp
 rcases List.mem_cons.1 hk with rfl | hk
 ·simp only [hi, hw, if_true]
  exact .inl (h _ fun _ _ h => h)
 ·obtain rfl : k = j := by simpa using hk
  simp only [hj, hv, if_true]
  exact .inl (h2 _ fun _ _ h => h)
theorem mix_skip {i : Nat} {o : Oper} {fuel : Nat} {listed : Array Bool} {a : Act} {w : World} (hi : ops[i]? = some o) (hs : Region.noSelect ops = true) (hQ : ∀ c a d v w, Q (.panic c) (Act.put a d v) w -> Q (.panic c) a w) (hf : Region.free md ops listed i = true) (hr : (Region.ready md ops listed).contains i = true) (hw : Region.wanted o (yielded ops a.tmps) = false)
  (h : wpAnyC P md ops C Q fuel (listed.setIfInBounds i true) (a.put o.dst undef) w) : wpAnyC P md ops C Q (fuel + 1) listed a w :=
 wpAnyC_first hi (Region.noSelect_spec hs) hQ fuel listed a w (Region.free_spec hi hf) (by simpa using hr) (.inr ⟨hw, rfl⟩) h
theorem mix_done {fuel : Nat} {listed : Array Bool} {a : Act} {w : World} (hr : Region.ready md ops listed = []) (hC : C w) (h : Q .normal a w) : wpAnyC P md ops C Q fuel listed a w := by
 cases fuel with
 | zero => exact ⟨hC, hr, h⟩
 | succ n => exact ⟨hC, fun _ => h, by rw [hr]; simp⟩
variable {L : List Oper}
theorem mixl_seg (hs : Region.noSelect L.toArray = true) (hQ : ∀ c a d v w, Q (.panic c) (Act.put a d v) w -> Q (.panic c) a w) (is : List Nat) (l : List Oper) (fuel n : Nat) (hn : fuel + is.length = n) (listed : Array Bool) (a : Act) (w : World)
  (hl : is.map (opAt L) = l.map some) (hB : segB md L.toArray listed is = true) (hC : C w)
  (h : wpQuiet P L.toArray C (fun a' => wpAnyC P md L.toArray C Q fuel (setAll listed is) a' w) l a) : wpAnyC P md L.toArray C Q n listed a w := by
 subst hn
 exact mix_seg hs hQ is l fuel listed a w (by rw [<- hl]; exact List.map_congr_left fun i _ => (opAt_eq L i).symm) hB hC h
theorem mixl_act {i : Nat} {o : Oper} {fuel : Nat} {listed : Array Bool} {a : Act} {w : World} (hi : opAt L i = some o) (hr : Region.ready md L.toArray listed = [i]) (hC : C w) (hw : Region.wanted o (yielded L.toArray a.tmps) = true)
  (h : ∀ K : Act -> World -> Prop, (∀ a' w', wpAnyC P md L.toArray C Q fuel (listed.setIfInBounds i true) a' w' -> K a' w') -> o.wp P a w K Q) : wpAnyC P md L.toArray C Q (fuel + 1) listed a w :=
 mix_act (by rw [<- opAt_eq]; exact hi) hr hC hw h
theorem mixl_two {i j : Nat} {o p : Oper} {fuel : Nat} {listed : Array Bool} {a : Act} {w : World} (hi : opAt L i = some o) (hj : opAt L j = some p) (hr : Region.ready md L.toArray listed = [i, j]) (hC : C w) (hw : Region.wanted o (yielded L.toArray a.tmps) = true) (hv : Region.wanted p (yielded L.toArray a.tmps) = true)
  (h : ∀ K : Act -> World -> Prop, (∀ a' w', wpAnyC P md L.toArray C Q fuel (listed.setIfInBounds i true) a' w' -> K a' w') -> o.wp P a w K Q)
  (h2 : ∀ K : Act -> World -> Prop, (∀ a' w', wpAnyC P md L.toArray C Q fuel (listed.setIfInBounds j true) a' w' -> K a' w') -> p.wp P a w K Q) : wpAnyC P md L.toArray C Q (fuel + 1) listed a w :=
 mix_two (by rw [<- opAt_eq]; exact hi) (by rw [<- opAt_eq]; exact hj) hr hC hw hv h h2
theorem mixl_skip {i : Nat} {o : Oper} {fuel : Nat} {listed : Array Bool} {a : Act} {w : World} (hi : opAt L i = some o) (hs : Region.noSelect L.toArray = true) (hQ : ∀ c a d v w, Q (.panic c) (Act.put a d v) w -> Q (.panic c) a w) (hf : Region.free md L.toArray listed i = true) (hr : (Region.ready md L.toArray listed).contains i = true) (hw : Region.wanted o (yielded L.toArray a.tmps) = false)
  (h : wpAnyC P md L.toArray C Q fuel (listed.setIfInBounds i true) (a.put o.dst undef) w) : wpAnyC P md L.toArray C Q (fuel + 1) listed a w :=
 mix_skip (by rw [<- opAt_eq]; exact hi) hs hQ hf hr hw h
end
abbrev GrowC (w : World) : World -> Prop := fun w' => ∃ e : Grow w, w' = e.val
theorem growC {w w' : World} (h : Below w.heap.size w w') : GrowC w w' := ⟨⟨w', h⟩, rfl⟩
def GrowB (B : Nat) (w : World) : Type := { w' : World // Below B w w' }
instance (B : Nat) (w : World) : Nonempty (GrowB B w) := ⟨⟨w, Below.refl _ w⟩⟩
theorem GrowB.cell {B : Nat} {w : World} {b o : Nat} {v : Value} (h : w.cell? ⟨b, o, none⟩ = some v) (hb : b < B) (e : GrowB B w) : e.val.cell? ⟨b, o, none⟩ = some v := by
 rw [e.property.cell (p := ⟨b, o, none⟩) hb]; exact h
abbrev GrowBC (B : Nat) (w : World) : World -> Prop := fun w' => ∃ e : GrowB B w, w' = e.val
theorem growBC {B : Nat} {w w' : World} (h : Below B w w') : GrowBC B w w' := ⟨⟨w', h⟩, rfl⟩
theorem wp_region_mix {P : Program} {id : Nat} {Q : Exit -> Act -> World -> Prop} {a : Act} {w : World} {l : List Oper} (n : Nat) (hn : l.length = n) (hm : P.follows .mixedOrders = true)
  (h : ∀ w1, Below w.heap.size w w1 -> wpAnyC P .any l.toArray (fun w' => ∃ e : Grow w, w' = e.val) Q n (Array.replicate n false) a w1) : (Code.region id l.toArray true).wp P Q a w := by
 subst hn
 refine wp_region_any hm ?_
 have := wpAny_of_C _ _ _ _ (h { w with drawn := w.drawn + 1 } (Below.refl _ w).drew)
 simpa using this
theorem wp_region_mixC {P : Program} {id : Nat} {Q : Exit -> Act -> World -> Prop} {a : Act} {w : World} {l : List Oper} (C : World -> Prop) (n : Nat) (hn : l.length = n) (hm : P.follows .mixedOrders = true)
  (h : wpAnyC P .any l.toArray C Q n (Array.replicate n false) a w.drew) : (Code.region id l.toArray true).wp P Q a w := by
 subst hn
 refine wp_region_any hm ?_
 have := wpAny_of_C _ _ _ _ h
 simpa using this
def ButT (b : Nat) (w : World) : Type := { w' : World // w.grownBy w' (some b) }
instance (b : Nat) (w : World) : Nonempty (ButT b w) := ⟨⟨w, World.grownBy.refl w _⟩⟩
theorem ButT.cell {b : Nat} {w : World} {q o : Nat} {v : Value} (h : w.cell? ⟨q, o, none⟩ = some v) (hq : q ≠ b) (e : ButT b w) : e.val.cell? ⟨q, o, none⟩ = some v :=
 e.property.cell h (fun e => hq (Option.some.inj e))
end Go.Proofs.YtafilaiinbggoaaGreat
namespace Go.Proofs.YtafilaiinbggoaaGreat
open Go.Shelf Go.RowKit
structure Hld (p : Prop) : Prop where
 out : p
def InsPost (T : TypeId) (n B : Nat) (w : World) (sl : Value) (p : Nat) (cs : List Value) (e : Ending) (w' : World) : Prop :=
 ∃ sl', e = .returned sl' /\ w'.ownsRow B T n sl' (p + 1) cs /\ w.grownBy w' sl.ownBlock /\ ∀ g, sl'.ownBlock = some g -> sl.ownBlock = some g \/ w.heap.size <= g
theorem row_shift (cur cs d : List Value) (K N M : Nat) (hK : K + N <= M + N) (hcs : cur.take M = cs) (hM : M + N <= cur.length) (hd : d.length = N) :
  (cur.take (K + N) ++ cs.drop K ++ cur.drop (M + N)).take K ++ d ++ (cur.take (K + N) ++ cs.drop K ++ cur.drop (M + N)).drop (K + N) = cs.take K ++ d ++ cs.drop K ++ cur.drop (M + N) := by
 have e1 : (cur.take (K + N) ++ cs.drop K ++ cur.drop (M + N)).take K = cs.take K := by
  rw [List.append_assoc, List.take_append_of_le_length (by rw [List.length_take]; omega), List.take_take, <- hcs, List.take_take]
  congr 1; omega
 have e2 : (cur.take (K + N) ++ cs.drop K ++ cur.drop (M + N)).drop (K + N) = cs.drop K ++ cur.drop (M + N) := by
  rw [List.append_assoc, List.drop_append_of_le_length (by rw [List.length_take]; omega), List.drop_eq_nil_iff.2 (by rw [List.length_take]; omega), List.nil_append]
 rw [e1, e2]; simp only [List.append_assoc]
theorem row_new (cs d z : List Value) (K N M : Nat) (hK : K <= M) (hcs : cs.length = M) (hd : d.length = N) :
  ((cs.take K ++ z).take K ++ d ++ (cs.take K ++ z).drop (K + N)).take (K + N) ++ cs.drop K ++ ((cs.take K ++ z).take K ++ d ++ (cs.take K ++ z).drop (K + N)).drop (M + N) = cs.take K ++ d ++ cs.drop K ++ z.drop (M + N - K) := by
 have h0 : (cs.take K).length = K := by rw [List.length_take]; omega
 have e0 : (cs.take K ++ z).take K = cs.take K := by rw [List.take_append_of_le_length (by omega), List.take_take]; congr 1; omega
 have e1 : (cs.take K ++ z).drop (K + N) = z.drop N := by
  rw [List.drop_append, List.drop_eq_nil_iff.2 (by omega), List.nil_append]; congr 1; omega
 rw [e0, e1]
 have e2 : (cs.take K ++ d ++ z.drop N).take (K + N) = cs.take K ++ d := by
  rw [List.take_append_of_le_length (by rw [List.length_append]; omega), List.take_of_length_le (by rw [List.length_append]; omega)]
 have e3 : (cs.take K ++ d ++ z.drop N).drop (M + N) = z.drop (M + N - K) := by
  rw [List.drop_append, List.drop_eq_nil_iff.2 (by rw [List.length_append]; omega), List.nil_append, List.drop_drop, List.length_append]
  congr 1; omega
 rw [e2, e3]
theorem run_copy_rowN {P : Program} (w : World) (dT sT ty elem : TypeId) (size m : Nat) (g o dLen dCap : Nat) (a : Addr) (sLen sCap : Nat) (cur : Array Value) (t : TypeId) (cs : List Value)
  (hu : P.underlying dT = some (.slice elem)) (hs : (P.info? elem).map (·.size) = some size)
  (hg : w.heap[g]? = some (.cells cur t (0, 0))) (hm : m = Nat.min sLen dLen) (hn : cs.length = m * size)
  (hsrc : ∀ (j : Nat) v, cs[j]? = some v -> w.cell? (a.add j) = some v) (hfit : o + cs.length <= cur.size) (h1 : ∀ v ∈ cs, v.oneCell' = true) :
  (Builtin.copy_ #[dT, sT] ty #[.slice (some ⟨g, o, none⟩) dLen dCap, .slice (some a) sLen sCap]).run P w =
   .ok (goInt m) (w.setRow g (cur.toList.take o ++ cs ++ cur.toList.drop (o + cs.length)).toArray) := by
 have hl := run_loadCells_list (P := P) w a cs hsrc
 have hst := run_storeCells_at P g o t cs 0 cur w hg (by simpa using hfit) h1
 cases hq : P.info? elem with
 | none => simp [hq] at hs
 | some i =>
  have hi : i.size = size := by simpa [hq] using hs
  simp [Builtin.copy_, run_underlying hu, Builtin.lenOf, Builtin.firstCells, sizeOf, typeInfo, hq, hi, <- hm, <- hn, hl, hst]
theorem al_kept {w : World} {o q : Obj} {b : Nat} (h : w.heap[b]? = some q) : (w.drew.alloc o).heap[b]? = some q := by
 rw [Below.heap_alloc w.drew o b (Array.getElem?_eq_some_iff.1 h).1]; exact h
end Go.Proofs.YtafilaiinbggoaaGreat
namespace Go.Proofs.YtafilaiinbggoaaGreat
open Go.Shelf Go.RowKit
end Go.Proofs.YtafilaiinbggoaaGreat
