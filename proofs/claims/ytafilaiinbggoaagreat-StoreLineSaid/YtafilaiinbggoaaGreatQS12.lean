import Derived.Test.YtafilaiinbggoaaGreatQS11
import Derived.Deep.DeepCutAuto
namespace Go.Proofs.YtafilaiinbggoaaGreat
open Go.RowKit Go.Maps
theorem wp_drop_map {ops : Array Oper} {rest : List Oper} {o : Oper} {a : Act} {w : World} {Q : Exit -> Act -> World -> Prop} (hg : o.guard = none) (m x : Operand) (t e : TypeId) (hop : o.op = Op.call { callee := Callee.builtin Builtin.delete, args := #[m, x], argTypes := #[t, 3] })
  (ht : Tryz.prog.underlying t = some (.map 3 e)) (b : Nat) (f : Int -> Option Value) (hm : a.eval m = .map (some b)) (h : MapI b f w) (k : Int) (hx : a.eval x = .int .i64 k) (hk : WfI k)
  (hK : ∀ w', MapI b (fun j => if j = k then none else f j) w' -> w.mapTurned w' b -> wpList Tryz.prog ops Q rest (a.put o.dst (.tuple #[])) w') : wpList Tryz.prog ops Q (o :: rest) a w := by
 refine wpList_plain hg fun K' hK' => ?_
 obtain ⟨w', hrun, r1, r2⟩ := h.drop ht hk o.type
 unfold Oper.wp
 simp [execOp, hop, resolve, invoke, builtin, hm, hx, hrun, Result.andThen]
 exact hK' _ _ (hK w' r1 r2)
theorem pbox5 {w : World} {pb db : Nat} {from_ pool : Int} {isv : Value} {fm : Nat} {uv u' : Value} (h : PBox w pb db from_ pool isv fm uv) : PBox (w.setCell ⟨pb, 5, none⟩ u') pb db from_ pool isv fm u' := by
 have h1 := set_selfT (o := 5) (c := u') h
 unfold PBox
 rw [h1]
 rfl
theorem pbox_noU {w : World} {pb db : Nat} {from_ pool : Int} {isv : Value} {fm : Nat} {uv : Value} (h : PBox w pb db from_ pool isv fm uv) : ¬ IsU w pb := fun ⟨cs, fr, e⟩ => by
 unfold PBox at h
 rw [h] at e
 cases e
theorem isrow_noU {w : World} {ib : Nat} {is : List Nat} (h : IsRow w ib is) : ¬ IsU w ib := fun ⟨cs, fr, e⟩ => by
 unfold IsRow at h
 rw [h] at e
 cases e
theorem kind_ne {w : World} {b1 b2 : Nat} {c1 c2 : Array Value} {t1 t2 : TypeId} {f1 f2 : Nat × Nat} (h1 : w.heap[b1]? = some (.cells c1 t1 f1)) (h2 : w.heap[b2]? = some (.cells c2 t2 f2)) (hne : t1 ≠ t2) : b1 ≠ b2 := fun e => by
 subst e
 rw [h1] at h2
 injection h2 with h2
 injection h2 with _ h3 _
 exact hne h3
def FrStand (w w' : World) : Prop := ∀ (b : Nat) (cs : Array Value) (fr : Nat × Nat), w.heap[b]? = some (.cells cs 173 fr) -> w'.heap[b]? = some (.cells cs 173 fr)
theorem FrStand.refl (w : World) : FrStand w w := fun _ _ _ h => h
theorem FrStand.trans {w w1 w2 : World} (h : FrStand w w1) (k : FrStand w1 w2) : FrStand w w2 := fun b cs fr e => k b cs fr (h b cs fr e)
theorem FrStand.below {w w' : World} (hb : Below w.heap.size w w') : FrStand w w' := fun _ _ _ e => kept e hb
theorem FrAt.fs {w w' : World} {g : Int -> Option Value} {fr : Nat -> Option (Bts × Bool)} (h : FrAt w g fr) (hF : FrStand w w') (hu : CLe (cfU w) (cfU w')) : FrAt w' g fr :=
 h.keep (fun n2 fb2 e => by
  have hx := frat_dom h (k := (n2 : Int))
  rw [e] at hx
  obtain ⟨m, em, hm⟩ := hx.1 rfl
  obtain rfl : n2 = m := by omega
  obtain ⟨⟨b2, d2⟩, hbd⟩ := Option.isSome_iff_exists.1 hm
  obtain ⟨_, fb3, a3, c3, q1, q2, _⟩ := frat_some h hbd
  rw [e] at q1
  cases q1
  exact (hF _ _ _ q2).trans q2.symm) hu
theorem frat_mk {w : World} {g : Int -> Option Value} {fr : Nat -> Option (Bts × Bool)} (h0 : ∀ k, k < 0 -> g k = none) (h1 : ∀ n : Nat, fr n = none -> g n = none) (h2 : ∀ (n : Nat) (b : Bts) (d : Bool), fr n = some (b, d) -> b.length = 1024 /\ ∃ fb a cap, g n = some (.pointer (some ⟨fb, 0, none⟩)) /\ w.heap[fb]? = some (.cells #[.int .i64 n, .slice a 1024 cap, .bool d] 173 (0, 0)) /\ YAt (cfU w) (.slice a 1024 cap) b) : FrAt w g fr :=
 ⟨h0, fun n => by
  split
  ·rename_i e; exact h1 n e
  ·rename_i b d e; exact h2 n b d e⟩
theorem FrAt.del {w : World} {g : Int -> Option Value} {fr : Nat -> Option (Bts × Bool)} (h : FrAt w g fr) (n : Nat) : FrAt w (fun j => if j = (n : Int) then none else g j) (fun m => if m = n then none else fr m) := by
 refine frat_mk (fun k hk => ?_) (fun m hm => ?_) (fun m b d hm => ?_)
 ·simp only [h.1 k hk, ite_self]
 ·by_cases e : m = n
  ·subst e; simp only [if_true]
  ·simp only [if_neg e] at hm
   have e2 : ¬ ((m : Int) = (n : Int)) := by omega
   simp only [if_neg e2]
   exact frat_none h hm
 ·by_cases e : m = n
  ·subst e; simp only [if_true] at hm; cases hm
  ·simp only [if_neg e] at hm
   have e2 : ¬ ((m : Int) = (n : Int)) := by omega
   simp only [if_neg e2]
   exact frat_some h hm
theorem FrAt.ins {w : World} {g : Int -> Option Value} {fr : Nat -> Option (Bts × Bool)} (h : FrAt w g fr) {n : Nat} {b : Bts} {d : Bool} {fb : Nat} {a : Option Addr} {cap : Nat} (hb : b.length = 1024) (hf : w.heap[fb]? = some (.cells #[.int .i64 n, .slice a 1024 cap, .bool d] 173 (0, 0))) (hy : YAt (cfU w) (.slice a 1024 cap) b) :
  FrAt w (fun j => if j = (n : Int) then some (.pointer (some ⟨fb, 0, none⟩)) else g j) (fun m => if m = n then some (b, d) else fr m) := by
 refine frat_mk (fun k hk => ?_) (fun m hm => ?_) (fun m b2 d2 hm => ?_)
 ·have e2 : ¬ (k = (n : Int)) := by omega
  simp only [if_neg e2]
  exact h.1 k hk
 ·by_cases e : m = n
  ·subst e; simp only [if_true] at hm; cases hm
  ·simp only [if_neg e] at hm
   have e2 : ¬ ((m : Int) = (n : Int)) := by omega
   simp only [if_neg e2]
   exact frat_none h hm
 ·by_cases e : m = n
  ·subst e
   simp only [if_true] at hm |-
   cases hm
   exact ⟨hb, fb, a, cap, rfl, hf, hy⟩
  ·simp only [if_neg e] at hm
   have e2 : ¬ ((m : Int) = (n : Int)) := by omega
   simp only [if_neg e2]
   exact frat_some h hm
theorem mem_map_nat {l : List Nat} {n : Nat} {i : Nat} : (l.map Int.ofNat)[i]? = some (n : Int) ↔ l[i]? = some n := by
 rw [List.getElem?_map]
 cases l[i]? with
 | none => simp
 | some m =>
  simp only [Option.map_some, Option.some.injEq]
  constructor
  ·intro h
   have : (m : Int) = (n : Int) := h
   omega
  ·rintro rfl; rfl
theorem erase_at {l : List Nat} {n k : Nat} (hk : l[k]? = some n) (hf : ∀ i, i < k -> l[i]? ≠ some n) : l.erase n = l.take k ++ l.drop (k + 1) := by
 have h1 : l.idxOf? n = some k := by
  rw [List.idxOf?, List.findIdx?_eq_some_iff_getElem]
  obtain ⟨hlt, he⟩ := List.getElem?_eq_some_iff.1 hk
  refine ⟨hlt, by simp [he], fun i hi => ?_⟩
  have := hf i hi
  rw [List.getElem?_eq_getElem (by omega)] at this
  simpa using this
 rw [List.erase_eq_eraseIdx, h1]
 exact List.eraseIdx_eq_take_drop_succ _ _
theorem idx_of {l : List Nat} {n : Nat} (h : n ∈ l) : ∃ k : Nat, l[k]? = some n /\ (∀ i, i < k -> l[i]? ≠ some n) /\ idxI (l.map Int.ofNat) n = k := by
 obtain ⟨k, hk⟩ : ∃ k, l.idxOf? n = some k := by
  cases e : l.idxOf? n with
  | none => exact absurd h (List.idxOf?_eq_none_iff.1 e)
  | some k => exact ⟨k, rfl⟩
 rw [List.idxOf?, List.findIdx?_eq_some_iff_getElem] at hk
 obtain ⟨hlt, he, hno⟩ := hk
 have h1 : l[k]? = some n := by rw [List.getElem?_eq_getElem hlt]; simpa using he
 have h2 : ∀ i, i < k -> l[i]? ≠ some n := fun i hi e => by
  have := hno i hi
  rw [List.getElem?_eq_getElem (by omega)] at e
  simp only [Option.some.injEq] at e
  rw [e] at this
  simp at this
 exact ⟨k, h1, h2, idxI_at (fun i hi e => h2 i hi (mem_map_nat.1 e)) (mem_map_nat.2 h1)⟩
theorem ri_row (c : CF) (l : List Int) : GRow 1 RI c l (l.map fun x => .int .i64 x) := by
 refine ⟨by simp, fun i x hx => ⟨[.int .i64 x], rfl, fun j u hu => ?_, rfl⟩⟩
 match j, hu with
 | 0, hu =>
  cases hu
  rw [Nat.mul_one, Nat.add_zero, List.getElem?_map, hx]
  rfl
theorem ri_cells {c : CF} {l : List Int} {cs : List Value} (h : GRow 1 RI c l cs) : cs = l.map fun x => .int .i64 x := by
 refine List.ext_getElem? fun i => ?_
 rw [List.getElem?_map]
 cases e : l[i]? with
 | none =>
  have h1 := List.getElem?_eq_none_iff.1 e
  have h2 := h.1
  rw [List.getElem?_eq_none_iff.2 (by omega)]
  rfl
 | some x =>
  obtain ⟨d, _, h2, h3⟩ := h.2 i x e
  have h3' : d = [.int .i64 x] := h3
  have := h2 0 (.int .i64 x) (by rw [h3']; rfl)
  rw [Nat.mul_one, Nat.add_zero] at this
  rw [this]
  rfl
set_option maxHeartbeats 4000000 in
set_option maxRecDepth 100000 in
theorem pages_drop {H : BS} {Q : PQ} {S : PS} {w : World} {n : Nat} (h : PP H Q S w) (hi : PInv Q.pool S) (hu : S.used.length <= 1000000) (hn : n < 1000000) :
  Calls Tryz.prog 85 #[.pointer (some ⟨Q.pb, 0, none⟩), .int .i64 (n : Int)] w fun e w' => e = .returned (.tuple #[]) /\ PP H Q (dropP n S) w' /\ TurnS H w H w' /\ FrStand w w' := by
 have HPP := HoldT.mk h
 obtain ⟨⟨ib, fm, uv, g, us, h1, h2, h3, h4, h5, h6, h7, h8, h9⟩, d1, d2, d3⟩ := h
 have hwf : WfI (n : Int) := WfI_small (by omega) (by omega)
 have hl := h3.look_ok Tryz.underlying94 (show (zeroValue 171).run Tryz.prog w = .ok (.pointer none) w by kernel_rfl) hwf
 have hc4 := h1.cell.2.2.2.2.1
 have hc5 := h1.cell.2.2.2.2.2.1
 cases hfr : S.fr n with
 | none =>
  rw [frat_none h5 hfr] at hl
  have hl2 : (Instr.lookup 94 (.map (some fm)) (.int .i64 (n : Int)) true).run Tryz.prog w = .ok (.tuple #[.pointer none, .bool false]) w := hl
  have HS : HoldT (PP H Q (dropP n S) w) := ⟨by rw [drop_none hi hfr]; exact HPP.out⟩
  clear hl h1 h2 h3 h4 h5 h6 h7 h8 h9 d1 d2 d3 hi hfr hc5
  go_enter Tryz.func85, Tryz.ntmps85
  go_wp2
  go_end0
  exact ⟨rfl, HS.out, TurnS.refl _ _, FrStand.refl _⟩
 | some p =>
  obtain ⟨b, d⟩ := p
  obtain ⟨_, fb, fa, fc, e1, e2, e3⟩ := frat_some h5 hfr
  rw [e1] at hl
  have hl2 : (Instr.lookup 94 (.map (some fm)) (.int .i64 (n : Int)) true).run Tryz.prog w = .ok (.tuple #[.pointer (some ⟨fb, 0, none⟩), .bool true]) w := hl
  have hmem : n ∈ S.used := (hi.mem n).2 (by rw [hfr]; rfl)
  obtain ⟨k, k1, k2, k3⟩ := idx_of hmem
  have hklt : k < S.used.length := (List.getElem?_eq_some_iff.1 k1).1
  have HIX := HoldT.mk (indexI_any (S.used.map Int.ofNat) uv (n : Int) w (h4.at_ RI_mono) (by rw [List.length_map]; exact hu))
  have hown := h4.own
  obtain ⟨gb, cap, rfl⟩ : ∃ gb cap, uv = .slice (some ⟨gb, 0, none⟩) S.used.length cap := by
   rcases id hown.2 with ⟨_, hz⟩ | ⟨gb, cap, cur, hv, _⟩
   ·omega
   ·exact ⟨gb, cap, hv⟩
  have hus := ri_cells h4.row
  have HDEL := HoldT.mk (delXI_any 0 w gb S.used.length cap us hown k hklt hu (fun u hu2 => by rw [hus] at hu2; obtain ⟨x, _, rfl⟩ := List.mem_map.1 hu2; rfl))
  have HX := HoldT.mk (And.intro h1 (And.intro h2 (And.intro h3 (And.intro h4 (And.intro h5 (And.intro h6 (And.intro h7 (And.intro h8 (And.intro h9 (And.intro d1 (And.intro d2 d3)))))))))))
  rw [k3] at HIX
  have HK := HoldT.mk (And.intro k1 (And.intro k2 hus))
  clear hl h1 h2 h3 h4 h5 h6 h7 h8 h9 d1 d2 d3 e1 e2 e3 hmem k1 k2 k3 hown hi hus
  go_enter Tryz.func85, Tryz.ntmps85
  go_wp2_with (go_at_call 103; refine HIX.out.mono ?_; rintro e w1 ⟨rfl, hw1⟩; obtain rfl := hw1.symm)
  refine HDEL.out.mono ?_
  rintro e w2 ⟨rfl, hown2, hg2⟩
  obtain ⟨h1, h2, h3, h4, h5, h6, h7, h8, h9, d1, d2, d3⟩ := HX.out
  obtain ⟨cur, hcur⟩ := own_kind h4 (g := gb) rfl
  have hne1 : Q.pb ≠ gb := kind_ne h1 hcur (by decide)
  have hne2 : fm ≠ gb := fun e => by subst e; exact map_not h3 hcur
  have hne3 : ib ≠ gb := kind_ne h2 hcur (by decide)
  have hne4 : fm ≠ Q.pb := fun e => by subst e; exact map_not h3 h1
  have hne5 : ib ≠ fm := fun e => by subst e; exact map_not h3 h2
  have hne6 : ib ≠ Q.pb := kind_ne h2 h1 (by decide)
  have b1 : PBox w2 Q.pb Q.db Q.fr0 Q.pool (.slice (some ⟨ib, 0, none⟩) S.is.length S.is.length) fm (.slice (some ⟨gb, 0, none⟩) S.used.length cap) := (hg2.block _ (heap_lt h1) (fun e => hne1 (Option.some.inj e))).trans h1
  have hfz := b1.free 5
  have hcc := b1.cell.2.2.2.2.2.1
  have b2 := pbox5 (u' := .slice (some ⟨gb, 0, none⟩) (S.used.length - 1) cap) b1
  have hcd := b2.cell.2.2.2.2.1
  have m2 : MapI fm g (w2.setCell ⟨Q.pb, 5, none⟩ (.slice (some ⟨gb, 0, none⟩) (S.used.length - 1) cap)) := (h3.same (hg2.block _ h3.lt (fun e => hne2 (Option.some.inj e)))).same (Below.heap_setCell _ _ _ _ hne4)
  have HB := HoldT.mk (And.intro hown2 (And.intro hg2 (And.intro b2 m2)))
  have HN := HoldT.mk (And.intro hcur (And.intro hne1 (And.intro hne2 (And.intro hne3 (And.intro hne4 (And.intro hne5 hne6))))))
  clear h1 h2 h3 h4 h5 h6 h7 h8 h9 d1 d2 d3 hcur b1 b2 hown2 hg2 m2 hne1 hne2 hne3 hne4 hne5 hne6
  go_wp2_with (at_delete; refine wp_drop_map rfl _ _ _ _ rfl Tryz.underlying94 fm g rfl HB.out.2.2.2 _ rfl hwf ?_)
  intro w4 m4 ht4
  go_wp2_with fail
  go_end0
  obtain ⟨h1, h2, h3, h4, h5, h6, h7, h8, h9, d1, d2, d3⟩ := HX.out
  obtain ⟨hown2, hg2, b2, m2⟩ := HB.out
  obtain ⟨hcur, hne1, hne2, hne3, hne4, hne5, hne6⟩ := HN.out
  obtain ⟨k1, k2, hus⟩ := HK.out
  have hg3 := set6_grown (w := w2) (db := Q.pb) (.slice (some ⟨gb, 0, none⟩) (S.used.length - 1) cap) 5
  have hg4 := World.mapTurned.grown ht4
  have hs : w.heap.size <= w4.heap.size := Nat.le_trans hg2.size (Nat.le_trans hg3.size hg4.size)
  have hk : ∀ b, b < w.heap.size -> b ≠ gb -> b ≠ Q.pb -> b ≠ fm -> w4.heap[b]? = w.heap[b]? := fun b hb e1 e2 e3 =>
   (hg4.block b (Nat.lt_of_lt_of_le hb (Nat.le_trans hg2.size hg3.size)) (fun e => e3 (Option.some.inj e))).trans ((hg3.block b (Nat.lt_of_lt_of_le hb hg2.size) (fun e => e2 (Option.some.inj e))).trans (hg2.block b hb (fun e => e1 (Option.some.inj e))))
  have hdb := heap_lt h1
  have hsame : ∀ b, H b -> b ≠ gb -> b ≠ Q.pb -> b ≠ fm -> w4.heap[b]? = w.heap[b]? := fun b hb => hk b (d2 b hb)
  have hT : TurnS H w H w4 := ⟨hg4.os.trans (hg3.os.trans hg2.os), hg4.tape.trans (hg3.tape.trans hg2.tape), hg4.output.trans (hg3.output.trans hg2.output), hs, fun b hb hn => ⟨hk b hb (fun e => hn (e ▸ h8 gb rfl)) (fun e => hn (e ▸ d1)) (fun e => hn (e ▸ h7)), hn⟩⟩
  have hF : FrStand w w4 := fun b cs fr e => (hk b (heap_lt e) (kind_ne e hcur (by decide)) (kind_ne e h1 (by decide)) (fun e2 => by subst e2; exact map_not h3 e)).trans e
  have hub : CLe (cfU w) (cfU w4) := cfU_turn hT d3
  have hb4 : PBox w4 Q.pb Q.db Q.fr0 Q.pool (.slice (some ⟨ib, 0, none⟩) S.is.length S.is.length) fm (.slice (some ⟨gb, 0, none⟩) (S.used.length - 1) cap) := (hg4.block _ (heap_lt b2) (fun e => hne4 (Option.some.inj e).symm)).trans b2
  have hlen : (S.used.erase n).length = S.used.length - 1 := List.length_erase_of_mem (List.mem_iff_getElem?.2 ⟨k, k1⟩)
  have ho3 : OwnS 1 RI 3 0 w2 (.slice (some ⟨gb, 0, none⟩) (S.used.length - 1) cap) (S.used.length - 1) ((S.used.erase n).map Int.ofNat) (us.take (k * 1) ++ us.drop ((k + 1) * 1)) := by
   refine ⟨hown2, by rw [List.length_map, hlen], ?_, Nat.zero_le _⟩
   have e0 : us.take (k * 1) ++ us.drop ((k + 1) * 1) = ((S.used.erase n).map Int.ofNat).map fun x => .int .i64 x := by
    rw [hus, erase_at k1 k2, Nat.mul_one, Nat.mul_one]
    simp only [List.map_append, List.map_take, List.map_drop]
   rw [e0]
   exact ri_row _ _
  have ho4 := own_keep (fun _ _ _ _ h => h) (own_keep (fun _ _ _ _ h => h) ho3 hg3 (fun g hg e => by cases hg; exact hne1 (Option.some.inj e))) hg4 (fun g hg e => by cases hg; exact hne2 (Option.some.inj e))
  refine ⟨rfl, ⟨⟨ib, fm, .slice (some ⟨gb, 0, none⟩) (S.used.length - 1) cap, fun j => if j = (n : Int) then none else g j, us.take (k * 1) ++ us.drop ((k + 1) * 1), hb4, (hsame ib h6 hne3 hne6 hne5).trans h2, m4, ?_, ?_, h6, h7, fun gb2 e => h8 gb2 e, fun k2 fb2 e => ?_⟩, d1, fun b hb => Nat.lt_of_lt_of_le (d2 b hb) hs, fun b hb hu2 => ?_⟩, hT, hF⟩
  ·show OwnS 1 RI 3 0 w4 _ (S.used.erase n).length ((S.used.erase n).map Int.ofNat) _
   rw [hlen]
   exact ho4
  ·exact (h5.fs hF hub).del n
  ·by_cases e2 : k2 = (n : Int)
   ·simp only [if_pos e2] at e; cases e
   ·simp only [if_neg e2] at e; exact h9 k2 fb2 e
  ·by_cases e1 : b = gb
   ·subst e1
    obtain ⟨c4, hc4⟩ := own_kind ho4 (g := b) rfl
    obtain ⟨_, _, hu2⟩ := hu2
    rw [hc4] at hu2
    cases hu2
   ·by_cases e2 : b = Q.pb
    ·subst e2; exact pbox_noU hb4 hu2
    ·by_cases e3 : b = fm
     ·subst e3
      obtain ⟨_, _, hu2⟩ := hu2
      exact map_not m4 hu2
     ·obtain ⟨cs, fr, hu2⟩ := hu2
      exact d3 b hb ⟨cs, fr, (hsame b hb e1 e2 e3).symm.trans hu2⟩
end Go.Proofs.YtafilaiinbggoaaGreat
namespace Go.Proofs.YtafilaiinbggoaaGreat
open Go.RowKit Go.Maps
def KeepS (P : BS) (w : World) : Type := { w' : World // ∀ b, P b -> w'.heap[b]? = w.heap[b]? }
instance (P : BS) (w : World) : Nonempty (KeepS P w) := ⟨⟨w, fun _ _ => rfl⟩⟩
theorem KeepS.cell {P : BS} {w : World} {b o : Nat} {v : Value} (h : w.cell? ⟨b, o, none⟩ = some v) (hb : P b) (e : KeepS P w) : e.val.cell? ⟨b, o, none⟩ = some v := by
 rw [World.cell?_of_block (w := w) (e.property b hb)]; exact h
abbrev KeepSC (P : BS) (w : World) : World -> Prop := fun w' => ∃ e : KeepS P w, w' = e.val
theorem keepSC {P : BS} {w w' : World} (h : ∀ b, P b -> w'.heap[b]? = w.heap[b]?) : KeepSC P w w' := ⟨⟨w', h⟩, rfl⟩
def secW (s0 : Int) (b : Bts) (j : Nat) (D : Int -> Option Bts) : Int -> Option Bts := fun k => if s0 <= k /\ k < s0 + j then some ((b.drop (256 * (k - s0).toNat)).take 256) else D k
theorem secW_zero (s0 : Int) (b : Bts) (D : Int -> Option Bts) : secW s0 b 0 D = D := funext fun k => by
 unfold secW
 rw [if_neg (by omega)]
theorem secW_succ (s0 : Int) (b : Bts) (j : Nat) (D : Int -> Option Bts) : (fun k => if k = s0 + j then some ((b.drop (256 * j)).take 256) else secW s0 b j D k) = secW s0 b (j + 1) D := funext fun k => by
 unfold secW
 by_cases e : k = s0 + j
 ·rw [if_pos e, if_pos (by omega), e]
  have : (s0 + (j : Int) - s0).toNat = j := by omega
  rw [this]
 ·rw [if_neg e]
  by_cases e2 : s0 <= k /\ k < s0 + j
  ·rw [if_pos e2, if_pos (by omega)]
  ·rw [if_neg e2, if_neg (by omega)]
theorem DG.drew {H : BS} {db size : Nat} {D : Int -> Option Bts} {p : Nat} {w : World} (h : DG H db size D p w) : DG H db size D p w.drew := h.below ((Below.refl _ w).drew)
theorem yat_part {c : CF} {g off n cap : Nat} {l : Bts} (h : YAt c (.slice (some ⟨g, off, none⟩) n cap) l) {i j : Nat} (hij : i <= j) (hj : j <= l.length) {cap' : Nat} (hc : j - i <= cap') (hc2 : cap' <= 9223372036854775807) : YAt c (.slice (some ⟨g, off + i, none⟩) (j - i) cap') ((l.drop i).take (j - i)) := by
 obtain ⟨a, cap2, e, h1, h2, h3⟩ := h
 cases e
 have hl : ((l.drop i).take (j - i)).length = j - i := by rw [List.length_take, List.length_drop]; omega
 refine ⟨some ⟨g, off + i, none⟩, cap', by rw [hl], by omega, hc2, fun k x hx => ?_⟩
 rw [List.getElem?_take] at hx
 split at hx
 ·rw [List.getElem?_drop] at hx
  obtain ⟨b2, off2, d, e, hd, hcd, hR⟩ := h3 (i + k) x hx
  cases e
  refine ⟨g, off + i, d, rfl, hd, fun q u hu => ?_, hR⟩
  have := hcd q u hu
  rw [Nat.mul_one] at this |-
  rw [show off + i + k + q = off + (i + k) + q by omega]
  exact this
 ·cases hx
set_option maxHeartbeats 8000000 in
set_option maxRecDepth 100000 in
theorem pages_write {HD : BS} {db size pb fb n : Nat} {D : Int -> Option Bts} {p : Nat} {w : World} {fr0 : Nat} {pool : Int} {isv uv : Value} {fm g off cap : Nat} {b : Bts} {d : Bool} (hb : PBox w pb db (fr0 : Int) pool isv fm uv) (hD : DG HD db size D p w) (hpb : ¬ HD pb)
  (hf : w.heap[fb]? = some (.cells #[.int .i64 n, .slice (some ⟨g, off, none⟩) 1024 cap, .bool d] 173 (0, 0))) (hfb : ¬ HD fb) (hy : YAt (cfU w) (.slice (some ⟨g, off, none⟩) 1024 cap) b) (hlen : b.length = 1024) (hfit : fr0 + 4 * n + 4 <= size) (hp : p <= 999999990) :
  Calls Tryz.prog 102 #[.pointer (some ⟨pb, 0, none⟩), .pointer (some ⟨fb, 0, none⟩)] w fun e w' => e = .returned (.bool true) /\ ∃ HD' w1, DG HD' db size (secW ((fr0 : Int) + 4 * n) b 4 D) (p + 4) w1 /\ TurnS HD w HD' w1 /\ w' = w1.setCell ⟨fb, 2, none⟩ (.bool false) := by
 have hcap : 1024 <= cap /\ cap <= 9223372036854775807 := by
  obtain ⟨_, _, e, h1, h2, _⟩ := hy
  simp only [Value.slice.injEq] at e
  rw [<- e.2.2] at h1 h2
  exact ⟨by rw [hlen] at h1; exact h1, h2⟩
 have hsz : size <= 65536 := hD.few
 have HB := HoldT.mk hb
 have HF := HoldT.mk hf
 have HY := HoldT.mk hy
 have HD0 := HoldT.mk (And.intro hD (And.intro hpb hfb))
 have HP := HoldT.mk (And.intro hlen (And.intro hfit (And.intro hp hsz)))
 clear hb hf hy hD hpb hfb hlen hp
 go_enter Tryz.func102, Tryz.ntmps102
 go_wp2
 go_loopw [5, 6] (fun y i wr => ∃ j : Nat, i = .int .i64 j /\ j <= 4 /\ ∃ HDj, HoldT (DG HDj db size (secW ((fr0 : Int) + 4 * n) b j D) (p + j) wr /\ TurnS HD w HDj wr)) (fun _ i _ => 4 - (intOf i).toNat)
 case atStart => exact ⟨0, rfl, Nat.zero_le _, HD, ⟨by rw [secW_zero]; exact HD0.out.1, TurnS.refl _ _⟩⟩
 case round =>
  obtain ⟨j, rfl, hj, HDj, HJ⟩ := hrel
  by_cases hlt : j < 4
  ·have b1 : decide ((j : Int) < 4) = true := decide_eq_true (by omega)
   have hbx : PBox wr pb db (fr0 : Int) pool isv fm uv := (HJ.out.2.kept HB.out HD0.out.2.1).1
   have hfx : wr.heap[fb]? = some (.cells #[.int .i64 n, .slice (some ⟨g, off, none⟩) 1024 cap, .bool d] 173 (0, 0)) := (HJ.out.2.kept HF.out HD0.out.2.2).1
   have c0 := hbx.cell.1
   have c1 := hbx.cell.2.1
   have f0 : wr.cell? ⟨fb, 0, none⟩ = some (.int .i64 n) := by simp [World.cell?, hfx]
   have f1 : wr.cell? ⟨fb, 1, none⟩ = some (.slice (some ⟨g, off, none⟩) 1024 cap) := by simp [World.cell?, hfx]
   have g0 := KeepS.cell (P := fun q => q = pb \/ q = fb) c0 (.inl rfl)
   have g1 := KeepS.cell (P := fun q => q = pb \/ q = fb) c1 (.inl rfl)
   have g2 := KeepS.cell (P := fun q => q = pb \/ q = fb) f0 (.inr rfl)
   have g3 := KeepS.cell (P := fun q => q = pb \/ q = fb) f1 (.inr rfl)
   have HX := HoldT.mk (And.intro hbx hfx)
   clear c0 c1 f0 f1 hbx hfx
   go_upto_region 4 with (fail)
   refine wp_region_mixC (KeepSC (fun q => q = pb \/ q = fb) wr) 28 rfl (by kernel_rfl) ?_
   have HDR := HoldT.mk (And.intro ((Below.refl wr.heap.size wr).drew) HJ.out.1.drew)
   have HST : HoldT (∀ q : Nat, wr.drew.heap[q]? = wr.heap[q]?) := ⟨fun _ => rfl⟩
   generalize wr.drew = v9 at HDR HST |-
   refine mixl_seg (by kernel_rfl) (fun _ _ d _ _ h => by cases d <;> exact h) [0, 1, 2, 3, 4, 5, 6, 7, 8, 9, 10, 11, 12, 13, 14, 15, 16, 17, 18, 19, 20, 21, 22, 23, 24, 25] [_, _, _, _, _, _, _, _, _, _, _, _, _, _, _, _, _, _, _, _, _, _, _, _, _, _] 2 28 rfl _ _ _ rfl (by kernel_rfl) (keepSC fun q _ => HST.out q) ?_
   repeat (go_big_quiet_step (fail))
   refine wpQuiet_nil ?_
   clear g0 g1 g2 g3
   have e256 : (j + 1) * 256 - j * 256 = 256 := by omega
   have HPUT := HoldT.mk (disk_put (s := (fr0 : Int) + 4 * (n : Int) + (j : Int)) (va := some ⟨g, off + j * 256, none⟩) (vc := cap - j * 256) HDR.out.2 (by omega) (by have := HP.out.2.1; omega) (b := (b.drop (j * 256)).take 256) (by
    have h1 := (HY.out.mono RY_mono (cfU_turn HJ.out.2 HD0.out.1.noU)).mono RY_mono (cfU_below HDR.out.1)
    have h2 := yat_part h1 (i := j * 256) (j := (j + 1) * 256) (by omega) (by rw [HP.out.1]; omega) (cap' := cap - j * 256) (by omega) (by omega)
    rw [e256] at h2
    exact h2) (by rw [List.length_take, List.length_drop, HP.out.1]; omega) (by have := HP.out.2.2.1; omega))
   refine mixl_act (i := 26) rfl (by kernel_rfl) (keepSC fun q _ => HST.out q) rfl (fun K hK => ?_)
   rw [e256]
   go_wp2_with fail
   refine HPUT.out.mono ?_
   rintro e w4 ⟨rfl, HDk, hdk, htk⟩
   simp only
   have HJ2 : HoldT (DG HDk db size (secW ((fr0 : Int) + 4 * n) b (j + 1) D) (p + (j + 1)) w4 /\ TurnS HD w HDk w4) := ⟨by
    rw [show b.drop (j * 256) = b.drop (256 * j) by rw [Nat.mul_comm], secW_succ] at hdk
    exact ⟨hdk, (HJ.out.2.trans (TurnS.quiet HDR.out.1)).trans htk⟩⟩
   have HW4 : HoldT (∀ q, q = pb \/ q = fb -> w4.heap[q]? = wr.heap[q]?) := ⟨fun q hq => by
    have hb9 := HST.out q
    rcases hq with rfl | rfl
    ·exact (((htk.kept (hb9.trans HX.out.1) (HJ.out.2.kept HB.out HD0.out.2.1).2).1).trans HX.out.1.symm)
    ·exact (((htk.kept (hb9.trans HX.out.2) (HJ.out.2.kept HF.out HD0.out.2.2).2).1).trans HX.out.2.symm)⟩
   clear hdk htk
   go_wp2_with fail
   refine mixl_seg (by kernel_rfl) (fun _ _ d _ _ h => by cases d <;> exact h) [27] [_] 0 1 rfl _ _ _ rfl (by kernel_rfl) (keepSC HW4.out) ?_
   repeat (go_big_quiet_step (fail))
   refine wpQuiet_nil ?_
   refine mix_done (by kernel_rfl) (keepSC HW4.out) ?_
   go_wp2_with fail
   exact ⟨⟨j + 1, by go_num, by omega, HDk, HJ2⟩, by simp [intOf]; omega⟩
  ·obtain rfl : j = 4 := by omega
   have hfx : wr.heap[fb]? = some (.cells #[.int .i64 n, .slice (some ⟨g, off, none⟩) 1024 cap, .bool d] 173 (0, 0)) := (HJ.out.2.kept HF.out HD0.out.2.2).1
   have hz : wr.frozen? ⟨fb, 2, none⟩ = false := by simp [World.frozen?, hfx]
   have hc2 : wr.cell? ⟨fb, 2, none⟩ = some (.bool d) := by simp [World.cell?, hfx]
   clear hfx
   go_wp2_with fail
   go_ret
   exact ⟨rfl, HDj, wr, HJ.out.1, HJ.out.2, rfl⟩
end Go.Proofs.YtafilaiinbggoaaGreat
namespace Go.Proofs.YtafilaiinbggoaaGreat
open Go.RowKit Go.Maps
structure HS where
 d : BS
 p : BS
def HS.all (H : HS) : BS := fun b => H.d b \/ H.p b
def dOf (Q : PQ) (R : Int -> Option Bts) (S : PS) : Int -> Option Bts := fun k => if (Q.fr0 : Int) <= k /\ k < Q.fr0 + 4 * Q.count then S.now (k - Q.fr0).toNat else R k
structure PG (Q : PQ) (R : Int -> Option Bts) (H : HS) (S : PS) (p : Nat) (w : World) : Prop where
 disk : DG H.d Q.db Q.size (dOf Q R S) p w
 own : PP H.p Q S w
 apart : ∀ b, H.d b -> ¬ H.p b
 inv : PInv Q.pool S
 len : S.is.length = Q.count
 fit : Q.fr0 + 4 * Q.count <= Q.size
 pool1 : 1 <= Q.pool
 poolm : Q.pool <= 1000000
 inside : ∀ n ∈ S.used, n < Q.count
theorem PG.small {Q : PQ} {R : Int -> Option Bts} {H : HS} {S : PS} {p : Nat} {w : World} (h : PG Q R H S p w) : Q.count <= 16384 /\ Q.fr0 <= 65536 /\ S.used.length <= 1000000 := by
 have h1 := h.disk.few
 have h2 := h.fit
 have h3 := h.inv.few
 have h4 := h.poolm
 omega
theorem PG.noU {Q : PQ} {R : Int -> Option Bts} {H : HS} {S : PS} {p : Nat} {w : World} (h : PG Q R H S p w) : ∀ b, H.all b -> ¬ IsU w b := fun b hb => hb.elim (h.disk.noU b) (h.own.noU b)
theorem PG.lt {Q : PQ} {R : Int -> Option Bts} {H : HS} {S : PS} {p : Nat} {w : World} (h : PG Q R H S p w) : ∀ b, H.all b -> b < w.heap.size := fun b hb => hb.elim (h.disk.lt b) (h.own.lt b)
theorem PG.stand {Q : PQ} {R : Int -> Option Bts} {H : HS} {S : PS} {p : Nat} {w w' : World} (h : PG Q R H S p w) (hs : w.heap.size <= w'.heap.size) (hk : ∀ b, H.all b -> w'.heap[b]? = w.heap[b]?) (hu : CLe (cfU w) (cfU w')) : PG Q R H S p w' :=
 ⟨h.disk.stand hs (fun b hb => hk b (.inl hb)) hu, h.own.stand hs (fun b hb => hk b (.inr hb)) hu, h.apart, h.inv, h.len, h.fit, h.pool1, h.poolm, h.inside⟩
theorem PG.below {Q : PQ} {R : Int -> Option Bts} {H : HS} {S : PS} {p : Nat} {w w' : World} (h : PG Q R H S p w) (hb : Below w.heap.size w w') : PG Q R H S p w' :=
 h.stand hb.size (fun b hk => hb.block b (h.lt b hk)) (cfU_below hb)
theorem PG.beside {Q : PQ} {R : Int -> Option Bts} {H : HS} {S : PS} {p : Nat} {w w' : World} (h : PG Q R H S p w) {r : Option Nat} (hg : w.grownBy w' r) (hr : ∀ b, r = some b -> ¬ H.all b /\ ¬ IsU w b) : PG Q R H S p w' :=
 h.stand hg.size (fun b hk => hg.block b (h.lt b hk) (fun e => (hr b e.symm).1 hk)) (cfU_grown hg fun b e => (hr b e).2)
theorem dOf_write {Q : PQ} {R : Int -> Option Bts} {S : PS} {l : Nat} {b : Bts} (hl : l < Q.count) : dOf Q R (writeP l b S) = secW ((Q.fr0 : Int) + 4 * l) b 4 (dOf Q R S) := funext fun k => by
 unfold secW
 show (if (Q.fr0 : Int) <= k /\ k < Q.fr0 + 4 * Q.count then (if (k - Q.fr0).toNat / 4 = l then some ((b.drop (256 * ((k - Q.fr0).toNat % 4))).take 256) else S.now (k - Q.fr0).toNat) else R k) = if _ then _ else (if (Q.fr0 : Int) <= k /\ k < Q.fr0 + 4 * Q.count then S.now (k - Q.fr0).toNat else R k)
 by_cases h1 : (Q.fr0 : Int) <= k /\ k < Q.fr0 + 4 * Q.count
 ·rw [if_pos h1, if_pos h1]
  by_cases h2 : (k - Q.fr0).toNat / 4 = l
  ·rw [if_pos h2, if_pos (by omega)]
   have : (k - Q.fr0).toNat % 4 = (k - ((Q.fr0 : Int) + 4 * l)).toNat := by omega
   rw [this]
  ·rw [if_neg h2, if_neg (by omega)]
 ·rw [if_neg h1, if_neg (by omega), if_neg h1]
theorem yat_addr {c : CF} {a : Option Addr} {n cap : Nat} {b : Bts} (h : YAt c (.slice a n cap) b) (hb : 0 < b.length) : ∃ g off, a = some ⟨g, off, none⟩ := by
 obtain ⟨a2, cap2, e, _, _, h3⟩ := h
 simp only [Value.slice.injEq] at e
 obtain ⟨g, off, d, ea, _⟩ := h3 0 b[0] (List.getElem?_eq_getElem hb)
 exact ⟨g, off, by rw [e.1, ea]⟩
theorem FrAt.clean {w : World} {g : Int -> Option Value} {fr : Nat -> Option (Bts × Bool)} (h : FrAt w g fr) {l fl : Nat} {b : Bts} {d : Bool} (hl : fr l = some (b, d)) (hg : g l = some (.pointer (some ⟨fl, 0, none⟩))) : FrAt (w.setCell ⟨fl, 2, none⟩ (.bool false)) g (fun m => if m = l then some (b, false) else fr m) := by
 obtain ⟨hb, fb, a, cap, q1, q2, q3⟩ := frat_some h hl
 rw [hg] at q1
 obtain rfl : fl = fb := by cases q1; rfl
 have hu : ¬ IsU w fl := fun ⟨cs, fr, e⟩ => by rw [q2] at e; cases e
 refine frat_mk h.1 (fun n hn => ?_) (fun n b2 d2 hn => ?_)
 ·by_cases e : n = l
  ·simp only [if_pos e] at hn; cases hn
  ·simp only [if_neg e] at hn
   exact frat_none h hn
 ·by_cases e : n = l
  ·subst e
   simp only [if_true] at hn
   cases hn
   refine ⟨hb, fl, a, cap, hg, ?_, q3.mono RY_mono (cfU_set hu)⟩
   rw [set_selfT q2]; rfl
  ·simp only [if_neg e] at hn
   obtain ⟨hb2, fb2, a2, cap2, r1, r2, r3⟩ := frat_some h hn
   refine ⟨hb2, fb2, a2, cap2, r1, ?_, r3.mono RY_mono (cfU_set hu)⟩
   have hne : fb2 ≠ fl := fun e2 => by
    subst e2
    rw [r2] at q2
    simp only [Option.some.injEq, Obj.cells.injEq, Array.mk.injEq, List.cons.injEq, Value.int.injEq] at q2
    omega
   exact (Below.heap_setCell _ _ _ _ hne).trans r2
structure PPg (H : BS) (Q : PQ) (S : PS) (fm : Nat) (g : Int -> Option Value) (w : World) : Prop where
 ex : ∃ ib uv us, PBox w Q.pb Q.db Q.fr0 Q.pool (.slice (some ⟨ib, 0, none⟩) S.is.length S.is.length) fm uv /\ IsRow w ib S.is /\ OwnS 1 RI 3 0 w uv S.used.length (S.used.map Int.ofNat) us /\ H ib /\ ∀ gb, uv.ownBlock = some gb -> H gb
 map : MapI fm g w
 fr : FrAt w g S.fr
 hm : H fm
 hfr : ∀ k fb, g k = some (.pointer (some ⟨fb, 0, none⟩)) -> H fb
 box : H Q.pb
 lt : ∀ b, H b -> b < w.heap.size
 noU : ∀ b, H b -> ¬ IsU w b
theorem PP.open {H : BS} {Q : PQ} {S : PS} {w : World} (h : PP H Q S w) : ∃ fm g, PPg H Q S fm g w := by
 obtain ⟨⟨ib, fm, uv, g, us, h1, h2, h3, h4, h5, h6, h7, h8, h9⟩, d1, d2, d3⟩ := h
 exact ⟨fm, g, ⟨ib, uv, us, h1, h2, h4, h6, h8⟩, h3, h5, h7, h9, d1, d2, d3⟩
theorem PPg.pp {H : BS} {Q : PQ} {S : PS} {fm : Nat} {g : Int -> Option Value} {w : World} (h : PPg H Q S fm g w) : PP H Q S w := by
 obtain ⟨⟨ib, uv, us, h1, h2, h4, h6, h8⟩, h3, h5, h7, h9, d1, d2, d3⟩ := h
 exact ⟨⟨ib, fm, uv, g, us, h1, h2, h3, h4, h5, h6, h7, h8, h9⟩, d1, d2, d3⟩
theorem PPg.stand {H : BS} {Q : PQ} {S : PS} {fm : Nat} {g : Int -> Option Value} {w w' : World} (h : PPg H Q S fm g w) (hs : w.heap.size <= w'.heap.size) (hk : ∀ b, H b -> w'.heap[b]? = w.heap[b]?) (hu : CLe (cfU w) (cfU w')) : PPg H Q S fm g w' := by
 obtain ⟨⟨ib, uv, us, h1, h2, h4, h6, h8⟩, h3, h5, h7, h9, d1, d2, d3⟩ := h
 refine ⟨⟨ib, uv, us, (hk _ d1).trans h1, (hk ib h6).trans h2, ?_, h6, h8⟩, h3.same (hk fm h7), h5.keep (fun n fb e => hk fb (h9 n fb e)) hu, h7, h9, d1, fun b hb => Nat.lt_of_lt_of_le (d2 b hb) hs, fun b hb hu2 => d3 b hb ?_⟩
 ·refine ⟨⟨h4.own.1, ?_⟩, h4.len, h4.row, Nat.zero_le _⟩
  rcases id h4.own.2 with e | ⟨g, cap, cur, e, e1, e2, e3⟩
  ·exact .inl e
  ·exact .inr ⟨g, cap, cur, e, e1, (hk g (h8 g (by rw [e]; rfl))).trans e2, e3⟩
 ·obtain ⟨cs, fr, e⟩ := hu2
  exact ⟨cs, fr, (hk b hb).symm.trans e⟩
theorem PPg.clean {H : BS} {Q : PQ} {S : PS} {fm : Nat} {g : Int -> Option Value} {w : World} (h : PPg H Q S fm g w) {l fl : Nat} {b : Bts} {d : Bool} (hl : S.fr l = some (b, d)) (hg : g l = some (.pointer (some ⟨fl, 0, none⟩))) : PPg H Q (writeP l b S) fm g (w.setCell ⟨fl, 2, none⟩ (.bool false)) := by
 obtain ⟨hb, fb, a, cap, q1, q2, q3⟩ := frat_some h.fr hl
 rw [hg] at q1
 obtain rfl : fl = fb := by cases q1; rfl
 obtain ⟨⟨ib, uv, us, h1, h2, h4, h6, h8⟩, h3, h5, h7, h9, d1, d2, d3⟩ := h
 have hgr : w.grownBy (w.setCell ⟨fl, 2, none⟩ (.bool false)) (some fl) := set6_grown _ _
 refine ⟨⟨ib, uv, us, (Below.heap_setCell _ _ _ _ (kind_ne h1 q2 (by decide))).trans h1, (Below.heap_setCell _ _ _ _ (kind_ne h2 q2 (by decide))).trans h2, own_keep (fun _ _ _ _ h => h) h4 hgr (fun gb e e2 => ?_), h6, h8⟩, h3.same (Below.heap_setCell _ _ _ _ (fun e => by subst e; exact map_not h3 q2)), h5.clean hl hg, h7, h9, d1, fun b hb => Nat.lt_of_lt_of_le (d2 b hb) hgr.size, fun b hb hu => d3 b hb (isU_set hu (d3 fl (h9 _ _ hg))).1⟩
 obtain ⟨cur, hc⟩ := own_kind h4 e
 exact kind_ne hc q2 (by decide) (Option.some.inj e2).symm
theorem PG.cleaned {Q : PQ} {R : Int -> Option Bts} {H : HS} {S : PS} {p : Nat} {w : World} (h : PG Q R H S p w) {fm : Nat} {g : Int -> Option Value} (hx : PPg H.p Q S fm g w) {l fl : Nat} {b : Bts} {d : Bool} (hlt : l < Q.count) (hl : S.fr l = some (b, d)) (hg : g l = some (.pointer (some ⟨fl, 0, none⟩))) {HD' : BS} {w1 : World}
  (hD : DG HD' Q.db Q.size (secW ((Q.fr0 : Int) + 4 * l) b 4 (dOf Q R S)) (p + 4) w1) (hT : TurnS H.d w HD' w1) :
  PG Q R ⟨HD', H.p⟩ (writeP l b S) (p + 4) (w1.setCell ⟨fl, 2, none⟩ (.bool false)) /\ PPg H.p Q (writeP l b S) fm g (w1.setCell ⟨fl, 2, none⟩ (.bool false)) /\ TurnS H.all w (HS.mk HD' H.p).all (w1.setCell ⟨fl, 2, none⟩ (.bool false)) := by
 have hk : ∀ b, H.p b -> w1.heap[b]? = w.heap[b]? /\ ¬ HD' b := fun b hb => hT.out b (h.own.lt b hb) (fun e => h.apart b e hb)
 have h1 := (hx.stand hT.size (fun b hb => (hk b hb).1) (cfU_turn hT h.disk.noU)).clean hl hg
 have hfl : H.p fl := hx.hfr _ _ hg
 have hgr : w1.grownBy (w1.setCell ⟨fl, 2, none⟩ (.bool false)) (some fl) := set6_grown _ _
 have hnu : ¬ IsU w1 fl := fun ⟨cs, fr, e⟩ => hx.noU fl hfl ⟨cs, fr, (hk fl hfl).1.symm.trans e⟩
 refine ⟨⟨?_, h1.pp, fun b hb hp => (hk b hp).2 hb, (write_inv h.inv hl).1, h.len, h.fit, h.pool1, h.poolm, h.inside⟩, h1, ?_⟩
 ·rw [dOf_write hlt]
  refine hD.stand hgr.size (fun b hb => hgr.block b (hD.lt b hb) (fun e => ?_)) (cfU_grown hgr fun b e => by cases e; exact hnu)
  obtain rfl := Option.some.inj e
  exact (hk _ hfl).2 hb
 ·have h2 : TurnS H.all w (HS.mk HD' H.p).all w1 := hT.wide
  exact h2.trans (TurnS.grown hgr fun b e => .inl (by cases e; exact .inr hfl))
end Go.Proofs.YtafilaiinbggoaaGreat
