import Derived.Test.YtafilaiinbggoaaGreatQT15
namespace Go.Proofs.YtafilaiinbggoaaGreat
open Go.RowKit Go.Maps
theorem wp_drop_map {ops : Array Oper} {rest : List Oper} {o : Oper} {a : Act} {w : World} {Q : Exit -> Act -> World -> Prop} (hg : o.guard = none) (m x : Operand) (t e : TypeId) (hop : o.op = Op.call { callee := Callee.builtin Builtin.delete, args := #[m, x], argTypes := #[t, 3] })
  (ht : Tryz.prog.underlying t = some (.map 3 e)) (b : Nat) (f : Int -> Option Value) (hm : a.eval m = .map (some b)) (h : MapI b f w) (k : Int) (hx : a.eval x = .int .i64 k) (hk : WfI k)
  (hK : ∀ w', MapI b (fun j => if j = k then none else f j) w' -> w.mapTurned w' b -> wpList Tryz.prog ops Q rest (a.put o.dst (.tuple #[])) w') : wpList Tryz.prog ops Q (o :: rest) a w := by
 refine wpList_plain hg fun K' hK' => ?_
 obtain ⟨w', hrun, r1, r2⟩ := h.drop ht hk o.type
 unfold Oper.wp
 simp [execOp, hop, resolve, invoke, builtin, hm, hx, hrun, Result.andThen]
 exact hK' _ _ (hK w' r1 r2)
theorem pbox5 {w : World} {pb db : Nat} {from_ pool : Int} {isv : Value} {fm : Nat} {uv u' : Value} (h : PBox w pb db from_ pool isv fm uv) : PBox (w.setCell ⟨pb, 5, none⟩ u') pb db from_ pool isv fm u' := by
 have h1 := set_selfT (o := 5) (c := u') h
 unfold PBox
 rw [h1]
 rfl
theorem pbox_noU {w : World} {pb db : Nat} {from_ pool : Int} {isv : Value} {fm : Nat} {uv : Value} (h : PBox w pb db from_ pool isv fm uv) : ¬ IsU w pb := fun ⟨cs, fr, e⟩ => by
 unfold PBox at h
 rw [h] at e
 cases e
theorem isrow_noU {w : World} {ib : Nat} {is : List Nat} (h : IsRow w ib is) : ¬ IsU w ib := fun ⟨cs, fr, e⟩ => by
 unfold IsRow at h
 rw [h] at e
 cases e
theorem kind_ne {w : World} {b1 b2 : Nat} {c1 c2 : Array Value} {t1 t2 : TypeId} {f1 f2 : Nat × Nat} (h1 : w.heap[b1]? = some (.cells c1 t1 f1)) (h2 : w.heap[b2]? = some (.cells c2 t2 f2)) (hne : t1 ≠ t2) : b1 ≠ b2 := fun e => by
 subst e
 rw [h1] at h2
 injection h2 with h2
 injection h2 with _ h3 _
 exact hne h3
def FrStand (w w' : World) : Prop := ∀ (b : Nat) (cs : Array Value) (fr : Nat × Nat), w.heap[b]? = some (.cells cs 173 fr) -> w'.heap[b]? = some (.cells cs 173 fr)
theorem FrStand.refl (w : World) : FrStand w w := fun _ _ _ h => h
theorem FrStand.trans {w w1 w2 : World} (h : FrStand w w1) (k : FrStand w1 w2) : FrStand w w2 := fun b cs fr e => k b cs fr (h b cs fr e)
theorem FrStand.below {w w' : World} (hb : Below w.heap.size w w') : FrStand w w' := fun _ _ _ e => kept e hb
theorem FrAt.fs {w w' : World} {g : Int -> Option Value} {fr : Nat -> Option (Bts × Bool)} (h : FrAt w g fr) (hF : FrStand w w') (hu : CLe (cfU w) (cfU w')) : FrAt w' g fr :=
 h.keep (fun n2 fb2 e => by
  have hx := frat_dom h (k := (n2 : Int))
  rw [e] at hx
  obtain ⟨m, em, hm⟩ := hx.1 rfl
  obtain rfl : n2 = m := by omega
  obtain ⟨⟨b2, d2⟩, hbd⟩ := Option.isSome_iff_exists.1 hm
  obtain ⟨_, fb3, a3, c3, q1, q2, _⟩ := frat_some h hbd
  rw [e] at q1
  cases q1
  exact (hF _ _ _ q2).trans q2.symm) hu
theorem frat_mk {w : World} {g : Int -> Option Value} {fr : Nat -> Option (Bts × Bool)} (h0 : ∀ k, k < 0 -> g k = none) (h1 : ∀ n : Nat, fr n = none -> g n = none) (h2 : ∀ (n : Nat) (b : Bts) (d : Bool), fr n = some (b, d) -> b.length = 1024 /\ ∃ fb a cap, g n = some (.pointer (some ⟨fb, 0, none⟩)) /\ w.heap[fb]? = some (.cells #[.int .i64 n, .slice a 1024 cap, .bool d] 173 (0, 0)) /\ YAt (cfU w) (.slice a 1024 cap) b) : FrAt w g fr :=
 ⟨h0, fun n => by
  split
  ·rename_i e; exact h1 n e
  ·rename_i b d e; exact h2 n b d e⟩
theorem FrAt.del {w : World} {g : Int -> Option Value} {fr : Nat -> Option (Bts × Bool)} (h : FrAt w g fr) (n : Nat) : FrAt w (fun j => if j = (n : Int) then none else g j) (fun m => if m = n then none else fr m) := by
 refine frat_mk (fun k hk => ?_) (fun m hm => ?_) (fun m b d hm => ?_)
 ·simp only [h.1 k hk, ite_self]
 ·by_cases e : m = n
  ·subst e; simp only [if_true]
  ·simp only [if_neg e] at hm
   have e2 : ¬ ((m : Int) = (n : Int)) := by omega
   simp only [if_neg e2]
   exact frat_none h hm
 ·by_cases e : m = n
  ·subst e; simp only [if_true] at hm; cases hm
  ·simp only [if_neg e] at hm
   have e2 : ¬ ((m : Int) = (n : Int)) := by omega
   simp only [if_neg e2]
   exact frat_some h hm
theorem FrAt.ins {w : World} {g : Int -> Option Value} {fr : Nat -> Option (Bts × Bool)} (h : FrAt w g fr) {n : Nat} {b : Bts} {d : Bool} {fb : Nat} {a : Option Addr} {cap : Nat} (hb : b.length = 1024) (hf : w.heap[fb]? = some (.cells #[.int .i64 n, .slice a 1024 cap, .bool d] 173 (0, 0))) (hy : YAt (cfU w) (.slice a 1024 cap) b) :
  FrAt w (fun j => if j = (n : Int) then some (.pointer (some ⟨fb, 0, none⟩)) else g j) (fun m => if m = n then some (b, d) else fr m) := by
 refine frat_mk (fun k hk => ?_) (fun m hm => ?_) (fun m b2 d2 hm => ?_)
 ·have e2 : ¬ (k = (n : Int)) := by omega
  simp only [if_neg e2]
  exact h.1 k hk
 ·by_cases e : m = n
  ·subst e; simp only [if_true] at hm; cases hm
  ·simp only [if_neg e] at hm
   have e2 : ¬ ((m : Int) = (n : Int)) := by omega
   simp only [if_neg e2]
   exact frat_none h hm
 ·by_cases e : m = n
  ·subst e
   simp only [if_true] at hm |-
   cases hm
   exact ⟨hb, fb, a, cap, rfl, hf, hy⟩
  ·simp only [if_neg e] at hm
   have e2 : ¬ ((m : Int) = (n : Int)) := by omega
   simp only [if_neg e2]
   exact frat_some h hm
theorem mem_map_nat {l : List Nat} {n : Nat} {i : Nat} : (l.map Int.ofNat)[i]? = some (n : Int) ↔ l[i]? = some n := by
 rw [List.getElem?_map]
 cases l[i]? with
 | none => simp
 | some m =>
  simp only [Option.map_some, Option.some.injEq]
  constructor
  ·intro h
   have : (m : Int) = (n : Int) := h
   omega
  ·rintro rfl; rfl
theorem erase_at {l : List Nat} {n k : Nat} (hk : l[k]? = some n) (hf : ∀ i, i < k -> l[i]? ≠ some n) : l.erase n = l.take k ++ l.drop (k + 1) := by
 have h1 : l.idxOf? n = some k := by
  rw [List.idxOf?, List.findIdx?_eq_some_iff_getElem]
  obtain ⟨hlt, he⟩ := List.getElem?_eq_some_iff.1 hk
  refine ⟨hlt, by simp [he], fun i hi => ?_⟩
  have := hf i hi
  rw [List.getElem?_eq_getElem (by omega)] at this
  simpa using this
 rw [List.erase_eq_eraseIdx, h1]
 exact List.eraseIdx_eq_take_drop_succ _ _
theorem idx_of {l : List Nat} {n : Nat} (h : n ∈ l) : ∃ k : Nat, l[k]? = some n /\ (∀ i, i < k -> l[i]? ≠ some n) /\ idxI (l.map Int.ofNat) n = k := by
 obtain ⟨k, hk⟩ : ∃ k, l.idxOf? n = some k := by
  cases e : l.idxOf? n with
  | none => exact absurd h (List.idxOf?_eq_none_iff.1 e)
  | some k => exact ⟨k, rfl⟩
 rw [List.idxOf?, List.findIdx?_eq_some_iff_getElem] at hk
 obtain ⟨hlt, he, hno⟩ := hk
 have h1 : l[k]? = some n := by rw [List.getElem?_eq_getElem hlt]; simpa using he
 have h2 : ∀ i, i < k -> l[i]? ≠ some n := fun i hi e => by
  have := hno i hi
  rw [List.getElem?_eq_getElem (by omega)] at e
  simp only [Option.some.injEq] at e
  rw [e] at this
  simp at this
 exact ⟨k, h1, h2, idxI_at (fun i hi e => h2 i hi (mem_map_nat.1 e)) (mem_map_nat.2 h1)⟩
theorem ri_row (c : CF) (l : List Int) : GRow 1 RI c l (l.map fun x => .int .i64 x) := by
 refine ⟨by simp, fun i x hx => ⟨[.int .i64 x], rfl, fun j u hu => ?_, rfl⟩⟩
 match j, hu with
 | 0, hu =>
  cases hu
  rw [Nat.mul_one, Nat.add_zero, List.getElem?_map, hx]
  rfl
theorem ri_cells {c : CF} {l : List Int} {cs : List Value} (h : GRow 1 RI c l cs) : cs = l.map fun x => .int .i64 x := by
 refine List.ext_getElem? fun i => ?_
 rw [List.getElem?_map]
 cases e : l[i]? with
 | none =>
  have h1 := List.getElem?_eq_none_iff.1 e
  have h2 := h.1
  rw [List.getElem?_eq_none_iff.2 (by omega)]
  rfl
 | some x =>
  obtain ⟨d, _, h2, h3⟩ := h.2 i x e
  have h3' : d = [.int .i64 x] := h3
  have := h2 0 (.int .i64 x) (by rw [h3']; rfl)
  rw [Nat.mul_one, Nat.add_zero] at this
  rw [this]
  rfl
set_option maxHeartbeats 4000000 in
set_option maxRecDepth 100000 in
theorem pages_drop {H : BS} {Q : PQ} {S : PS} {w : World} {n : Nat} (h : PP H Q S w) (hi : PInv Q.pool S) (hu : S.used.length <= 1000000) (hn : n < 1000000) :
  Calls Tryz.prog 85 #[.pointer (some ⟨Q.pb, 0, none⟩), .int .i64 (n : Int)] w fun e w' => e = .returned (.tuple #[]) /\ PP H Q (dropP n S) w' /\ TurnS H w H w' /\ FrStand w w' := by
 have HPP := HoldT.mk h
 obtain ⟨⟨ib, fm, uv, g, us, h1, h2, h3, h4, h5, h6, h7, h8, h9⟩, d1, d2, d3⟩ := h
 have hwf : WfI (n : Int) := WfI_small (by omega) (by omega)
 have hl := h3.look_ok Tryz.underlying94 (show (zeroValue 171).run Tryz.prog w = .ok (.pointer none) w by kernel_rfl) hwf
 have hc4 := h1.cell.2.2.2.2.1
 have hc5 := h1.cell.2.2.2.2.2.1
 cases hfr : S.fr n with
 | none =>
  rw [frat_none h5 hfr] at hl
  have hl2 : (Instr.lookup 94 (.map (some fm)) (.int .i64 (n : Int)) true).run Tryz.prog w = .ok (.tuple #[.pointer none, .bool false]) w := hl
  have HS : HoldT (PP H Q (dropP n S) w) := ⟨by rw [drop_none hi hfr]; exact HPP.out⟩
  clear hl h1 h2 h3 h4 h5 h6 h7 h8 h9 d1 d2 d3 hi hfr hc5
  go_enter Tryz.func85, Tryz.ntmps85
  go_wp2
  go_end0
  exact ⟨rfl, HS.out, TurnS.refl _ _, FrStand.refl _⟩
 | some p =>
  obtain ⟨b, d⟩ := p
  obtain ⟨_, fb, fa, fc, e1, e2, e3⟩ := frat_some h5 hfr
  rw [e1] at hl
  have hl2 : (Instr.lookup 94 (.map (some fm)) (.int .i64 (n : Int)) true).run Tryz.prog w = .ok (.tuple #[.pointer (some ⟨fb, 0, none⟩), .bool true]) w := hl
  have hmem : n ∈ S.used := (hi.mem n).2 (by rw [hfr]; rfl)
  obtain ⟨k, k1, k2, k3⟩ := idx_of hmem
  have hklt : k < S.used.length := (List.getElem?_eq_some_iff.1 k1).1
  have HIX := HoldT.mk (indexI_any (S.used.map Int.ofNat) uv (n : Int) w (h4.at_ RI_mono) (by rw [List.length_map]; exact hu))
  have hown := h4.own
  obtain ⟨gb, cap, rfl⟩ : ∃ gb cap, uv = .slice (some ⟨gb, 0, none⟩) S.used.length cap := by
   rcases id hown.2 with ⟨_, hz⟩ | ⟨gb, cap, cur, hv, _⟩
   ·omega
   ·exact ⟨gb, cap, hv⟩
  have hus := ri_cells h4.row
  have HDEL := HoldT.mk (delXI_any 0 w gb S.used.length cap us hown k hklt hu (fun u hu2 => by rw [hus] at hu2; obtain ⟨x, _, rfl⟩ := List.mem_map.1 hu2; rfl))
  have HX := HoldT.mk (And.intro h1 (And.intro h2 (And.intro h3 (And.intro h4 (And.intro h5 (And.intro h6 (And.intro h7 (And.intro h8 (And.intro h9 (And.intro d1 (And.intro d2 d3)))))))))))
  rw [k3] at HIX
  have HK := HoldT.mk (And.intro k1 (And.intro k2 hus))
  clear hl h1 h2 h3 h4 h5 h6 h7 h8 h9 d1 d2 d3 e1 e2 e3 hmem k1 k2 k3 hown hi hus
  go_enter Tryz.func85, Tryz.ntmps85
  go_wp2_with (go_at_call 103; refine HIX.out.mono ?_; rintro e w1 ⟨rfl, hw1⟩; obtain rfl := hw1.symm)
  refine HDEL.out.mono ?_
  rintro e w2 ⟨rfl, hown2, hg2⟩
  obtain ⟨h1, h2, h3, h4, h5, h6, h7, h8, h9, d1, d2, d3⟩ := HX.out
  obtain ⟨cur, hcur⟩ := own_kind h4 (g := gb) rfl
  have hne1 : Q.pb ≠ gb := kind_ne h1 hcur (by decide)
  have hne2 : fm ≠ gb := fun e => by subst e; exact map_not h3 hcur
  have hne3 : ib ≠ gb := kind_ne h2 hcur (by decide)
  have hne4 : fm ≠ Q.pb := fun e => by subst e; exact map_not h3 h1
  have hne5 : ib ≠ fm := fun e => by subst e; exact map_not h3 h2
  have hne6 : ib ≠ Q.pb := kind_ne h2 h1 (by decide)
  have b1 : PBox w2 Q.pb Q.db Q.fr0 Q.pool (.slice (some ⟨ib, 0, none⟩) S.is.length S.is.length) fm (.slice (some ⟨gb, 0, none⟩) S.used.length cap) := (hg2.block _ (heap_lt h1) (fun e => hne1 (Option.some.inj e))).trans h1
  have hfz := b1.free 5
  have hcc := b1.cell.2.2.2.2.2.1
  have b2 := pbox5 (u' := .slice (some ⟨gb, 0, none⟩) (S.used.length - 1) cap) b1
  have hcd := b2.cell.2.2.2.2.1
  have m2 : MapI fm g (w2.setCell ⟨Q.pb, 5, none⟩ (.slice (some ⟨gb, 0, none⟩) (S.used.length - 1) cap)) := (h3.same (hg2.block _ h3.lt (fun e => hne2 (Option.some.inj e)))).same (Below.heap_setCell _ _ _ _ hne4)
  have HB := HoldT.mk (And.intro hown2 (And.intro hg2 (And.intro b2 m2)))
  have HN := HoldT.mk (And.intro hcur (And.intro hne1 (And.intro hne2 (And.intro hne3 (And.intro hne4 (And.intro hne5 hne6))))))
  clear h1 h2 h3 h4 h5 h6 h7 h8 h9 d1 d2 d3 hcur b1 b2 hown2 hg2 m2 hne1 hne2 hne3 hne4 hne5 hne6
  go_wp2_with (at_delete; refine wp_drop_map rfl _ _ _ _ rfl Tryz.underlying94 fm g rfl HB.out.2.2.2 _ rfl hwf ?_)
  intro w4 m4 ht4
  go_wp2_with fail
  go_end0
  obtain ⟨h1, h2, h3, h4, h5, h6, h7, h8, h9, d1, d2, d3⟩ := HX.out
  obtain ⟨hown2, hg2, b2, m2⟩ := HB.out
  obtain ⟨hcur, hne1, hne2, hne3, hne4, hne5, hne6⟩ := HN.out
  obtain ⟨k1, k2, hus⟩ := HK.out
  have hg3 := set6_grown (w := w2) (db := Q.pb) (.slice (some ⟨gb, 0, none⟩) (S.used.length - 1) cap) 5
  have hg4 := World.mapTurned.grown ht4
  have hs : w.heap.size <= w4.heap.size := Nat.le_trans hg2.size (Nat.le_trans hg3.size hg4.size)
  have hk : ∀ b, b < w.heap.size -> b ≠ gb -> b ≠ Q.pb -> b ≠ fm -> w4.heap[b]? = w.heap[b]? := fun b hb e1 e2 e3 =>
   (hg4.block b (Nat.lt_of_lt_of_le hb (Nat.le_trans hg2.size hg3.size)) (fun e => e3 (Option.some.inj e))).trans ((hg3.block b (Nat.lt_of_lt_of_le hb hg2.size) (fun e => e2 (Option.some.inj e))).trans (hg2.block b hb (fun e => e1 (Option.some.inj e))))
  have hdb := heap_lt h1
  have hsame : ∀ b, H b -> b ≠ gb -> b ≠ Q.pb -> b ≠ fm -> w4.heap[b]? = w.heap[b]? := fun b hb => hk b (d2 b hb)
  have hT : TurnS H w H w4 := ⟨hg4.os.trans (hg3.os.trans hg2.os), hg4.tape.trans (hg3.tape.trans hg2.tape), hg4.output.trans (hg3.output.trans hg2.output), hs, fun b hb hn => ⟨hk b hb (fun e => hn (e ▸ h8 gb rfl)) (fun e => hn (e ▸ d1)) (fun e => hn (e ▸ h7)), hn⟩⟩
  have hF : FrStand w w4 := fun b cs fr e => (hk b (heap_lt e) (kind_ne e hcur (by decide)) (kind_ne e h1 (by decide)) (fun e2 => by subst e2; exact map_not h3 e)).trans e
  have hub : CLe (cfU w) (cfU w4) := cfU_turn hT d3
  have hb4 : PBox w4 Q.pb Q.db Q.fr0 Q.pool (.slice (some ⟨ib, 0, none⟩) S.is.length S.is.length) fm (.slice (some ⟨gb, 0, none⟩) (S.used.length - 1) cap) := (hg4.block _ (heap_lt b2) (fun e => hne4 (Option.some.inj e).symm)).trans b2
  have hlen : (S.used.erase n).length = S.used.length - 1 := List.length_erase_of_mem (List.mem_iff_getElem?.2 ⟨k, k1⟩)
  have ho3 : OwnS 1 RI 3 0 w2 (.slice (some ⟨gb, 0, none⟩) (S.used.length - 1) cap) (S.used.length - 1) ((S.used.erase n).map Int.ofNat) (us.take (k * 1) ++ us.drop ((k + 1) * 1)) := by
   refine ⟨hown2, by rw [List.length_map, hlen], ?_, Nat.zero_le _⟩
   have e0 : us.take (k * 1) ++ us.drop ((k + 1) * 1) = ((S.used.erase n).map Int.ofNat).map fun x => .int .i64 x := by
    rw [hus, erase_at k1 k2, Nat.mul_one, Nat.mul_one]
    simp only [List.map_append, List.map_take, List.map_drop]
   rw [e0]
   exact ri_row _ _
  have ho4 := own_keep (fun _ _ _ _ h => h) (own_keep (fun _ _ _ _ h => h) ho3 hg3 (fun g hg e => by cases hg; exact hne1 (Option.some.inj e))) hg4 (fun g hg e => by cases hg; exact hne2 (Option.some.inj e))
  refine ⟨rfl, ⟨⟨ib, fm, .slice (some ⟨gb, 0, none⟩) (S.used.length - 1) cap, fun j => if j = (n : Int) then none else g j, us.take (k * 1) ++ us.drop ((k + 1) * 1), hb4, (hsame ib h6 hne3 hne6 hne5).trans h2, m4, ?_, ?_, h6, h7, fun gb2 e => h8 gb2 e, fun k2 fb2 e => ?_⟩, d1, fun b hb => Nat.lt_of_lt_of_le (d2 b hb) hs, fun b hb hu2 => ?_⟩, hT, hF⟩
  ·show OwnS 1 RI 3 0 w4 _ (S.used.erase n).length ((S.used.erase n).map Int.ofNat) _
   rw [hlen]
   exact ho4
  ·exact (h5.fs hF hub).del n
  ·by_cases e2 : k2 = (n : Int)
   ·simp only [if_pos e2] at e; cases e
   ·simp only [if_neg e2] at e; exact h9 k2 fb2 e
  ·by_cases e1 : b = gb
   ·subst e1
    obtain ⟨c4, hc4⟩ := own_kind ho4 (g := b) rfl
    obtain ⟨_, _, hu2⟩ := hu2
    rw [hc4] at hu2
    cases hu2
   ·by_cases e2 : b = Q.pb
    ·subst e2; exact pbox_noU hb4 hu2
    ·by_cases e3 : b = fm
     ·subst e3
      obtain ⟨_, _, hu2⟩ := hu2
      exact map_not m4 hu2
     ·obtain ⟨cs, fr, hu2⟩ := hu2
      exact d3 b hb ⟨cs, fr, (hsame b hb e1 e2 e3).symm.trans hu2⟩
end Go.Proofs.YtafilaiinbggoaaGreat
