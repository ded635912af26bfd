import Derived.Test.YtmiphphombkpdaaGreatWB32
import Derived.Lib.AppendZerosOnto
namespace Go.Proofs.YtmiphphombkpdaaGreat
open Go.RowKit Go.Maps
theorem delAt_map {α β : Type} (f : α -> β) (k : Nat) (l : List α) : delAt k (l.map f) = (delAt k l).map f := by
 unfold delAt
 rw [List.map_append, List.map_take, List.map_drop]
theorem node_delK {H : HS} {B : Nat} {w : World} {n : ND} {kv vv iv : Value} {k : Nat} (h : NT H B w n kv vv iv) (hH : ∀ b, H.all b -> b < w.heap.size) (hk : k < n.keys.length) (hl : n.keys.length <= 1000000) :
  Calls Tryz.prog 68 #[kv, .int .i64 (k : Int), .int .i64 ((k : Int) + 1)] w fun e w' => ∃ kv', e = .returned kv' /\ Handed H B w w' { n with keys := delAt k n.keys } kv kv' kv' vv iv (n.keys.length - 1) := by
 obtain ⟨cs, ho⟩ := h.own.keys
 obtain ⟨g, cap, cur, rfl, _⟩ := own_slice ho (by omega)
 refine (delXB_any B w g n.keys.length cap cs ho.own k hk hl (rb_cells ho)).mono ?_
 rintro e w' ⟨he, hown, hg⟩
 have hi := OwnS.del (fun _ _ _ _ h => h) (k := k) ho hown hg.size hk
 obtain ⟨e1, e2⟩ := h.edK (kv' := .slice (some ⟨g, 0, none⟩) (n.keys.length - 1) cap) (ks := delAt k n.keys) ⟨hg, fun _ h => .inl h⟩ hH (by rw [delAt_len hk]; exact hi)
 exact ⟨_, he, e1, hg, fun _ h => .inl h, e2, hi.shape⟩
theorem node_delV {H : HS} {B : Nat} {w : World} {n : ND} {kv vv iv : Value} {k : Nat} (h : NT H B w n kv vv iv) (hH : ∀ b, H.all b -> b < w.heap.size) (hk : k < n.vals.length) (hl : n.vals.length <= 1000000) :
  Calls Tryz.prog 68 #[vv, .int .i64 (k : Int), .int .i64 ((k : Int) + 1)] w fun e w' => ∃ vv', e = .returned vv' /\ Handed H B w w' { n with vals := delAt k n.vals } vv vv' kv vv' iv (n.vals.length - 1) := by
 obtain ⟨cs, ho⟩ := h.own.vals
 obtain ⟨g, cap, cur, rfl, _⟩ := own_slice ho (by omega)
 refine (delXB_any B w g n.vals.length cap cs ho.own k hk hl (rb_cells ho)).mono ?_
 rintro e w' ⟨he, hown, hg⟩
 have hi := OwnS.del (fun _ _ _ _ h => h) (k := k) ho hown hg.size hk
 obtain ⟨e1, e2⟩ := h.edV (vv' := .slice (some ⟨g, 0, none⟩) (n.vals.length - 1) cap) (ks := delAt k n.vals) ⟨hg, fun _ h => .inl h⟩ hH (by rw [delAt_len hk]; exact hi)
 exact ⟨_, he, e1, hg, fun _ h => .inl h, e2, hi.shape⟩
theorem node_delI {H : HS} {B : Nat} {w : World} {n : ND} {kv vv iv : Value} {k : Nat} (h : NT H B w n kv vv iv) (hH : ∀ b, H.all b -> b < w.heap.size) (hk : k < n.kids.length) (hl : n.kids.length <= 1000000) :
  Calls Tryz.prog 69 #[iv, .int .i64 (k : Int), .int .i64 ((k : Int) + 1)] w fun e w' => ∃ iv', e = .returned iv' /\ Handed H B w w' { n with kids := delAt k n.kids } iv iv' kv vv iv' (n.kids.length - 1) := by
 obtain ⟨cs, ho⟩ := h.own.kids
 obtain ⟨g, cap, cur, rfl, _⟩ := own_slice ho (by omega)
 have hcs : cs = (n.kids.map Int.ofNat).map fun x => .int .i64 x := ri_cells ho.row
 refine (delXI_any B w g n.kids.length cap cs ho.own k hk hl (fun v hv => by rw [hcs] at hv; obtain ⟨x, _, rfl⟩ := List.mem_map.1 hv; rfl)).mono ?_
 rintro e w' ⟨he, hown, hg⟩
 have hi := OwnS.del (fun _ _ _ _ h => h) (k := k) ho hown hg.size hk
 obtain ⟨e1, e2⟩ := h.edI (iv' := .slice (some ⟨g, 0, none⟩) (n.kids.length - 1) cap) (ks := delAt k n.kids) ⟨hg, fun _ h => .inl h⟩ hH (by rw [delAt_len hk, <- delAt_map]; exact hi)
 exact ⟨_, he, e1, hg, fun _ h => .inl h, e2, hi.shape⟩
end Go.Proofs.YtmiphphombkpdaaGreat
namespace Go.Proofs.YtmiphphombkpdaaGreat
open Go.RowKit Go.Maps
set_option maxRecDepth 100000 in
set_option maxHeartbeats 8000000 in
theorem cloneB_any (c0 : CF) (xs : List Bts) (sv : Value) (c : CF) (w : World) (hcl : CLe c (cf w)) (hl : SAt 1 (RB c0) c sv xs) (hlen : xs.length <= 1000000) :
  Calls Tryz.prog 121 #[sv] w (ClonePost 1 (RB c0) 23 c xs w) := by
 obtain ⟨i0, hi, hz0, hz1, hz2⟩ := info_parts infoB1
 have HI := HoldT.mk (And.intro hi (And.intro hz0 (And.intro hz1 hz2)))
 have HLEN := HoldT.mk hlen
 have q22 : ∀ (w : World) (a : Option Addr) (n c n' c' : Nat), (binOp .eql 102 (.slice a n c) (.slice none n' c')).run Tryz.prog w = .ok (.bool a.isNone) w := fun w a n c n' c' => Lib.run_eql_slice_nil w _ _ a n c n' c' Tryz.underlying102
 clear hi hz0 hz1 hz2 hlen
 by_cases h0 : 0 < xs.length
 ·obtain ⟨b, off, cap, news, rfl, hg, hc, ho⟩ := sat_cells (RB_one c0) hl h0
  have HG := HoldT.mk hg
  have HGL := HoldT.mk hg.1
  have HC : HoldT (∀ (j : Nat) u, news[j]? = some u -> (w.alloc (.cells #[] 23)).cell? (Addr.add ⟨b, off, none⟩ j) = some u) := ⟨fun j u hu => by
   have h := hcl _ _ _ (hc j u hu)
   unfold cf at h
   have e : Addr.add ⟨b, off, none⟩ j = ⟨b, off + j, none⟩ := by unfold Addr.add; split <;> simp_all
   rw [e]; exact Lib.cell?_alloc_some _ h⟩
  have H1 := HoldT.mk ho
  clear hg hc ho hl
  go_enter Tryz.func121, Tryz.ntmps121
  go_wp2_with (at_builtin; refine wpList_append_own _ rfl _ _ 102 rfl w.heap.size 23 i0 (.slice none 0 0) 1 24 Tryz.underlying102 HI.out.1 HI.out.2.1 HI.out.2.2.1 HI.out.2.2.2 rfl (by decide) _ _ _ rfl (World.ownsRow_made w #[] 0 (Nat.le_refl _) (Nat.zero_le _) (by simp)) ⟨b, off, none⟩ xs.length cap news rfl ?qc1 ?qc2 ?qc3 ?qc4 ?qc5 ?qc6 ?_)
  case qc1 => exact HGL.out
  case qc2 => exact HC.out
  case qc3 => exact H1.out
  case qc4 => have := HLEN.out; unfold maxLen; omega
  case qc5 => have := HLEN.out; omega
  case qc6 => simp
  intro v' w1 hown hgrow hnil
  have hb := ((Below.refl _ w).alloc (Nat.le_refl _) (.cells #[] 23)).grown hgrow (by simp) (by intro k hk; simp [Value.ownBlock] at hk; omega)
  have HP : HoldT (ClonePost 1 (RB c0) 23 c xs w (.returned v') w1) := ⟨clone_post (by simpa using hown) HG.out hb⟩
  clear hown hgrow hb
  go_wp2_with fail
  go_ret
  exact HP.out
 ·obtain rfl : xs = [] := List.length_eq_zero_iff.1 (by omega)
  obtain ⟨a, cap, rfl, hle, _⟩ := hl
  have HP0 : HoldT (ClonePost 1 (RB c0) 23 c ([] : List Bts) w (.returned (.slice none 0 0)) w) := ⟨clone_post (World.ownsRow_nil _ _ _ _) (GRow.nil _ _ _) (Below.refl _ _)⟩
  cases a with
  | none =>
   go_enter Tryz.func121, Tryz.ntmps121
   go_wp2_with fail
   go_ret
   exact HP0.out
  | some a =>
   go_enter Tryz.func121, Tryz.ntmps121
   go_wp2_with (at_builtin; refine wpList_append_own _ rfl _ _ 102 rfl w.heap.size 23 i0 (.slice none 0 0) 1 24 Tryz.underlying102 HI.out.1 HI.out.2.1 HI.out.2.2.1 HI.out.2.2.2 rfl (by decide) _ _ _ rfl (World.ownsRow_made w #[] 0 (Nat.le_refl _) (Nat.zero_le _) (by simp)) a 0 cap [] rfl ?qc1 ?qc2 ?qc3 ?qc4 ?qc5 ?qc6 ?_)
   case qc1 => rfl
   case qc2 => intro j u hj; simp at hj
   case qc3 => intro u hu; simp at hu
   case qc4 => unfold maxLen; omega
   case qc5 => omega
   case qc6 => simp
   intro v' w1 hown hgrow hnil
   have hb := ((Below.refl _ w).alloc (Nat.le_refl _) (.cells #[] 23)).grown hgrow (by simp) (by intro k hk; simp [Value.ownBlock] at hk; omega)
   have HP : HoldT (ClonePost 1 (RB c0) 23 c ([] : List Bts) w (.returned v') w1) := ⟨clone_post (by simpa using hown) (GRow.nil _ _ _) hb⟩
   clear hown hgrow hb
   go_wp2_with fail
   go_ret
   exact HP.out
end Go.Proofs.YtmiphphombkpdaaGreat
namespace Go.Proofs.YtmiphphombkpdaaGreat
open Go.RowKit Go.Maps
def GrowPost (T : TypeId) (w : World) (e : Ending) (w' : World) : Prop := ∃ sv, e = .returned sv /\ w'.ownsRow w.heap.size T 1 sv 0 [] /\ Below w.heap.size w w' /\ ∃ a cap, sv = .slice a 0 cap
set_option maxHeartbeats 4000000 in
set_option maxRecDepth 100000 in
theorem growB_any (n : Nat) (w : World) (hn : n <= 100000) : Calls Tryz.prog 136 #[.slice none 0 0, .int .i64 (n : Int)] w (GrowPost 23 w) := by
 obtain ⟨i0, hi, hz0, hz1, hz2⟩ := info_parts infoB1
 have b0 : decide ((n : Int) < 0) = false := decide_eq_false (by omega)
 rcases Nat.eq_zero_or_pos n with rfl | h1
 ·have HP : HoldT (GrowPost 23 w (.returned (.slice none 0 0)) w) := ⟨⟨_, rfl, World.ownsRow_nil _ _ _ _, Below.refl _ _, _, _, rfl⟩⟩
  clear hi hz0 hz1 hz2
  go_enter Tryz.func136, Tryz.ntmps136
  go_wp2_with fail
  go_ret
  exact HP.out
 ·have hold : (Builtin.firstCells i0.size 0 (.slice none 0 0)).run Tryz.prog w.drew = .ok ([] : List Value).toArray w.drew := run_firstCells_none w.drew i0.size 0 0 0
  have hrz : ∀ ty, (Builtin.append_ #[102, 3] ty #[.slice none 0 0, .int .i64 (n : Int)]).run Tryz.prog w = _ := fun ty => Lib.run_append_grow_zeros w 102 3 ty 23 i0 (.slice none 0 0) .i64 .i64 Tryz.underlying102 Tryz.underlying3 hi hz0 none 0 0 [] hold n (by omega) (by rw [hz1]; decide) (by omega) (by omega) (by rw [hz2]; omega) (by rw [hz2]; exact growslice_fits (by omega) (by omega))
  obtain ⟨G, hG⟩ : ∃ G, G = grownCap w (0 + n) 0 23 := ⟨_, rfl⟩
  have hGn : n <= G := by rw [hG]; have := grownCap_ge w (0 + n) 0 23; omega
  have hGm : G <= maxLen := by rw [hG]; exact grownCap_le_maxLen w (0 + n) 0 23 (by unfold maxLen; omega)
  rw [<- hG] at hrz
  obtain ⟨w1, hw1⟩ : ∃ w1, w1 = w.drew.alloc (.cells (([] : List Value).toArray ++ Builtin.zeroCells (.slice none 0 0 : Value).cells n ++ Builtin.zeroCells (.slice none 0 0 : Value).cells (G - (0 + n))) 23) := ⟨_, rfl⟩
  rw [<- hw1] at hrz
  have hb1 : Below w.heap.size w w1 := by rw [hw1]; exact (Below.refl _ w).drew.alloc (Nat.le_refl _) _
  have hown : w1.ownsRow w.heap.size 23 1 (.slice (some ⟨w.heap.size, 0, none⟩) 0 G) 0 [] := by
   refine ⟨rfl, .inr ⟨w.heap.size, G, _, rfl, Nat.le_refl _, by rw [hw1]; exact heap_alloc_new w.drew _, Nat.zero_le _, hGm, ?_, by simp⟩⟩
   simp [Builtin.zeroCells, Value.cells]
   omega
  have HP : HoldT (GrowPost 23 w (.returned (.slice (some ⟨w.heap.size, 0, none⟩) 0 G)) w1) := ⟨⟨_, rfl, hown, hb1, _, _, rfl⟩⟩
  have hGi : (0 : Int) <= (G : Int) := by omega
  clear hi hz0 hz1 hz2 hw1 hb1 hown hold hG
  go_enter Tryz.func136, Tryz.ntmps136
  go_wp2_with (at_builtin; refine Lib.wpList_append_run _ rfl _ _ _ _ rfl _ _ rfl rfl _ _ (hrz _) ?_)
  all_goals (go_ret; exact HP.out)
set_option maxHeartbeats 4000000 in
set_option maxRecDepth 100000 in
theorem growI_any (n : Nat) (w : World) (hn : n <= 100000) : Calls Tryz.prog 137 #[.slice none 0 0, .int .i64 (n : Int)] w (GrowPost 3 w) := by
 obtain ⟨i0, hi, hz0, hz1, hz2⟩ := info_parts infoI1
 have b0 : decide ((n : Int) < 0) = false := decide_eq_false (by omega)
 rcases Nat.eq_zero_or_pos n with rfl | h1
 ·have HP : HoldT (GrowPost 3 w (.returned (.slice none 0 0)) w) := ⟨⟨_, rfl, World.ownsRow_nil _ _ _ _, Below.refl _ _, _, _, rfl⟩⟩
  clear hi hz0 hz1 hz2
  go_enter Tryz.func137, Tryz.ntmps137
  go_wp2_with fail
  go_ret
  exact HP.out
 ·have hold : (Builtin.firstCells i0.size 0 (.slice none 0 0)).run Tryz.prog w.drew = .ok ([] : List Value).toArray w.drew := run_firstCells_none w.drew i0.size 0 0 0
  have hrz : ∀ ty, (Builtin.append_ #[47, 3] ty #[.slice none 0 0, .int .i64 (n : Int)]).run Tryz.prog w = _ := fun ty => Lib.run_append_grow_zeros w 47 3 ty 3 i0 (.int .i64 0) .i64 .i64 Tryz.underlying47 Tryz.underlying3 hi hz0 none 0 0 [] hold n (by omega) (by rw [hz1]; decide) (by omega) (by omega) (by rw [hz2]; omega) (by rw [hz2]; exact growslice_fits (by omega) (by omega))
  obtain ⟨G, hG⟩ : ∃ G, G = grownCap w (0 + n) 0 3 := ⟨_, rfl⟩
  have hGn : n <= G := by rw [hG]; have := grownCap_ge w (0 + n) 0 3; omega
  have hGm : G <= maxLen := by rw [hG]; exact grownCap_le_maxLen w (0 + n) 0 3 (by unfold maxLen; omega)
  rw [<- hG] at hrz
  obtain ⟨w1, hw1⟩ : ∃ w1, w1 = w.drew.alloc (.cells (([] : List Value).toArray ++ Builtin.zeroCells (.int .i64 0 : Value).cells n ++ Builtin.zeroCells (.int .i64 0 : Value).cells (G - (0 + n))) 3) := ⟨_, rfl⟩
  rw [<- hw1] at hrz
  have hb1 : Below w.heap.size w w1 := by rw [hw1]; exact (Below.refl _ w).drew.alloc (Nat.le_refl _) _
  have hown : w1.ownsRow w.heap.size 3 1 (.slice (some ⟨w.heap.size, 0, none⟩) 0 G) 0 [] := by
   refine ⟨rfl, .inr ⟨w.heap.size, G, _, rfl, Nat.le_refl _, by rw [hw1]; exact heap_alloc_new w.drew _, Nat.zero_le _, hGm, ?_, by simp⟩⟩
   simp [Builtin.zeroCells, Value.cells]
   omega
  have HP : HoldT (GrowPost 3 w (.returned (.slice (some ⟨w.heap.size, 0, none⟩) 0 G)) w1) := ⟨⟨_, rfl, hown, hb1, _, _, rfl⟩⟩
  have hGi : (0 : Int) <= (G : Int) := by omega
  clear hi hz0 hz1 hz2 hw1 hb1 hown hold hG
  go_enter Tryz.func137, Tryz.ntmps137
  go_wp2_with (at_builtin; refine Lib.wpList_append_run _ rfl _ _ _ _ rfl _ _ rfl rfl _ _ (hrz _) ?_)
  all_goals (go_ret; exact HP.out)
end Go.Proofs.YtmiphphombkpdaaGreat
namespace Go.Proofs.YtmiphphombkpdaaGreat
open Go.RowKit Go.Maps
def preJ {α : Type} (rows : List (List α)) (j : Nat) : List α := (rows.take j).flatten
theorem preJ_succ {α : Type} {rows : List (List α)} {j : Nat} {r : List α} (h : rows[j]? = some r) : preJ rows (j + 1) = preJ rows j ++ r := by
 unfold preJ
 rw [List.take_add_one, h, Option.toList_some, List.flatten_append, List.flatten_singleton]
theorem preJ_all {α : Type} {rows : List (List α)} {j : Nat} (h : rows.length <= j) : preJ rows j = rows.flatten := by
 unfold preJ
 rw [List.take_of_length_le h]
theorem preJ_le {α : Type} {rows : List (List α)} (h : ∀ r ∈ rows, r.length <= 20000) : ∀ j, (preJ rows j).length <= 20000 * j
 | 0 => Nat.zero_le _
 | j + 1 => by
  have ih := preJ_le h j
  cases e : rows[j]? with
  | none =>
   have hl : rows.length <= j := List.getElem?_eq_none_iff.1 e
   rw [preJ_all (by omega), <- preJ_all hl]
   omega
  | some r =>
   rw [preJ_succ e, List.length_append]
   have := h r (List.mem_of_getElem? e)
   omega
structure RowsJ {α : Type} (R : Rep α) (w : World) (s0 : Nat) (T : TypeId) (vs : List Value) (rows : List (List α)) : Prop where
 box : w.heap[s0]? = some (.cells vs.toArray T (0, 0))
 len : vs.length = rows.length
 at_ : ∀ (j : Nat) v r, vs[j]? = some v -> rows[j]? = some r -> SAt 1 R (cf w) v r
 few : ∀ r ∈ rows, r.length <= 20000
theorem RowsJ.get {α : Type} {R : Rep α} {w : World} {s0 : Nat} {T : TypeId} {vs : List Value} {rows : List (List α)} (h : RowsJ R w s0 T vs rows) {w' : World} (hb : Below w.heap.size w w') {j : Nat} (hj : j < rows.length) : ∃ (a : Option Addr) (n pc : Nat) (r : List α), w'.cell? ⟨s0, j, none⟩ = some (.slice a n pc) /\ rows[j]? = some r /\ SAt 1 R (cf w) (.slice a n pc) r /\ n <= 20000 /\ n = r.length := by
 have hr : rows[j]? = some rows[j] := List.getElem?_eq_getElem hj
 have hv : vs[j]? = some (vs[j]'(by rw [h.len]; exact hj)) := List.getElem?_eq_getElem (by rw [h.len]; exact hj)
 have hs := h.at_ j _ _ hv hr
 have hk := kept h.box hb
 obtain ⟨a, pc, e⟩ := hs.form
 refine ⟨a, _, pc, _, ?_, hr, by rw [e] at hs; exact hs, h.few _ (List.getElem_mem hj), rfl⟩
 rw [<- e, <- hv]
 simp [World.cell?, hk]
set_option maxHeartbeats 8000000 in
set_option maxRecDepth 100000 in
theorem concatB_any (c0 : CF) (rows : List (List Bts)) (vs : List Value) (s0 k : Nat) (w : World) (h : RowsJ (RB c0) w s0 102 vs rows) (hk : rows.length = k) (hk3 : k <= 3) :
  Calls Tryz.prog 122 #[.slice (some ⟨s0, 0, none⟩) k k] w (ClonePost 1 (RB c0) 23 (cf w) rows.flatten w) := by
 have HH := HoldT.mk (And.intro h hk)
 have hk9 : k <= 9223372036854775807 := by omega
 clear h hk
 go_enter Tryz.func122, Tryz.ntmps122
 go_wp2_with fail
 go_loopw [3, 5, 11] (fun s3 s5 s11 wr => ∃ j m : Nat, s11 = .int .i64 (j : Int) /\ j <= k /\ s3 = .int .i64 (m : Int) /\ m <= 60000 /\ HoldT (m = (preJ rows j).length) /\ wr = w) (fun _ _ s11 _ => k - (intOf s11).toNat)
 case atStart => exact ⟨0, 0, rfl, by omega, rfl, by omega, ⟨rfl⟩, rfl⟩
 case round =>
  obtain ⟨j, m, rfl, hj, rfl, hm, HM, hwr⟩ := hrel
  obtain rfl := hwr.symm
  clear hwr
  by_cases hlt : j < k
  ·obtain ⟨a, n, pc, r, hcell, hr, hsat, hn9, hnl⟩ := HH.out.1.get (Below.refl _ _) (j := j) (by rw [HH.out.2]; exact hlt)
   have hm2 := preJ_le HH.out.1.few (j + 1)
   rw [preJ_succ hr, List.length_append, <- HM.out, <- hnl] at hm2
   have HM2 : HoldT (m + n = (preJ rows (j + 1)).length) := ⟨by rw [preJ_succ hr, List.length_append, <- HM.out, <- hnl]⟩
   have hmn : m + n <= 60000 := by omega
   clear hsat hnl hm2 hr
   have hjI : (j : Int) < (k : Int) := by omega
   go_wp2_with fail
   exact ⟨⟨j + 1, m + n, by go_num, by omega, by go_num, hmn, HM2, trivial⟩, by simp [intOf]; omega⟩
  ·obtain rfl : j = k := by omega
   have HM2 : HoldT (m = (preJ rows j).length) := HM
   have HGR := HoldT.mk (growB_any m w (by omega))
   go_wp2_with fail
   refine HGR.out.mono ?_
   rintro e w2 ⟨sv, rfl, hown, hb2, ga, gc, rfl⟩
   have HW := HoldT.mk (And.intro (show OwnS 1 (RB c0) 23 w.heap.size w2 (.slice ga 0 gc) 0 ([] : List Bts) [] from ⟨hown, rfl, GRow.nil _ _ _, hb2.size⟩) hb2)
   clear hown hb2
   go_wp2_with fail
   go_loopw [6, 8, 27] (fun s6 s8 s27 wz => ∃ (i : Nat) (cs : List Value), s27 = .int .i64 (i : Int) /\ i <= j /\ HoldT (OwnS 1 (RB c0) 23 w.heap.size wz s6 (preJ rows i).length (preJ rows i) cs /\ Below w.heap.size w wz)) (fun _ _ s27 _ => j - (intOf s27).toNat)
   case atStart => exact ⟨0, [], rfl, by omega, ⟨HW.out⟩⟩
   case round =>
    obtain ⟨i, cs, rfl, hi, HJ⟩ := hrel
    by_cases hlt2 : i < j
    ·obtain ⟨a, n, pc, r, hcell, hr, hsat, hn9, hnl⟩ := HH.out.1.get HJ.out.2 (j := i) (by rw [HH.out.2]; exact hlt2)
     have hjI : (i : Int) < (j : Int) := by omega
     obtain ⟨g6, c6, hsv6⟩ := HJ.out.1.shape
     subst hsv6
     have hsat2 := hsat.mono (RB_mono c0) (cle_cfN_old (s := .slice g6 (preJ rows i).length c6) HJ.out.2 fun g hg => (HJ.out.1.low g hg).1)
     obtain ⟨p, hp⟩ : ∃ p, p = (preJ rows i).length := ⟨_, rfl⟩
     have hJ1 := HJ.out.1
     have hb1 := HJ.out.2
     have hple := preJ_le HH.out.1.few i
     rw [<- hp] at hJ1 hsat2 hple |-
     have HS := HoldT.mk (And.intro hsat2 hnl)
     have HO := HoldT.mk (And.intro hJ1 (And.intro hp (And.intro hb1 hr)))
     have hp6 : p + r.length <= 1000000000 := by omega
     have HP6 := HoldT.mk hp6
     clear hsat hsat2 hnl hJ1 hp hb1 hple HJ hr hp6
     go_wp2_with (at_builtin; refine push_src (RB_mono c0) (RB_one c0) rfl _ _ rfl infoB1 Tryz.underlying102 rfl (by decide) _ _ _ p _ _ HO.out.1 rfl _ r HS.out.1 rfl HP6.out (by decide) ?_)
     intro sl2 w3 cs3 ho3 hg3
     obtain ⟨g3, c3, rfl⟩ := ho3.shape
     have HF : HoldT (OwnS 1 (RB c0) 23 w.heap.size w3 (.slice g3 (p + r.length) c3) (preJ rows (i + 1)).length (preJ rows (i + 1)) cs3 /\ Below w.heap.size w w3) := ⟨by rw [preJ_succ HO.out.2.2.2, List.length_append, <- HO.out.2.1]; exact ho3, HO.out.2.2.1.trans (hg3.below HO.out.2.2.1.size fun g hg => (HO.out.1.low g hg).1)⟩
     obtain ⟨q, hq⟩ : ∃ q, q = p + r.length := ⟨_, rfl⟩
     rw [<- hq] at HF |-
     clear ho3 hg3 hq
     go_wp2_with fail
     exact ⟨⟨i + 1, cs3, by go_num, by omega, HF⟩, by simp [intOf]; omega⟩
    ·obtain rfl : i = j := by omega
     have HPP : HoldT (ClonePost 1 (RB c0) 23 (cf w) rows.flatten w (.returned u6) wr) := ⟨by
      have h1 := HJ.out.1
      rw [preJ_all (by rw [HH.out.2]; exact Nat.le_refl _)] at h1
      exact ⟨u6, cs, rfl, h1.own, h1.row, HJ.out.2⟩⟩
     obtain ⟨g6, c6, hsv6⟩ := HJ.out.1.shape
     go_wp2_with fail
     go_ret
     exact HPP.out
set_option maxHeartbeats 8000000 in
set_option maxRecDepth 100000 in
theorem concatI_any (rows : List (List Int)) (vs : List Value) (s0 k : Nat) (w : World) (h : RowsJ RI w s0 47 vs rows) (hk : rows.length = k) (hk3 : k <= 3) :
  Calls Tryz.prog 123 #[.slice (some ⟨s0, 0, none⟩) k k] w (ClonePost 1 RI 3 (cf w) rows.flatten w) := by
 have HH := HoldT.mk (And.intro h hk)
 have hk9 : k <= 9223372036854775807 := by omega
 clear h hk
 go_enter Tryz.func123, Tryz.ntmps123
 go_wp2_with fail
 go_loopw [3, 5, 11] (fun s3 s5 s11 wr => ∃ j m : Nat, s11 = .int .i64 (j : Int) /\ j <= k /\ s3 = .int .i64 (m : Int) /\ m <= 60000 /\ HoldT (m = (preJ rows j).length) /\ wr = w) (fun _ _ s11 _ => k - (intOf s11).toNat)
 case atStart => exact ⟨0, 0, rfl, by omega, rfl, by omega, ⟨rfl⟩, rfl⟩
 case round =>
  obtain ⟨j, m, rfl, hj, rfl, hm, HM, hwr⟩ := hrel
  obtain rfl := hwr.symm
  clear hwr
  by_cases hlt : j < k
  ·obtain ⟨a, n, pc, r, hcell, hr, hsat, hn9, hnl⟩ := HH.out.1.get (Below.refl _ _) (j := j) (by rw [HH.out.2]; exact hlt)
   have hm2 := preJ_le HH.out.1.few (j + 1)
   rw [preJ_succ hr, List.length_append, <- HM.out, <- hnl] at hm2
   have HM2 : HoldT (m + n = (preJ rows (j + 1)).length) := ⟨by rw [preJ_succ hr, List.length_append, <- HM.out, <- hnl]⟩
   have hmn : m + n <= 60000 := by omega
   clear hsat hnl hm2 hr
   have hjI : (j : Int) < (k : Int) := by omega
   go_wp2_with fail
   exact ⟨⟨j + 1, m + n, by go_num, by omega, by go_num, hmn, HM2, trivial⟩, by simp [intOf]; omega⟩
  ·obtain rfl : j = k := by omega
   have HM2 : HoldT (m = (preJ rows j).length) := HM
   have HGR := HoldT.mk (growI_any m w (by omega))
   go_wp2_with fail
   refine HGR.out.mono ?_
   rintro e w2 ⟨sv, rfl, hown, hb2, ga, gc, rfl⟩
   have HW := HoldT.mk (And.intro (show OwnS 1 RI 3 w.heap.size w2 (.slice ga 0 gc) 0 ([] : List Int) [] from ⟨hown, rfl, GRow.nil _ _ _, hb2.size⟩) hb2)
   clear hown hb2
   go_wp2_with fail
   go_loopw [6, 8, 27] (fun s6 s8 s27 wz => ∃ (i : Nat) (cs : List Value), s27 = .int .i64 (i : Int) /\ i <= j /\ HoldT (OwnS 1 RI 3 w.heap.size wz s6 (preJ rows i).length (preJ rows i) cs /\ Below w.heap.size w wz)) (fun _ _ s27 _ => j - (intOf s27).toNat)
   case atStart => exact ⟨0, [], rfl, by omega, ⟨HW.out⟩⟩
   case round =>
    obtain ⟨i, cs, rfl, hi, HJ⟩ := hrel
    by_cases hlt2 : i < j
    ·obtain ⟨a, n, pc, r, hcell, hr, hsat, hn9, hnl⟩ := HH.out.1.get HJ.out.2 (j := i) (by rw [HH.out.2]; exact hlt2)
     have hjI : (i : Int) < (j : Int) := by omega
     obtain ⟨g6, c6, hsv6⟩ := HJ.out.1.shape
     subst hsv6
     have hsat2 := hsat.mono RI_mono (cle_cfN_old (s := .slice g6 (preJ rows i).length c6) HJ.out.2 fun g hg => (HJ.out.1.low g hg).1)
     obtain ⟨p, hp⟩ : ∃ p, p = (preJ rows i).length := ⟨_, rfl⟩
     have hJ1 := HJ.out.1
     have hb1 := HJ.out.2
     have hple := preJ_le HH.out.1.few i
     rw [<- hp] at hJ1 hsat2 hple |-
     have HS := HoldT.mk (And.intro hsat2 hnl)
     have HO := HoldT.mk (And.intro hJ1 (And.intro hp (And.intro hb1 hr)))
     have hp6 : p + r.length <= 1000000000 := by omega
     have HP6 := HoldT.mk hp6
     clear hsat hsat2 hnl hJ1 hp hb1 hple HJ hr hp6
     go_wp2_with (at_builtin; refine push_src RI_mono RI_one rfl _ _ rfl infoI1 Tryz.underlying47 rfl (by decide) _ _ _ p _ _ HO.out.1 rfl _ r HS.out.1 rfl HP6.out (by decide) ?_)
     intro sl2 w3 cs3 ho3 hg3
     obtain ⟨g3, c3, rfl⟩ := ho3.shape
     have HF : HoldT (OwnS 1 RI 3 w.heap.size w3 (.slice g3 (p + r.length) c3) (preJ rows (i + 1)).length (preJ rows (i + 1)) cs3 /\ Below w.heap.size w w3) := ⟨by rw [preJ_succ HO.out.2.2.2, List.length_append, <- HO.out.2.1]; exact ho3, HO.out.2.2.1.trans (hg3.below HO.out.2.2.1.size fun g hg => (HO.out.1.low g hg).1)⟩
     obtain ⟨q, hq⟩ : ∃ q, q = p + r.length := ⟨_, rfl⟩
     rw [<- hq] at HF |-
     clear ho3 hg3 hq
     go_wp2_with fail
     exact ⟨⟨i + 1, cs3, by go_num, by omega, HF⟩, by simp [intOf]; omega⟩
    ·obtain rfl : i = j := by omega
     have HPP : HoldT (ClonePost 1 RI 3 (cf w) rows.flatten w (.returned u6) wr) := ⟨by
      have h1 := HJ.out.1
      rw [preJ_all (by rw [HH.out.2]; exact Nat.le_refl _)] at h1
      exact ⟨u6, cs, rfl, h1.own, h1.row, HJ.out.2⟩⟩
     obtain ⟨g6, c6, hsv6⟩ := HJ.out.1.shape
     go_wp2_with fail
     go_ret
     exact HPP.out
end Go.Proofs.YtmiphphombkpdaaGreat
namespace Go.Proofs.YtmiphphombkpdaaGreat
open Go.RowKit Go.Maps
theorem infoU8 : (Tryz.prog.info? 5).map (fun i => (i.zero, i.size, i.bytes)) = some (some (.int .u8 0), 1, 1) := by kernel_rfl
set_option maxHeartbeats 4000000 in
set_option maxRecDepth 100000 in
theorem law_key (k : UInt8) (N M : Int) (gone : Bool) (m : Nat) (hm : wrap64 ((IntKind.u64.wrap N).tmod 40) = (m : Int)) (hm2 : m < 40) (w : World) :
  Calls Tryz.prog 28 #[.agg #[.int .u8 (k.toNat : Int), .int .i64 N, .int .i64 M, .bool gone]] w fun e w' => ∃ sl cs, e = .returned sl /\ OwnS 1 RY 5 w.heap.size w' sl (m + 1) (List.replicate (m + 1) k) cs /\ Below w.heap.size w w' := by
 obtain ⟨q, hq⟩ : ∃ q, q = w.heap.size := ⟨_, rfl⟩
 obtain ⟨w1, hw1⟩ : ∃ w1, w1 = w.alloc (.cells #[.int .u8 (k.toNat : Int), .int .i64 N, .int .i64 M, .bool gone] 65) := ⟨_, rfl⟩
 have hb1 : Below w.heap.size w w1 := by rw [hw1]; exact (Below.refl _ w).alloc (Nat.le_refl _) _
 have hbx : w1.heap[q]? = some (.cells #[.int .u8 (k.toNat : Int), .int .i64 N, .int .i64 M, .bool gone] 65 (0, 0)) := by rw [hw1, hq]; exact heap_alloc_new w _
 have HB := HoldT.mk (And.intro hb1 (And.intro hbx hm))
 have q9 := hm
 have HW := HoldT.mk (And.intro hq hw1)
 clear hq hw1 hb1 hbx hm
 go_enter Tryz.func28, Tryz.ntmps28
 go_upto_region 1 with (fail)
 rw [<- HW.out.1, <- HW.out.2]
 go_wp2_with fail
 go_loopw [3, 4] (fun s3 s4 wr => ∃ j : Nat, s4 = .int .i64 (j : Int) /\ j <= m + 1 /\ ∃ cs, HoldT (OwnS 1 RY 5 w1.heap.size wr s3 j (List.replicate j k) cs /\ Below w1.heap.size w1 wr)) (fun _ s4 _ => m + 1 - (intOf s4).toNat)
 case atStart => exact ⟨0, rfl, Nat.zero_le _, [], ⟨OwnS.start 1 _ _ (Nat.le_refl _), Below.refl _ _⟩⟩
 case round =>
  obtain ⟨j, rfl, hjm, cs, HJ⟩ := hrel
  have hbr := kept HB.out.2.1 HJ.out.2
  have x0 : wr.cell? ⟨q, 0, none⟩ = some (.int .u8 (k.toNat : Int)) := by simp [World.cell?, hbr]
  have x1 : wr.cell? ⟨q, 1, none⟩ = some (.int .i64 N) := by simp [World.cell?, hbr]
  clear hbr
  by_cases hlt : j <= m
  ·have b0 : decide ((j : Int) <= (m : Int)) = true := decide_eq_true (by omega)
   go_wp2_with (at_builtin; refine push_new RY_mono rfl _ _ rfl infoU8 Tryz.underlying23 rfl (by decide) w1.heap.size _ _ j _ _ HJ.out.1 rfl _ [.int .u8 (k.toNat : Int)] rfl rfl (by simp [Value.oneCell']) k rfl _ rfl rfl (by omega) (by decide) ?_)
   intro sl2 w2 ho2 hg2
   obtain ⟨a2, c2, rfl⟩ := ho2.shape
   have HO2 := HoldT.mk (And.intro (by rw [List.replicate_succ']; exact ho2 : OwnS 1 RY 5 w1.heap.size w2 (.slice a2 (j + 1) c2) (j + 1) (List.replicate (j + 1) k) _) (HJ.out.2.trans (HJ.out.1.below hg2)))
   clear ho2 hg2
   go_wp2_with fail
   exact ⟨⟨j + 1, by go_num, by omega, _, HO2⟩, by simp [intOf]; omega⟩
  ·obtain rfl : j = m + 1 := by omega
   obtain ⟨a2, c2, rfl⟩ := HJ.out.1.shape
   have b0 : decide (((m + 1 : Nat) : Int) <= (m : Int)) = false := decide_eq_false (by omega)
   go_wp2_with fail
   go_ret
   exact ⟨_, cs, rfl, own_base HJ.out.1 HB.out.1.size, HB.out.1.trans (HJ.out.2.mono HB.out.1.size)⟩
end Go.Proofs.YtmiphphombkpdaaGreat
