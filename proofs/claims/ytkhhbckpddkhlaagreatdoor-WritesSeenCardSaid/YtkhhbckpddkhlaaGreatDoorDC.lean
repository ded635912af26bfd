/- slices.Delete of one document of a row of documents that the call owns. Documents: slices.Clone and BinarySearchFunc of them. slices.Insert of one document at a row of documents that the call owns. (printed by genIns.py) Documents, plainly: all formed and rising; writes laid over them. -/
import Derived.Test.YtkhhbckpddkhlaaGreatDoorDA
import Derived.Test.YtkhhbckpddkhlaaGreatDoorWE
import Derived.Deep.RegionLaw
import Derived.Lib.SliceRun
import Derived.Test.YtkhhbckpddkhlaaGreatDoorRI
namespace Go.Proofs.YtkhhbckpddkhlaaGreatDoor
open Go.Shelf Go.RowKit

theorem setCells_restD (g : Nat) : ∀ (vs : List Value) (o : Nat) (w : World), (w.setCells g o vs).os = w.os ∧ (w.setCells g o vs).tape = w.tape ∧ (w.setCells g o vs).output = w.output ∧ (w.setCells g o vs).heap.size = w.heap.size ∧ ∀ q, q ≠ g → (w.setCells g o vs).heap[q]? = w.heap[q]?
  | [], o, w => ⟨rfl, rfl, rfl, rfl, fun _ _ => rfl⟩
  | v :: vs, o, w => by
    obtain ⟨h1, h2, h3, h4, h5⟩ := setCells_restD g vs (o + 1) (w.setCell ⟨g, o, none⟩ v)
    refine ⟨h1, h2, h3, by rw [World.setCells, h4]; simp, fun q hq => ?_⟩
    rw [World.setCells, h5 q hq]
    exact heap_setCell_other w ⟨g, o, none⟩ q v (fun e => hq (by simpa using e))
theorem setCells_heapD (g : Nat) (T : TypeId) : ∀ (vs : List Value) (o : Nat) (w : World) (cur : Array Value), w.heap[g]? = some (.cells cur T (0, 0)) → o + vs.length ≤ cur.size →
    ∃ cur', (w.setCells g o vs).heap[g]? = some (.cells cur' T (0, 0)) ∧ cur'.toList = cur.toList.take o ++ vs ++ cur.toList.drop (o + vs.length)
  | [], o, w, cur, h, _ => ⟨cur, h, by simp⟩
  | v :: vs, o, w, cur, h, hl => by
    rw [List.length_cons] at hl
    obtain ⟨cur', h1, h2⟩ := setCells_heapD g T vs (o + 1) (w.setCell ⟨g, o, none⟩ v) (cur.setIfInBounds o v) (heap_setCell_same w g o cur T v h) (by simp; omega)
    refine ⟨cur', by rw [World.setCells]; exact h1, ?_⟩
    have hcl : o < cur.toList.length := by rw [Array.length_toList]; omega
    rw [h2, Array.toList_setIfInBounds, List.take_set, List.drop_set_of_lt (by omega), List.length_cons]
    have e : (cur.toList.take (o + 1)).set o v = cur.toList.take o ++ [v] := by
      rw [List.take_succ_eq_append_getElem hcl, List.set_append_right _ _ (by rw [List.length_take]; omega), List.length_take, Nat.min_eq_left (by omega), Nat.sub_self]
      rfl
    rw [e, show o + 1 + vs.length = o + (vs.length + 1) by omega]
    simp

def DelPost (T : TypeId) (n B : Nat) (w : World) (g cap p : Nat) (cs : List Value) (e : Ending) (w' : World) : Prop :=
  e = .returned (.slice (some ⟨g, 0, none⟩) p cap) ∧ w'.ownsRow B T n (.slice (some ⟨g, 0, none⟩) p cap) p cs ∧ w.grownBy w' (some g)
abbrev zero6D : List Value := [.string ⟨#[]⟩, .int .i64 0, .int .i64 0, .string ⟨#[]⟩, .slice none 0 0, .slice none 0 0]
theorem clearD (w : World) (ty : TypeId) (b o c : Nat) (hc : ∀ j, j < 6 → (w.cell? ⟨b, o + j, none⟩).isSome = true) (hf : ∀ j, j < 6 → w.frozen? ⟨b, o + j, none⟩ = false) :
    (Builtin.clear_ #[29] ty #[.slice (some ⟨b, o, none⟩) 1 c]).run Tryz.prog w = .ok (.tuple #[]) (w.setCells b o zero6D) := by
  have hst := run_storeCells_cells (P := Tryz.prog) b o zero6D 0 w (by simpa using hc) (by simpa using hf) (by intro v hv; simp at hv; rcases hv with rfl | rfl | rfl | rfl | rfl | rfl <;> simp [Value.oneCell'])
  simp only [Nat.add_zero] at hst
  have hv : ∀ w, (zeroValue 47).run Tryz.prog w = .ok (.agg zero6D.toArray) w := fun w => Tryz.zeroValue47 w
  have hzc : (Builtin.zeroCells (Value.agg zero6D.toArray).cells 1).toList = zero6D := by kernel_rfl
  simp [Builtin.clear_, run_underlying Tryz.underlying29, hv, hzc, hst]

set_option maxRecDepth 100000 in
set_option maxHeartbeats 8000000 in
theorem delD_any (B : Nat) (w : World) (g p cap : Nat) (cs : List Value) (hown : w.ownsRow B 47 6 (.slice (some ⟨g, 0, none⟩) p cap) p cs) (k : Nat) (hk : k < p) (hp : p ≤ 1000000) (h1c : ∀ u ∈ cs, u.oneCell' = true) :
    Calls Tryz.prog 85 #[.slice (some ⟨g, 0, none⟩) p cap, .int .i64 k, .int .i64 ((k : Int) + 1)] w (DelPost 47 6 B w g cap (p - 1) (cs.take (k * 6) ++ cs.drop ((k + 1) * 6))) := by
  obtain ⟨i0, hi, hz0, hz1, hz2⟩ := info_parts infoDp
  have hcl := hown.1
  obtain ⟨cur, hB, hg, hpc, hcm, hcs, htake⟩ : ∃ cur, B ≤ g ∧ w.heap[g]? = some (.cells cur 47 (0, 0)) ∧ p ≤ cap ∧ cap ≤ 9223372036854775807 ∧ cur.size = cap * 6 ∧ cur.toList.take (p * 6) = cs := by
    rcases hown.2 with ⟨h', _⟩ | ⟨g', cap', cur, h', hb, hg, hnc, hcm, hcs, htake⟩
    · simp at h'
    · simp only [Value.slice.injEq, Option.some.injEq, Addr.mk.injEq, and_true, true_and] at h'
      obtain ⟨rfl, rfl⟩ := h'
      exact ⟨cur, hb, hg, hnc, by unfold maxLen at hcm; omega, hcs, htake⟩
  have hcell : ∀ (W : World) (c : Array Value) (j : Nat), W.heap[g]? = some (.cells c 47 (0, 0)) → j < c.size → (W.cell? ⟨g, j, none⟩).isSome = true ∧ W.frozen? ⟨g, j, none⟩ = false := fun W c j h hj => by
    refine ⟨?_, freeR h j⟩
    simp only [World.cell?]
    rw [h]
    simp [hj]
  obtain ⟨news, hnews⟩ : ∃ news, news = cs.drop ((k + 1) * 6) := ⟨_, rfl⟩
  have hnl : news.length = (p - (k + 1)) * 6 := by rw [hnews, List.length_drop, hcl]; omega
  obtain ⟨A, hA, hsrc⟩ : ∃ A : Addr, (if cap = k + 1 then some (⟨g, 0, none⟩ : Addr) else some ⟨g, (k + 1) * 6, none⟩) = some A ∧ Hold (∀ t u, news[t]? = some u → w.drew.cell? (A.add t) = some u) := by
    by_cases h : cap = k + 1
    · refine ⟨⟨g, 0, none⟩, by simp [h], ⟨fun t u hu => ?_⟩⟩
      have h0 : news.length = 0 := by rw [hnl]; omega
      rw [List.length_eq_zero_iff.1 h0] at hu
      simp at hu
    · refine ⟨⟨g, (k + 1) * 6, none⟩, by simp [h], ⟨fun t u hu => ?_⟩⟩
      rw [addr_addW]
      rw [hnews, List.getElem?_drop, ← htake, List.getElem?_take] at hu
      split at hu
      · simp only [World.cell?]
        rw [show w.drew.heap[g]? = some (.cells cur 47 (0, 0)) from hg]
        simpa using hu
      · cases hu
  have s1 : Hold (news.length = (p - (k + 1)) * 6) := ⟨hnl⟩
  have s2 : Hold (∀ u ∈ news, u.oneCell' = true) := ⟨fun u hu => h1c u (by rw [hnews] at hu; exact List.mem_of_mem_drop hu)⟩
  have s3 : Hold (∀ t, t < news.length → (w.drew.cell? ⟨g, 0 + k * 6 + t, none⟩).isSome = true ∧ w.drew.frozen? ⟨g, 0 + k * 6 + t, none⟩ = false) := ⟨fun t ht => hcell w.drew cur _ hg (by rw [hcs]; rw [hnl] at ht; omega)⟩
  obtain ⟨W1, hW1⟩ : ∃ W1, W1 = w.drew.setCells g (0 + k * 6) news := ⟨_, rfl⟩
  obtain ⟨cur1, hg1, hc1⟩ := setCells_heapD g 47 news (0 + k * 6) w.drew cur hg (by rw [hcs, hnl]; omega)
  rw [← hW1] at hg1
  have hs1 : cur1.size = cap * 6 := by
    have := congrArg List.length hc1
    simp only [List.length_append, List.length_take, List.length_drop, Array.length_toList] at this
    omega
  have hr1 := setCells_restD g news (0 + k * 6) w.drew
  rw [← hW1] at hr1
  obtain ⟨W2, hW2⟩ : ∃ W2, W2 = W1.setCells g ((p - 1) * 6) zero6D := ⟨_, rfl⟩
  obtain ⟨cur2, hg2, hc2⟩ := setCells_heapD g 47 zero6D ((p - 1) * 6) W1 cur1 hg1 (by rw [hs1]; simp; omega)
  rw [← hW2] at hg2
  have hr2 := setCells_restD g zero6D ((p - 1) * 6) W1
  rw [← hW2] at hr2
  have hclr : ∀ ty c, (Builtin.clear_ #[29] ty #[.slice (some ⟨g, (p - 1) * 6, none⟩) 1 c]).run Tryz.prog W1 = .ok (.tuple #[]) W2 := fun ty c => by
    rw [hW2]
    exact clearD W1 ty g ((p - 1) * 6) c (fun j hj => (hcell W1 cur1 _ hg1 (by rw [hs1]; omega)).1) (fun j hj => (hcell W1 cur1 _ hg1 (by rw [hs1]; omega)).2)
  have HPOST : Hold (DelPost 47 6 B w g cap (p - 1) (cs.take (k * 6) ++ cs.drop ((k + 1) * 6)) (.returned (.slice (some ⟨g, 0, none⟩) (p - 1) cap)) W2) := ⟨by
    refine ⟨rfl, ⟨by rw [List.length_append, List.length_take, List.length_drop, hcl]; omega, .inr ⟨g, cap, cur2, rfl, hB, hg2, by omega, by unfold maxLen; omega, ?_, ?_⟩⟩, ?_⟩
    · have := congrArg List.length hc2
      simp only [List.length_append, List.length_take, List.length_drop, Array.length_toList, List.length_cons, List.length_nil] at this
      omega
    · have e0 : cur.toList.take (k * 6) = cs.take (k * 6) := by rw [← htake, List.take_take]; congr 1; omega
      rw [hc2, List.append_assoc, List.take_append_of_le_length (by rw [List.length_take, Array.length_toList, hs1]; omega), List.take_take, Nat.min_self, hc1, Nat.zero_add, e0, ← hnews]
      rw [List.take_append_of_le_length (by simp only [List.length_append, List.length_take, hnl]; omega), List.take_of_length_le (by simp only [List.length_append, List.length_take, hnl]; omega)]
    · refine ⟨hr2.1.trans hr1.1, hr2.2.1.trans hr1.2.1, hr2.2.2.1.trans hr1.2.2.1, by rw [hr2.2.2.2.1, hr1.2.2.2.1]; exact Nat.le_refl _, fun q _ hq => ?_⟩
      have hqg : q ≠ g := fun e => hq (by rw [e])
      rw [hr2.2.2.2.2 q hqg, hr1.2.2.2.2 q hqg]
      rfl⟩
  have HI := Hold.mk (And.intro hi (And.intro hz0 (And.intro hz1 hz2)))
  have HW1 : Hold (W1 = w.drew.setCells g (0 + k * 6) news) := ⟨hW1⟩
  have hkc : k ≤ cap := by omega
  have hkc1 : k + 1 ≤ cap := by omega
  have hkp1 : (k : Int) + 1 ≤ (p : Int) := by omega
  have hpci : (p : Int) ≤ (cap : Int) := by omega
  have hkeq : ¬ ((k : Int) = (k : Int) + 1) := by omega
  have hck : ¬ (cap = k) := by omega
  have hcp1 : ¬ (cap = p - 1) := by omega
  have hkpn : k + (p - (k + 1)) = p - 1 := by omega
  have hpp1 : p - (p - 1) = 1 := by omega
  have htn : ((k : Int) + 1).toNat = k + 1 := by omega
  have hb1 : (0 : Int) ≤ (k : Int) + 1 := by omega
  have mixed : Tryz.prog.follows .mixedOrders = true := by kernel_rfl
  clear hown hcl hB hg hcs htake hcell hnews hnl hW1 hg1 hc1 hs1 hr1 hW2 hg2 hc2 hr2 hi hz0 hz1 hz2 h1c
  go_enter Tryz.func85, Tryz.ntmps85
  go_wp2_with fail
  go_region_law_o (refine step_append_room rfl (.tmp 22) (.tmp 25) 29 rfl 47 i0 6 Tryz.underlying29 HI.out.1 HI.out.2.2.1 g 0 k cap (by simp [Act.eval, Act.put]) A (p - (k + 1)) (cap - (k + 1)) news (by simp [Act.eval, Act.put]) s1.out hsrc.out s2.out (by omega) s3.out ?_; rw [← HW1.out])
  go_wp2_with fail
  go_ret
  exact HPOST.out

end Go.Proofs.YtkhhbckpddkhlaaGreatDoor

namespace Go.Proofs.YtkhhbckpddkhlaaGreatDoor
open Go.Shelf Go.RowKit

/-- slices.Clone: a row of the call's own -/
def CloneD (l : List DR) (w : World) (e : Ending) (w' : World) : Prop := ∃ sv cs, e = .returned sv ∧ OwnS 6 RD 47 w.heap.size w' sv l.length l cs ∧ Below w.heap.size w w'
theorem cloneD_mk {l : List DR} {w w' : World} {sv : Value} {cs : List Value} (h : OwnS 6 RD 47 w.heap.size w' sv l.length l cs) (hb : Below w.heap.size w w') : CloneD l w (.returned sv) w' := ⟨sv, cs, rfl, h, hb⟩
set_option maxRecDepth 100000 in
set_option maxHeartbeats 8000000 in
theorem dclone_any (l : List DR) (lv : Value) (w : World) (hl : SAt 6 RD (cf w) lv l) (hlen : l.length ≤ 1000000) :
    Calls Tryz.prog 81 #[lv] w (CloneD l w) := by
  obtain ⟨i0, hi, hz0, hz1, hz2⟩ := info_parts infoDp
  have HI := Hold.mk (And.intro hi (And.intro hz0 (And.intro hz1 hz2)))
  have q22 : ∀ (w : World) (a : Option Addr) (n c n' c' : Nat), (binOp .eql 29 (.slice a n c) (.slice none n' c')).run Tryz.prog w = .ok (.bool a.isNone) w := fun w a n c n' c' => Lib.run_eql_slice_nil w _ _ a n c n' c' Tryz.underlying29
  clear hi hz0 hz1 hz2
  by_cases h0 : 0 < l.length
  · obtain ⟨b, off, cap, news, rfl, hg, hc, ho⟩ := sat_cells RD_one hl h0
    have HG := Hold.mk hg
    have HC := Hold.mk hc
    have H1 := Hold.mk ho
    clear hg hc ho hl
    go_enter Tryz.func81, Tryz.ntmps81
    go_wp2_with (at_builtin; refine wpList_append_own _ rfl _ _ 29 rfl w.heap.size 47 i0 (.agg #[.string ⟨#[]⟩, .int .i64 0, .int .i64 0, .string ⟨#[]⟩, .slice none 0 0, .slice none 0 0]) 6 96 Tryz.underlying29 HI.out.1 HI.out.2.1 HI.out.2.2.1 HI.out.2.2.2 rfl (by decide) _ _ _ rfl (World.ownsRow_made w #[] 0 (Nat.le_refl _) (Nat.zero_le _) (by simp)) ⟨b, off, none⟩ l.length cap news rfl ?qc1 ?qc2 ?qc3 ?qc4 ?qc5 ?qc6 ?_)
    case qc1 => exact HG.out.1
    case qc2 =>
      intro j u hj
      rw [addr_addW]
      have := HC.out j u hj
      unfold cf at this
      exact Lib.cell?_alloc_some _ this
    case qc3 => exact H1.out
    case qc4 => unfold maxLen; omega
    case qc5 => omega
    case qc6 => simp
    intro v' w1 hown hgrow hnil
    have hb := ((Below.refl _ w).alloc (Nat.le_refl _) (.cells #[] 47)).grown hgrow (by simp) (by intro k hk; simp [Value.ownBlock] at hk; omega)
    have HP : Hold (CloneD l w (.returned v') w1) := ⟨cloneD_mk ⟨by simpa using hown, rfl, HG.out.mono RD_mono (cle_cfN_old hb (fun g hg => (hown.lt g hg).1)), hb.size⟩ hb⟩
    clear hown hgrow hb
    go_wp2_with fail
    go_ret
    exact HP.out
  · obtain rfl : l = [] := List.length_eq_zero_iff.1 (by omega)
    obtain ⟨a, cap, rfl, hle, hcap, _⟩ := hl
    have HP0 : Hold (CloneD [] w (.returned (.slice none 0 0)) w) := ⟨cloneD_mk (OwnS.start _ _ _ (Nat.le_refl _)) (Below.refl _ _)⟩
    cases a with
    | none =>
      go_enter Tryz.func81, Tryz.ntmps81
      go_wp2_with fail
      go_ret
      exact HP0.out
    | some a =>
      go_enter Tryz.func81, Tryz.ntmps81
      go_wp2_with (at_builtin; refine wpList_append_own _ rfl _ _ 29 rfl w.heap.size 47 i0 (.agg #[.string ⟨#[]⟩, .int .i64 0, .int .i64 0, .string ⟨#[]⟩, .slice none 0 0, .slice none 0 0]) 6 96 Tryz.underlying29 HI.out.1 HI.out.2.1 HI.out.2.2.1 HI.out.2.2.2 rfl (by decide) _ _ _ rfl (World.ownsRow_made w #[] 0 (Nat.le_refl _) (Nat.zero_le _) (by simp)) a 0 cap [] rfl ?qc1 ?qc2 ?qc3 ?qc4 ?qc5 ?qc6 ?_)
      case qc1 => rfl
      case qc2 => intro j u hj; simp at hj
      case qc3 => intro u hu; simp at hu
      case qc4 => unfold maxLen; omega
      case qc5 => omega
      case qc6 => simp
      intro v' w1 hown hgrow hnil
      have hb := ((Below.refl _ w).alloc (Nat.le_refl _) (.cells #[] 47)).grown hgrow (by simp) (by intro k hk; simp [Value.ownBlock] at hk; omega)
      have HP : Hold (CloneD [] w (.returned v') w1) := ⟨cloneD_mk ⟨by simpa using hown, rfl, GRow.nil _ _ _, hb.size⟩ hb⟩
      clear hown hgrow hb
      go_wp2_with fail
      go_ret
      exact HP.out
/-- the documents' ids -/
def idsD (l : List DR) : List ByteArray := l.map DR.id
theorem idsD_len (l : List DR) : (idsD l).length = l.length := by simp [idsD]
theorem idsD_at {l : List DR} {i : Nat} {x : DR} (h : l[i]? = some x) : (idsD l)[i]? = some x.id := by simp [idsD, h]
theorem placeN_eq {nm : List ByteArray} {s : ByteArray} {i : Nat} (hi : i ≤ nm.length) (h1 : ∀ (t : Nat) x, t < i → nm[t]? = some x → strLt x s = true) (h2 : ∀ x, nm[i]? = some x → strLt x s = false) : placeN nm s = i := by
  have hle := placeN_le nm s
  rcases Nat.lt_trichotomy (placeN nm s) i with h | h | h
  · have hx := List.getElem?_eq_getElem (show placeN nm s < nm.length by omega)
    have := h1 _ _ h hx
    rw [placeN_at hx] at this; cases this
  · exact h
  · have hx := List.getElem?_eq_getElem (show i < nm.length by omega)
    have := placeN_lt h hx
    rw [h2 _ hx] at this; cases this
def foundD (nm : List ByteArray) (s : ByteArray) : Bool := decide (nm[placeN nm s]? = some s)

theorem over1_enters (args : Array Value) (w : World) : (callFunc 83 args).run Tryz.prog w = .ok (.enter 83 args) w := enters_of Tryz.func83 (by kernel_rfl) rfl args w
theorem over1_any (i s : ByteArray) (k n : Int) (t : ByteArray) (na : Option Addr) (nl ncap : Nat) (ia : Option Addr) (il icap : Nat) (w : World) :
    Calls Tryz.prog 83 #[.agg #[.string i, .int .i64 k, .int .i64 n, .string t, .slice na nl ncap, .slice ia il icap], .string s] w fun e w' => e = .returned (.int .i64 (cmpS i s)) ∧ Below w.heap.size w w' := by
  have HB := Hold.mk ((Below.refl _ w).alloc (Nat.le_refl _) (.cells #[.string i, .int .i64 k, .int .i64 n, .string t, .slice na nl ncap, .slice ia il icap] 47))
  go_enter Tryz.func83, Tryz.ntmps83
  go_wp2_with fail
  refine (compare_str i s _).mono ?_
  rintro e w2 ⟨rfl, hw2⟩
  subst hw2
  go_wp2_with fail
  go_ret
  exact ⟨rfl, HB.out⟩

/-- i and j close in on a name's place -/
def NearD (nm : List ByteArray) (s : ByteArray) (i j : Nat) : Prop := (∀ (t : Nat) y, t < i → nm[t]? = some y → strLt y s = true) ∧ (∀ (t : Nat) y, j ≤ t → nm[t]? = some y → strLt y s = false)
theorem upN_lt {nm : List ByteArray} (hu : upN nm) {i j : Nat} {a b : ByteArray} (hij : i < j) (ha : nm[i]? = some a) (hb : nm[j]? = some b) : strLt a b = true := by
  obtain ⟨hi, rfl⟩ := List.getElem?_eq_some_iff.1 ha
  obtain ⟨hj, rfl⟩ := List.getElem?_eq_some_iff.1 hb
  exact List.pairwise_iff_getElem.1 hu i j hi hj hij
theorem NearD.lo {nm : List ByteArray} {s y : ByteArray} {i j m : Nat} (hu : upN nm) (h : NearD nm s i j) (hy : nm[m]? = some y) (hl : strLt y s = true) : NearD nm s (m + 1) j := by
  refine ⟨fun t z ht hz => ?_, h.2⟩
  by_cases e : t = m
  · subst e; rw [hy] at hz; cases hz; exact hl
  · exact strLt_trans (upN_lt hu (show t < m by omega) hz hy) hl
theorem NearD.hi {nm : List ByteArray} {s y : ByteArray} {i j m : Nat} (hu : upN nm) (h : NearD nm s i j) (hy : nm[m]? = some y) (hl : strLt y s = false) : NearD nm s i m := by
  refine ⟨h.1, fun t z ht hz => ?_⟩
  by_cases e : t = m
  · subst e; rw [hy] at hz; cases hz; exact hl
  · cases hzx : strLt z s with
    | false => rfl
    | true => rw [strLt_trans (upN_lt hu (show m < t by omega) hy hz) hzx] at hl; cases hl
theorem cmpS_lt (a b : ByteArray) : cmpS a b < 0 ↔ strLt a b = true := by
  unfold cmpS
  cases strLt a b with
  | true => simp
  | false => by_cases h : a = b <;> simp [h]

set_option maxRecDepth 100000 in
set_option maxHeartbeats 8000000 in
theorem dsearch_any (l : List DR) (s : ByteArray) (lv : Value) (w : World) (hl : SAt 6 RD (cf w) lv l) (hu : upN (idsD l)) (hlen : l.length ≤ 1000000) :
    Calls Tryz.prog 82 #[lv, .string s, .func (.func 83) #[] #[]] w
      fun e w' => e = .returned (.tuple #[.int .i64 (placeN (idsD l) s), .bool (foundD (idsD l) s)]) ∧ Below w.heap.size w w' := by
  obtain ⟨la, lcap, rfl, hle, hcap, hel⟩ := hl
  have HE := Hold.mk hel
  have HU := Hold.mk hu
  have hF := over1_enters
  obtain ⟨r1, hr1⟩ : ∃ r1, r1 = placeN (idsD l) s := ⟨_, rfl⟩
  obtain ⟨r2, hr2⟩ : ∃ r2, r2 = foundD (idsD l) s := ⟨_, rfl⟩
  rw [← hr1, ← hr2]
  have HR1 := Hold.mk hr1
  have HR2 := Hold.mk hr2
  clear hel hu hr1 hr2
  go_enter Tryz.func82, Tryz.ntmps82
  go_wp2_with fail
  go_loopg [9, 10] l.length (fun kx s9 s10 wr => ∃ lo hi : Nat, s9 = .int .i64 lo ∧ s10 = .int .i64 hi ∧ lo ≤ hi ∧ hi ≤ l.length ∧ hi - lo ≤ kx ∧ Hold (NearD (idsD l) s lo hi) ∧ Hold (Below w.heap.size w wr))
  case atStart => exact ⟨0, l.length, rfl, rfl, Nat.zero_le _, Nat.le_refl _, by omega, ⟨fun t y ht => by omega, fun t y ht hy => by have := (List.getElem?_eq_some_iff.1 hy).1; rw [idsD_len] at this; omega⟩, ⟨Below.refl _ _⟩⟩
  case round =>
    obtain ⟨lo, hi, rfl, rfl, hlh, hin, hg, HN, HB⟩ := hrel
    by_cases hlt : lo < hi
    · obtain ⟨m, hm⟩ : ∃ m, m = (lo + hi) / 2 := ⟨_, rfl⟩
      have hm2 : ((lo : Int) + (hi : Int)) / 2 = (m : Int) := by omega
      have hml : m < l.length := by omega
      have hmlo : lo ≤ m := by omega
      have hmhi : m < hi := by omega
      obtain ⟨y, hy⟩ : ∃ y, l[m]? = some y := ⟨l[m], List.getElem?_eq_getElem hml⟩
      obtain ⟨b, off, d, rfl, hd, hc, hxi⟩ := HE.out m y hy
      obtain ⟨k, n, t, na, nl, ncap, ia, il, icap, rfl, _⟩ := hxi
      have HY := Hold.mk (idsD_at hy)
      obtain ⟨i, v⟩ := y
      have hcl := cle_below HB.out
      have z0 := hcl _ _ _ (hc 0 _ rfl)
      have z1 := hcl _ _ _ (hc 1 _ rfl)
      have z2 := hcl _ _ _ (hc 2 _ rfl)
      have z3 := hcl _ _ _ (hc 3 _ rfl)
      have z4 := hcl _ _ _ (hc 4 _ rfl)
      have z5 := hcl _ _ _ (hc 5 _ rfl)
      unfold cf at z0 z1 z2 z3 z4 z5
      rw [Nat.add_zero] at z0
      simp only at z0 HY
      clear hy hd hc hcl hm
      have HLW := Hold.mk (cmpS_lt i s)
      have HC := Hold.mk (fun w => over1_any i s k n t na nl ncap ia il icap w)
      generalize cmpS i s = c at HC HLW
      cases hlw : strLt i s with
      | true =>
        have hcz : c < 0 := HLW.out.2 hlw
        have HN2 := Hold.mk (HN.out.lo HU.out HY.out hlw)
        clear hlw
        go_wp2_with fail
        refine (HC.out _).mono ?_
        rintro e w3 ⟨rfl, hb3⟩
        replace HB := Hold.mk (HB.out.trans (hb3.mono HB.out.size))
        clear hb3 z0 z1 z2 z3 z4 z5
        go_wp2_with fail
        go_roundg (hi - (m + 1))
        case measure => omega
        case rel => exact ⟨m + 1, hi, by go_num, rfl, by omega, hin, Nat.le_refl _, HN2, HB⟩
      | false =>
        have hcz : ¬ c < 0 := fun h => by have := HLW.out.1 h; rw [hlw] at this; cases this
        have HN2 := Hold.mk (HN.out.hi HU.out HY.out hlw)
        clear hlw
        go_wp2_with fail
        refine (HC.out _).mono ?_
        rintro e w3 ⟨rfl, hb3⟩
        replace HB := Hold.mk (HB.out.trans (hb3.mono HB.out.size))
        clear hb3 z0 z1 z2 z3 z4 z5
        go_wp2_with fail
        go_roundg (m - lo)
        case measure => omega
        case rel => exact ⟨lo, m, rfl, rfl, by omega, by omega, Nat.le_refl _, HN2, HB⟩
    · obtain rfl : hi = lo := by omega
      have hpl : placeN (idsD l) s = hi := placeN_eq (by rw [idsD_len]; exact hin) HN.out.1 (fun y hy => HN.out.2 hi y (Nat.le_refl _) hy)
      have hR1 : Hold (r1 = hi) := ⟨by rw [HR1.out, hpl]⟩
      have HF : Hold (r2 = decide ((idsD l)[hi]? = some s)) := ⟨by rw [HR2.out]; unfold foundD; rw [hpl]⟩
      clear hpl
      by_cases hlt2 : hi < l.length
      · obtain ⟨y, hy⟩ : ∃ y, l[hi]? = some y := ⟨l[hi], List.getElem?_eq_getElem hlt2⟩
        obtain ⟨b, off, d, rfl, hd, hc, hxi⟩ := HE.out hi y hy
        obtain ⟨k, n, t, na, nl, ncap, ia, il, icap, rfl, _⟩ := hxi
        have hyi := idsD_at hy
        obtain ⟨i, v⟩ := y
        simp only at hyi
        have hcl := cle_below HB.out
        have z0 := hcl _ _ _ (hc 0 _ rfl)
        have z1 := hcl _ _ _ (hc 1 _ rfl)
        have z2 := hcl _ _ _ (hc 2 _ rfl)
        have z3 := hcl _ _ _ (hc 3 _ rfl)
        have z4 := hcl _ _ _ (hc 4 _ rfl)
        have z5 := hcl _ _ _ (hc 5 _ rfl)
        unfold cf at z0 z1 z2 z3 z4 z5
        rw [Nat.add_zero] at z0
        simp only at z0
        have HC := Hold.mk (fun w => over1_any i s k n t na nl ncap ia il icap w)
        have HZ : Hold (r2 = (cmpS i s == 0)) := ⟨by
          rw [HF.out, hyi]
          rw [Bool.eq_iff_iff, beq_iff_eq, cmpS_zero, decide_eq_true_iff, Option.some.injEq]⟩
        generalize cmpS i s = c at HC HZ
        clear hy hd hc hcl hyi
        go_wp2_with fail
        refine (HC.out _).mono ?_
        rintro e w3 ⟨rfl, hb3⟩
        have HBF := HB.out.trans (hb3.mono HB.out.size)
        clear hb3 z0 z1 z2 z3 z4 z5
        go_wp2_with fail
        go_ret2
        exact ⟨by rw [hR1.out, HZ.out] <;> rfl, HBF⟩
      · have HZ : Hold (r2 = false) := ⟨by rw [HF.out, List.getElem?_eq_none (by rw [idsD_len]; omega)]; rfl⟩
        have HBF := HB.out
        go_wp2_with fail
        go_ret2
        exact ⟨by rw [hR1.out, HZ.out] <;> rfl, HBF⟩

end Go.Proofs.YtkhhbckpddkhlaaGreatDoor

namespace Go.Proofs.YtkhhbckpddkhlaaGreatDoor
open Go.Shelf Go.RowKit

set_option maxHeartbeats 8000000 in
set_option maxRecDepth 100000 in
theorem insDoc_end (B : Nat) (w : World) (sl : Value) (p : Nat) (cs : List Value) (hown : w.ownsRow B 47 6 sl p cs) (H : Nat) (d : List Value) (hH : w.heap[H]? = some (.cells d.toArray 47 (0, 0))) (hd : d.length = 6)
    (h1 : ∀ u ∈ d, u.oneCell' = true) (hBw : B ≤ w.heap.size) (hp : p ≤ 1000000) :
    Calls Tryz.prog 86 #[sl, .int .i64 p, .slice (some ⟨H, 0, none⟩) 1 1] w (InsPost 47 6 B w sl p (cs.take (p * 6) ++ d ++ cs.drop (p * 6))) := by
  have hcl := hown.1
  rw [List.take_of_length_le (by omega), List.drop_eq_nil_iff.2 (by omega), List.append_nil]
  obtain ⟨i0, hi, hz0, hz1, hz2⟩ := info_parts (show (Tryz.prog.info? 47).map (fun i => (i.zero, i.size, i.bytes)) = some (some (.agg #[.string ⟨#[]⟩, .int .i64 0, .int .i64 0, .string ⟨#[]⟩, .slice none 0 0, .slice none 0 0]), 6, 96) by kernel_rfl)
  have HOW := Hld.mk hown
  have HI := Hld.mk (And.intro hi (And.intro hz0 (And.intro hz1 hz2)))
  have HN := Hld.mk (World.news_of_block (w := w) hH)
  have H1 := Hld.mk h1
  have HD : Hld (d.length = 1 * 6) := ⟨by omega⟩
  have HCL := Hld.mk hcl
  obtain ⟨ao, cap, hsl, hpc, hcap⟩ : ∃ ao cap, sl = .slice ao p cap ∧ p ≤ cap ∧ cap ≤ 9223372036854775807 := by
    rcases hown.2 with ⟨hv, hn⟩ | ⟨g, cap, cur, hv, _, _, h2, h3, _⟩
    · exact ⟨none, 0, by rw [hv, hn], by omega, by omega⟩
    · exact ⟨_, cap, hv, h2, by unfold maxLen at h3; omega⟩
  clear hown hi hz0 hz1 hz2 hH h1 hd hcl
  subst hsl
  cases ao with
  | none =>
    go_enter Tryz.func86, Tryz.ntmps86
    go_wp2_with (at_builtin; refine wpList_append_lies _ rfl (.tmp 23) (.tmp 24) 29 rfl B 47 i0 (.agg #[.string ⟨#[]⟩, .int .i64 0, .int .i64 0, .string ⟨#[]⟩, .slice none 0 0, .slice none 0 0]) 6 96 Tryz.underlying29 HI.out.1 HI.out.2.1 HI.out.2.2.1 HI.out.2.2.2 rfl (by decide) _ p cs rfl HOW.out ⟨H, 0, none⟩ 1 1 d rfl HD.out HN.out H1.out (by decide) (by unfold maxLen; omega) (by omega) hBw _ rfl ?_)
    all_goals
      intro g cap2 w3 hown hgr hgg _
      have HP := Hld.mk (show InsPost 47 6 B w (.slice none p cap) p (cs ++ d) (.returned (.slice (some ⟨g, 0, none⟩) (p + 1) cap2)) w3 from ⟨_, rfl, hown, hgr, fun q hq => by
        obtain rfl : g = q := by simpa [Value.ownBlock] using hq
        exact hgg.imp id (fun h => by omega)⟩)
      clear hown hgr hgg
      go_wp2_with fail
      go_ret
      exact HP.out
  | some a =>
    obtain ⟨ab, ao, asp⟩ := a
    go_enter Tryz.func86, Tryz.ntmps86
    go_wp2_with (at_builtin; refine wpList_append_lies _ rfl (.tmp 23) (.tmp 24) 29 rfl B 47 i0 (.agg #[.string ⟨#[]⟩, .int .i64 0, .int .i64 0, .string ⟨#[]⟩, .slice none 0 0, .slice none 0 0]) 6 96 Tryz.underlying29 HI.out.1 HI.out.2.1 HI.out.2.2.1 HI.out.2.2.2 rfl (by decide) _ p cs rfl HOW.out ⟨H, 0, none⟩ 1 1 d rfl HD.out HN.out H1.out (by decide) (by unfold maxLen; omega) (by omega) hBw _ rfl ?_)
    all_goals
      intro g cap2 w3 hown hgr hgg _
      have HP := Hld.mk (show InsPost 47 6 B w (.slice (some ⟨ab, ao, asp⟩) p cap) p (cs ++ d) (.returned (.slice (some ⟨g, 0, none⟩) (p + 1) cap2)) w3 from ⟨_, rfl, hown, hgr, fun q hq => by
        obtain rfl : g = q := by simpa [Value.ownBlock] using hq
        exact hgg.imp id (fun h => by omega)⟩)
      clear hown hgr hgg
      go_wp2_with fail
      go_ret
      exact HP.out


set_option maxHeartbeats 8000000 in
set_option maxRecDepth 100000 in
theorem insDoc_room (B : Nat) (w : World) (g p cap : Nat) (cur : Array Value) (cs : List Value) (hB : B ≤ g) (hg : w.heap[g]? = some (.cells cur 47 (0, 0))) (hcur : cur.size = cap * 6) (hcs : cur.toList.take (p * 6) = cs) (hcap : cap ≤ 9223372036854775807) (k : Nat) (hk : k < p) (hroom : p + 1 ≤ cap) (H : Nat) (d : List Value) (hH : w.heap[H]? = some (.cells d.toArray 47 (0, 0))) (hd : d.length = 6)
    (h1 : ∀ u ∈ d, u.oneCell' = true) (h1c : ∀ u ∈ cs, u.oneCell' = true) (hne : H ≠ g) :
    Calls Tryz.prog 86 #[.slice (some ⟨g, 0, none⟩) p cap, .int .i64 k, .slice (some ⟨H, 0, none⟩) 1 1] w (InsPost 47 6 B w (.slice (some ⟨g, 0, none⟩) p cap) p (cs.take (k * 6) ++ d ++ cs.drop (k * 6))) := by
  have hsz : (Tryz.prog.info? 47).map (·.size) = some 6 := by kernel_rfl
  have hcl : cs.length = p * 6 := by rw [← hcs, List.length_take, Array.length_toList]; omega
  have hglt : g < w.heap.size := (Array.getElem?_eq_some_iff.1 hg).1
  have hov : ∀ off lb cb, (callFunc 125 #[.slice (some ⟨H, 0, none⟩) 1 1, .slice (some ⟨g, off, none⟩) lb cb]).run Tryz.prog w = .ok (.value (.bool false)) w := fun off lb cb => by
    rw [run_callFunc_extern Tryz.func125 (by kernel_rfl) (by kernel_rfl) (by kernel_rfl) (e := Extern.SlicesOverlaps.overlaps #[29, 29] #[4]) (by kernel_rfl),
      Lib.run_overlaps_apart w 29 4 47 Tryz.underlying29 6 Tryz.sizeOf47 ⟨H, 0, none⟩ ⟨g, off, none⟩ 1 1 lb cb hne 47 47 d.toArray.size cur.size (by simp [World.shape?, hH]) (by simp [World.shape?, hg]) (by omega) (by simp [World.frozen?, hH]) (by simp [World.frozen?, hH])]
    rfl
  obtain ⟨C1, hC1⟩ : ∃ C1 : List Value, C1 = cur.toList.take (k * 6 + 6) ++ cs.drop (k * 6) ++ cur.toList.drop (p * 6 + 6) := ⟨_, rfl⟩
  have hC1l : C1.length = cur.size := by rw [hC1]; simp only [List.length_append, List.length_take, List.length_drop, Array.length_toList]; omega
  obtain ⟨W1, hW1⟩ : ∃ W1, W1 = w.drew.setRow g C1.toArray := ⟨_, rfl⟩
  have hW1g : W1.heap[g]? = some (.cells C1.toArray 47 (0, 0)) := by rw [hW1]; exact setRow_heap w.drew g cur _ _ _ hg
  have hW1H : W1.heap[H]? = some (.cells d.toArray 47 (0, 0)) := by rw [hW1, setRow_other _ _ _ _ hne]; exact hH
  have hcp1 : ∀ ty dc sc, (Builtin.copy_ #[29, 29] ty #[.slice (some ⟨g, (k + 1) * 6, none⟩) (p - k) dc, .slice (some ⟨g, k * 6, none⟩) (p + 1 - k) sc]).run Tryz.prog w.drew = .ok (goInt ((p - k : Nat) : Int)) W1 := fun ty dc sc => by
    rw [show (k + 1) * 6 = k * 6 + 6 from Nat.succ_mul k 6, run_copy_rowN w.drew _ _ ty 47 6 (p - k) g (k * 6 + 6) (p - k) dc ⟨g, k * 6, none⟩ (p + 1 - k) sc cur 47 (cs.drop (k * 6)) Tryz.underlying29 hsz hg (by simp only [Nat.min_def]; split <;> omega) (by rw [List.length_drop, hcl]; omega)
      (fun j v hj => by
        rw [Addr.add_lit]
        rw [List.getElem?_drop, ← hcs, List.getElem?_take] at hj
        split at hj
        · simp only [World.cell?]; rw [show w.drew.heap[g]? = some (.cells cur 47 (0, 0)) from hg]; simpa using hj
        · cases hj)
      (by rw [List.length_drop, hcl]; omega) (fun v hv => h1c v (List.mem_of_mem_drop hv)), hW1, hC1, show k * 6 + 6 + (cs.drop (k * 6)).length = p * 6 + 6 by rw [List.length_drop, hcl]; omega]
  obtain ⟨R2, hR2⟩ : ∃ R2 : List Value, R2 = C1.take (k * 6) ++ d ++ C1.drop (k * 6 + 6) := ⟨_, rfl⟩
  have hcp2 : ∀ (W : World), W.heap = W1.heap → ∀ ty dc, (Builtin.copy_ #[29, 29] ty #[.slice (some ⟨g, k * 6, none⟩) (p + 1 - k) dc, .slice (some ⟨H, 0, none⟩) 1 1]).run Tryz.prog W = .ok (goInt 1) (W.setRow g R2.toArray) := fun W hW ty dc => by
    rw [run_copy_rowN W _ _ ty 47 6 1 g (k * 6) (p + 1 - k) dc ⟨H, 0, none⟩ 1 1 C1.toArray 47 d Tryz.underlying29 hsz (by rw [hW]; exact hW1g) (by simp only [Nat.min_def]; split <;> omega) (by rw [hd])
      (fun j v hj => by
        rw [Addr.add_lit]
        simp only [World.cell?]; rw [hW, hW1H]; simpa using hj)
      (by rw [hd, List.size_toArray, hC1l]; omega) h1, hd, List.toList_toArray, hR2]
    rfl
  have hfin : R2 = cs.take (k * 6) ++ d ++ cs.drop (k * 6) ++ cur.toList.drop (p * 6 + 6) := by
    rw [hR2, hC1]; exact row_shift cur.toList cs d (k * 6) 6 (p * 6) (by omega) hcs (by rw [Array.length_toList]; omega) hd
  have HPOST : ∀ (W : World), W.heap = W1.heap → W.os = w.os → W.tape = w.tape → W.output = w.output → Hld (InsPost 47 6 B w (.slice (some ⟨g, 0, none⟩) p cap) p (cs.take (k * 6) ++ d ++ cs.drop (k * 6)) (.returned (.slice (some ⟨g, 0, none⟩) (p + 1) cap)) (W.setRow g R2.toArray)) := fun W hW ho ht hu => ⟨_, rfl, by
      refine ⟨by simp only [List.length_append, List.length_take, List.length_drop]; omega, .inr ⟨g, cap, _, rfl, hB, setRow_heap W g C1.toArray _ _ _ (by rw [hW]; exact hW1g), hroom, by unfold maxLen; omega, ?_, ?_⟩⟩
      · rw [hfin]; simp only [List.size_toArray, List.length_append, List.length_take, List.length_drop, Array.length_toList]; omega
      · rw [hfin]
        show List.take _ (_ ++ _) = _
        rw [List.take_append_of_le_length (by simp only [List.length_append, List.length_take, List.length_drop]; omega), List.take_of_length_le (by simp only [List.length_append, List.length_take, List.length_drop]; omega)],
    ⟨ho, ht, hu, by rw [setRow_size, hW, hW1, setRow_size]; exact Nat.le_refl _, fun q hq hqn => by
      have hqg : q ≠ g := fun e => hqn (by rw [e]; rfl)
      rw [setRow_other _ _ _ _ hqg, hW, hW1, setRow_other _ _ _ _ hqg]; rfl⟩, fun q hq => .inl hq⟩
  have hin : k ≤ p := by omega
  have hin1 : (k : Int) ≤ (p : Int) + 1 := by omega
  have hpk1 : p + 1 - (k + 1) = p - k := by omega
  have hck : ¬ (cap = k) := by omega
  have hck1 : ¬ (cap = k + 1) := by omega
  have hz2 : ¬ ((k : Int) = (p : Int)) := by omega
  have hb1 : (0 : Int) ≤ (k : Int) + 1 := by omega
  have htn : ((k : Int) + 1).toNat = k + 1 := by omega
  have hw1 : IntKind.i64.wrap ((k : Int) + 1) = (k : Int) + 1 := by rw [IntKind.wrap_i64]; omega
  have HW1 := Hld.mk hW1
  clear hg hH hW1g hW1H hC1 hfin hR2 hW1 hcl hcur hcs hC1l
  go_enter Tryz.func86, Tryz.ntmps86
  go_wp2_with (simp only [hov])
  go_region_law (refine step_copy_runI rfl _ _ 29 29 rfl _ _ (by simp [Act.eval, Act.put]) (by simp [Act.eval, Act.put]) (hcp1 _ _ _) ?_)
  go_wp2_with (at_builtin; refine wpList_copy_runI _ rfl _ _ 29 29 rfl _ _ rfl rfl (hcp2 _ rfl _ _) ?_)
  go_ret
  exact (HPOST _ rfl (by rw [HW1.out]; rfl) (by rw [HW1.out]; rfl) (by rw [HW1.out]; rfl)).out


set_option maxHeartbeats 8000000 in
set_option maxRecDepth 100000 in
theorem insDoc_grow (B : Nat) (w : World) (hBw : B ≤ w.heap.size) (g p cap : Nat) (cur : Array Value) (cs : List Value) (hg : w.heap[g]? = some (.cells cur 47 (0, 0))) (hcs : cur.toList.take (p * 6) = cs) (hcl : cs.length = p * 6) (hcap : p ≤ cap) (hp : p ≤ 1000000) (k : Nat) (hk : k < p) (hroom : cap < p + 1) (H : Nat) (d : List Value) (hH : w.heap[H]? = some (.cells d.toArray 47 (0, 0))) (hd : d.length = 6)
    (h1 : ∀ u ∈ d, u.oneCell' = true) (h1c : ∀ u ∈ cs, u.oneCell' = true) :
    Calls Tryz.prog 86 #[.slice (some ⟨g, 0, none⟩) p cap, .int .i64 k, .slice (some ⟨H, 0, none⟩) 1 1] w (InsPost 47 6 B w (.slice (some ⟨g, 0, none⟩) p cap) p (cs.take (k * 6) ++ d ++ cs.drop (k * 6))) := by
  obtain ⟨i0, hi0, hz0, hzs, hzb⟩ := info_parts (show (Tryz.prog.info? 47).map (fun i => (i.zero, i.size, i.bytes)) = some (some (.agg #[.string ⟨#[]⟩, .int .i64 0, .int .i64 0, .string ⟨#[]⟩, .slice none 0 0, .slice none 0 0]), 6, 96) by kernel_rfl)
  have hsz : (Tryz.prog.info? 47).map (·.size) = some 6 := by kernel_rfl
  have hglt : g < w.heap.size := (Array.getElem?_eq_some_iff.1 hg).1
  have hHlt : H < w.heap.size := (Array.getElem?_eq_some_iff.1 hH).1
  have hold : (Builtin.firstCells i0.size k (.slice (some ⟨g, 0, none⟩) k cap)).run Tryz.prog w.drew = .ok (cs.take (k * 6)).toArray w.drew := by
    rw [hzs]
    exact run_firstCells_some w.drew 6 k ⟨g, 0, none⟩ k cap (cs.take (k * 6)) (by rw [List.length_take]; omega) (fun j v hj => by
      rw [Addr.add_lit]
      rw [List.getElem?_take] at hj
      split at hj
      · rw [← hcs, List.getElem?_take] at hj
        split at hj
        · simp only [World.cell?]; rw [show w.drew.heap[g]? = some (.cells cur 47 (0, 0)) from hg]; simpa using hj
        · cases hj
      · cases hj)
  have hkk : (p : Int) + 1 - (k : Int) = ((p + 1 - k : Nat) : Int) := by omega
  have hik : k + (p + 1 - k) = p + 1 := by omega
  obtain ⟨G, hG⟩ : ∃ G, G = grownCap w (p + 1) cap 47 := ⟨_, rfl⟩
  have hGn : p + 1 ≤ G := by rw [hG]; exact grownCap_ge w _ _ _
  have hG63 : G ≤ 9223372036854775807 := by
    have := grownCap_le_maxLen w (p + 1) cap 47 (by unfold maxLen; omega)
    rw [← hG] at this
    unfold maxLen at this
    omega
  obtain ⟨Z, hZ⟩ : ∃ Z : List Value, Z = (Builtin.zeroCells (Value.cells (.agg #[.string ⟨#[]⟩, .int .i64 0, .int .i64 0, .string ⟨#[]⟩, .slice none 0 0, .slice none 0 0])) (p + 1 - k)).toList ++ (Builtin.zeroCells (Value.cells (.agg #[.string ⟨#[]⟩, .int .i64 0, .int .i64 0, .string ⟨#[]⟩, .slice none 0 0, .slice none 0 0])) (G - (p + 1))).toList := ⟨_, rfl⟩
  have hzl : ∀ q, (Builtin.zeroCells (Value.cells (.agg #[.string ⟨#[]⟩, .int .i64 0, .int .i64 0, .string ⟨#[]⟩, .slice none 0 0, .slice none 0 0])) q).toList.length = q * 6 := fun q => by
    have e : (Value.cells (.agg #[.string ⟨#[]⟩, .int .i64 0, .int .i64 0, .string ⟨#[]⟩, .slice none 0 0, .slice none 0 0])).size = 6 := rfl
    simp [Builtin.zeroCells, e]
  have hZl : Z.length = (G - k) * 6 := by rw [hZ, List.length_append, hzl, hzl]; omega
  obtain ⟨ROW, hROW⟩ : ∃ ROW : List Value, ROW = cs.take (k * 6) ++ Z := ⟨_, rfl⟩
  have hROWl : ROW.length = G * 6 := by rw [hROW, List.length_append, hZl, List.length_take]; omega
  obtain ⟨W1, hW1⟩ : ∃ W1, W1 = w.drew.alloc (.cells ROW.toArray 47) := ⟨_, rfl⟩
  have hrz : ∀ ty, (Builtin.append_ #[29, 3] ty #[.slice (some ⟨g, 0, none⟩) k cap, .int .i64 ((p : Int) + 1 - (k : Int))]).run Tryz.prog w = .ok (.slice (some ⟨w.heap.size, 0, none⟩) (p + 1) G) W1 := fun ty => by
    have h := Lib.run_append_grow_zeros w 29 3 ty 47 i0 _ .i64 .i64 Tryz.underlying29 Tryz.underlying3 hi0 hz0 (some ⟨g, 0, none⟩) k cap (cs.take (k * 6)) hold (p + 1 - k) (by omega) (by omega) (by omega) (by omega) (by rw [hzb]; omega) (by rw [hzb, hik]; exact growslice_fits hroom (by omega))
    rw [hik, ← hG] at h
    rw [hkk, h, hW1, hROW, hZ]
    congr 3
    simp
  have hW1g : W1.heap[g]? = some (.cells cur 47 (0, 0)) := by rw [hW1]; exact al_kept hg
  have hW1H : W1.heap[H]? = some (.cells d.toArray 47 (0, 0)) := by rw [hW1]; exact al_kept hH
  have hW1N : W1.heap[w.heap.size]? = some (.cells ROW.toArray 47 (0, 0)) := by rw [hW1]; exact heap_alloc_new w.drew _
  obtain ⟨R1, hR1⟩ : ∃ R1 : List Value, R1 = ROW.take (k * 6) ++ d ++ ROW.drop (k * 6 + 6) := ⟨_, rfl⟩
  have hR1l : R1.length = G * 6 := by rw [hR1]; simp only [List.length_append, List.length_take, List.length_drop]; omega
  obtain ⟨W2, hW2⟩ : ∃ W2, W2 = W1.setRow w.heap.size R1.toArray := ⟨_, rfl⟩
  have hcp1 : ∀ ty dc, (Builtin.copy_ #[29, 29] ty #[.slice (some ⟨w.heap.size, k * 6, none⟩) (p + 1 - k) dc, .slice (some ⟨H, 0, none⟩) 1 1]).run Tryz.prog W1 = .ok (goInt 1) W2 := fun ty dc => by
    rw [run_copy_rowN W1 _ _ ty 47 6 1 w.heap.size (k * 6) (p + 1 - k) dc ⟨H, 0, none⟩ 1 1 ROW.toArray 47 d Tryz.underlying29 hsz hW1N (by simp only [Nat.min_def]; split <;> omega) (by rw [hd])
      (fun j v hj => by
        rw [Addr.add_lit]
        simp only [World.cell?]; rw [hW1H]; simpa using hj)
      (by rw [hd, List.size_toArray, hROWl]; omega) h1, hd, List.toList_toArray, hW2, hR1]
    rfl
  have hgN : g ≠ w.heap.size := by omega
  have hW2g : W2.heap[g]? = some (.cells cur 47 (0, 0)) := by rw [hW2, setRow_other _ _ _ _ hgN]; exact hW1g
  have hW2N : W2.heap[w.heap.size]? = some (.cells R1.toArray 47 (0, 0)) := by rw [hW2]; exact setRow_heap W1 _ _ _ _ _ hW1N
  obtain ⟨R2, hR2⟩ : ∃ R2 : List Value, R2 = R1.take (k * 6 + 6) ++ cs.drop (k * 6) ++ R1.drop (p * 6 + 6) := ⟨_, rfl⟩
  obtain ⟨W3, hW3⟩ : ∃ W3, W3 = W2.drew.setRow w.heap.size R2.toArray := ⟨_, rfl⟩
  have hcp2 : ∀ ty dc sc, (Builtin.copy_ #[29, 29] ty #[.slice (some ⟨w.heap.size, (k + 1) * 6, none⟩) (p - k) dc, .slice (some ⟨g, k * 6, none⟩) (p - k) sc]).run Tryz.prog W2.drew = .ok (goInt ((p - k : Nat) : Int)) W3 := fun ty dc sc => by
    rw [show (k + 1) * 6 = k * 6 + 6 from Nat.succ_mul k 6, run_copy_rowN W2.drew _ _ ty 47 6 (p - k) w.heap.size (k * 6 + 6) (p - k) dc ⟨g, k * 6, none⟩ (p - k) sc R1.toArray 47 (cs.drop (k * 6)) Tryz.underlying29 hsz hW2N (by simp only [Nat.min_def]; split <;> omega) (by rw [List.length_drop, hcl]; omega)
      (fun j v hj => by
        rw [Addr.add_lit]
        rw [List.getElem?_drop, ← hcs, List.getElem?_take] at hj
        split at hj
        · simp only [World.cell?]; rw [show W2.drew.heap[g]? = some (.cells cur 47 (0, 0)) from hW2g]; simpa using hj
        · cases hj)
      (by rw [List.length_drop, hcl, List.size_toArray, hR1l]; omega) (fun v hv => h1c v (List.mem_of_mem_drop hv)), hW3, hR2, List.toList_toArray, show k * 6 + 6 + (cs.drop (k * 6)).length = p * 6 + 6 by rw [List.length_drop, hcl]; omega]
  have hfin : R2 = cs.take (k * 6) ++ d ++ cs.drop (k * 6) ++ Z.drop (p * 6 + 6 - k * 6) := by
    rw [hR2, hR1, hROW]; exact row_new cs d Z (k * 6) 6 (p * 6) (by omega) hcl hd
  have HPOST : Hld (InsPost 47 6 B w (.slice (some ⟨g, 0, none⟩) p cap) p (cs.take (k * 6) ++ d ++ cs.drop (k * 6)) (.returned (.slice (some ⟨w.heap.size, 0, none⟩) (p + 1) G)) W3) := ⟨_, rfl, by
      refine ⟨by simp only [List.length_append, List.length_take, List.length_drop]; omega, .inr ⟨w.heap.size, G, R2.toArray, rfl, hBw, by rw [hW3]; exact setRow_heap W2.drew _ _ _ _ _ hW2N, hGn, by unfold maxLen; omega, ?_, ?_⟩⟩
      · rw [hfin]; simp only [List.size_toArray, List.length_append, List.length_take, List.length_drop]; omega
      · rw [hfin]
        show List.take _ (_ ++ _) = _
        rw [List.take_append_of_le_length (by simp only [List.length_append, List.length_take, List.length_drop]; omega), List.take_of_length_le (by simp only [List.length_append, List.length_take, List.length_drop]; omega)],
    ⟨by rw [hW3, hW2, hW1]; rfl, by rw [hW3, hW2, hW1]; rfl, by rw [hW3, hW2, hW1]; rfl, by rw [hW3, setRow_size]; show _ ≤ W2.heap.size; rw [hW2, setRow_size, hW1]; simp, fun q hq hqn => by
      have hqg : q ≠ w.heap.size := by omega
      rw [hW3, setRow_other _ _ _ _ hqg]
      show W2.heap[q]? = _
      rw [hW2, setRow_other _ _ _ _ hqg, hW1]
      exact Below.heap_alloc w.drew _ q hq⟩, fun q hq => by
        obtain rfl : w.heap.size = q := by simpa [Value.ownBlock] using hq
        exact .inr (Nat.le_refl _)⟩
  have hin : k ≤ p := by omega
  have hin1 : (k : Int) ≤ (p : Int) + 1 := by omega
  have hpk1 : p + 1 - (k + 1) = p - k := by omega
  have hck : ¬ (cap = k) := by omega
  have hGk : ¬ (G = k) := by omega
  have hGk1 : ¬ (G = k + 1) := by omega
  have hz2 : ¬ ((k : Int) = (p : Int)) := by omega
  have hz3 : (cap : Int) < (p : Int) + 1 := by omega
  have hb1 : (0 : Int) ≤ (k : Int) + 1 := by omega
  have htn : ((k : Int) + 1).toNat = k + 1 := by omega
  have hw1 : IntKind.i64.wrap ((k : Int) + 1) = (k : Int) + 1 := by rw [IntKind.wrap_i64]; omega
  clear hg hH hW1g hW1H hW1N hW2g hW2N hfin hR2 hR1 hW1 hW2 hW3 hROW hZ hcl hcs hZl hROWl hR1l hkk hik hG hold hi0 hz0 hzs hzb hzl hsz
  go_enter Tryz.func86, Tryz.ntmps86
  go_wp2_with (first
    | (at_builtin; refine Lib.wpList_append_run _ rfl _ _ _ _ rfl _ _ rfl rfl _ _ (hrz _) ?_)
    | (at_builtin; refine wpList_copy_runI _ rfl _ _ 29 29 rfl _ _ rfl rfl (hcp1 _ _) ?_))
  go_region_law (refine step_copy_runI rfl _ _ 29 29 rfl _ _ (by simp [Act.eval, Act.put]) (by simp [Act.eval, Act.put]) (hcp2 _ _ _) ?_)
  go_wp2_with fail
  go_ret
  exact HPOST.out

theorem insDoc_any (B : Nat) (w : World) (sl : Value) (p : Nat) (cs : List Value) (hown : w.ownsRow B 47 6 sl p cs) (k : Nat) (hk : k ≤ p) (H : Nat) (d : List Value) (hH : w.heap[H]? = some (.cells d.toArray 47 (0, 0))) (hd : d.length = 6)
    (h1 : ∀ u ∈ d, u.oneCell' = true) (h1c : ∀ u ∈ cs, u.oneCell' = true) (hBw : B ≤ w.heap.size) (hp : p ≤ 1000000) (hne : sl.ownBlock ≠ some H) :
    Calls Tryz.prog 86 #[sl, .int .i64 k, .slice (some ⟨H, 0, none⟩) 1 1] w (InsPost 47 6 B w sl p (cs.take (k * 6) ++ d ++ cs.drop (k * 6))) := by
  rcases Nat.lt_or_ge k p with h | h
  · have hcl := hown.1
    rcases id hown.2 with ⟨hv, hn⟩ | ⟨g, cap, cur, rfl, hB, hg, h2, h3, h4, h5⟩
    · omega
    · rcases Nat.lt_or_ge cap (p + 1) with hr | hr
      · exact insDoc_grow B w hBw g p cap cur cs hg h5 hcl h2 hp k h hr H d hH hd h1 h1c
      · exact insDoc_room B w g p cap cur cs hB hg h4 h5 (by unfold maxLen at h3; exact h3) k h hr H d hH hd h1 h1c (fun e => hne (by rw [e]; rfl))
  · obtain rfl : k = p := by omega
    exact insDoc_end B w sl k cs hown H d hH hd h1 hBw hp

end Go.Proofs.YtkhhbckpddkhlaaGreatDoor

namespace Go.Proofs.YtkhhbckpddkhlaaGreatDoor
open Go.Shelf Go.RowKit

/-- formed up to j -/
def DocsTo (l : List DR) (j : Nat) : Prop := (∀ (i : Nat) x, i < j → l[i]? = some x → docF x = true) ∧ (∀ (i : Nat) a b, i + 1 < j → l[i]? = some a → l[i + 1]? = some b → strLt a.id b.id = true)
open Classical in
noncomputable def docsF (l : List DR) : Bool := decide (DocsTo l l.length)
theorem DocsTo.zero (l : List DR) : DocsTo l 0 := ⟨fun i x h => by omega, fun i a b h => by omega⟩
theorem DocsTo.next {l : List DR} {j : Nat} {x : DR} (h : DocsTo l j) (hx : l[j]? = some x) (h1 : docF x = true) (h2 : ∀ a k, j = k + 1 → l[k]? = some a → strLt a.id x.id = true) : DocsTo l (j + 1) := by
  refine ⟨fun i y hi hy => ?_, fun i a b hi ha hb => ?_⟩
  · by_cases e : i = j
    · subst e; rw [hx] at hy; cases hy; exact h1
    · exact h.1 i y (by omega) hy
  · by_cases e : i + 1 = j
    · rw [e, hx] at hb; cases hb; exact h2 a i e.symm ha
    · exact h.2 i a b (by omega) ha hb
open Classical in
theorem docsF_bad1 {l : List DR} {j : Nat} {x : DR} (hx : l[j]? = some x) (h1 : docF x = false) : docsF l = false := by
  unfold docsF
  refine decide_eq_false fun h => ?_
  have := h.1 j x (List.getElem?_eq_some_iff.1 hx).1 hx
  rw [h1] at this; cases this
open Classical in
theorem docsF_bad2 {l : List DR} {j : Nat} {a x : DR} (ha : l[j]? = some a) (hx : l[j + 1]? = some x) (h1 : strLt a.id x.id = false) : docsF l = false := by
  unfold docsF
  refine decide_eq_false fun h => ?_
  have := h.2 j a x (List.getElem?_eq_some_iff.1 hx).1 ha hx
  rw [h1] at this; cases this
open Classical in
theorem docsF_end {l : List DR} (h : DocsTo l l.length) : docsF l = true := by
  unfold docsF; exact decide_eq_true h
theorem up_docs {l : List DR} (h : DocsTo l l.length) : upN (idsD l) := by
  unfold upN
  rw [List.pairwise_iff_getElem]
  intro i j hi hj hij
  rw [idsD_len] at hi hj
  simp only [idsD, List.getElem_map]
  obtain ⟨d, rfl⟩ : ∃ d, j = i + 1 + d := ⟨j - (i + 1), by omega⟩
  induction d with
  | zero => exact h.2 i _ _ (by omega) (List.getElem?_eq_getElem hi) (List.getElem?_eq_getElem hj)
  | succ d ih =>
    exact strLt_trans (ih (by rw [idsD_len] at *; omega) (by omega) (by omega)) (h.2 (i + 1 + d) _ _ (by omega) (List.getElem?_eq_getElem (by omega)) (List.getElem?_eq_getElem hj))

/-- a write's document -/
def newD (x : WR) : DR := ⟨x.id, (readF x.text.data.toList).1⟩
/-- one write laid over documents -/
def tailD (x : WR) (D : List DR) : List DR := match foundD (idsD D) x.id with
  | true => D.drop (placeN (idsD D) x.id + 1)
  | false => D.drop (placeN (idsD D) x.id)
def layD (x : WR) (D : List DR) : List DR := match x.gone with
  | true => D.take (placeN (idsD D) x.id) ++ tailD x D
  | false => D.take (placeN (idsD D) x.id) ++ newD x :: tailD x D
/-- all writes of a space -/
def laidD (sp : Int) : List WR → List DR → List DR
  | [], D => D
  | x :: l, D => laidD sp l (if x.sp = sp then layD x D else D)
theorem tail_mem {x : WR} {D : List DR} {y : DR} (h : y ∈ tailD x D) : y ∈ D.drop (placeN (idsD D) x.id) := by
  unfold tailD at h
  split at h
  · rw [← List.drop_drop] at h; exact List.mem_of_mem_drop h
  · exact h
theorem ids_drop (D : List DR) (k : Nat) : idsD (D.drop k) = (idsD D).drop k := by simp [idsD, List.map_drop]
theorem ids_take (D : List DR) (k : Nat) : idsD (D.take k) = (idsD D).take k := by simp [idsD, List.map_take]
theorem foundD_at {nm : List ByteArray} {s : ByteArray} (h : foundD nm s = true) : nm[placeN nm s]? = some s := of_decide_eq_true h
theorem tail_gt {x : WR} {D : List DR} (hu : upN (idsD D)) {y : DR} (h : y ∈ tailD x D) : strLt x.id y.id = true := by
  unfold tailD at h
  split at h
  · rename_i hf
    have hx := foundD_at hf
    obtain ⟨i, hi, rfl⟩ := List.getElem_of_mem h
    rw [List.length_drop] at hi
    refine upN_lt hu (show placeN (idsD D) x.id < placeN (idsD D) x.id + 1 + i by omega) hx ?_
    rw [List.getElem_drop]
    exact idsD_at (List.getElem?_eq_getElem (by omega))
  · rename_i hf
    obtain ⟨i, hi, rfl⟩ := List.getElem_of_mem h
    rw [List.length_drop] at hi
    have hl : placeN (idsD D) x.id < D.length := by omega
    have h0 := idsD_at (List.getElem?_eq_getElem hl)
    have hge := placeN_at h0
    have hne : D[placeN (idsD D) x.id].id ≠ x.id := fun e => by
      have hf2 : foundD (idsD D) x.id = false := hf
      unfold foundD at hf2
      rw [h0, e] at hf2; simp at hf2
    have h1 := strLt_total hge hne
    rw [List.getElem_drop]
    by_cases hi0 : i = 0
    · subst hi0; simpa using h1
    · exact strLt_trans h1 (upN_lt hu (show placeN (idsD D) x.id < placeN (idsD D) x.id + i by omega) h0 (idsD_at (List.getElem?_eq_getElem (by omega))))
theorem lay_up {x : WR} {D : List DR} (hu : upN (idsD D)) : upN (idsD (layD x D)) := by
  have ht : upN (idsD (tailD x D)) := by
    unfold tailD
    split
    · rw [ids_drop]; exact List.Pairwise.sublist (List.drop_sublist _ _) hu
    · rw [ids_drop]; exact List.Pairwise.sublist (List.drop_sublist _ _) hu
  have hk : upN (idsD (D.take (placeN (idsD D) x.id))) := by rw [ids_take]; exact List.Pairwise.sublist (List.take_sublist _ _) hu
  have hlt : ∀ a ∈ idsD (D.take (placeN (idsD D) x.id)), strLt a x.id = true := fun a ha => by
    rw [ids_take] at ha
    obtain ⟨i, hi, rfl⟩ := List.getElem_of_mem ha
    rw [List.length_take] at hi
    refine placeN_lt (nm := idsD D) (s := x.id) (t := i) (by omega) ?_
    rw [List.getElem_take]
    exact List.getElem?_eq_getElem (by omega)
  have hgt : ∀ b ∈ idsD (tailD x D), strLt x.id b = true := fun b hb => by
    obtain ⟨y, hy, rfl⟩ := List.mem_map.1 hb
    exact tail_gt hu hy
  unfold layD
  split
  · unfold upN idsD at *
    rw [List.map_append, List.pairwise_append]
    exact ⟨hk, ht, fun a ha b hb => strLt_trans (hlt a ha) (hgt b hb)⟩
  · unfold upN idsD at *
    rw [List.map_append, List.map_cons, List.pairwise_append, List.pairwise_cons]
    refine ⟨hk, ⟨fun b hb => hgt b hb, ht⟩, fun a ha b hb => ?_⟩
    rcases List.mem_cons.1 hb with rfl | hb
    · exact hlt a ha
    · exact strLt_trans (hlt a ha) (hgt b hb)
theorem lay_len (x : WR) (D : List DR) : (layD x D).length ≤ D.length + 1 := by
  have hp := placeN_le (idsD D) x.id
  rw [idsD_len] at hp
  have ht : (tailD x D).length ≤ D.length - placeN (idsD D) x.id := by
    unfold tailD
    split <;> rw [List.length_drop] <;> omega
  unfold layD
  split
  · rw [List.length_append, List.length_take]; omega
  · rw [List.length_append, List.length_take, List.length_cons]; omega

/-- the reference's way: one write laid over documents -/
def rlayD (x : WR) : Bool → List DR → List DR
  | laid, [] => if laid = true then [] else [newD x]
  | laid, d :: D => if laid = false ∧ strLt d.id x.id = false then newD x :: (if d.id = x.id then rlayD x true D else d :: rlayD x true D) else (if d.id = x.id then rlayD x laid D else d :: rlayD x laid D)
theorem rlay_rest {x : WR} : ∀ {D : List DR}, (∀ y ∈ D, strLt x.id y.id = true) → rlayD x true D = D
  | [], _ => rfl
  | d :: D, h => by
    have hd : d.id ≠ x.id := fun e => by have := h d (by simp); rw [e, strLt_irrefl] at this; cases this
    rw [rlayD, if_neg (by simp), if_neg hd, rlay_rest fun y hy => h y (List.mem_cons_of_mem _ hy)]
theorem rlay_eq (x : WR) : ∀ {D : List DR}, upN (idsD D) → rlayD x x.gone D = layD x D
  | [], _ => by
    obtain ⟨s, i, g, t⟩ := x
    cases g <;> simp [rlayD, layD, tailD, foundD, idsD]
  | d :: D, hu => by
    have hu2 : upN (idsD D) := (List.pairwise_cons.1 hu).2
    have hd : ∀ y ∈ D, strLt d.id y.id = true := fun y hy => (List.pairwise_cons.1 hu).1 _ (List.mem_map_of_mem hy)
    cases hlt : strLt d.id x.id with
    | true =>
      have hne : d.id ≠ x.id := fun e => by rw [e, strLt_irrefl] at hlt; cases hlt
      have hp : placeN (idsD (d :: D)) x.id = placeN (idsD D) x.id + 1 := by
        have := placeN_eq (nm := idsD (d :: D)) (s := x.id) (i := placeN (idsD D) x.id + 1) (by have := placeN_le (idsD D) x.id; simp [idsD] at *; omega) (fun t y ht hy => by
          cases t with
          | zero => simp [idsD] at hy; rw [← hy]; exact hlt
          | succ t => exact placeN_lt (nm := idsD D) (t := t) (by omega) (by simpa [idsD] using hy)) (fun y hy => placeN_at (nm := idsD D) (by simpa [idsD] using hy))
        exact this
      have hf : foundD (idsD (d :: D)) x.id = foundD (idsD D) x.id := by
        unfold foundD; rw [hp]; simp [idsD]
      have ih := rlay_eq x hu2
      rw [rlayD, if_neg (by simp [hlt]), if_neg hne, ih]
      unfold layD tailD
      rw [hp, hf]
      cases x.gone <;> cases foundD (idsD D) x.id <;> simp
    | false =>
      have hp : placeN (idsD (d :: D)) x.id = 0 := placeN_eq (Nat.zero_le _) (fun t y ht => by omega) (fun y hy => by simp [idsD] at hy; rw [← hy]; exact hlt)
      have hrest : ∀ y ∈ D, strLt x.id y.id = true := fun y hy => by
        by_cases e : d.id = x.id
        · rw [← e]; exact hd y hy
        · exact strLt_trans (strLt_total hlt e) (hd y hy)
      have hf : foundD (idsD (d :: D)) x.id = decide (d.id = x.id) := by
        unfold foundD; rw [hp]; simp [idsD]
      unfold layD tailD
      rw [hp, hf]
      cases hg : x.gone with
      | true =>
        rw [rlayD, if_neg (by simp), rlay_rest hrest]
        by_cases e : d.id = x.id <;> simp [e]
      | false =>
        rw [rlayD, if_pos ⟨rfl, hlt⟩, rlay_rest hrest]
        by_cases e : d.id = x.id <;> simp [e]

end Go.Proofs.YtkhhbckpddkhlaaGreatDoor
