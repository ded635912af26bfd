import Derived.Test.YtafilaiinbggoaaGreatQT24
import Derived.Laws.Bits64b
namespace Go.Proofs.YtafilaiinbggoaaGreat
open Go.RowKit Go.Maps
theorem bits_or_i64_nat (a b : Nat) (ha : a < 9223372036854775808) (hb : b < 9223372036854775808) : bits .or .i64 (a : Int) (b : Int) = ((a ||| b : Nat) : Int) := by
 have hx : a ||| b < 2 ^ 63 := Nat.or_lt_two_pow (by omega) (by omega)
 have h1 : (BitVec.ofInt 64 (a : Int)).toNat = a := by
  rw [BitVec.ofInt_natCast, BitVec.toNat_ofNat]; exact Nat.mod_eq_of_lt (by omega)
 have h2 : (BitVec.ofInt 64 (b : Int)).toNat = b := by
  rw [BitVec.ofInt_natCast, BitVec.toNat_ofNat]; exact Nat.mod_eq_of_lt (by omega)
 show IntKind.i64.wrap ((BitVec.ofInt 64 (a : Int) ||| BitVec.ofInt 64 (b : Int)).toNat : Int) = _
 rw [BitVec.toNat_or, h1, h2, IntKind.wrap_i64]
 omega
def numB (l : Bts) : Nat := l.foldl (fun x d => x * 256 + d.toNat) 0
theorem numB_snoc (l : Bts) (x : UInt8) : numB (l ++ [x]) = numB l * 256 + x.toNat := by unfold numB; rw [List.foldl_append]; rfl
theorem numB_lt : ∀ (j : Nat) {l : Bts}, l.length = j -> numB l < 256 ^ j
 | 0, l, h => by
  obtain rfl := List.length_eq_zero_iff.1 h
  decide
 | j + 1, l, h => by
  have hne : l ≠ [] := fun e => by rw [e] at h; simp at h
  obtain ⟨m, x, rfl⟩ : ∃ m x, l = m ++ [x] := ⟨l.dropLast, l.getLast hne, (List.dropLast_concat_getLast hne).symm⟩
  rw [numB_snoc]
  have := numB_lt j (l := m) (by simpa using h)
  have := x.toNat_lt
  rw [Nat.pow_succ]
  omega
theorem next_byte {z xn j : Nat} (hz : z < 256 ^ j) (hj : j < 4) (hx : xn < 256) : bits BinOp.or IntKind.i64 ((z : Int) * 256) (xn : Int) = ((z * 256 + xn : Nat) : Int) := by
 have h2 : (256 : Nat) ^ j <= 256 ^ 3 := Nat.pow_le_pow_right (by decide) (by omega)
 have h3 : (256 : Nat) ^ 3 = 16777216 := by decide
 have e1 : ((z : Int) * 256) = ((z * 256 : Nat) : Int) := (Int.natCast_mul z 256).symm
 rw [e1, bits_or_i64_nat _ _ (by omega) (by omega)]
 have e2 := Nat.shiftLeft_add_eq_or_of_lt (show xn < 2 ^ 8 from hx) z
 rw [Nat.shiftLeft_eq] at e2
 rw [<- e2]
def RestAt (c : CF) (w : World) (rb : Nat) (l : Bts) : Prop := ∃ g off cap, w.heap[rb]? = some (.cells #[.slice (some ⟨g, off, none⟩) l.length cap] 23 (0, 0)) /\ YAt c (.slice (some ⟨g, off, none⟩) l.length cap) l
theorem RestAt.keep {c : CF} {w w' : World} {rb : Nat} {l : Bts} (h : RestAt c w rb l) (hk : w'.heap[rb]? = w.heap[rb]?) : RestAt c w' rb l := by
 obtain ⟨g, off, cap, h1, h2⟩ := h
 exact ⟨g, off, cap, hk.trans h1, h2⟩
def TakePost (c : CF) (rb : Nat) (l : Bts) (n : Nat) (w : World) (e : Ending) (w' : World) : Prop :=
 ∃ sv cs, e = .returned (.tuple #[sv, .bool true]) /\ OwnS 1 RY 5 w.heap.size w' sv n (l.take n) cs /\ RestAt c w' rb (l.drop n) /\ w.grownBy w' (some rb)
set_option maxRecDepth 100000 in
set_option maxHeartbeats 8000000 in
theorem node_take {c : CF} {rb n : Nat} {l : Bts} {w : World} (hr : RestAt c w rb l) (hc : CLe c (cfU w)) (hn : n <= l.length) (hl : l.length <= 100000) :
  Calls Tryz.prog 88 #[.pointer (some ⟨rb, 0, none⟩), .int .i64 (n : Int)] w (TakePost c rb l n w) := by
 obtain ⟨g, off, cap, hbox, hy⟩ := hr
 have hcap : l.length <= cap /\ cap <= 9223372036854775807 := by
  obtain ⟨_, _, e, h1, h2, _⟩ := hy
  simp only [Value.slice.injEq] at e
  rw [<- e.2.2] at h1 h2
  exact ⟨h1, h2⟩
 have y0 : w.cell? ⟨rb, 0, none⟩ = some (.slice (some ⟨g, off, none⟩) l.length cap) := by simp [World.cell?, hbox]
 have f0 : w.frozen? ⟨rb, 0, none⟩ = false := by simp [World.frozen?, hbox]
 have hkl : (n : Int) <= (l.length : Int) := by omega
 have b1 : decide ((l.length : Int) < (n : Int)) = false := decide_eq_false (by omega)
 have hkc : (n : Int) <= (cap : Int) := by omega
 have hlc : (l.length : Int) <= (cap : Int) := by omega
 have HY := HoldT.mk (And.intro hy (And.intro hbox hc))
 have hru : ¬ IsU w rb := fun ⟨cs, fr, e⟩ => by rw [hbox] at e; cases e
 have HRU := HoldT.mk hru
 clear hy hbox hc hru
 have main : ∀ (off2 : Nat) (cap2 : Nat), YAt c (.slice (some ⟨g, off2, none⟩) (l.length - n) cap2) (l.drop n) -> ∀ (w1 : World), w1 = w.setCell ⟨rb, 0, none⟩ (.slice (some ⟨g, off2, none⟩) (l.length - n) cap2) ->
   Calls Tryz.prog 29 #[.slice (some ⟨g, off, none⟩) n n] w1 fun e w' => ∃ sv, e = .returned sv /\ ∃ cs, OwnS 1 RY 5 w.heap.size w' sv n (l.take n) cs /\ RestAt c w' rb (l.drop n) /\ w.grownBy w' (some rb) := by
  intro off2 cap2 hy2 w1 hw1
  have hg : w.grownBy w1 (some rb) := by rw [hw1]; exact set6_grown _ _
  have hln : (l.take n).length = n := by rw [List.length_take]; omega
  have h1 := yat_part HY.out.1 (i := 0) (j := n) (Nat.zero_le _) hn (cap' := n) (by omega) (by omega)
  rw [Nat.add_zero, Nat.sub_zero, List.drop_zero] at h1
  have h2 : YAt (cfU w1) (.slice (some ⟨g, off, none⟩) n n) (l.take n) := by rw [hw1]; exact (h1.mono RY_mono HY.out.2.2).mono RY_mono (cfU_set HRU.out)
  refine (cloneY_any (l.take n) _ (cf w1) w1 (fun _ _ _ h => h) (h2.mono RY_mono (cfU_cf _)) (by omega)).mono ?_
  rintro e w2 ⟨sv, cs, rfl, ho, hgr, hbl⟩
  refine ⟨sv, rfl, cs, ⟨by rw [<- hln]; exact row_base ho hg.size, hln, hgr, Nat.le_trans hg.size hbl.size⟩, ?_, grown_below hg hbl⟩
  have hk : w1.heap[rb]? = some (.cells #[.slice (some ⟨g, off2, none⟩) (l.drop n).length cap2] 23 (0, 0)) := by
   rw [hw1, set_selfT HY.out.2.1, List.length_drop]; rfl
  exact ⟨g, off2, cap2, kept hk hbl, by rw [List.length_drop]; exact hy2⟩
 have HM := HoldT.mk main
 clear main
 by_cases hcn : cap = n
 ·have hln : l.length = n := by omega
  have hy2 : YAt c (.slice (some ⟨g, off, none⟩) (l.length - n) 0) (l.drop n) := by
   rw [List.drop_eq_nil_of_le (by omega), show l.length - n = 0 by omega]
   exact SAt.empty (by omega)
  have HZ := HoldT.mk (HM.out off 0 hy2 _ rfl)
  clear hln hy2
  go_enter Tryz.func88, Tryz.ntmps88
  go_wp2_with fail
  refine HZ.out.mono ?_
  rintro e w2 ⟨sv, rfl, cs, h1, h2, h3⟩
  have HP := HoldT.mk (And.intro h1 (And.intro h2 h3))
  clear h1 h2 h3
  go_wp2_with fail
  go_ret2
  exact ⟨sv, cs, rfl, HP.out.1, HP.out.2.1, HP.out.2.2⟩
 ·have hy2 : YAt c (.slice (some ⟨g, off + n, none⟩) (l.length - n) (cap - n)) (l.drop n) := by
   have := yat_part HY.out.1 (i := n) (j := l.length) hn (Nat.le_refl _) (cap' := cap - n) (by omega) (by omega)
   rw [List.take_of_length_le (by rw [List.length_drop]; exact Nat.le_refl _)] at this
   exact this
  have HZ := HoldT.mk (HM.out (off + n) (cap - n) hy2 _ rfl)
  clear hy2
  go_enter Tryz.func88, Tryz.ntmps88
  go_wp2_with fail
  refine HZ.out.mono ?_
  rintro e w2 ⟨sv, rfl, cs, h1, h2, h3⟩
  have HP := HoldT.mk (And.intro h1 (And.intro h2 h3))
  clear h1 h2 h3
  go_wp2_with fail
  go_ret2
  exact ⟨sv, cs, rfl, HP.out.1, HP.out.2.1, HP.out.2.2⟩
def NumPost (c : CF) (rb : Nat) (l : Bts) (n : Nat) (w : World) (e : Ending) (w' : World) : Prop :=
 e = .returned (.int .i64 (numB (l.take n) : Int)) /\ RestAt c w' rb (l.drop n) /\ w.grownBy w' (some rb)
set_option maxRecDepth 100000 in
set_option maxHeartbeats 8000000 in
theorem node_number {c : CF} {rb n : Nat} {l : Bts} {w : World} (hr : RestAt c w rb l) (hc : CLe c (cfU w)) (hn : n <= l.length) (hl : l.length <= 100000) (h4 : n <= 4) :
  Calls Tryz.prog 87 #[.pointer (some ⟨rb, 0, none⟩), .int .i64 (n : Int)] w (NumPost c rb l n w) := by
 have HT := HoldT.mk (node_take hr hc hn hl)
 have hml : (l.take n).length = n := by rw [List.length_take]; omega
 clear hr hc
 go_enter Tryz.func87, Tryz.ntmps87
 go_wp2_with fail
 refine HT.out.mono ?_
 rintro e w1 ⟨sv, cs, rfl, ho, hr1, hg1⟩
 obtain ⟨m, hm⟩ : ∃ m, m = l.take n := ⟨_, rfl⟩
 rw [<- hm] at ho hml
 obtain ⟨a, cap, rfl⟩ := ho.shape
 have HO := HoldT.mk (And.intro ho (And.intro hr1 (And.intro hg1 hml)))
 have HM := HoldT.mk hm
 clear ho hr1 hg1 hm HT hml
 go_wp2_with fail
 go_loopw [5, 9, 18] (fun x d i wr => ∃ (j : Nat), i = .int .i64 j /\ x = .int .i64 (numB (m.take j) : Int) /\ j <= n /\ wr = w1) (fun _ _ i _ => n - (intOf i).toNat)
 case atStart => exact ⟨0, rfl, rfl, Nat.zero_le _, rfl⟩
 case round =>
  obtain ⟨j, rfl, rfl, hj, hwr⟩ := hrel
  obtain rfl := hwr.symm
  by_cases hlt : j < n
  ·have hml := HO.out.2.2.2
   obtain ⟨x, hx⟩ : ∃ x, m[j]? = some x := ⟨m[j]'(by omega), List.getElem?_eq_getElem (by omega)⟩
   obtain ⟨a2, cap2, e2, _, _, h3⟩ := HO.out.1.at_ RY_mono
   simp only [Value.slice.injEq] at e2
   obtain ⟨b, off, d, ea, hd, hcd, hR⟩ := h3 j x hx
   have hR' : d = [.int .u8 (x.toNat : Int)] := hR
   have hc0 := hcd 0 _ (by rw [hR']; rfl)
   rw [Nat.mul_one, Nat.add_zero] at hc0
   unfold cf at hc0
   rw [<- e2.1] at ea
   subst ea
   have hnj : numB (m.take (j + 1)) = numB (m.take j) * 256 + x.toNat := by rw [take_succ hx, numB_snoc]
   have hlt256 : numB (m.take j) < 256 ^ j := numB_lt j (by rw [List.length_take]; omega)
   have hnb := next_byte hlt256 (by omega : j < 4) x.toNat_lt
   have hb256 : numB (m.take j) < 16777216 := Nat.lt_of_lt_of_le hlt256 (Nat.le_trans (Nat.pow_le_pow_right (by decide) (by omega : j <= 3)) (by decide))
   obtain ⟨z, hz⟩ : ∃ z, z = numB (m.take j) := ⟨_, rfl⟩
   obtain ⟨xn, hxn⟩ : ∃ xn, xn = x.toNat := ⟨_, rfl⟩
   have hxl : xn < 256 := by rw [hxn]; exact x.toNat_lt
   rw [<- hz] at hnj hnb hb256 |-
   rw [<- hxn] at hnj hnb hc0
   have HNB := HoldT.mk hnb
   have HNJ := HoldT.mk hnj
   have b4 : (j : Int) < (n : Int) := by omega
   clear hx hd hcd hR hR' hlt256 hnb hnj h3 hml e2 hz hxn
   go_wp2_with fail
   exact ⟨⟨j + 1, by go_num, by rw [HNB.out, HNJ.out], hlt, trivial⟩, by simp [intOf]; omega⟩
  ·obtain rfl : j = n := by omega
   have hmt : m.take j = m := List.take_of_length_le (by have := HO.out.2.2.2; omega)
   rw [hmt]
   clear hmt
   go_wp2_with fail
   go_ret
   exact ⟨by rw [HM.out]; rfl, HO.out.2.1, HO.out.2.2.1⟩
end Go.Proofs.YtafilaiinbggoaaGreat
