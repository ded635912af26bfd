import Derived.Test.YtafilaiinbggoaaGreatQS05
import Derived.Test.YtafilaiinbggoaaGreatQS17
import Derived.Test.YtafilaiinbggoaaGreatQS19
import Derived.Laws.Bits64
namespace Go.Proofs.YtafilaiinbggoaaGreat
open Go.RowKit Go.Maps
theorem u8_ne0 {c : UInt8} (hz : ¬ c = 0) : ¬ (c.toNat : Int) = 0 := fun e => hz (UInt8.toNat_inj.1 (show c.toNat = 0 by omega))
theorem push_newY {ops : Array Oper} {rest : List Oper} {o : Oper} {a : Act} {Q : Exit -> Act -> World -> Prop} (hgd : o.guard = none) (s x : Operand) (ho : o.op = .call { callee := .builtin .append, args := #[s, x], argTypes := #[23, 23] })
  (B : Nat) (w : World) (sl : Value) (p : Nat) (xs : Bts) (cs : List Value) (hb : OwnS 1 RY 5 B w sl p xs cs) (hs : a.eval s = sl) (vs : Array Value) (ys : Bts) (hvs : vs.toList = bvY ys) (k : Nat) (hk : k = ys.length) (H : Nat) (hx : a.eval x = .slice (some ⟨H, 0, none⟩) k k) (hH : w.heap.size = H) (hlen : p + k <= 1000000)
  (h : ∀ sl' w' cs', OwnS 1 RY 5 B w' sl' (p + k) (xs ++ ys) cs' -> Grew w w' sl sl' -> wpList Tryz.prog ops Q rest (a.put o.dst sl') w') : wpList Tryz.prog ops Q (o :: rest) a (w.alloc (.cells vs 5)) := by
 subst hH
 subst hk
 have h1 : SAt 1 RY (cfN sl (w.alloc (.cells vs 5))) (.slice (some ⟨w.heap.size, 0, none⟩) ys.length ys.length) ys := (new_sat hvs (by omega)).mono RY_mono (cfA_cfN fun g hg => (hb.low g hg).2)
 refine push_src RY_mono RY_one hgd s x ho infoY Tryz.underlying23 rfl (by decide) B _ sl p xs cs (hb.alloc RY_mono _) hs _ ys h1 hx (by omega) (by decide) ?_
 intro sl' w' cs' h2 h3
 exact h sl' w' cs' h2 (((Grew.refl w sl).alloc _).trans h3)
theorem own_newY {B : Nat} {w : World} {vs : Array Value} {ys : Bts} (hvs : vs.toList = bvY ys) (hl : ys.length <= 1000000) (hB : B <= w.heap.size) : OwnS 1 RY 5 B (w.alloc (.cells vs 5)) (.slice (some ⟨w.heap.size, 0, none⟩) ys.length ys.length) ys.length ys (bvY ys) := by
 refine ⟨⟨by rw [bvY_len]; omega, .inr ⟨w.heap.size, ys.length, vs, rfl, hB, heap_alloc_new w _, Nat.le_refl _, by unfold maxLen; omega, ?_, ?_⟩⟩, rfl, ry_row _ _, ?_⟩
 ·rw [<- Array.length_toList, hvs, bvY_len, Nat.mul_one]
 ·rw [hvs, Nat.mul_one, <- bvY_len ys, List.take_length]
 ·exact Nat.le_trans hB ((Below.refl _ w).alloc (Nat.le_refl _) _).size
theorem escB_cons (c : UInt8) (l : Bts) : escB (c :: l) = (if c = 0 then [0, 255] else [c]) ++ escB l := by
 show (if c = 0 then 0 :: 255 :: escB l else c :: escB l) = _
 split <;> rfl
theorem escB_snoc (l : Bts) (c : UInt8) : escB (l ++ [c]) = escB l ++ (if c = 0 then [0, 255] else [c]) := by
 induction l with
 | nil =>
  rw [List.nil_append, escB_cons]
  show _ ++ [] = [] ++ _
  rw [List.append_nil, List.nil_append]
 | cons x l ih => rw [List.cons_append, escB_cons, ih, escB_cons, List.append_assoc]
def RowB (l : Bts) (w : World) (e : Ending) (w' : World) : Prop := ∃ sv cs, e = .returned sv /\ OwnS 1 RY 5 w.heap.size w' sv l.length l cs /\ Below w.heap.size w w'
set_option maxHeartbeats 4000000 in
set_option maxRecDepth 100000 in
theorem stamp_front {s : UInt8} {name : Bts} {nv : Value} {mark : UInt8} {w : World} (hn : YAt (cf w) nv name) (hl : name.length <= 100000) :
  Calls Tryz.prog 40 #[.int .i64 (s.toNat : Int), nv, .int .u8 (mark.toNat : Int)] w (RowB (frontB s name mark) w) := by
 obtain ⟨na, nc, rfl⟩ := hn.form
 obtain ⟨n, hnn⟩ : ∃ n, n = name.length := ⟨_, rfl⟩
 rw [<- hnn] at hn |-
 have hs256 : (s.toNat : Int) % 256 = (s.toNat : Int) := by have := s.toNat_lt; omega
 obtain ⟨q, hq⟩ : ∃ q, q = w.heap.size := ⟨_, rfl⟩
 obtain ⟨w1, hw1⟩ : ∃ w1, w1 = w.alloc (.cells #[.int .u8 (s.toNat : Int)] 5) := ⟨_, rfl⟩
 have ho1 : OwnS 1 RY 5 w.heap.size w1 (.slice (some ⟨q, 0, none⟩) 1 1) 1 [s] (bvY [s]) := by rw [hw1, hq]; exact own_newY (ys := [s]) rfl (by simp) (Nat.le_refl _)
 have hb1 : Below w.heap.size w w1 := by rw [hw1]; exact (Below.refl _ w).alloc (Nat.le_refl _) _
 have HN := HoldT.mk (And.intro hn hnn)
 have H1 := HoldT.mk (And.intro ho1 hb1)
 have HW := HoldT.mk (And.intro hq hw1)
 have hn9 : n <= 100000 := by omega
 clear hn hnn ho1 hb1 hq hw1 hl
 go_enter Tryz.func40, Tryz.ntmps40
 go_upto_region 2 with (fail)
 rw [<- HW.out.1, <- HW.out.2]
 clear HW
 go_wp2_with fail
 have HK1 := HoldT.mk (show ∃ p cs, OwnS 1 RY 5 w.heap.size w1 (.slice (some ⟨q, 0, none⟩) 1 1) p (s :: escB (name.take 0)) cs /\ p <= 1 + 2 * 0 /\ Below w.heap.size w w1 from ⟨1, _, H1.out.1, Nat.le_refl _, H1.out.2⟩)
 clear H1
 go_loopw [7, 9, 15] (fun s7 s9 s15 wr => ∃ j : Nat, s15 = .int .i64 (j : Int) /\ j <= n /\ HoldT (∃ p cs, OwnS 1 RY 5 w.heap.size wr s7 p (s :: escB (name.take j)) cs /\ p <= 1 + 2 * j /\ Below w.heap.size w wr)) (fun _ _ s15 _ => n - (intOf s15).toNat)
 case atStart => exact ⟨0, rfl, Nat.zero_le _, HK1⟩
 case round =>
  obtain ⟨j, rfl, hj, HJ⟩ := hrel
  clear HK1
  obtain ⟨p, cs, ho, hp, hb⟩ := HJ.out
  obtain ⟨a3, c3, rfl⟩ := ho.shape
  have HO := HoldT.mk (And.intro ho hb)
  have hp9 : p <= 300000 := by omega
  have HP := HoldT.mk hp
  clear ho hb HJ hp
  by_cases hlt : j < n
  ·obtain ⟨c, hc⟩ : ∃ c, name[j]? = some c := ⟨name[j]'(by rw [<- HN.out.2]; exact hlt), List.getElem?_eq_getElem _⟩
   obtain ⟨_, _, e9, _, _, hel⟩ := (HN.out.1.mono RY_mono (cle_below HO.out.2) : SAt 1 RY (cf wr) _ _)
   simp only [Value.slice.injEq] at e9
   obtain ⟨b, off, d, ea, hdl, hcc, hrd'⟩ := hel j _ hc
   obtain rfl : na = some ⟨b, off, none⟩ := e9.1.trans ea
   have hrd2 : d = [.int .u8 (c.toNat : Int)] := hrd'
   subst hrd2
   have c0 := hcc 0 _ rfl
   unfold cf at c0
   rw [Nat.mul_one, Nat.add_zero] at c0
   have HT := HoldT.mk (show name.take (j + 1) = name.take j ++ [c] from take_succ hc)
   have b1 : decide ((j : Int) < (n : Int)) = true := decide_eq_true (by omega)
   have b2 : (j : Int) < (n : Int) := by omega
   clear e9 hel ea hdl hcc hrd' hc
   by_cases hz : c = 0
   ·have hz2 : (c.toNat : Int) = 0 := by rw [hz]; rfl
    have HZ := HoldT.mk hz
    clear hz
    go_wp2_with (at_builtin; refine push_new RY_mono rfl _ _ rfl infoY Tryz.underlying23 rfl (by decide) w.heap.size _ _ p _ _ HO.out.1 rfl _ [.int .u8 (c.toNat : Int)] (by simp [hz2]) rfl (by simp [Value.oneCell']) c rfl _ rfl rfl (by omega) (by decide) ?_)
    intro sl2 w2 ho2 hg2
    obtain ⟨a4, c4, rfl⟩ := ho2.shape
    have HO2 := HoldT.mk (And.intro ho2 (HO.out.2.trans (HO.out.1.below hg2)))
    clear ho2 hg2
    go_wp2_with (at_builtin; refine push_new RY_mono rfl _ _ rfl infoY Tryz.underlying23 rfl (by decide) w.heap.size _ _ (p + 1) _ _ HO2.out.1 rfl _ [.int .u8 ((255 : UInt8).toNat : Int)] rfl rfl (by simp [Value.oneCell']) 255 rfl _ rfl rfl (by omega) (by decide) ?_)
    intro sl3 w3 ho3 hg3
    obtain ⟨a5, c5, rfl⟩ := ho3.shape
    have HE := HoldT.mk (show ∃ p' cs, OwnS 1 RY 5 w.heap.size w3 (.slice a5 (p + 1 + 1) c5) p' (s :: escB (name.take (j + 1))) cs /\ p' <= 1 + 2 * (j + 1) /\ Below w.heap.size w w3 from ⟨_, _, by
     rw [HT.out, escB_snoc, if_pos HZ.out]
     have := ho3
     rw [HZ.out] at this
     exact this, by have := HP.out; omega, HO2.out.2.trans (HO2.out.1.below hg3)⟩)
    clear ho3 hg3
    go_wp2_with fail
    exact ⟨⟨j + 1, by go_num, hlt, HE⟩, by simp [intOf]; omega⟩
   ·have hz2 : ¬ (c.toNat : Int) = 0 := u8_ne0 hz
    have HZ := HoldT.mk hz
    clear hz
    go_wp2_with (at_builtin; refine push_new RY_mono rfl _ _ rfl infoY Tryz.underlying23 rfl (by decide) w.heap.size _ _ p _ _ HO.out.1 rfl _ [.int .u8 (c.toNat : Int)] rfl rfl (by simp [Value.oneCell']) c rfl _ rfl rfl (by omega) (by decide) ?_)
    intro sl3 w3 ho3 hg3
    obtain ⟨a5, c5, rfl⟩ := ho3.shape
    have HE := HoldT.mk (show ∃ p' cs, OwnS 1 RY 5 w.heap.size w3 (.slice a5 (p + 1) c5) p' (s :: escB (name.take (j + 1))) cs /\ p' <= 1 + 2 * (j + 1) /\ Below w.heap.size w w3 from ⟨_, _, by
     rw [HT.out, escB_snoc, if_neg HZ.out]
     exact ho3, by have := HP.out; omega, HO.out.2.trans (HO.out.1.below hg3)⟩)
    clear ho3 hg3
    go_wp2_with fail
    exact ⟨⟨j + 1, by go_num, hlt, HE⟩, by simp [intOf]; omega⟩
  ·obtain rfl : j = n := by omega
   have b1 : ¬ (j : Int) < (j : Int) := by omega
   go_wp2_with (at_builtin; refine push_newY rfl _ _ rfl w.heap.size _ _ p _ _ HO.out.1 rfl _ [0, mark] rfl 2 rfl _ rfl rfl (by omega) ?_)
   intro sl3 w3 cs3 ho3 hg3
   obtain ⟨a5, c5, rfl⟩ := ho3.shape
   have HE := HoldT.mk (show RowB (frontB s name mark) w (.returned (.slice a5 (p + 2) c5)) w3 from ⟨_, cs3, rfl, by
    have h1 := ho3
    rw [List.take_of_length_le (by rw [<- HN.out.2]; exact Nat.le_refl _)] at h1
    have h2 := h1.len
    unfold frontB
    rw [h2]
    exact h1, HO.out.2.trans (HO.out.1.below hg3)⟩)
   clear ho3 hg3
   go_wp2_with fail
   go_ret
   exact HE.out
set_option maxHeartbeats 1000000 in
set_option maxRecDepth 100000 in
theorem stamp_wrong {s : UInt8} {n cap : Nat} {a : Option Addr} {w : World} (hl : n <= 200) :
  Calls Tryz.prog 38 #[.int .i64 (s.toNat : Int), .slice a n cap] w fun e w' => e = .returned (.int .i64 0) /\ w' = w := by
 have h1 : ¬ (s.toNat : Int) < 0 := by omega
 have h2 : ¬ (255 : Int) < (s.toNat : Int) := by have := s.toNat_lt; omega
 have h3 : ¬ (200 : Int) < (n : Int) := by omega
 have h4 : ¬ 200 < n := by omega
 go_enter Tryz.func38, Tryz.ntmps38
 go_wp2_with fail
 go_ret
 exact ⟨rfl, rfl⟩
end Go.Proofs.YtafilaiinbggoaaGreat
namespace Go.Proofs.YtafilaiinbggoaaGreat
open Go.RowKit Go.Maps
theorem u64B_get (x : Nat) {j : Nat} (h : j < 8) : (u64B x)[j]? = some (UInt8.ofNat (x / 2 ^ (56 - 8 * j))) := by
 match j, h with
 | 0, _ => rfl
 | 1, _ => rfl
 | 2, _ => rfl
 | 3, _ => rfl
 | 4, _ => rfl
 | 5, _ => rfl
 | 6, _ => rfl
 | 7, _ => simp [u64B]
theorem u64B_cell (x j : Nat) : (((UInt8.ofNat (x / 2 ^ (56 - 8 * j))).toNat : Nat) : Int) = (x : Int) / 2 ^ (56 - 8 * j) % 256 := by
 have h : (UInt8.ofNat (x / 2 ^ (56 - 8 * j))).toNat = x / 2 ^ (56 - 8 * j) % 256 := by simp
 rw [h]; simp
def AppB (B : Nat) (sv : Value) (l : Bts) (w : World) (e : Ending) (w' : World) : Prop := ∃ sv' cs, e = .returned sv' /\ OwnS 1 RY 5 B w' sv' l.length l cs /\ Grew w w' sv sv'
set_option maxRecDepth 100000 in
set_option maxHeartbeats 4000000 in
theorem stamp_append64 {B p : Nat} {sv : Value} {l : Bts} {cs : List Value} {x : Nat} {w : World} (ho : OwnS 1 RY 5 B w sv p l cs) (hp : p <= 900000) :
  Calls Tryz.prog 39 #[sv, .int .u64 (x : Int)] w (AppB B sv (l ++ u64B x) w) := by
 obtain ⟨a0, c0, rfl⟩ := ho.shape
 have HK1 := HoldT.mk (show ∃ cs, OwnS 1 RY 5 B w (.slice a0 p c0) (p + 0) (l ++ (u64B x).take 0) cs /\ Grew w w (.slice a0 p c0) (.slice a0 p c0) from ⟨cs, by simpa using ho, Grew.refl _ _⟩)
 clear ho
 go_enter Tryz.func39, Tryz.ntmps39
 go_wp2_with fail
 go_loopw [0, 5] (fun v i wr => ∃ j : Nat, i = .int .i64 (56 - 8 * (j : Int)) /\ j <= 8 /\ HoldT (∃ cs, OwnS 1 RY 5 B wr v (p + j) (l ++ (u64B x).take j) cs /\ Grew w wr (.slice a0 p c0) v)) (fun _ i _ => (intOf i + 8).toNat)
 case atStart => exact ⟨0, rfl, Nat.zero_le _, HK1⟩
 case round =>
  obtain ⟨j, rfl, hj, HJ⟩ := hrel
  clear HK1
  obtain ⟨cs1, ho, hg⟩ := HJ.out
  obtain ⟨a3, c3, rfl⟩ := ho.shape
  have HO := HoldT.mk (And.intro ho hg)
  obtain ⟨p1, hp1⟩ : ∃ p1, p1 = p + j := ⟨_, rfl⟩
  rw [<- hp1] at HO |-
  have hp19 : p1 <= 900008 := by omega
  have HP1 := HoldT.mk hp1
  clear ho hg HJ hp1
  by_cases hlt : j < 8
  ·have HC := HoldT.mk (And.intro (show (u64B x).take (j + 1) = (u64B x).take j ++ [UInt8.ofNat (x / 2 ^ (56 - 8 * j))] from take_succ (u64B_get x hlt)) (u64B_cell x j))
   go_wp2_with (at_builtin; refine push_newY rfl _ _ rfl B _ _ p1 _ _ HO.out.1 rfl _ [UInt8.ofNat (x / 2 ^ (56 - 8 * j))] (by simp only [bvY, List.map_cons, List.map_nil]; rw [HC.out.2]) 1 rfl _ rfl rfl (by omega) ?_)
   intro sl3 w3 cs3 ho3 hg3
   obtain ⟨a5, c5, rfl⟩ := ho3.shape
   have HE := HoldT.mk (show ∃ cs, OwnS 1 RY 5 B w3 (.slice a5 (p1 + 1) c5) (p + (j + 1)) (l ++ (u64B x).take (j + 1)) cs /\ Grew w w3 (.slice a0 p c0) (.slice a5 (p1 + 1) c5) from ⟨cs3, by
    have e : p + (j + 1) = p1 + 1 := by have := HP1.out; omega
    rw [HC.out.1, e]
    have := ho3
    rw [<- List.append_assoc] at this |-
    exact this, HO.out.2.trans hg3⟩)
   clear ho3 hg3
   go_wp2_with fail
   exact ⟨⟨j + 1, by go_num, hlt, HE⟩, by simp [intOf]; omega⟩
  ·obtain rfl : j = 8 := by omega
   have HE := HoldT.mk (show AppB B (.slice a0 p c0) (l ++ u64B x) w (.returned (.slice a3 p1 c3)) wr from ⟨_, cs1, rfl, by
    have h1 := HO.out.1
    rw [show (u64B x).take 8 = u64B x from rfl] at h1
    rw [h1.len]
    exact h1, HO.out.2⟩)
   go_wp2_with fail
   go_ret
   exact HE.out
set_option maxHeartbeats 1000000 in
set_option maxRecDepth 100000 in
theorem stamp_First {s : UInt8} {name : Bts} {nv : Value} {w : World} (hn : YAt (cf w) nv name) (hl : name.length <= 200) :
  Calls Tryz.prog 25 #[.int .i64 (s.toNat : Int), nv] w (RowB (frontB s name 0) w) := by
 obtain ⟨na, nc, rfl⟩ := hn.form
 have HW := HoldT.mk (stamp_wrong (s := s) (a := na) (cap := nc) (w := w) hl)
 have HF := HoldT.mk (show Calls Tryz.prog 40 #[.int .i64 (s.toNat : Int), .slice na name.length nc, .int .u8 0] w (RowB (frontB s name 0) w) from stamp_front (mark := 0) hn (by omega))
 clear hn hl
 generalize name.length = n at HW HF |-
 go_enter Tryz.func25, Tryz.ntmps25
 go_wp2_with fail
 refine HW.out.mono ?_
 rintro e w' ⟨rfl, hw'⟩
 obtain rfl := hw'.symm
 go_wp2_with fail
 refine HF.out.mono ?_
 rintro e w2 ⟨sv, cs, rfl, ho, hb⟩
 have HE := HoldT.mk (show RowB (frontB s name 0) w (.returned sv) w2 from ⟨sv, cs, rfl, ho, hb⟩)
 clear ho hb HF HW
 go_wp2_with fail
 go_ret
 exact HE.out
set_option maxHeartbeats 1000000 in
set_option maxRecDepth 100000 in
theorem stamp_Behind {s : UInt8} {name : Bts} {nv : Value} {w : World} (hn : YAt (cf w) nv name) (hl : name.length <= 200) :
  Calls Tryz.prog 37 #[.int .i64 (s.toNat : Int), nv] w (RowB (frontB s name 1) w) := by
 obtain ⟨na, nc, rfl⟩ := hn.form
 have HW := HoldT.mk (stamp_wrong (s := s) (a := na) (cap := nc) (w := w) hl)
 have HF := HoldT.mk (show Calls Tryz.prog 40 #[.int .i64 (s.toNat : Int), .slice na name.length nc, .int .u8 1] w (RowB (frontB s name 1) w) from stamp_front (mark := 1) hn (by omega))
 clear hn hl
 generalize name.length = n at HW HF |-
 go_enter Tryz.func37, Tryz.ntmps37
 go_wp2_with fail
 refine HW.out.mono ?_
 rintro e w' ⟨rfl, hw'⟩
 obtain rfl := hw'.symm
 go_wp2_with fail
 refine HF.out.mono ?_
 rintro e w2 ⟨sv, cs, rfl, ho, hb⟩
 have HE := HoldT.mk (show RowB (frontB s name 1) w (.returned sv) w2 from ⟨sv, cs, rfl, ho, hb⟩)
 clear ho hb HF HW
 go_wp2_with fail
 go_ret
 exact HE.out
theorem xor_top (t : Nat) (h : t <= 18446744073709551615) : bits BinOp.xor IntKind.u64 IntKind.u64.max (t : Int) = ((18446744073709551615 - t : Nat) : Int) := by
 have h1 := bits_xor_u64_nat 18446744073709551615 t (by decide) (by omega)
 have h2 : 18446744073709551615 ^^^ t = 18446744073709551615 - t := by
  have h3 := congrArg BitVec.toNat (BitVec.allOnes_xor (x := BitVec.ofNat 64 t))
  rw [BitVec.toNat_xor, BitVec.toNat_not, BitVec.toNat_allOnes, BitVec.toNat_ofNat, Nat.mod_eq_of_lt (by omega)] at h3
  exact h3
 rw [h2] at h1
 exact h1
def KeyB (l : Bts) (w : World) (e : Ending) (w' : World) : Prop := ∃ sv cs, e = .returned (.tuple #[sv, .int .i64 0]) /\ OwnS 1 RY 5 w.heap.size w' sv l.length l cs /\ Below w.heap.size w w'
set_option maxHeartbeats 4000000 in
set_option maxRecDepth 100000 in
theorem stamp_Write {s : UInt8} {name : Bts} {nv : Value} {t : Nat} {w : World} (hn : YAt (cf w) nv name) (hl : name.length <= 200) (ht : t <= 18446744073709551615) :
  Calls Tryz.prog 22 #[.agg #[.int .i64 (s.toNat : Int), nv, .int .u64 (t : Int)]] w (KeyB (stampB s name t) w) := by
 obtain ⟨na, nc, rfl⟩ := hn.form
 obtain ⟨n, hnn⟩ : ∃ n, n = name.length := ⟨_, rfl⟩
 rw [<- hnn] at hn |-
 obtain ⟨q, hq⟩ : ∃ q, q = w.heap.size := ⟨_, rfl⟩
 obtain ⟨w1, hw1⟩ : ∃ w1, w1 = w.alloc (.cells #[.int .i64 (s.toNat : Int), .slice na n nc, .int .u64 (t : Int)] 66) := ⟨_, rfl⟩
 have hb1 : Below w.heap.size w w1 := by rw [hw1]; exact (Below.refl _ w).alloc (Nat.le_refl _) _
 have hbx : w1.heap[q]? = some (.cells #[.int .i64 (s.toNat : Int), .slice na n nc, .int .u64 (t : Int)] 66 (0, 0)) := by rw [hw1, hq]; exact heap_alloc_new w _
 have x0 : w1.cell? ⟨q, 0, none⟩ = some (.int .i64 (s.toNat : Int)) := by simp [World.cell?, hbx]
 have x1 : w1.cell? ⟨q, 1, none⟩ = some (.slice na n nc) := by simp [World.cell?, hbx]
 have x2 : w1.cell? ⟨q, 2, none⟩ = some (.int .u64 (t : Int)) := by simp [World.cell?, hbx]
 have g0 := Grow.cell x0
 have g1 := Grow.cell x1
 have g2 := Grow.cell x2
 have HWR := HoldT.mk (stamp_wrong (s := s) (n := n) (a := na) (cap := nc) (w := w1) (by omega))
 have HN := HoldT.mk (And.intro (show ∀ w2, Below w1.heap.size w1 w2 -> YAt (cf w2) (.slice na n nc) name from fun w2 h => (hn.mono RY_mono (cle_below hb1)).mono RY_mono (cle_below h)) (And.intro hb1 (show name.length <= 200 from hl)))
 have HW := HoldT.mk (And.intro hq hw1)
 have HXT := HoldT.mk (xor_top t ht)
 clear hn hnn hb1 hbx hq hw1 hl
 go_enter Tryz.func22, Tryz.ntmps22
 go_upto_region 1 with (fail)
 rw [<- HW.out.1, <- HW.out.2]
 clear HW
 go_wp2_with fail
 refine HWR.out.mono ?_
 rintro e w2 ⟨rfl, hw'⟩
 obtain rfl := hw'.symm
 clear x0 x1 x2 HWR
 go_upto_region 4 with (fail)
 refine wp_region_mix 11 rfl (by kernel_rfl) ?_
 rintro w4 hb4
 have HG := HoldT.mk hb4
 have HW4 := HoldT.mk hb4
 clear hb4
 refine mixl_seg (by kernel_rfl) (fun _ _ d _ _ h => by cases d <;> exact h) [0, 1, 2, 3, 5, 6, 7] [_, _, _, _, _, _, _] 4 11 rfl _ _ _ rfl (by kernel_rfl) (growC HG.out) ?_
 repeat (go_big_quiet_step (fail))
 refine wpQuiet_nil ?_
 clear g0 g1 g2
 refine mixl_act (i := 4) rfl (by kernel_rfl) (growC HG.out) rfl (fun K hK => ?_)
 have HF := HoldT.mk (show Calls Tryz.prog 40 #[.int .i64 (s.toNat : Int), .slice na n nc, .int .u8 0] w4 (RowB (frontB s name 0) w4) from stamp_front (mark := 0) (HN.out.1 w4 HG.out) (by have := HN.out.2.2; omega))
 go_wp2_with fail
 refine HF.out.mono ?_
 rintro e w5 ⟨sv, cs, rfl, ho, hb5⟩
 replace HG := HoldT.mk (HG.out.trans (hb5.mono HG.out.size))
 have HA := HoldT.mk (stamp_append64 (x := 18446744073709551615 - t) ho (by have := escB_len name; have := HN.out.2.2; unfold frontB; simp only [List.length_cons, List.length_append, List.length_nil]; omega))
 have HS := HoldT.mk (And.intro (ho.le) (And.intro (fun g hg => (ho.low g hg).1) hb5))
 clear ho hb5 HF
 go_wp2_with fail
 refine mixl_act (i := 8) rfl (by kernel_rfl) (growC HG.out) rfl (fun K hK => ?_)
 go_wp2_with fail
 rw [HXT.out]
 refine HA.out.mono ?_
 rintro e w6 ⟨sv2, cs2, rfl, ho2, hg2⟩
 have hb6 : Below w4.heap.size w5 w6 := hg2.below HS.out.1 HS.out.2.1
 have HE := HoldT.mk (show KeyB (stampB s name t) w (.returned (.tuple #[sv2, .int .i64 0])) w6 from ⟨sv2, cs2, rfl, own_base ho2 (Nat.le_trans HN.out.2.1.size HW4.out.size), (HN.out.2.1.trans (HW4.out.mono HN.out.2.1.size)).trans ((HS.out.2.2.trans hb6).mono (Nat.le_trans HN.out.2.1.size HW4.out.size))⟩)
 replace HG := HoldT.mk (HG.out.trans (hb6.mono HW4.out.size))
 clear hb6 ho2 hg2 HA HS
 go_wp2_with fail
 refine mixl_seg (by kernel_rfl) (fun _ _ d _ _ h => by cases d <;> exact h) [9, 10] [_, _] 0 2 rfl _ _ _ rfl (by kernel_rfl) (growC HG.out) ?_
 repeat (go_big_quiet_step (fail))
 refine wpQuiet_nil ?_
 refine mix_done (by kernel_rfl) (growC HG.out) ?_
 go_wp2_with fail
 refine bodyPost_ret (v := .tuple #[sv2, .int .i64 0]) (by simp [results, Tryz.results22, go_sem]) rfl ?_
 exact HE.out
end Go.Proofs.YtafilaiinbggoaaGreat
