import Derived.Test.YtafilaiinbggoaaGreatQS19
import Derived.Test.YtafilaiinbggoaaGreatQS21
import Derived.Test.YtafilaiinbggoaaGreatQS27
import Derived.Test.YtafilaiinbggoaaGreatQS30
namespace Go.Proofs.YtafilaiinbggoaaGreat
open Go.RowKit Go.Maps
theorem next_byte64 {z xn j : Nat} (hz : z < 256 ^ j) (hj : j < 8) (hx : xn < 256) : bits BinOp.or IntKind.u64 (IntKind.u64.wrap ((z : Int) * 256)) (IntKind.u64.wrap (xn : Int)) = ((z * 256 + xn : Nat) : Int) := by
 have h1 : z * 256 < 256 ^ (j + 1) := by rw [Nat.pow_succ]; omega
 have h2 : 256 ^ (j + 1) <= 18446744073709551616 := by
  have : (256 : Nat) ^ (j + 1) <= 256 ^ 8 := Nat.pow_le_pow_right (by decide) (by omega)
  exact Nat.le_trans this (by decide)
 have e1 : IntKind.u64.wrap ((z : Int) * 256) = ((z * 256 : Nat) : Int) := by rw [IntKind.wrap_u64, Int.emod_eq_of_lt (by omega) (by omega)]; exact (Int.natCast_mul z 256).symm
 have e2 : IntKind.u64.wrap (xn : Int) = (xn : Int) := by rw [IntKind.wrap_u64]; omega
 rw [e1, e2, bits_or_u64_nat _ _ (by omega) (by omega)]
 have e3 := Nat.shiftLeft_add_eq_or_of_lt (show xn < 2 ^ 8 from hx) z
 rw [Nat.shiftLeft_eq] at e3
 rw [<- e3]
theorem numB_u64 (x : Nat) (h : x <= 18446744073709551615) : numB (u64B x) = x := by
 unfold numB u64B
 simp only [List.foldl_cons, List.foldl_nil, UInt8.toNat_ofNat']
 omega
set_option maxRecDepth 100000 in
set_option maxHeartbeats 4000000 in
theorem stamp_get64 {x g off cap : Nat} {w : World} (hx : x <= 18446744073709551615) (hb : YAt (cf w) (.slice (some ⟨g, off, none⟩) 8 cap) (u64B x)) :
  Calls Tryz.prog 68 #[.slice (some ⟨g, off, none⟩) 8 cap] w fun e w' => e = .returned (.int .u64 (x : Int)) /\ w' = w := by
 obtain ⟨_, _, e9, hcap, hcap2, hel⟩ := hb
 simp only [Value.slice.injEq] at e9
 obtain ⟨rfl, h8, rfl⟩ := e9
 clear h8
 have hcap : 8 <= cap := hcap
 have hcap3 : (8 : Int) <= (cap : Int) := by omega
 have HEL := HoldT.mk hel
 have HX := HoldT.mk hx
 obtain ⟨l, hl⟩ : ∃ l, l = u64B x := ⟨_, rfl⟩
 have hll : l.length = 8 := by rw [hl]; rfl
 rw [<- hl] at HEL
 have HL := HoldT.mk (And.intro hl hll)
 clear hel hx hl hll
 go_enter Tryz.func68, Tryz.ntmps68
 go_wp2_with fail
 go_loopw [3, 5, 9] (fun s3 s5 s9 wr => ∃ (j z : Nat), s9 = .int .i64 j /\ s3 = .int .u64 (z : Int) /\ j <= 8 /\ HoldT (z = numB (l.take j)) /\ wr = w) (fun _ _ s9 _ => 8 - (intOf s9).toNat)
 case atStart => exact ⟨0, 0, rfl, rfl, Nat.zero_le _, ⟨rfl⟩, rfl⟩
 case round =>
  obtain ⟨j, z, rfl, rfl, hj, HZ, hwr⟩ := hrel
  subst hwr
  by_cases hlt : j < 8
  ·obtain ⟨c, hc⟩ : ∃ c, l[j]? = some c := ⟨l[j]'(by rw [HL.out.2]; exact hlt), List.getElem?_eq_getElem _⟩
   obtain ⟨b, o, d, ea, hdl, hcc, hrd⟩ := HEL.out j _ hc
   cases ea
   have hrd' : d = [.int .u8 (c.toNat : Int)] := hrd
   subst hrd'
   have c0 := hcc 0 _ rfl
   unfold cf at c0
   rw [Nat.mul_one, Nat.add_zero] at c0
   have hz : z < 256 ^ j := by rw [HZ.out]; exact numB_lt j (by rw [List.length_take, HL.out.2]; omega)
   have HN := HoldT.mk (next_byte64 hz hlt c.toNat_lt)
   have HS := HoldT.mk (show z * 256 + c.toNat = numB (l.take (j + 1)) by rw [take_succ hc, numB_snoc, HZ.out])
   obtain ⟨cn, hcn⟩ : ∃ cn, cn = c.toNat := ⟨_, rfl⟩
   rw [<- hcn] at c0 HN HS
   have b1 : decide ((j : Int) < 8) = true := decide_eq_true (by omega)
   have b2 : (j : Int) < 8 := by omega
   clear hc hdl hcc hrd hz hcn
   go_wp2_with fail
   exact ⟨⟨j + 1, z * 256 + cn, by go_num, by rw [HN.out], hlt, HS, trivial⟩, by simp [intOf]; omega⟩
  ·obtain rfl : j = 8 := by omega
   have hz : z = x := by rw [HZ.out, List.take_of_length_le (by rw [HL.out.2]; exact Nat.le_refl _), HL.out.1, numB_u64 x HX.out]
   subst hz
   go_wp2_with fail
   go_ret
   exact ⟨rfl, rfl⟩
theorem stampB_tail (s : UInt8) (name : Bts) (t : Nat) : (stampB s name t).drop ((escB name).length + 3) = u64B (18446744073709551615 - t) := by
 unfold stampB
 rw [List.drop_append]
 have : (frontB s name 0).length = (escB name).length + 3 := by unfold frontB; simp
 rw [this, Nat.sub_self, List.drop_zero, List.drop_eq_nil_of_le (by omega), List.nil_append]
def kdeps : Nat -> List Nat
 | 10 => [9]
 | 11 => [10]
 | _ => []
def KF (B : Nat) (x t : Nat) (s : UInt8) : Nat -> List Value -> Value -> World -> Prop := fun i _ v w => if i = 9 then v = .int .u64 (x : Int) else if i = 10 then v = .int .u64 (t : Int) else if i = 11 then v = .agg #[.int .i64 (s.toNat : Int), .slice none 0 0, .int .u64 (t : Int)] else ∃ k, v = .pointer (some ⟨k, 0, none⟩) /\ B <= k /\ w.heap[k]? = some (.cells #[.int .i64 0, .slice none 0 0, .int .u64 0] 66 (0, 0))
theorem kf_below {B x t : Nat} {s : UInt8} : ∀ (i : Nat) (ds : List Value) (v : Value) (w w' : World), KF B x t s i ds v w -> Below w.heap.size w w' -> KF B x t s i ds v w' := fun i ds v w w' h hb => by
 unfold KF at h |-
 split
 ·rename_i e; rw [if_pos e] at h; exact h
 ·rename_i e; rw [if_neg e] at h
  split
  ·rename_i e; rw [if_pos e] at h; exact h
  ·rename_i e; rw [if_neg e] at h
   split
   ·rename_i e; rw [if_pos e] at h; exact h
   ·rename_i e; rw [if_neg e] at h
    obtain ⟨k, h1, h2, h3⟩ := h
    exact ⟨k, h1, h2, kept h3 hb⟩
def lenS : Value -> Nat
 | .slice _ n _ => n
 | _ => 0
def ReadB (s : UInt8) (name : Bts) (t : Nat) (w : World) (e : Ending) (w' : World) : Prop := ∃ nv cs, e = .returned (.tuple #[.agg #[.int .i64 (s.toNat : Int), nv, .int .u64 (t : Int)], .int .i64 0]) /\ OwnS 1 RY 5 w.heap.size w' nv name.length name cs /\ Below w.heap.size w w'
theorem stampB_at (s : UInt8) (name : Bts) (t : Nat) : stampB s name t = [s] ++ escB name ++ [0, 0] ++ u64B (18446744073709551615 - t) := by
 unfold stampB frontB
 simp
set_option maxRecDepth 100000 in
set_option maxHeartbeats 8000000 in
theorem stamp_Read {s : UInt8} {name : Bts} {t : Nat} {bv : Value} {w : World} (hb : YAt (cf w) bv (stampB s name t)) (hl : name.length <= 200) (ht : t <= 18446744073709551615) :
  Calls Tryz.prog 44 #[bv] w (ReadB s name t w) := by
 obtain ⟨a, cap, rfl⟩ := hb.form
 obtain ⟨m, hm⟩ : ∃ m, m = (escB name).length := ⟨_, rfl⟩
 have hn : (stampB s name t).length = m + 11 := by rw [stampB_len, hm]
 have hm9 : m <= 400 := by have := escB_len name; omega
 rw [hn] at hb |-
 have hb1 := hb
 obtain ⟨_, _, e9, hcap, hcap2, hel⟩ := hb1
 simp only [Value.slice.injEq] at e9
 obtain ⟨rfl, h8, rfl⟩ := e9
 rw [hn] at hcap
 clear h8
 obtain ⟨g, off, d, ea, hdl, hcc, hrd⟩ := hel 0 s (by rw [stampB_at]; rfl)
 cases ea
 have hrd' : d = [.int .u8 (s.toNat : Int)] := hrd
 subst hrd'
 have x0 := hcc 0 _ rfl
 unfold cf at x0
 have x1 : w.cell? ⟨g, off, none⟩ = some (.int .u8 (s.toNat : Int)) := by simpa using x0
 have h3 : ((m : Int) + 11) <= (cap : Int) := by omega
 have h4 : ¬ ((m : Int) + 11) < 11 := by omega
 have q1 : m + 11 - 8 = m + 3 := by omega
 have q2 : m + 11 - (m + 3) = 8 := by omega
 have q3 : wrap64 (s.toNat : Int) = (s.toNat : Int) := by have := s.toNat_lt; unfold wrap64; omega
 have q4 : (m : Int) + 11 - 8 = (m : Int) + 3 := by omega
 obtain ⟨r, hr⟩ : ∃ r, r = w.heap.size := ⟨_, rfl⟩
 obtain ⟨w1, hw1⟩ : ∃ w1, w1 = w.alloc (.cells #[.int .i64 0, .slice none 0 0, .int .u64 0] 66) := ⟨_, rfl⟩
 have hb1 : Below w.heap.size w w1 := by rw [hw1]; exact (Below.refl _ w).alloc (Nat.le_refl _) _
 have hbx : w1.heap[r]? = some (.cells #[.int .i64 0, .slice none 0 0, .int .u64 0] 66 (0, 0)) := by rw [hw1, hr]; exact heap_alloc_new w _
 have hgl : g < w.heap.size := lt_of_cell x1
 have x2 : w1.cell? ⟨g, off, none⟩ = some (.int .u8 (s.toNat : Int)) := cle_below hb1 _ _ _ (show cf w g off = _ from x1)
 have H1 := HoldT.mk (And.intro hb1 (And.intro hbx (And.intro hgl hr)))
 have HB := HoldT.mk (And.intro hb (And.intro hl (And.intro ht (And.intro hm hn))))
 have HW := HoldT.mk (And.intro hr hw1)
 clear hel hdl hcc hrd x0 x1 hb hl ht hm hn hr hw1 hb1 hbx hgl
 go_enter Tryz.func44, Tryz.ntmps44
 go_upto_region 1 with (fail)
 rw [<- HW.out.1, <- HW.out.2]
 clear HW
 go_upto_region 3 with (fail)
 refine wp_region_mixC (KeepSC (fun q => q = g) w1) 14 rfl (by kernel_rfl) ?_
 have HDR := HoldT.mk ((Below.refl w1.heap.size w1).drew)
 have HST : HoldT (∀ q : Nat, w1.drew.heap[q]? = w1.heap[q]?) := ⟨fun _ => rfl⟩
 generalize w1.drew = v9 at HDR HST |-
 have g1 := KeepS.cell (P := fun q => q = g) x2 rfl
 refine mixl_seg (by kernel_rfl) (fun _ _ d _ _ h => by cases d <;> exact h) [0, 1, 2, 3, 4, 5, 6, 7, 8] [_, _, _, _, _, _, _, _, _] 5 14 rfl _ _ _ rfl (by kernel_rfl) (keepSC fun q _ => HST.out q) ?_
 repeat (go_big_quiet_step (fail))
 refine wpQuiet_nil ?_
 rw [q2, q3]
 clear g1 q1 q2 q3 q4 h4 x2
 refine mixl_acts [9, 10, 11, 12] kdeps (fun wz => Below w1.heap.size w1 wz) (KF w1.heap.size (18446744073709551615 - t) t s) 1 5 rfl _ _ _ (fun wz hz => keepSC fun q e => by rw [e]; exact hz.block g (by have := H1.out.1.size; have := H1.out.2.2.1; omega)) (by kernel_rfl) kf_below ⟨⟨_, rfl, fun env v hv hd K hK => ?op9⟩, ⟨_, rfl, fun env v hv hd K hK => ?op10⟩, ⟨_, rfl, fun env v hv hd K hK => ?op11⟩, ⟨_, rfl, fun env v hv hd K hK => ?op12⟩, trivial⟩ HDR.out (fun env v hv hd => ?fin)
 case op9 =>
  have HC := HoldT.mk (stamp_get64 (x := 18446744073709551615 - t) (g := g) (off := off + (m + 3)) (cap := cap - (m + 3)) (w := v) (by omega) (by
   have h1 := yat_part HB.out.1 (i := m + 3) (j := m + 11) (by omega) (by rw [HB.out.2.2.2.2]; exact Nat.le_refl _) (cap' := cap - (m + 3)) (by omega) (by omega)
   rw [HB.out.2.2.2.1, stampB_tail, show (escB name).length + 11 - ((escB name).length + 3) = 8 by omega, List.take_of_length_le (by unfold u64B; exact Nat.le_refl _), <- HB.out.2.2.2.1] at h1
   exact (h1.mono RY_mono (cle_below H1.out.1)).mono RY_mono (cle_below hv)))
  have HV := HoldT.mk hv
  simp only [kdeps, withD, Act.put, List.setIfInBounds_toArray, List.set_cons_succ, List.set_cons_zero] at hK |-
  clear hd hv
  go_wp2_with fail
  refine HC.out.mono ?_
  rintro e w' ⟨rfl, hw'⟩
  obtain rfl := hw'.symm
  refine hK _ _ HV.out (Below.refl _ _) ?_
  unfold KF
  rw [if_pos rfl]
 case op10 =>
  have HV := HoldT.mk hv
  obtain ⟨h9, _⟩ := hd
  have e9 : env 9 = .int .u64 ((18446744073709551615 - t : Nat) : Int) := h9
  have HXT := HoldT.mk (xor_top (18446744073709551615 - t) (by omega))
  have HTT := HoldT.mk (show 18446744073709551615 - (18446744073709551615 - t) = t by have := HB.out.2.2.1; omega)
  generalize 18446744073709551615 - t = x at e9 HXT HTT hK |-
  simp only [kdeps, withD, dstD, opAt, Option.bind_some, Option.getD_some, e9, Act.put, List.setIfInBounds_toArray, List.set_cons_succ, List.set_cons_zero] at hK |-
  clear hv e9 h9
  go_wp2_with fail
  rw [HXT.out, HTT.out]
  refine hK _ _ HV.out (Below.refl _ _) ?_
  unfold KF
  rw [if_neg (by decide), if_pos rfl]
 case op11 =>
  have HV := HoldT.mk hv
  obtain ⟨h10, _⟩ := hd
  have e10 : env 10 = .int .u64 (t : Int) := h10
  simp only [kdeps, withD, dstD, opAt, Option.bind_some, Option.getD_some, e10, Act.put, List.setIfInBounds_toArray, List.set_cons_succ, List.set_cons_zero] at hK |-
  clear hv e10 h10
  go_wp2_with fail
  refine hK _ _ HV.out (Below.refl _ _) ?_
  unfold KF
  rw [if_neg (by decide), if_neg (by decide), if_pos rfl]
 case op12 =>
  have HV := HoldT.mk hv
  simp only [kdeps, withD, Act.put, List.setIfInBounds_toArray, List.set_cons_succ, List.set_cons_zero] at hK |-
  clear hd hv
  have hbv := (Below.refl v.heap.size v).alloc (Nat.le_refl _) (.cells #[.int .i64 0, .slice none 0 0, .int .u64 0] 66)
  have hnv := heap_alloc_new v (.cells #[.int .i64 0, .slice none 0 0, .int .u64 0] 66)
  have HZ := HoldT.mk (And.intro hbv hnv)
  clear hbv hnv
  go_wp2_with fail
  refine hK _ _ (HV.out.trans (HZ.out.1.mono HV.out.size)) HZ.out.1 ?_
  unfold KF
  rw [if_neg (by decide), if_neg (by decide), if_neg (by decide)]
  exact ⟨_, rfl, HV.out.size, HZ.out.2⟩
 case fin =>
  obtain ⟨h9, h10, h11, h12, _⟩ := hd
  have e9 : env 9 = .int .u64 ((18446744073709551615 - t : Nat) : Int) := h9
  have e10 : env 10 = .int .u64 (t : Int) := h10
  have e11 : env 11 = .agg #[.int .i64 (s.toNat : Int), .slice none 0 0, .int .u64 (t : Int)] := h11
  obtain ⟨k, e12, hk, hbk⟩ : ∃ k, env 12 = .pointer (some ⟨k, 0, none⟩) /\ w1.heap.size <= k /\ v.heap[k]? = some (.cells #[.int .i64 0, .slice none 0 0, .int .u64 0] 66 (0, 0)) := h12
  simp only [withD, dstD, opAt, Option.bind_some, Option.getD_some, e9, e10, e11, e12, Act.put, List.setIfInBounds_toArray, List.set_cons_succ, List.set_cons_zero]
  have y0 : v.cell? ⟨k, 0, none⟩ = some (.int .i64 0) := by simp [World.cell?, hbk]
  have y1 : v.cell? ⟨k, 1, none⟩ = some (.slice none 0 0) := by simp [World.cell?, hbk]
  have y2 : v.cell? ⟨k, 2, none⟩ = some (.int .u64 0) := by simp [World.cell?, hbk]
  have f0 : ∀ j, v.frozen? ⟨k, j, none⟩ = false := fun j => by simp [World.frozen?, hbk]
  have HV := HoldT.mk (And.intro hv (And.intro hk hbk))
  have KS : HoldT (∀ q : Nat, q = g -> v.heap[q]? = w1.heap[q]?) := ⟨fun q e => by rw [e]; exact hv.block g (by have := H1.out.1.size; have := H1.out.2.2.1; omega)⟩
  clear hv hk hbk e9 e10 e11 e12 h9 h10 h11
  refine mixl_act (i := 13) rfl (by kernel_rfl) (keepSC KS.out) rfl (fun K hK => ?_)
  go_wp2_with fail
  obtain ⟨w5, hw5⟩ : ∃ w5, w5 = set3 v k (.int .i64 (s.toNat : Int)) (.slice none 0 0) (.int .u64 (t : Int)) := ⟨_, rfl⟩
  have hw5' : ((v.setCell ⟨k, 0, none⟩ (.int .i64 (s.toNat : Int))).setCell ⟨k, 1, none⟩ (.slice none 0 0)).setCell ⟨k, 2, none⟩ (.int .u64 (t : Int)) = w5 := by rw [hw5]; rfl
  have hg5 : v.grownBy w5 (some k) := by rw [hw5]; exact set3_grown _ _ _ _ _
  have hx5 : w5.heap[k]? = some (.cells #[.int .i64 (s.toNat : Int), .slice none 0 0, .int .u64 (t : Int)] 66 (0, 0)) := by rw [hw5]; exact set3_heap HV.out.2.2
  have hb5 : Below w1.heap.size w1 w5 := HV.out.1.grown hg5 HV.out.1.size fun q e => by cases e; exact HV.out.2.1
  rw [hw5']
  have HST0 := HoldT.mk (show ∃ nv cs, w5.heap[k]? = some (.cells #[.int .i64 (s.toNat : Int), nv, .int .u64 (t : Int)] 66 (0, 0)) /\ OwnS 1 RY 5 (k + 1) w5 nv 0 [] cs /\ Below w1.heap.size w1 w5 from ⟨_, _, hx5, OwnS.start 1 _ _ (heap_lt hx5), hb5⟩)
  have HK := HoldT.mk (And.intro HV.out.2.1 H1.out.1)
  have KS5 : HoldT (∀ q : Nat, q = g -> w5.heap[q]? = w1.heap[q]?) := ⟨fun q e => by rw [e]; exact hb5.block g (by have := H1.out.1.size; have := H1.out.2.2.1; omega)⟩
  clear y0 y1 y2 f0 HV KS hw5 hw5' hg5 hx5 hb5
  refine mix_done (by kernel_rfl) (keepSC KS5.out) ?_
  clear KS5
  have HN0 := HoldT.mk (show name = [] ++ name /\ m = (escB name).length /\ YAt (cf w) (.slice (some ⟨g, off + 1, none⟩) m (cap - 1)) (escB name) from ⟨rfl, HB.out.2.2.2.1, by
   have h1 := yat_part HB.out.1 (i := 1) (j := m + 1) (by omega) (by rw [HB.out.2.2.2.2]; omega) (cap' := cap - 1) (by omega) (by omega)
   have h2 : ((stampB s name t).drop 1).take (m + 1 - 1) = escB name := by
    rw [stampB_at, List.append_assoc, List.append_assoc, List.drop_append_of_le_length (by simp)]
    show (escB name ++ _).take _ = _
    rw [List.take_append_of_le_length (by rw [<- HB.out.2.2.2.1]; omega), List.take_of_length_le (by rw [<- HB.out.2.2.2.1]; omega)]
   rw [h2, show m + 1 - 1 = m by omega] at h1
   exact h1⟩)
  have q1 : (m : Int) + 11 - 10 = (m : Int) + 1 := by omega
  have q2 : (m : Int) + 1 <= (cap : Int) := by omega
  go_wp2_with fail
  clear q1 q2 h3
  go_loopw [5] (fun s5 wr => ∃ (dn td : Bts) (p rc ml : Nat), s5 = .slice (some ⟨g, p, none⟩) ml rc /\ ml + 10 <= rc /\ rc <= 9223372036854775807 /\ ml <= 400 /\ HoldT (name = dn ++ td /\ ml = (escB td).length /\ YAt (cf w) (.slice (some ⟨g, p, none⟩) ml rc) (escB td)) /\ HoldT (∃ nv cs, wr.heap[k]? = some (.cells #[.int .i64 (s.toNat : Int), nv, .int .u64 (t : Int)] 66 (0, 0)) /\ OwnS 1 RY 5 (k + 1) wr nv dn.length dn cs /\ Below w1.heap.size w1 wr)) (fun s5 _ => lenS s5)
  case atStart => exact ⟨[], name, off + 1, cap - 1, m, rfl, by omega, by omega, hm9, HN0, HST0⟩
  case round =>
   obtain ⟨dn, td, p, rc, ml, rfl, hrc1, hrc2, hml, HN, HJ⟩ := hrel
   clear HN0 HST0
   obtain ⟨nv, cs, hbx, ho, hbl⟩ := HJ.out
   obtain ⟨na, nc, rfl⟩ := ho.shape
   cases td with
   | nil =>
    obtain rfl : ml = 0 := HN.out.2.1
    obtain rfl : dn = name := by have := HN.out.1; rw [List.append_nil] at this; exact this.symm
    obtain ⟨kn, hkn⟩ : ∃ kn, kn = dn.length := ⟨_, rfl⟩
    rw [<- hkn] at ho hbx
    have y0 : wr.cell? ⟨k, 0, none⟩ = some (.int .i64 (s.toNat : Int)) := by simp [World.cell?, hbx]
    have y1 : wr.cell? ⟨k, 1, none⟩ = some (.slice na kn nc) := by simp [World.cell?, hbx]
    have y2 : wr.cell? ⟨k, 2, none⟩ = some (.int .u64 (t : Int)) := by simp [World.cell?, hbx]
    have HWT := HoldT.mk (stamp_Write (s := s) (t := t) (w := wr) (ho.at_ RY_mono) (by have := HB.out.2.1; omega) HB.out.2.2.1)
    have HO := HoldT.mk (And.intro ho (And.intro hbx (And.intro hbl hkn)))
    clear ho hbx hbl HJ HN hkn
    go_wp2_with fail
    refine HWT.out.mono ?_
    rintro e w7 ⟨sv, cs7, rfl, ho7, hb7⟩
    obtain ⟨xa, xc, rfl⟩ := ho7.shape
    have hr7 : w7.heap[r]? = some (.cells #[.int .i64 0, .slice none 0 0, .int .u64 0] 66 (0, 0)) := kept (kept H1.out.2.1 HO.out.2.2.1) hb7
    have hk7 := kept HO.out.2.1 hb7
    have HEQ := HoldT.mk (bEqualY (u := .slice (some ⟨g, off, none⟩) (m + 11) cap) (v := .slice xa (stampB s dn t).length xc) (w := w7) (HB.out.1.mono RY_mono (cle_below (H1.out.1.trans ((HO.out.2.2.1.trans (hb7.mono HO.out.2.2.1.size)).mono H1.out.1.size)))) (ho7.at_ RY_mono))
    have hdt : decide (stampB s dn t = stampB s dn t) = true := by simp
    rw [hdt, HB.out.2.2.2.2] at HEQ
    clear hdt
    rw [HB.out.2.2.2.2] at ho7 |-
    have H7 := HoldT.mk (And.intro hb7 (And.intro hr7 hk7))
    have z0 : w7.cell? ⟨k, 0, none⟩ = some (.int .i64 (s.toNat : Int)) := by simp [World.cell?, hk7]
    have z1 : w7.cell? ⟨k, 1, none⟩ = some (.slice na kn nc) := by simp [World.cell?, hk7]
    have z2 : w7.cell? ⟨k, 2, none⟩ = some (.int .u64 (t : Int)) := by simp [World.cell?, hk7]
    have r0 : w7.cell? ⟨r, 0, none⟩ = some (.int .i64 0) := by simp [World.cell?, hr7]
    have r1 : w7.cell? ⟨r, 1, none⟩ = some (.slice none 0 0) := by simp [World.cell?, hr7]
    have r2 : w7.cell? ⟨r, 2, none⟩ = some (.int .u64 0) := by simp [World.cell?, hr7]
    have fr : ∀ j, w7.frozen? ⟨r, j, none⟩ = false := fun j => by simp [World.frozen?, hr7]
    clear y0 y1 y2 hb7 hr7 hk7 HWT ho7
    go_wp2_with fail
    refine HEQ.out.mono ?_
    rintro e w8 ⟨rfl, hw8⟩
    obtain rfl := hw8.symm
    go_wp2_with fail
    obtain ⟨w9, hw9⟩ : ∃ w9, w9 = set3 w7 r (.int .i64 (s.toNat : Int)) (.slice na kn nc) (.int .u64 (t : Int)) := ⟨_, rfl⟩
    have hw9' : ((w7.setCell ⟨r, 0, none⟩ (.int .i64 (s.toNat : Int))).setCell ⟨r, 1, none⟩ (.slice na kn nc)).setCell ⟨r, 2, none⟩ (.int .u64 (t : Int)) = w9 := by rw [hw9]; rfl
    have hg9 : w7.grownBy w9 (some r) := by rw [hw9]; exact set3_grown _ _ _ _ _
    have hx9 : w9.heap[r]? = some (.cells #[.int .i64 (s.toNat : Int), .slice na kn nc, .int .u64 (t : Int)] 66 (0, 0)) := by rw [hw9]; exact set3_heap H7.out.2.1
    have hrk : r < k := by have h1 := heap_lt H1.out.2.1; have h2 := HK.out.1; omega
    have hb9 : Below w.heap.size w w9 := by
     have h1 := H1.out.1.trans ((HO.out.2.2.1.trans (H7.out.1.mono HO.out.2.2.1.size)).mono H1.out.1.size)
     exact h1.grown hg9 h1.size fun q e => by cases e; have := H1.out.2.2.2; omega
    have ho9 := own_base (own_keep (fun _ _ _ _ h => h) (HO.out.1.quiet RY_mono H7.out.1) hg9 (fun q hq e => by have h1 := (HO.out.1.low q hq).1; cases e; omega)) (B' := w.heap.size) (by have h1 := HK.out.1; have := H1.out.1.size; omega)
    have HE := HoldT.mk (show ReadB s dn t w (.returned (.tuple #[.agg #[.int .i64 (s.toNat : Int), .slice na kn nc, .int .u64 (t : Int)], .int .i64 0])) w9 from ⟨_, _, rfl, by rw [<- HO.out.2.2.2]; exact ho9, hb9⟩)
    have t0 : w9.cell? ⟨r, 0, none⟩ = some (.int .i64 (s.toNat : Int)) := by simp [World.cell?, hx9]
    have t1 : w9.cell? ⟨r, 1, none⟩ = some (.slice na kn nc) := by simp [World.cell?, hx9]
    have t2 : w9.cell? ⟨r, 2, none⟩ = some (.int .u64 (t : Int)) := by simp [World.cell?, hx9]
    rw [hw9']
    clear hw9 hw9' hg9 hx9 hrk hb9 ho9 z0 z1 z2 r0 r1 r2 fr
    refine bodyPost_ret (v := .tuple #[.agg #[.int .i64 (s.toNat : Int), .slice na kn nc, .int .u64 (t : Int)], .int .i64 0]) (by simp [results, Tryz.results44, go_sem, t0, t1, t2]) rfl ?_
    exact HE.out
   | cons c td =>
    obtain ⟨X, hX⟩ : ∃ X, X = (if c = 0 then 255 :: escB td else escB td) := ⟨_, rfl⟩
    have hesc : escB (c :: td) = c :: X := by
     rw [hX, escB_cons]
     split
     ·rename_i e; rw [e]; rfl
     ·rfl
    have hmX : ml = X.length + 1 := by rw [HN.out.2.1, hesc]; rfl
    obtain ⟨_, _, e9, _, _, hel⟩ := HN.out.2.2
    simp only [Value.slice.injEq] at e9
    obtain ⟨rfl, h8, rfl⟩ := e9
    clear h8
    obtain ⟨b0, o0, d, ea, hdl, hcc, hrd⟩ := hel 0 c (by rw [hesc]; rfl)
    cases ea
    have hrd' : d = [.int .u8 (c.toNat : Int)] := hrd
    subst hrd'
    have c0 : w.cell? ⟨g, p, none⟩ = some (.int .u8 (c.toNat : Int)) := by have := hcc 0 _ rfl; unfold cf at this; simpa using this
    have hbw : Below w.heap.size w wr := H1.out.1.trans (hbl.mono H1.out.1.size)
    have c1 : wr.cell? ⟨g, p, none⟩ = some (.int .u8 (c.toNat : Int)) := cle_below hbw _ _ _ (show cf w g p = _ from c0)
    have hgk : g < w1.heap.size := by have := H1.out.1.size; have := H1.out.2.2.1; omega
    obtain ⟨kn, hkn⟩ : ∃ kn, kn = dn.length := ⟨_, rfl⟩
    have hkn9 : kn <= 200 := by have h1 := HB.out.2.1; rw [HN.out.1, List.length_append] at h1; omega
    rw [<- hkn] at ho hbx
    have HO := HoldT.mk (And.intro ho (And.intro hbx hbl))
    have HCW := HoldT.mk c0
    have HX := HoldT.mk (And.intro hX (And.intro hesc (And.intro hmX hkn)))
    have y1 : wr.cell? ⟨k, 1, none⟩ = some (.slice na kn nc) := by simp [World.cell?, hbx]
    have g1 := GrowB.cell (B := w1.heap.size) c1 hgk
    have h1 := BoxT.cell (B := w1.heap.size) y1
    have b1 : decide ((0 : Int) < (ml : Int)) = true := decide_eq_true (by omega)
    have b2 : (0 : Int) < (ml : Int) := by omega
    have b3 : 0 < ml := by omega
    clear hel hdl hcc hrd c0 hbw hbx ho hbl hX hesc hmX hkn HJ
    go_upto_region 7 with (fail)
    refine wp_region_mixL (KeepC w1.heap.size k wr [8]) 9 rfl (by kernel_rfl) ?_
    have HK3 := HoldT.mk (show Below wr.heap.size wr wr.drew /\ wr.drew.heap[k]? = wr.heap[k]? from ⟨(Below.refl _ _).drew, rfl⟩)
    generalize wr.drew = v3 at HK3 |-
    refine mixL_seg (by kernel_rfl) (fun _ _ d _ _ h => by cases d <;> exact h) (GrowBC w1.heap.size wr) keepC_base [0, 2, 3, 4] (keepC_back rfl) [_, _, _, _] 5 9 rfl _ _ _ rfl (by kernel_rfl) ?_
    repeat (go_big_quiet_step (fail))
    refine wpQuiet_nil ?_
    clear g1
    refine mixL_one (by kernel_rfl) (fun _ _ d _ _ h => by cases d <;> exact h) (BoxC w1.heap.size k wr) 8 (keepC_box (by decide)) 1 (fun l w => keepC_back (is := [1]) rfl 1 (by simp) l w) _ 4 _ _ _ rfl (by kernel_rfl) (by kernel_rfl) (by kernel_rfl) ?_
    repeat (go_big_quiet_step (fail))
    refine wpQuiet_nil ?_
    clear h1
    refine mixL_act (i := 5) rfl (by kernel_rfl) (keepC_on (HK3.out.1.mono HO.out.2.2.size) HK3.out.2) rfl (fun K hK => ?_)
    go_wp2_with fail
    have hba := (Below.refl v3.heap.size v3).alloc (Nat.le_refl _) (.cells #[.int .u8 (c.toNat : Int)] 5)
    have HO3 := HoldT.mk (HO.out.1.quiet RY_mono HK3.out.1)
    have hk3 : k < wr.heap.size := heap_lt HO.out.2.1
    have HA := HoldT.mk (And.intro (show Below w1.heap.size wr (v3.alloc (.cells #[.int .u8 (c.toNat : Int)] 5)) from (HK3.out.1.trans (hba.mono HK3.out.1.size)).mono HO.out.2.2.size) (show (v3.alloc (.cells #[.int .u8 (c.toNat : Int)] 5)).heap[k]? = wr.heap[k]? from (hba.block k (by have := HK3.out.1.size; omega)).trans HK3.out.2))
    clear hba
    refine mixL_act (i := 6) rfl (by kernel_rfl) (keepC_on HA.out.1 HA.out.2) rfl (fun K hK => ?_)
    refine wp_push RY_mono _ _ rfl infoY Tryz.underlying23 rfl (by decide) (k + 1) v3 _ kn _ _ HO3.out rfl _ [.int .u8 (c.toNat : Int)] rfl rfl (by simp [Value.oneCell']) c rfl _ rfl rfl (by omega) (by decide) ?_
    intro sl6 w6 ho6 hg6
    obtain ⟨a6, c6, rfl⟩ := ho6.shape
    have hbx6 : w6.heap[k]? = some (.cells #[.int .i64 (s.toNat : Int), .slice na kn nc, .int .u64 (t : Int)] 66 (0, 0)) := by
     have h1 := hg6.kept (k := k) (HK3.out.2.trans HO.out.2.1) (fun q hq => by have := (HO3.out.low q hq).1; omega)
     exact h1
    have hb6 : Below w1.heap.size wr w6 := (HK3.out.1.mono HO.out.2.2.size).trans ((HO3.out.below hg6).mono (by have := HK.out.1; omega))
    have y1 : w6.cell? ⟨k, 1, none⟩ = some (.slice na kn nc) := by simp [World.cell?, hbx6]
    have f1 : w6.frozen? ⟨k, 1, none⟩ = false := by simp [World.frozen?, hbx6]
    have H6 := HoldT.mk (And.intro ho6 (And.intro hbx6 hb6))
    clear ho6 hg6 hbx6 hb6
    go_wp2_with fail
    refine mixL_seg (by kernel_rfl) (fun _ _ d _ _ h => by cases d <;> exact h) (GrowBC w1.heap.size wr) keepC_base [7] (keepC_back rfl) [_] 1 2 rfl _ _ _ rfl (by kernel_rfl) ?_
    repeat (go_big_quiet_step (fail))
    refine wpQuiet_nil ?_
    refine mixL_act (i := 8) rfl (by kernel_rfl) (keepC_on H6.out.2.2 (H6.out.2.1.trans HO.out.2.1.symm)) rfl (fun K hK => ?_)
    go_wp2_with fail
    obtain ⟨w7, hw7⟩ : ∃ w7, w7 = w6.setCell ⟨k, 1, none⟩ (.slice a6 (kn + 1) c6) := ⟨_, rfl⟩
    have hg7 : w6.grownBy w7 (some k) := by rw [hw7]; exact set6_grown _ _
    have hx7 : w7.heap[k]? = some (.cells #[.int .i64 (s.toNat : Int), .slice a6 (kn + 1) c6, .int .u64 (t : Int)] 66 (0, 0)) := by
     rw [hw7]
     exact set_selfT H6.out.2.1
    have hb7 : Below w1.heap.size w1 w7 := HO.out.2.2.trans (H6.out.2.2.grown hg7 (Nat.le_trans HO.out.2.2.size H6.out.2.2.size) fun q e => by cases e; exact HK.out.1)
    have ho7 := own_keep (fun _ _ _ _ h => h) H6.out.1 hg7 (fun q hq e => by have h1 := (H6.out.1.low q hq).1; cases e; omega)
    have HE7 := HoldT.mk (show ∃ nv cs, w7.heap[k]? = some (.cells #[.int .i64 (s.toNat : Int), nv, .int .u64 (t : Int)] 66 (0, 0)) /\ OwnS 1 RY 5 (k + 1) w7 nv (dn ++ [c]).length (dn ++ [c]) cs /\ Below w1.heap.size w1 w7 from ⟨_, _, hx7, by rw [List.length_append, <- HX.out.2.2.2]; exact ho7, hb7⟩)
    have HB7 := HoldT.mk (H6.out.2.2.grown hg7 (Nat.le_trans HO.out.2.2.size H6.out.2.2.size) fun q e => by cases e; exact HK.out.1)
    rw [<- hw7]
    clear hg7 hx7 hb7 ho7 hw7 y1 f1
    refine mixL_done (by kernel_rfl) (keepC_off HB7.out (by kernel_rfl)) ?_
    have c7 : w7.cell? ⟨g, p, none⟩ = some (.int .u8 (c.toNat : Int)) := cle_below (HE7.out.elim fun nv h => h.elim fun cs h => H1.out.1.trans (h.2.2.mono H1.out.1.size)) _ _ _ (show cf w g p = _ from HCW.out)
    obtain ⟨e, he⟩ : ∃ e, e = (escB td).length := ⟨_, rfl⟩
    by_cases hz : c = 0
    ·have hz2 : (c.toNat : Int) = 0 := by rw [hz]; rfl
     obtain rfl : ml = e + 2 := by rw [HX.out.2.2.1, HX.out.1, if_pos hz, he]; rfl
     have HN2 := HoldT.mk (show name = (dn ++ [c]) ++ td /\ e = (escB td).length /\ YAt (cf w) (.slice (some ⟨g, p + 1 + 1, none⟩) e (rc - 1 - 1)) (escB td) from ⟨by rw [HN.out.1, List.append_assoc]; rfl, he, by
      have h1 := yat_part HN.out.2.2 (i := 2) (j := e + 2) (by omega) (by rw [<- HN.out.2.1]; exact Nat.le_refl _) (cap' := rc - 1 - 1) (by omega) (by omega)
      have h2 : ((escB (c :: td)).drop 2).take (e + 2 - 2) = escB td := by
       rw [HX.out.2.1, HX.out.1, if_pos hz]
       show (escB td).take _ = _
       exact List.take_of_length_le (by omega)
      rw [h2] at h1
      exact h1⟩)
     have i1 : (1 : Int) < (e : Int) + 2 := by omega
     have i2 : 1 < e + 2 := by omega
     have i3 : (e : Int) + 2 <= (rc : Int) := by omega
     have i4 : (1 : Int) <= (rc : Int) := by omega
     clear hz he HN
     go_wp2_with fail
     exact ⟨⟨dn ++ [c], td, p + 1 + 1, rc - 1 - 1, e, rfl, by omega, by omega, by omega, HN2, HE7⟩, by simp only [lenS]; omega⟩
    ·have hz2 : ¬ (c.toNat : Int) = 0 := u8_ne0 hz
     obtain rfl : ml = e + 1 := by rw [HX.out.2.2.1, HX.out.1, if_neg hz, he]
     have HN2 := HoldT.mk (show name = (dn ++ [c]) ++ td /\ e = (escB td).length /\ YAt (cf w) (.slice (some ⟨g, p + 1, none⟩) e (rc - 1)) (escB td) from ⟨by rw [HN.out.1, List.append_assoc]; rfl, he, by
      have h1 := yat_part HN.out.2.2 (i := 1) (j := e + 1) (by omega) (by rw [<- HN.out.2.1]; exact Nat.le_refl _) (cap' := rc - 1) (by omega) (by omega)
      have h2 : ((escB (c :: td)).drop 1).take (e + 1 - 1) = escB td := by
       rw [HX.out.2.1, HX.out.1, if_neg hz]
       show (escB td).take _ = _
       exact List.take_of_length_le (by omega)
      rw [h2] at h1
      exact h1⟩)
     have i3 : (e : Int) + 1 <= (rc : Int) := by omega
     have i4 : (1 : Int) <= (rc : Int) := by omega
     clear hz he HN
     go_wp2_with fail
     exact ⟨⟨dn ++ [c], td, p + 1, rc - 1, e, rfl, by omega, by omega, by omega, HN2, HE7⟩, by simp only [lenS]; omega⟩
end Go.Proofs.YtafilaiinbggoaaGreat
