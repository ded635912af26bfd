import Derived.Test.YtmiphphombkpdaaGreatWB16
namespace Go.Proofs.YtmiphphombkpdaaGreat
open Go.RowKit Go.Maps
theorem ybytes {w : World} {v : Value} {l : Bts} (h : YAt (cfU w) v l) : BytesAt (cf w) v l := YAt.bytes (h.mono RY_mono (cfU_cf w))
def NoB (F : FuncId) (l : List Bts) : Prop := ∀ x ∈ l, ∀ (sv : Value) (wr : World), YAt (cfU wr) sv x -> Calls Tryz.prog F #[sv] wr fun e w' => e = .returned (.bool false) /\ w' = wr
def NoI (F : FuncId) (l : List Int) : Prop := ∀ x ∈ l, ∀ (wr : World), Calls Tryz.prog F #[.int .i64 x] wr fun e w' => e = .returned (.bool false) /\ w' = wr
set_option maxRecDepth 100000 in
set_option maxHeartbeats 4000000 in
theorem idxB_no (F : FuncId) (hF : ∀ args w, (callFunc F args).run Tryz.prog w = .ok (.enter F args) w) (sv : Value) (l : List Bts) (w : World) (hl : BAt w sv l) (H : NoB F l) (hlen : l.length <= 1000000) :
  Calls Tryz.prog 124 #[sv, .func (.func F) #[] #[]] w fun e w' => e = .returned (.int .i64 (-1)) /\ w' = w := by
 obtain ⟨a, cap, rfl⟩ := hl.form
 have HL := HoldT.mk hl
 have HH := HoldT.mk H
 have HN := HoldT.mk hlen
 clear hl H hlen
 go_enter Tryz.func124, Tryz.ntmps124
 go_wp2_with fail
 go_loopw [5, 8] (fun y i wr => ∃ j : Nat, i = .int .i64 j /\ j <= l.length /\ wr = w) (fun _ i _ => l.length - (intOf i).toNat)
 case atStart => exact ⟨0, rfl, Nat.zero_le _, rfl⟩
 case round =>
  obtain ⟨j, rfl, hj, rfl⟩ := hrel
  have hlen := HN.out
  by_cases hlt : j < l.length
  ·obtain ⟨x, hx⟩ : ∃ x, l[j]? = some x := ⟨l[j], List.getElem?_eq_getElem hlt⟩
   obtain ⟨b, off, xa, xc, rfl, hc, hy⟩ := bat_cell HL.out hx
   have HX := HoldT.mk (HH.out x (List.mem_of_getElem? hx) _ wr hy)
   have b1 : decide ((j : Int) < (l.length : Int)) = true := decide_eq_true (by omega)
   have b3 : (j : Int) < (l.length : Int) := by omega
   clear hy hx
   go_wp2_with fail
   refine HX.out.mono ?_
   rintro e w4 ⟨rfl, hw4⟩
   obtain rfl := hw4.symm
   go_wp2_with fail
   exact ⟨⟨j + 1, by go_num, hlt, trivial⟩, by simp [intOf]; omega⟩
  ·obtain rfl : j = l.length := by omega
   go_wp2_with fail
   go_ret
   exact ⟨rfl, rfl⟩
set_option maxRecDepth 100000 in
set_option maxHeartbeats 4000000 in
theorem idxI_no2 (F : FuncId) (hF : ∀ args w, (callFunc F args).run Tryz.prog w = .ok (.enter F args) w) (sv : Value) (l : List Int) (w : World) (hl : SAt 1 RI (cf w) sv l) (H : NoI F l) (hlen : l.length <= 1000000) :
  Calls Tryz.prog 125 #[sv, .func (.func F) #[] #[]] w fun e w' => e = .returned (.int .i64 (-1)) /\ w' = w := by
 obtain ⟨a, cap, rfl⟩ := hl.form
 have HL := HoldT.mk hl
 have HH := HoldT.mk H
 have HN := HoldT.mk hlen
 clear hl H hlen
 go_enter Tryz.func125, Tryz.ntmps125
 go_wp2_with fail
 go_loopw [5, 8] (fun y i wr => ∃ j : Nat, i = .int .i64 j /\ j <= l.length /\ wr = w) (fun _ i _ => l.length - (intOf i).toNat)
 case atStart => exact ⟨0, rfl, Nat.zero_le _, rfl⟩
 case round =>
  obtain ⟨j, rfl, hj, rfl⟩ := hrel
  have hlen := HN.out
  by_cases hlt : j < l.length
  ·obtain ⟨x, hx⟩ : ∃ x, l[j]? = some x := ⟨l[j], List.getElem?_eq_getElem hlt⟩
   obtain ⟨b, off, rfl, hc⟩ := sat_cell HL.out hx
   unfold cf at hc
   have HX := HoldT.mk (HH.out x (List.mem_of_getElem? hx) wr)
   have b1 : decide ((j : Int) < (l.length : Int)) = true := decide_eq_true (by omega)
   have b3 : (j : Int) < (l.length : Int) := by omega
   clear hx
   go_wp2_with fail
   refine HX.out.mono ?_
   rintro e w4 ⟨rfl, hw4⟩
   obtain rfl := hw4.symm
   go_wp2_with fail
   exact ⟨⟨j + 1, by go_num, hlt, trivial⟩, by simp [intOf]; omega⟩
  ·obtain rfl : j = l.length := by omega
   go_wp2_with fail
   go_ret
   exact ⟨rfl, rfl⟩
set_option maxRecDepth 100000 in
theorem conB_no (F : FuncId) (hF : ∀ args w, (callFunc F args).run Tryz.prog w = .ok (.enter F args) w) (sv : Value) (l : List Bts) (w : World) (hl : BAt w sv l) (H : NoB F l) (hlen : l.length <= 1000000) :
  Calls Tryz.prog 99 #[sv, .func (.func F) #[] #[]] w fun e w' => e = .returned (.bool false) /\ w' = w := by
 have HX := HoldT.mk (idxB_no F hF sv l w hl H hlen)
 clear hl H
 go_enter Tryz.func99, Tryz.ntmps99
 go_wp2_with (go_at_call 124; refine HX.out.mono ?_; rintro e w4 ⟨rfl, hw4⟩; obtain rfl := hw4.symm)
 go_ret
 exact ⟨rfl, rfl⟩
set_option maxRecDepth 100000 in
theorem conI_no (F : FuncId) (hF : ∀ args w, (callFunc F args).run Tryz.prog w = .ok (.enter F args) w) (sv : Value) (l : List Int) (w : World) (hl : SAt 1 RI (cf w) sv l) (H : NoI F l) (hlen : l.length <= 1000000) :
  Calls Tryz.prog 101 #[sv, .func (.func F) #[] #[]] w fun e w' => e = .returned (.bool false) /\ w' = w := by
 have HX := HoldT.mk (idxI_no2 F hF sv l w hl H hlen)
 clear hl H
 go_enter Tryz.func101, Tryz.ntmps101
 go_wp2_with (go_at_call 125; refine HX.out.mono ?_; rintro e w4 ⟨rfl, hw4⟩; obtain rfl := hw4.symm)
 go_ret
 exact ⟨rfl, rfl⟩
set_option maxRecDepth 100000 in
set_option maxHeartbeats 4000000 in
theorem sortedB {sv : Value} {l : List Bts} {w : World} (hl : BAt w sv l) (hu : upB l) (hlen : l.length <= 1000000) :
  Calls Tryz.prog 62 #[sv, .func (.func 47) #[] #[]] w fun e w' => e = .returned (.bool true) /\ Below w.heap.size w w' := by
 obtain ⟨a, cap, rfl⟩ := hl.form
 have HL := HoldT.mk hl
 have HU := HoldT.mk hu
 have HN := HoldT.mk hlen
 obtain ⟨n, hn⟩ : ∃ n, n = l.length := ⟨_, rfl⟩
 rw [<- hn]
 have HNN := HoldT.mk hn
 have hn2 : n <= 1000000 := by omega
 clear hl hlen hu hn
 go_enter Tryz.func62, Tryz.ntmps62
 go_wp2_with fail
 go_loopw [5] (fun i wr => ∃ z : Int, i = .int .i64 z /\ z <= (n : Int) - 1 /\ -1 <= z /\ HoldT (Below w.heap.size w wr)) (fun i _ => (intOf i).toNat)
 case atStart => exact ⟨(n : Int) - 1, rfl, Int.le_refl _, by omega, ⟨Below.refl _ _⟩⟩
 case round =>
  obtain ⟨z, rfl, hz1, hz2, HB⟩ := hrel
  by_cases hlt : 0 < z
  ·obtain ⟨k, hk⟩ : ∃ k : Nat, z = (k : Int) + 1 := ⟨(z - 1).toNat, by omega⟩
   subst hk
   have HLR := HoldT.mk (HL.out.mono (RB_mono _) (cle_below HB.out) |>.rep (RB_le (cfU_below HB.out)))
   have hkn : k + 1 < n := by omega
   have hNN := HNN.out
   obtain ⟨x, hx⟩ : ∃ x, l[k]? = some x := ⟨l[k]'(by omega), List.getElem?_eq_getElem (by omega)⟩
   obtain ⟨y, hy⟩ : ∃ y, l[k + 1]? = some y := ⟨l[k + 1]'(by omega), List.getElem?_eq_getElem (by omega)⟩
   rw [<- hNN] at HLR
   obtain ⟨b, off, xa, xc, rfl, hcx, hyx⟩ := bat_cell HLR.out hx
   obtain ⟨b2, off2, ya, yc, e2, hcy, hyy⟩ := bat_cell HLR.out hy
   cases e2
   have hlx : lexC y x = - lexC x y := lexC_flip x y
   have hpos : lexC x y < 0 := ltB_iff.1 (upB_at HU.out hx hy (by omega))
   have HLX := HoldT.mk (And.intro hyx hyy)
   have b1 : decide ((lexC y x) < 0) = false := decide_eq_false (by omega)
   have gx := KeepS.cell (P := fun _ => True) hcx trivial
   have gy := KeepS.cell (P := fun _ => True) hcy trivial
   have hb1 : (k : Int) < (n : Int) := by omega
   have hb2 : (k : Int) + 1 < (n : Int) := by omega
   clear hx hy hcx hcy hyx hyy hNN hlx hpos
   go_upto_region 4 with (fail)
   refine wp_region_mixC (KeepSC (fun _ => True) wr) 12 rfl (by kernel_rfl) ?_
   have HDR := HoldT.mk ((Below.refl wr.heap.size wr).drew)
   have HST : HoldT (∀ q : Nat, wr.drew.heap[q]? = wr.heap[q]?) := ⟨fun _ => rfl⟩
   generalize wr.drew = v9 at HDR HST |-
   refine mixl_seg (by kernel_rfl) (fun _ _ d _ _ h => by cases d <;> exact h) [0, 1, 2, 3, 4, 5, 6, 7, 8, 9] [_, _, _, _, _, _, _, _, _, _] 2 12 rfl _ _ _ rfl (by kernel_rfl) (keepSC fun q _ => HST.out q) ?_
   repeat (go_big_quiet_step (fail))
   refine wpQuiet_nil ?_
   clear gx gy
   have HC := HoldT.mk (CompareB_any y x (.slice ya y.length yc) (.slice xa x.length xc) v9 (ybytes (HLX.out.2.mono RY_mono (cfU_below HDR.out))) (ybytes (HLX.out.1.mono RY_mono (cfU_below HDR.out))))
   refine mixl_act (i := 10) rfl (by kernel_rfl) (keepSC fun q _ => HST.out q) rfl (fun K hK => ?_)
   go_wp2_with fail
   refine HC.out.mono ?_
   rintro e w4 ⟨rfl, hw4⟩
   obtain rfl := hw4.symm
   simp only
   go_wp2_with fail
   refine mixl_seg (by kernel_rfl) (fun _ _ d _ _ h => by cases d <;> exact h) [11] [_] 0 1 rfl _ _ _ rfl (by kernel_rfl) (keepSC fun q _ => HST.out q) ?_
   repeat (go_big_quiet_step (fail))
   refine wpQuiet_nil ?_
   refine mix_done (by kernel_rfl) (keepSC fun q _ => HST.out q) ?_
   go_wp2_with fail
   exact ⟨⟨k, rfl, by omega, by omega, ⟨HB.out.trans (HDR.out.mono HB.out.size)⟩⟩, by simp [intOf]⟩
  ·have b1 : decide (0 < z) = false := decide_eq_false hlt
   go_wp2_with fail
   go_ret
   exact ⟨rfl, HB.out⟩
def FirstP (P : Nat -> Bool) (n k : Nat) : Prop := k <= n /\ (∀ i, i < k -> P i = false) /\ (k < n -> P k = true)
set_option maxRecDepth 100000 in
set_option maxHeartbeats 4000000 in
theorem search_any {F : FuncId} {c1 c2 : Value} {P : Nat -> Bool} {n : Nat} {w : World} (hF : ∀ args w, (callFunc F args).run Tryz.prog w = .ok (.enter F args) w) (hA : ∀ (i : Nat), i < n -> ∀ (wr : World), Below w.heap.size w wr -> Calls Tryz.prog F #[.int .i64 (i : Int), c1, c2] wr fun e w' => e = .returned (.bool (P i)) /\ Below wr.heap.size wr w') (hm : ∀ i, P i = true -> P (i + 1) = true) (hn : n <= 1000000) :
  Calls Tryz.prog 64 #[.int .i64 (n : Int), .func (.func F) #[] #[c1, c2]] w fun e w' => ∃ k : Nat, e = .returned (.int .i64 (k : Int)) /\ FirstP P n k /\ Below w.heap.size w w' := by
 have HA := HoldT.mk hA
 have HM : HoldT (∀ i j, i <= j -> P i = true -> P j = true) := ⟨fun i j hij hp => by
  obtain ⟨d, rfl⟩ : ∃ d, j = i + d := ⟨j - i, by omega⟩
  induction d with
  | zero => exact hp
  | succ d ih => exact hm _ (ih (by omega))⟩
 clear hA hm
 go_enter Tryz.func64, Tryz.ntmps64
 go_wp2_with fail
 go_loopw [5, 6, 7] (fun si sj sh wr => ∃ i j : Nat, si = .int .i64 (i : Int) /\ sj = .int .i64 (j : Int) /\ i <= j /\ j <= n /\ HoldT ((∀ q, q < i -> P q = false) /\ (j < n -> P j = true) /\ Below w.heap.size w wr)) (fun si sj _ _ => (intOf sj).toNat - (intOf si).toNat)
 case atStart => exact ⟨0, n, rfl, rfl, Nat.zero_le _, Nat.le_refl _, ⟨fun q h => by omega, fun h => by omega, Below.refl _ _⟩⟩
 case round =>
  obtain ⟨i, j, rfl, rfl, hij, hjn, HI⟩ := hrel
  by_cases hlt : i < j
  ·have b1 : decide ((i : Int) < (j : Int)) = true := decide_eq_true (by omega)
   go_wp2_with fail
   obtain ⟨h, hh⟩ : ∃ h : Nat, h = (i + j) / 2 := ⟨_, rfl⟩
   have he : ((i : Int) + (j : Int)) / 2 = (h : Int) := by omega
   rw [he]
   clear he
   have hih : i <= h /\ h < j := by omega
   clear hh
   have HX := HoldT.mk (HA.out h (by omega) wr HI.out.2.2)
   refine HX.out.mono ?_
   rintro e w4 ⟨rfl, hb4⟩
   have HB4 := HoldT.mk (HI.out.2.2.trans (hb4.mono HI.out.2.2.size))
   clear hb4
   simp only
   have hh1 : h <= 1000000 := by omega
   cases hp : P h with
   | false =>
    have HP := HoldT.mk hp
    clear hp
    go_wp2_with fail
    refine ⟨⟨h + 1, j, by go_num, rfl, by omega, hjn, ⟨fun q hq => ?_, HI.out.2.1, HB4.out⟩⟩, by simp [intOf]; omega⟩
    cases hq2 : P q with
    | false => rfl
    | true => rw [HM.out q h (by omega) hq2] at HP; exact absurd HP.out (by simp)
   | true =>
    have HP := HoldT.mk hp
    clear hp
    go_wp2_with fail
    exact ⟨⟨i, h, rfl, rfl, by omega, by omega, ⟨HI.out.1, fun _ => HP.out, HB4.out⟩⟩, by simp [intOf]; omega⟩
  ·obtain rfl : i = j := by omega
   go_wp2_with fail
   go_ret
   exact ⟨i, rfl, ⟨hjn, HI.out.1, HI.out.2.1⟩, HI.out.2.2⟩
end Go.Proofs.YtmiphphombkpdaaGreat
namespace Go.Proofs.YtmiphphombkpdaaGreat
open Go.RowKit Go.Maps
structure ShN (n : ND) : Prop where
 key : ∀ k ∈ n.keys, keyOk k
 up : upB n.keys
 leaf : n.leaf = true -> n.vals.length = n.keys.length /\ n.kids = [] /\ ∀ v ∈ n.vals, v.length <= 260
 node : n.leaf = false -> n.vals = [] /\ n.kids.length = n.keys.length + 1 /\ ∀ k ∈ n.kids, k <= 2147483647
 few : n.keys.length <= 9000
theorem ShN.fewN {n : ND} (h : ShN n) : FewN n := by
 refine ⟨by have := h.few; omega, ?_, ?_, fun k hk => by have := (h.key k hk).2; omega, fun v hv => ?_, fun hl => (h.leaf hl).1⟩
 ·cases hl : n.leaf with
  | true => rw [(h.leaf hl).1]; have := h.few; omega
  | false => rw [(h.node hl).1]; simp
 ·cases hl : n.leaf with
  | true => rw [(h.leaf hl).2.1]; simp
  | false => rw [(h.node hl).2.1]; have := h.few; omega
 ·cases hl : n.leaf with
  | true => have := (h.leaf hl).2.2 v hv; omega
  | false => rw [(h.node hl).1] at hv; cases hv
set_option maxRecDepth 100000 in
theorem shaped1_no (l : List Bts) (hl : ∀ v ∈ l, v.length <= 260) : NoB 100 l := fun x hx sv wr hy => by
 obtain ⟨a, cap, rfl, _⟩ := hy
 have h1 := hl x hx
 have b1 : decide (260 < (x.length : Int)) = false := decide_eq_false (by omega)
 go_enter Tryz.func100, Tryz.ntmps100
 go_wp2
 go_ret
 exact ⟨by simp, rfl⟩
set_option maxRecDepth 100000 in
theorem shaped2_no (l : List Nat) (hl : ∀ v ∈ l, v <= 2147483647) : NoI 102 (l.map Int.ofNat) := fun x hx wr => by
 obtain ⟨k, hk, rfl⟩ := List.mem_map.1 hx
 have h1 := hl k hk
 show Calls Tryz.prog _ #[.int .i64 (k : Int)] wr _
 have b1 : decide ((k : Int) < 0) = false := decide_eq_false (by omega)
 have b2 : decide (2147483647 < (k : Int)) = false := decide_eq_false (by omega)
 go_enter Tryz.func102, Tryz.ntmps102
 go_wp2
 go_ret
 exact ⟨by simp, rfl⟩
theorem shaped1_enters (args : Array Value) (w : World) : (callFunc 100 args).run Tryz.prog w = .ok (.enter 100 args) w := enters_of Tryz.func100 (by kernel_rfl) rfl args w
theorem shaped2_enters (args : Array Value) (w : World) : (callFunc 102 args).run Tryz.prog w = .ok (.enter 102 args) w := enters_of Tryz.func102 (by kernel_rfl) rfl args w
set_option maxHeartbeats 4000000 in
set_option maxRecDepth 100000 in
theorem node_shaped {w : World} {n : ND} {kv vv iv : Value} (h : NAt w n kv vv iv) (hs : ShN n) :
  Calls Tryz.prog 79 #[nodeV n kv vv iv] w fun e w' => e = .returned (.bool true) /\ Below w.heap.size w w' := by
 obtain ⟨ka, kc, rfl⟩ := h.keys.form
 obtain ⟨va, vc, rfl⟩ := h.vals.form
 obtain ⟨ia, ic, rfl⟩ := h.kids.form
 obtain ⟨leaf, keys, vals, kids⟩ := n
 obtain ⟨il, hil⟩ : ∃ il, il = (kids.map Int.ofNat).length := ⟨_, rfl⟩
 obtain ⟨w1, hw1⟩ : ∃ w1, w1 = w.alloc (.cells #[.bool leaf, .slice ka keys.length kc, .slice va vals.length vc, .slice ia il ic] 104) := ⟨_, rfl⟩
 have hb1 : Below w.heap.size w w1 := by rw [hw1]; exact (Below.refl _ w).alloc (Nat.le_refl _) _
 have hbx : NBox w1 w.heap.size ⟨leaf, keys, vals, kids⟩ (.slice ka keys.length kc) (.slice va vals.length vc) (.slice ia il ic) := by rw [hw1]; exact heap_alloc_new w _
 have hil' := hil
 rw [List.length_map] at hil
 have h1 := h.below hb1
 rw [show (NAt w1 ⟨leaf, keys, vals, kids⟩ (.slice ka keys.length kc) (.slice va vals.length vc) (.slice ia (kids.map Int.ofNat).length ic)) = (NAt w1 ⟨leaf, keys, vals, kids⟩ (.slice ka keys.length kc) (.slice va vals.length vc) (.slice ia il ic)) by rw [hil']] at h1
 have HV := HoldT.mk (conB_no 100 shaped1_enters (.slice va vals.length vc) vals w1 h1.vals (shaped1_no vals (by
  cases leaf with
  | true => exact (hs.leaf rfl).2.2
  | false => intro v hv; have := (hs.node rfl).1; simp only at this; rw [this] at hv; cases hv)) (by have := hs.fewN.vals; simp only at this; omega))
 have HI := HoldT.mk (conI_no 102 shaped2_enters (.slice ia il ic) (kids.map Int.ofNat) w1 h1.kids (shaped2_no kids (by
  cases leaf with
  | true => intro v hv; have := (hs.leaf rfl).2.1; simp only at this; rw [this] at hv; cases hv
  | false => exact (hs.node rfl).2.2)) (by rw [List.length_map]; have := hs.fewN.kids; simp only at this; omega))
 obtain ⟨kl, hkl⟩ : ∃ kl, kl = keys.length := ⟨_, rfl⟩
 have hk2 : kl <= 10000 := by rw [hkl]; exact hs.fewN.keys
 have HH := HoldT.mk (And.intro h1.keys (And.intro hs (And.intro hb1 hkl)))
 have HW := HoldT.mk hw1
 obtain ⟨x0, x1, x2, x3⟩ := hbx.cell
 obtain ⟨vl, hvl⟩ : ∃ vl, vl = vals.length := ⟨_, rfl⟩
 have hlv : leaf = true -> vl = kl /\ il = 0 := fun hl => ⟨by rw [hvl, hkl]; exact (hs.leaf hl).1, by rw [hil]; have := (hs.leaf hl).2.1; simp only at this; rw [this]; rfl⟩
 have hln : leaf = false -> vl = 0 /\ il = kl + 1 := fun hl => ⟨by rw [hvl]; have := (hs.node hl).1; simp only at this; rw [this]; rfl, by rw [hil, hkl]; exact (hs.node hl).2.1⟩
 simp only at x0 x1 x2 x3
 rw [<- hkl] at x1 HW
 rw [<- hvl] at x2 HV HW
 rw [<- hil']
 rw [show nodeV ⟨leaf, keys, vals, kids⟩ (.slice ka keys.length kc) (.slice va vals.length vc) (.slice ia il ic) = .agg #[.bool leaf, .slice ka kl kc, .slice va vl vc, .slice ia il ic] by rw [hkl, hvl]]
 clear h hs hw1 hb1 hbx hkl hil hil' h1 hvl
 cases leaf
 case' false =>
  obtain ⟨rfl, rfl⟩ := hln rfl
 case' true =>
  obtain ⟨hvl2, rfl⟩ := hlv rfl
  have hvl3 := hvl2.symm
  clear hvl2
  subst hvl3
 all_goals
  clear hlv hln
  go_enter Tryz.func79, Tryz.ntmps79
  go_wp2
  rw [<- HW.out]
  go_loopw [3, 4, 8] (fun s y i wr => ∃ j : Nat, i = .int .i64 j /\ j <= kl /\ wr = w1) (fun _ _ i _ => kl - (intOf i).toNat)
  case atStart => exact ⟨0, rfl, Nat.zero_le _, rfl⟩
  case round =>
   obtain ⟨j, rfl, hj, hwr⟩ := hrel
   obtain rfl := hwr.symm
   by_cases hlt : j < kl
   ·have b1 : decide ((j : Int) < (kl : Int)) = true := decide_eq_true (by omega)
    have hkk := HH.out.2.2.2
    obtain ⟨k, hk⟩ : ∃ k, keys[j]? = some k := ⟨keys[j]'(by omega), List.getElem?_eq_getElem (by omega)⟩
    obtain ⟨b, off, xa, xc, rfl, hc, hy⟩ := bat_cell HH.out.1 hk
    obtain ⟨o1, o2⟩ := HH.out.2.1.key k (List.mem_of_getElem? hk)
    have b2 : decide ((k.length : Int) < 1) = false := decide_eq_false (by omega)
    have b3 : decide (240 < (k.length : Int)) = false := decide_eq_false (by omega)
    have b4 : (j : Int) < (kl : Int) := by omega
    rcases Nat.eq_zero_or_pos j with rfl | hpos
    ·rw [Nat.add_zero] at hc
     clear hk hy hkk
     go_wp2_with fail
     exact ⟨⟨1, by go_num, by omega, trivial⟩, by simp [intOf]; omega⟩
    ·obtain ⟨q, rfl⟩ : ∃ q, j = q + 1 := ⟨j - 1, by omega⟩
     obtain ⟨p, hp⟩ : ∃ p, keys[q]? = some p := ⟨keys[q]'(by omega), List.getElem?_eq_getElem (by omega)⟩
     obtain ⟨b9, off9, pa, pc, e9, hcp, hyp⟩ := bat_cell HH.out.1 hp
     cases e9
     have hpos : lexC p k < 0 := ltB_iff.1 (upB_at HH.out.2.1.up hp hk (by omega))
     have HC := HoldT.mk (CompareB_any p k (.slice pa p.length pc) (.slice xa k.length xc) w1 (ybytes hyp) (ybytes hy))
     have b5 : decide (0 <= lexC p k) = false := decide_eq_false (by omega)
     have b6 : (q : Int) < (kl : Int) := by omega
     clear hk hy hkk hp hyp hpos
     go_wp2_with fail
     refine HC.out.mono ?_
     rintro e w4 ⟨rfl, hw4⟩
     obtain rfl := hw4.symm
     go_wp2_with fail
     exact ⟨⟨q + 1 + 1, by go_num, by omega, trivial⟩, by simp [intOf]; omega⟩
   ·obtain rfl : j = kl := by omega
    go_wp2_with fail
    first
    | refine HV.out.mono ?_
    | refine HI.out.mono ?_
    rintro e w4 ⟨rfl, hw4⟩
    obtain rfl := hw4.symm
    go_wp2_with fail
    go_ret
    exact ⟨rfl, HH.out.2.2.1⟩
set_option maxHeartbeats 4000000 in
set_option maxRecDepth 100000 in
theorem node_formed {w : World} {n : ND} {kv vv iv : Value} (h : NAt w n kv vv iv) (hs : ShN n) :
  Calls Tryz.prog 86 #[nodeV n kv vv iv] w fun e w' => e = .returned (.bool (decide (sizeN n <= 1024))) /\ Below w.heap.size w w' := by
 obtain ⟨ka, kc, rfl⟩ := h.keys.form
 obtain ⟨va, vc, rfl⟩ := h.vals.form
 obtain ⟨ia, ic, rfl⟩ := h.kids.form
 obtain ⟨w1, hw1⟩ : ∃ w1, w1 = w.alloc (.cells #[.bool n.leaf, .slice ka n.keys.length kc, .slice va n.vals.length vc, .slice ia (n.kids.map Int.ofNat).length ic] 104) := ⟨_, rfl⟩
 have hb1 : Below w.heap.size w w1 := by rw [hw1]; exact (Below.refl _ w).alloc (Nat.le_refl _) _
 have hbx : NBox w1 w.heap.size n (.slice ka n.keys.length kc) (.slice va n.vals.length vc) (.slice ia (n.kids.map Int.ofNat).length ic) := by rw [hw1]; exact heap_alloc_new w _
 obtain ⟨sz, hsz⟩ : ∃ sz, sz = sizeN n := ⟨_, rfl⟩
 have hsl : sz <= 400000000 := by rw [hsz]; have h1 := sizeJ_le hs.fewN n.keys.length (Nat.le_refl _); have h2 := hs.few; unfold sizeN; omega
 have HS := HoldT.mk (node_shaped (h.below hb1) hs)
 have HZ := fun (w2 : World) (hb2 : Below w1.heap.size w1 w2) => node_size ((h.below hb1).below hb2) hs.fewN
 rw [<- hsz] at HZ |-
 have HZ := HoldT.mk HZ
 have HH := HoldT.mk (And.intro hb1 hbx)
 have HW := HoldT.mk hw1
 obtain ⟨kl, hkl⟩ : ∃ kl, kl = n.keys.length := ⟨_, rfl⟩
 obtain ⟨vl, hvl⟩ : ∃ vl, vl = n.vals.length := ⟨_, rfl⟩
 obtain ⟨lf, hlf⟩ : ∃ lf, lf = n.leaf := ⟨_, rfl⟩
 obtain ⟨il, hil⟩ : ∃ il, il = (n.kids.map Int.ofNat).length := ⟨_, rfl⟩
 have hn : nodeV n (.slice ka n.keys.length kc) (.slice va n.vals.length vc) (.slice ia (n.kids.map Int.ofNat).length ic) = .agg #[.bool lf, .slice ka kl kc, .slice va vl vc, .slice ia il ic] := by rw [hkl, hvl, hlf, hil]
 obtain ⟨x0, x1, x2, x3⟩ := hbx.cell
 rw [hn] at HS HZ |-
 rw [<- hlf] at x0 HW
 rw [<- hkl] at x1 HW
 rw [<- hvl] at x2 HW
 rw [<- hil] at x3 HW
 clear h hs hw1 hb1 hbx hkl hil hn hvl hlf hsz
 go_enter Tryz.func86, Tryz.ntmps86
 go_wp2_with fail
 rw [<- HW.out]
 refine HS.out.mono ?_
 rintro e w2 ⟨rfl, hb2⟩
 have HB2 := HoldT.mk hb2
 have HX : ∀ (i : Nat) (v : Value), w1.cell? ⟨w.heap.size, i, none⟩ = some v -> w2.cell? ⟨w.heap.size, i, none⟩ = some v := fun i v hv => cle_below hb2 _ _ _ hv
 have y0 := HX 0 _ x0
 have y1 := HX 1 _ x1
 have y2 := HX 2 _ x2
 have y3 := HX 3 _ x3
 clear hb2 HX x0 x1 x2 x3
 go_wp2_with fail
 refine (HZ.out w2 HB2.out).mono ?_
 rintro e w3 ⟨rfl, hb3⟩
 have HB3 := HoldT.mk (HH.out.1.trans ((HB2.out.trans (hb3.mono HB2.out.size)).mono HH.out.1.size))
 clear hb3
 go_wp2_with fail
 go_ret
 have e9 : decide (sz <= 1024) = decide ((sz : Int) <= 1024) := decide_eq_decide.2 (by omega)
 rw [e9]
 exact ⟨rfl, HB3.out⟩
end Go.Proofs.YtmiphphombkpdaaGreat
namespace Go.Proofs.YtmiphphombkpdaaGreat
open Go.RowKit Go.Maps
def bvY (l : Bts) : List Value := l.map fun b => .int .u8 (b.toNat : Int)
theorem new_sat {w : World} {vs : Array Value} {ys : Bts} (hvs : vs.toList = bvY ys) (hl : ys.length <= 1000000) : SAt 1 RY (cfA w.heap.size (w.alloc (.cells vs 5))) (.slice (some ⟨w.heap.size, 0, none⟩) ys.length ys.length) ys := by
 have hn := heap_alloc_new w (.cells vs 5)
 refine ⟨_, _, rfl, Nat.le_refl _, by omega, fun i x hx => ⟨w.heap.size, 0, [.int .u8 (x.toNat : Int)], rfl, rfl, fun j u hu => ?_, rfl⟩⟩
 match j, hu with
 | 0, hu =>
  cases hu
  have h1 : vs[i]? = some (.int .u8 (x.toNat : Int)) := by
   rw [<- Array.getElem?_toList, hvs]
   unfold bvY
   rw [List.getElem?_map, hx]
   rfl
  unfold cfA
  rw [if_pos (Nat.le_refl _), Nat.zero_add, Nat.mul_one, Nat.add_zero]
  simp only [World.cell?]
  rw [hn]
  exact h1
def PRow (w : World) (g : Nat) (b : Bts) : Prop := b.length <= 1024 /\ w.heap[g]? = some (.cells (bvY (padTo 1024 b)).toArray 5 (0, 0))
theorem bvY_len (l : Bts) : (bvY l).length = l.length := List.length_map ..
theorem bvY_app (a b : Bts) : bvY (a ++ b) = bvY a ++ bvY b := List.map_append
theorem pad_app {b ys : Bts} (h : b.length + ys.length <= 1024) : (bvY (padTo 1024 b)).take b.length ++ bvY ys ++ (bvY (padTo 1024 b)).drop (b.length + ys.length) = bvY (padTo 1024 (b ++ ys)) := by
 unfold padTo
 rw [bvY_app, bvY_app, bvY_app, List.take_append_of_le_length (by rw [bvY_len]; exact Nat.le_refl _), List.take_of_length_le (by rw [bvY_len]; exact Nat.le_refl _)]
 have e : (bvY b ++ bvY (List.replicate (1024 - b.length) 0)).drop (b.length + ys.length) = bvY (List.replicate (1024 - (b ++ ys).length) 0) := by
  have h1 : (bvY b).length = b.length := bvY_len b
  rw [<- h1, List.drop_append, h1]
  have h2 : (bvY b).drop (b.length + ys.length) = [] := List.drop_eq_nil_iff.2 (by rw [bvY_len]; omega)
  rw [h2, List.nil_append]
  unfold bvY
  rw [List.map_replicate, List.map_replicate, List.drop_replicate, List.length_append]
  congr 1
  omega
 rw [e]
theorem PRow.cells {w : World} {g : Nat} {b : Bts} (h : PRow w g b) : w.ownsRow 0 5 1 (.slice (some ⟨g, 0, none⟩) b.length 1024) b.length (bvY b) := by
 have hp : (padTo 1024 b).length = 1024 := pad_len h.1
 refine ⟨by rw [bvY_len]; omega, .inr ⟨g, 1024, _, rfl, Nat.zero_le _, h.2, h.1, by unfold maxLen; omega, by simp [bvY_len, hp], ?_⟩⟩
 show (bvY (padTo 1024 b)).take (b.length * 1) = bvY b
 unfold padTo
 rw [Nat.mul_one, bvY_app, List.take_append_of_le_length (by rw [bvY_len]; exact Nat.le_refl _), List.take_of_length_le (by rw [bvY_len]; exact Nat.le_refl _)]
theorem run_page_app {w : World} {g : Nat} {b ys : Bts} {src : Value} (h : PRow w g b) (hs : SAt 1 RY (cf w) src ys) (hl : b.length + ys.length <= 1024) (ty : TypeId) :
  ∃ w', (Builtin.append_ #[23, 23] ty #[.slice (some ⟨g, 0, none⟩) b.length 1024, src]).run Tryz.prog w = .ok (.slice (some ⟨g, 0, none⟩) (b.length + ys.length) 1024) w' /\ PRow w' g (b ++ ys) /\ w.grownBy w' (some g) := by
 obtain ⟨i0, hi, hz0, hz1, hz2⟩ := info_parts infoY
 by_cases h0 : 0 < ys.length
 ·obtain ⟨q, off, cap, news, rfl, hg, hc, ho⟩ := sat_cells RY_one hs h0
  have hnews : news = bvY ys := by
   refine List.ext_getElem? fun i => ?_
   unfold bvY
   rw [List.getElem?_map]
   cases e : ys[i]? with
   | none =>
    have h1 := List.getElem?_eq_none_iff.1 e
    have h2 := hg.1
    rw [List.getElem?_eq_none_iff.2 (by omega)]
    rfl
   | some x =>
    obtain ⟨d, _, h2, h3⟩ := hg.2 i x e
    have h3' : d = [.int .u8 (x.toNat : Int)] := h3
    have := h2 0 _ (by rw [h3']; rfl)
    rw [Nat.mul_one, Nat.add_zero] at this
    rw [this]
    rfl
  have hp : (padTo 1024 b).length = 1024 := pad_len h.1
  have hr := run_append_room (P := Tryz.prog) w 23 ty 5 i0 Tryz.underlying23 hi g b.length 1024 _ h.2 ⟨q, off, none⟩ ys.length cap news (by rw [hz1, hg.1]) (fun j u hu => by
   have := hc j u hu
   unfold cf at this
   have e : Addr.add ⟨q, off, none⟩ j = ⟨q, off + j, none⟩ := by unfold Addr.add; split <;> simp_all
   rw [e]; exact this) ho hl (by rw [hz1, hnews, bvY_len, List.size_toArray, bvY_len, hp]; omega)
  rw [hz1, Nat.mul_one, hnews, bvY_len] at hr
  have e2 : ((bvY (padTo 1024 b)).toArray.toList.take b.length ++ bvY ys ++ (bvY (padTo 1024 b)).toArray.toList.drop (b.length + ys.length)) = bvY (padTo 1024 (b ++ ys)) := pad_app hl
  rw [e2] at hr
  refine ⟨_, hr, ⟨by rw [List.length_append]; exact hl, setRow_heap w g _ _ _ _ h.2⟩, ⟨rfl, rfl, rfl, by rw [setRow_size]; exact Nat.le_refl _, fun q hq hne => setRow_other _ _ _ _ (fun e => hne (by rw [e]))⟩⟩
 ·obtain rfl : ys = [] := List.length_eq_zero_iff.1 (by omega)
  obtain ⟨a, cap, rfl, _⟩ := hs
  have hr := run_append_zero (P := Tryz.prog) 0 23 ty 5 i0 1 Tryz.underlying23 hi _ _ _ h.cells a cap
  exact ⟨w, hr, by rw [List.append_nil]; exact h, World.grownBy.refl _ _⟩
theorem page_app {ops : Array Oper} {rest : List Oper} {o : Oper} {a : Act} {Q : Exit -> Act -> World -> Prop} (hgd : o.guard = none) (s x : Operand) (ho : o.op = .call { callee := .builtin .append, args := #[s, x], argTypes := #[23, 23] })
  (w : World) (g : Nat) (b : Bts) (n : Nat) (hb : PRow w g b) (hn : n = b.length) (hs : a.eval s = .slice (some ⟨g, 0, none⟩) n 1024) (src : Value) (ys : Bts) (hy : SAt 1 RY (cf w) src ys) (hx : a.eval x = src) (hl : b.length + ys.length <= 1024)
  (h : ∀ w', PRow w' g (b ++ ys) -> w.grownBy w' (some g) -> wpList Tryz.prog ops Q rest (a.put o.dst (.slice (some ⟨g, 0, none⟩) (n + ys.length) 1024)) w') : wpList Tryz.prog ops Q (o :: rest) a w := by
 subst hn
 refine wpList_plain hgd fun K' hK' => ?_
 obtain ⟨w', hrun, r1, r2⟩ := run_page_app hb hy hl o.type
 unfold Oper.wp
 simp [execOp, ho, resolve, invoke, builtin, hs, hx, hrun, Result.andThen]
 exact hK' _ _ (h w' r1 r2)
theorem wp_page_app {o : Oper} {a : Act} {K : Act -> World -> Prop} {Q : Exit -> Act -> World -> Prop} (s x : Operand) (ho : o.op = .call { callee := .builtin .append, args := #[s, x], argTypes := #[23, 23] })
  (w : World) (g : Nat) (b : Bts) (n : Nat) (hb : PRow w g b) (hn : n = b.length) (hs : a.eval s = .slice (some ⟨g, 0, none⟩) n 1024) (src : Value) (ys : Bts) (hy : SAt 1 RY (cf w) src ys) (hx : a.eval x = src) (hl : b.length + ys.length <= 1024)
  (h : ∀ w', PRow w' g (b ++ ys) -> w.grownBy w' (some g) -> K (a.put o.dst (.slice (some ⟨g, 0, none⟩) (n + ys.length) 1024)) w') : o.wp Tryz.prog a w K Q := by
 subst hn
 obtain ⟨w', hrun, r1, r2⟩ := run_page_app hb hy hl o.type
 unfold Oper.wp
 simp [execOp, ho, resolve, invoke, builtin, hs, hx, hrun, Result.andThen]
 exact h w' r1 r2
theorem PRow.below {w w' : World} {g : Nat} {b : Bts} (h : PRow w g b) (hb : Below w.heap.size w w') : PRow w' g b := ⟨h.1, kept h.2 hb⟩
theorem page_new {ops : Array Oper} {rest : List Oper} {o : Oper} {a : Act} {Q : Exit -> Act -> World -> Prop} (hgd : o.guard = none) (s x : Operand) (ho : o.op = .call { callee := .builtin .append, args := #[s, x], argTypes := #[23, 23] })
  (w : World) (g : Nat) (b : Bts) (n : Nat) (hb : PRow w g b) (hn : n = b.length) (hs : a.eval s = .slice (some ⟨g, 0, none⟩) n 1024) (vs : Array Value) (ys : Bts) (hvs : vs.toList = bvY ys) (k : Nat) (hk : k = ys.length) (H : Nat) (hx : a.eval x = .slice (some ⟨H, 0, none⟩) k k) (hH : w.heap.size = H) (hl : b.length + ys.length <= 1024)
  (h : ∀ w', PRow w' g (b ++ ys) -> w.grownBy w' (some g) -> wpList Tryz.prog ops Q rest (a.put o.dst (.slice (some ⟨g, 0, none⟩) (n + k) 1024)) w') : wpList Tryz.prog ops Q (o :: rest) a (w.alloc (.cells vs 5)) := by
 subst hH
 subst hk
 have hb1 := (Below.refl _ w).alloc (Nat.le_refl _) (.cells vs 5)
 refine page_app hgd s x ho (w.alloc (.cells vs 5)) g b n (hb.below hb1) hn hs _ ys ((new_sat hvs (by omega)).mono RY_mono (cfA_le _ _)) hx hl ?_
 intro w' h1 h2
 exact h w' h1 ⟨h2.os.trans hb1.os, h2.tape.trans hb1.tape, h2.output.trans hb1.output, Nat.le_trans hb1.size h2.size, fun q hq hne => (h2.block q (Nat.lt_of_lt_of_le hq hb1.size) hne).trans (hb1.block q hq)⟩
def PagePost (g n : Nat) (b : Bts) (w : World) (e : Ending) (w' : World) : Prop := e = .returned (.slice (some ⟨g, 0, none⟩) n 1024) /\ PRow w' g b /\ w.grownBy w' (some g)
theorem be16_cellsT (x : Nat) : (((UInt8.ofNat (x / 256)).toNat : Nat) : Int) = (x : Int) / 256 % 256 /\ ((UInt8.ofNat x).toNat : Int) = (x : Int) % 256 := by
 constructor <;> simp
theorem be32_cellsT (x : Nat) : (((UInt8.ofNat (x / 16777216)).toNat : Nat) : Int) = (x : Int) / 16777216 % 256 /\ (((UInt8.ofNat (x / 65536)).toNat : Nat) : Int) = (x : Int) / 65536 % 256 /\ (((UInt8.ofNat (x / 256)).toNat : Nat) : Int) = (x : Int) / 256 % 256 /\ ((UInt8.ofNat x).toNat : Int) = (x : Int) % 256 := by
 refine ⟨?_, ?_, ?_, ?_⟩ <;> simp
set_option maxRecDepth 100000 in
set_option maxHeartbeats 4000000 in
theorem node_append16 {g n n' : Nat} {b : Bts} {w : World} {x : Nat} (hb : PRow w g b) (hn : n = b.length) (hl : b.length + 2 <= 1024) (hn' : n' = n + 2) :
  Calls Tryz.prog 87 #[.slice (some ⟨g, 0, none⟩) n 1024, .int .u16 (x : Int)] w (PagePost g n' (b ++ be16 x) w) := by
 subst hn'
 have HB := HoldT.mk (And.intro hb (And.intro hn hl))
 have HC := HoldT.mk (be16_cellsT x)
 clear hb hn hl
 go_enter Tryz.func87, Tryz.ntmps87
 go_wp2_with (at_builtin; refine page_new rfl _ _ rfl w g b n HB.out.1 HB.out.2.1 rfl _ (be16 x) (by simp only [bvY, be16, List.map_cons, List.map_nil]; rw [HC.out.1, HC.out.2]) 2 rfl _ rfl rfl HB.out.2.2 ?_)
 intro w3 hb3 hg3
 have HB3 := HoldT.mk (And.intro hb3 hg3)
 clear hb3 hg3
 go_wp2_with fail
 go_ret
 exact ⟨rfl, HB3.out.1, HB3.out.2⟩
set_option maxRecDepth 100000 in
set_option maxHeartbeats 4000000 in
theorem node_append32 {g n n' : Nat} {b : Bts} {w : World} {x : Nat} (hb : PRow w g b) (hn : n = b.length) (hl : b.length + 4 <= 1024) (hn' : n' = n + 4) :
  Calls Tryz.prog 88 #[.slice (some ⟨g, 0, none⟩) n 1024, .int .u32 (x : Int)] w (PagePost g n' (b ++ be32 x) w) := by
 subst hn'
 have HB := HoldT.mk (And.intro hb (And.intro hn hl))
 have HC := HoldT.mk (be32_cellsT x)
 clear hb hn hl
 go_enter Tryz.func88, Tryz.ntmps88
 go_wp2_with (at_builtin; refine page_new rfl _ _ rfl w g b n HB.out.1 HB.out.2.1 rfl _ (be32 x) (by simp only [bvY, be32, List.map_cons, List.map_nil]; rw [HC.out.1, HC.out.2.1, HC.out.2.2.1, HC.out.2.2.2]) 4 rfl _ rfl rfl HB.out.2.2 ?_)
 intro w3 hb3 hg3
 have HB3 := HoldT.mk (And.intro hb3 hg3)
 clear hb3 hg3
 go_wp2_with fail
 go_ret
 exact ⟨rfl, HB3.out.1, HB3.out.2⟩
theorem madeP (n : Nat) : (madeCells (Value.int .u8 0).cells n).toList = bvY (padTo n []) := by
 have e : (madeCells (Value.int .u8 0).cells n).toList = List.replicate n (.int .u8 0) := toList_madeCells_one _ _
 rw [e]
 unfold padTo bvY
 rw [List.nil_append, List.map_replicate]
 rfl
theorem made_page (w : World) : ∃ w', (Instr.makeSlice 23 (.int .i64 0) (.int .i64 1024)).run Tryz.prog w = .ok (.slice (some ⟨w.heap.size, 0, none⟩) 0 1024) w' /\ PRow w' w.heap.size [] /\ Below w.heap.size w w' := by
 obtain ⟨i0, hi, hz0, hz1, hz2⟩ := info_parts infoY
 have hr := run_make (P := Tryz.prog) w 23 5 i0 (.int .u8 0) Tryz.underlying23 hi hz0 .i64 .i64 0 1024 (by omega) (by omega) (by rw [hz2]; omega) (by omega)
 refine ⟨_, hr, ⟨Nat.zero_le _, ?_⟩, (Below.refl _ w).alloc (Nat.le_refl _) _⟩
 have h1 := heap_alloc_new w (.cells (madeCells (Value.int .u8 0).cells ((1024 : Int).toNat * i0.size)) 5)
 have e9 : madeCells (Value.int .u8 0).cells ((1024 : Int).toNat * i0.size) = (bvY (padTo 1024 [])).toArray := by
  apply Array.toList_inj.1
  rw [hz1, Nat.mul_one, show (1024 : Int).toNat = 1024 by decide, List.toList_toArray]
  exact madeP 1024
 rw [h1, e9]
end Go.Proofs.YtmiphphombkpdaaGreat
namespace Go.Proofs.YtmiphphombkpdaaGreat
open Go.RowKit Go.Maps
def rawHd (n : ND) : Bts := (if n.leaf = true then 1 else 2) :: (be16 n.keys.length ++ if n.leaf = true then [] else be32 (n.kids.headD 0))
def entBy (n : ND) (i : Nat) : Bts := UInt8.ofNat (n.keys.getD i []).length :: if n.leaf = true then be16 (n.vals.getD i []).length ++ (n.keys.getD i [] ++ n.vals.getD i []) else n.keys.getD i [] ++ be32 (n.kids.getD (i + 1) 0)
def rawJ (n : ND) (j : Nat) : Bts := rawHd n ++ (List.range j).flatMap (entBy n)
def encN (n : ND) : Bts := padTo 1024 (rawJ n n.keys.length)
theorem rawJ_succ (n : ND) (j : Nat) : rawJ n (j + 1) = rawJ n j ++ entBy n j := by
 unfold rawJ
 rw [List.range_succ, List.flatMap_append, List.append_assoc]
 simp
theorem entBy_len (n : ND) (j : Nat) : (entBy n j).length = entN n j := by
 unfold entBy entN be16 be32
 split
 ·simp only [List.length_cons, List.length_append, List.length_nil]; omega
 ·simp only [List.length_cons, List.length_append, List.length_nil]; omega
theorem rawHd_len (n : ND) : (rawHd n).length = if n.leaf = true then 3 else 7 := by
 unfold rawHd be16 be32
 split
 ·rfl
 ·rfl
theorem rawJ_len (n : ND) : ∀ j, (rawJ n j).length = sizeJ n j
 | 0 => by unfold rawJ sizeJ; simp [rawHd_len]
 | j + 1 => by rw [rawJ_succ, List.length_append, rawJ_len n j, entBy_len, sizeJ_succ]
theorem sizeJ_mono (n : ND) {i j : Nat} (h : i <= j) : sizeJ n i <= sizeJ n j := by
 obtain ⟨d, rfl⟩ : ∃ d, j = i + d := ⟨j - i, by omega⟩
 induction d with
 | zero => exact Nat.le_refl _
 | succ d ih => exact Nat.le_trans (ih (by omega)) (by rw [<- Nat.add_assoc, sizeJ_succ]; omega)
theorem encN_len {n : ND} (h : sizeN n <= 1024) : (encN n).length = 1024 := pad_len (by rw [rawJ_len]; exact h)
theorem flatMap_range {α β : Type} (f : Nat -> List β) (g : α -> List β) : ∀ (l : List α), (∀ i x, l[i]? = some x -> f i = g x) -> (List.range l.length).flatMap f = l.flatMap g := fun l h => by
 have e : (List.range l.length).map f = l.map g := by
  refine List.ext_getElem (by simp) fun i h1 h2 => ?_
  rw [List.getElem_map, List.getElem_range, List.getElem_map]
  have hi : i < l.length := by simpa using h2
  exact h i _ (List.getElem?_eq_getElem hi)
 rw [List.flatMap_def, List.flatMap_def, e]
theorem raw_leaf (es : EL) : rawJ (leafN es) (leafN es).keys.length = rawLeaf es := by
 have h1 : (leafN es).keys.length = es.length := List.length_map ..
 unfold rawJ rawLeaf
 rw [h1, flatMap_range (entBy (leafN es)) encE es fun i x hx => ?_]
 ·unfold rawHd
  rw [h1]
  simp [leafN]
 ·unfold entBy leafN encE
  simp [List.getD, hx]
theorem raw_node (kids : List Nat) (keys : List Bts) (h : kids.length = keys.length + 1) : rawJ (nodeN kids keys) (nodeN kids keys).keys.length = rawNode kids keys := by
 have h1 : (nodeN kids keys).keys.length = (keys.zip kids.tail).length := by
  rw [List.length_zip, List.length_tail, h]
  show keys.length = _
  omega
 unfold rawJ rawNode
 rw [h1, flatMap_range (entBy (nodeN kids keys)) encK (keys.zip kids.tail) fun i x hx => ?_]
 ·unfold rawHd
  simp [nodeN]
 ·obtain ⟨k, c⟩ := x
  obtain ⟨hk, hc⟩ := List.getElem?_zip_eq_some.1 hx
  simp only at hk hc
  rw [List.getElem?_tail] at hc
  unfold entBy nodeN encK
  simp [List.getD, hk, hc]
theorem enc_leaf (es : EL) : encN (leafN es) = encLeaf es := by unfold encN encLeaf; rw [raw_leaf]
theorem enc_node {kids : List Nat} {keys : List Bts} (h : kids.length = keys.length + 1) : encN (nodeN kids keys) = encNode kids keys := by unfold encN encNode; rw [raw_node kids keys h]
def WPost (n : ND) (w : World) (e : Ending) (w' : World) : Prop := ∃ g, e = .returned (.tuple #[.slice (some ⟨g, 0, none⟩) 1024 1024, .int .i64 0]) /\ w.heap.size <= g /\ YAt (cfU w') (.slice (some ⟨g, 0, none⟩) 1024 1024) (encN n) /\ Below w.heap.size w w'
theorem page_yat {w : World} {g : Nat} {b : Bts} (h : PRow w g b) : YAt (cfU w) (.slice (some ⟨g, 0, none⟩) 1024 1024) (padTo 1024 b) := by
 have hp : (padTo 1024 b).length = 1024 := pad_len h.1
 have hi : IsU w g := ⟨_, _, h.2⟩
 refine ⟨some ⟨g, 0, none⟩, 1024, by rw [hp], by rw [hp]; exact Nat.le_refl _, by omega, fun i x hx => ⟨g, 0, [.int .u8 (x.toNat : Int)], rfl, rfl, fun j u hu => ?_, rfl⟩⟩
 match j, hu with
 | 0, hu =>
  cases hu
  rw [cfU_at hi, Nat.zero_add, Nat.mul_one, Nat.add_zero]
  simp only [World.cell?]
  rw [h.2]
  unfold bvY
  simp [hx]
theorem u8_len {k : Bts} (h : k.length <= 240) : bvY [UInt8.ofNat k.length] = [.int .u8 (k.length : Int)] := by
 unfold bvY
 have : (UInt8.ofNat k.length).toNat = k.length := by simp; omega
 simp [this]
end Go.Proofs.YtmiphphombkpdaaGreat
