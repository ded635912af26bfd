import Derived.Test.YtafilaiinbggoaaGreatQS15
namespace Go.Proofs.YtafilaiinbggoaaGreat
open Go.RowKit Go.Maps
theorem ybytes {w : World} {v : Value} {l : Bts} (h : YAt (cfU w) v l) : BytesAt (cf w) v l := YAt.bytes (h.mono RY_mono (cfU_cf w))
def NoB (F : FuncId) (l : List Bts) : Prop := ∀ x ∈ l, ∀ (sv : Value) (wr : World), YAt (cfU wr) sv x -> Calls Tryz.prog F #[sv] wr fun e w' => e = .returned (.bool false) /\ w' = wr
def NoI (F : FuncId) (l : List Int) : Prop := ∀ x ∈ l, ∀ (wr : World), Calls Tryz.prog F #[.int .i64 x] wr fun e w' => e = .returned (.bool false) /\ w' = wr
set_option maxRecDepth 100000 in
set_option maxHeartbeats 4000000 in
theorem idxB_no (F : FuncId) (hF : ∀ args w, (callFunc F args).run Tryz.prog w = .ok (.enter F args) w) (sv : Value) (l : List Bts) (w : World) (hl : BAt w sv l) (H : NoB F l) (hlen : l.length <= 1000000) :
  Calls Tryz.prog 120 #[sv, .func (.func F) #[] #[]] w fun e w' => e = .returned (.int .i64 (-1)) /\ w' = w := by
 obtain ⟨a, cap, rfl⟩ := hl.form
 have HL := HoldT.mk hl
 have HH := HoldT.mk H
 have HN := HoldT.mk hlen
 clear hl H hlen
 go_enter Tryz.func120, Tryz.ntmps120
 go_wp2_with fail
 go_loopw [5, 8] (fun y i wr => ∃ j : Nat, i = .int .i64 j /\ j <= l.length /\ wr = w) (fun _ i _ => l.length - (intOf i).toNat)
 case atStart => exact ⟨0, rfl, Nat.zero_le _, rfl⟩
 case round =>
  obtain ⟨j, rfl, hj, rfl⟩ := hrel
  have hlen := HN.out
  by_cases hlt : j < l.length
  ·obtain ⟨x, hx⟩ : ∃ x, l[j]? = some x := ⟨l[j], List.getElem?_eq_getElem hlt⟩
   obtain ⟨b, off, xa, xc, rfl, hc, hy⟩ := bat_cell HL.out hx
   have HX := HoldT.mk (HH.out x (List.mem_of_getElem? hx) _ wr hy)
   have b1 : decide ((j : Int) < (l.length : Int)) = true := decide_eq_true (by omega)
   have b3 : (j : Int) < (l.length : Int) := by omega
   clear hy hx
   go_wp2_with fail
   refine HX.out.mono ?_
   rintro e w4 ⟨rfl, hw4⟩
   obtain rfl := hw4.symm
   go_wp2_with fail
   exact ⟨⟨j + 1, by go_num, hlt, trivial⟩, by simp [intOf]; omega⟩
  ·obtain rfl : j = l.length := by omega
   go_wp2_with fail
   go_ret
   exact ⟨rfl, rfl⟩
set_option maxRecDepth 100000 in
set_option maxHeartbeats 4000000 in
theorem idxI_no2 (F : FuncId) (hF : ∀ args w, (callFunc F args).run Tryz.prog w = .ok (.enter F args) w) (sv : Value) (l : List Int) (w : World) (hl : SAt 1 RI (cf w) sv l) (H : NoI F l) (hlen : l.length <= 1000000) :
  Calls Tryz.prog 121 #[sv, .func (.func F) #[] #[]] w fun e w' => e = .returned (.int .i64 (-1)) /\ w' = w := by
 obtain ⟨a, cap, rfl⟩ := hl.form
 have HL := HoldT.mk hl
 have HH := HoldT.mk H
 have HN := HoldT.mk hlen
 clear hl H hlen
 go_enter Tryz.func121, Tryz.ntmps121
 go_wp2_with fail
 go_loopw [5, 8] (fun y i wr => ∃ j : Nat, i = .int .i64 j /\ j <= l.length /\ wr = w) (fun _ i _ => l.length - (intOf i).toNat)
 case atStart => exact ⟨0, rfl, Nat.zero_le _, rfl⟩
 case round =>
  obtain ⟨j, rfl, hj, rfl⟩ := hrel
  have hlen := HN.out
  by_cases hlt : j < l.length
  ·obtain ⟨x, hx⟩ : ∃ x, l[j]? = some x := ⟨l[j], List.getElem?_eq_getElem hlt⟩
   obtain ⟨b, off, rfl, hc⟩ := sat_cell HL.out hx
   unfold cf at hc
   have HX := HoldT.mk (HH.out x (List.mem_of_getElem? hx) wr)
   have b1 : decide ((j : Int) < (l.length : Int)) = true := decide_eq_true (by omega)
   have b3 : (j : Int) < (l.length : Int) := by omega
   clear hx
   go_wp2_with fail
   refine HX.out.mono ?_
   rintro e w4 ⟨rfl, hw4⟩
   obtain rfl := hw4.symm
   go_wp2_with fail
   exact ⟨⟨j + 1, by go_num, hlt, trivial⟩, by simp [intOf]; omega⟩
  ·obtain rfl : j = l.length := by omega
   go_wp2_with fail
   go_ret
   exact ⟨rfl, rfl⟩
set_option maxRecDepth 100000 in
theorem conB_no (F : FuncId) (hF : ∀ args w, (callFunc F args).run Tryz.prog w = .ok (.enter F args) w) (sv : Value) (l : List Bts) (w : World) (hl : BAt w sv l) (H : NoB F l) (hlen : l.length <= 1000000) :
  Calls Tryz.prog 94 #[sv, .func (.func F) #[] #[]] w fun e w' => e = .returned (.bool false) /\ w' = w := by
 have HX := HoldT.mk (idxB_no F hF sv l w hl H hlen)
 clear hl H
 go_enter Tryz.func94, Tryz.ntmps94
 go_wp2_with (go_at_call 120; refine HX.out.mono ?_; rintro e w4 ⟨rfl, hw4⟩; obtain rfl := hw4.symm)
 go_ret
 exact ⟨rfl, rfl⟩
set_option maxRecDepth 100000 in
theorem conI_no (F : FuncId) (hF : ∀ args w, (callFunc F args).run Tryz.prog w = .ok (.enter F args) w) (sv : Value) (l : List Int) (w : World) (hl : SAt 1 RI (cf w) sv l) (H : NoI F l) (hlen : l.length <= 1000000) :
  Calls Tryz.prog 96 #[sv, .func (.func F) #[] #[]] w fun e w' => e = .returned (.bool false) /\ w' = w := by
 have HX := HoldT.mk (idxI_no2 F hF sv l w hl H hlen)
 clear hl H
 go_enter Tryz.func96, Tryz.ntmps96
 go_wp2_with (go_at_call 121; refine HX.out.mono ?_; rintro e w4 ⟨rfl, hw4⟩; obtain rfl := hw4.symm)
 go_ret
 exact ⟨rfl, rfl⟩
set_option maxRecDepth 100000 in
set_option maxHeartbeats 4000000 in
theorem sortedB {sv : Value} {l : List Bts} {w : World} (hl : BAt w sv l) (hu : upB l) (hlen : l.length <= 1000000) :
  Calls Tryz.prog 59 #[sv, .func (.func 60) #[] #[]] w fun e w' => e = .returned (.bool true) /\ Below w.heap.size w w' := by
 obtain ⟨a, cap, rfl⟩ := hl.form
 have HL := HoldT.mk hl
 have HU := HoldT.mk hu
 have HN := HoldT.mk hlen
 obtain ⟨n, hn⟩ : ∃ n, n = l.length := ⟨_, rfl⟩
 rw [<- hn]
 have HNN := HoldT.mk hn
 have hn2 : n <= 1000000 := by omega
 clear hl hlen hu hn
 go_enter Tryz.func59, Tryz.ntmps59
 go_wp2_with fail
 go_loopw [5] (fun i wr => ∃ z : Int, i = .int .i64 z /\ z <= (n : Int) - 1 /\ -1 <= z /\ HoldT (Below w.heap.size w wr)) (fun i _ => (intOf i).toNat)
 case atStart => exact ⟨(n : Int) - 1, rfl, Int.le_refl _, by omega, ⟨Below.refl _ _⟩⟩
 case round =>
  obtain ⟨z, rfl, hz1, hz2, HB⟩ := hrel
  by_cases hlt : 0 < z
  ·obtain ⟨k, hk⟩ : ∃ k : Nat, z = (k : Int) + 1 := ⟨(z - 1).toNat, by omega⟩
   subst hk
   have HLR := HoldT.mk (HL.out.mono (RB_mono _) (cle_below HB.out) |>.rep (RB_le (cfU_below HB.out)))
   have hkn : k + 1 < n := by omega
   have hNN := HNN.out
   obtain ⟨x, hx⟩ : ∃ x, l[k]? = some x := ⟨l[k]'(by omega), List.getElem?_eq_getElem (by omega)⟩
   obtain ⟨y, hy⟩ : ∃ y, l[k + 1]? = some y := ⟨l[k + 1]'(by omega), List.getElem?_eq_getElem (by omega)⟩
   rw [<- hNN] at HLR
   obtain ⟨b, off, xa, xc, rfl, hcx, hyx⟩ := bat_cell HLR.out hx
   obtain ⟨b2, off2, ya, yc, e2, hcy, hyy⟩ := bat_cell HLR.out hy
   cases e2
   have hlx : lexC y x = - lexC x y := lexC_flip x y
   have hpos : lexC x y < 0 := ltB_iff.1 (upB_at HU.out hx hy (by omega))
   have HLX := HoldT.mk (And.intro hyx hyy)
   have b1 : decide ((lexC y x) < 0) = false := decide_eq_false (by omega)
   have gx := KeepS.cell (P := fun _ => True) hcx trivial
   have gy := KeepS.cell (P := fun _ => True) hcy trivial
   have hb1 : (k : Int) < (n : Int) := by omega
   have hb2 : (k : Int) + 1 < (n : Int) := by omega
   clear hx hy hcx hcy hyx hyy hNN hlx hpos
   go_upto_region 4 with (fail)
   refine wp_region_mixC (KeepSC (fun _ => True) wr) 12 rfl (by kernel_rfl) ?_
   have HDR := HoldT.mk ((Below.refl wr.heap.size wr).drew)
   have HST : HoldT (∀ q : Nat, wr.drew.heap[q]? = wr.heap[q]?) := ⟨fun _ => rfl⟩
   generalize wr.drew = v9 at HDR HST |-
   refine mixl_seg (by kernel_rfl) (fun _ _ d _ _ h => by cases d <;> exact h) [0, 1, 2, 3, 4, 5, 6, 7, 8, 9] [_, _, _, _, _, _, _, _, _, _] 2 12 rfl _ _ _ rfl (by kernel_rfl) (keepSC fun q _ => HST.out q) ?_
   repeat (go_big_quiet_step (fail))
   refine wpQuiet_nil ?_
   clear gx gy
   have HC := HoldT.mk (CompareB_any y x (.slice ya y.length yc) (.slice xa x.length xc) v9 (ybytes (HLX.out.2.mono RY_mono (cfU_below HDR.out))) (ybytes (HLX.out.1.mono RY_mono (cfU_below HDR.out))))
   refine mixl_act (i := 10) rfl (by kernel_rfl) (keepSC fun q _ => HST.out q) rfl (fun K hK => ?_)
   go_wp2_with fail
   refine HC.out.mono ?_
   rintro e w4 ⟨rfl, hw4⟩
   obtain rfl := hw4.symm
   simp only
   go_wp2_with fail
   refine mixl_seg (by kernel_rfl) (fun _ _ d _ _ h => by cases d <;> exact h) [11] [_] 0 1 rfl _ _ _ rfl (by kernel_rfl) (keepSC fun q _ => HST.out q) ?_
   repeat (go_big_quiet_step (fail))
   refine wpQuiet_nil ?_
   refine mix_done (by kernel_rfl) (keepSC fun q _ => HST.out q) ?_
   go_wp2_with fail
   exact ⟨⟨k, rfl, by omega, by omega, ⟨HB.out.trans (HDR.out.mono HB.out.size)⟩⟩, by simp [intOf]⟩
  ·have b1 : decide (0 < z) = false := decide_eq_false hlt
   go_wp2_with fail
   go_ret
   exact ⟨rfl, HB.out⟩
def FirstP (P : Nat -> Bool) (n k : Nat) : Prop := k <= n /\ (∀ i, i < k -> P i = false) /\ (k < n -> P k = true)
set_option maxRecDepth 100000 in
set_option maxHeartbeats 4000000 in
theorem search_any {F : FuncId} {c1 c2 : Value} {P : Nat -> Bool} {n : Nat} {w : World} (hF : ∀ args w, (callFunc F args).run Tryz.prog w = .ok (.enter F args) w) (hA : ∀ (i : Nat), i < n -> ∀ (wr : World), Below w.heap.size w wr -> Calls Tryz.prog F #[.int .i64 (i : Int), c1, c2] wr fun e w' => e = .returned (.bool (P i)) /\ Below wr.heap.size wr w') (hm : ∀ i, P i = true -> P (i + 1) = true) (hn : n <= 1000000) :
  Calls Tryz.prog 61 #[.int .i64 (n : Int), .func (.func F) #[] #[c1, c2]] w fun e w' => ∃ k : Nat, e = .returned (.int .i64 (k : Int)) /\ FirstP P n k /\ Below w.heap.size w w' := by
 have HA := HoldT.mk hA
 have HM : HoldT (∀ i j, i <= j -> P i = true -> P j = true) := ⟨fun i j hij hp => by
  obtain ⟨d, rfl⟩ : ∃ d, j = i + d := ⟨j - i, by omega⟩
  induction d with
  | zero => exact hp
  | succ d ih => exact hm _ (ih (by omega))⟩
 clear hA hm
 go_enter Tryz.func61, Tryz.ntmps61
 go_wp2_with fail
 go_loopw [5, 6, 7] (fun si sj sh wr => ∃ i j : Nat, si = .int .i64 (i : Int) /\ sj = .int .i64 (j : Int) /\ i <= j /\ j <= n /\ HoldT ((∀ q, q < i -> P q = false) /\ (j < n -> P j = true) /\ Below w.heap.size w wr)) (fun si sj _ _ => (intOf sj).toNat - (intOf si).toNat)
 case atStart => exact ⟨0, n, rfl, rfl, Nat.zero_le _, Nat.le_refl _, ⟨fun q h => by omega, fun h => by omega, Below.refl _ _⟩⟩
 case round =>
  obtain ⟨i, j, rfl, rfl, hij, hjn, HI⟩ := hrel
  by_cases hlt : i < j
  ·have b1 : decide ((i : Int) < (j : Int)) = true := decide_eq_true (by omega)
   go_wp2_with fail
   obtain ⟨h, hh⟩ : ∃ h : Nat, h = (i + j) / 2 := ⟨_, rfl⟩
   have he : ((i : Int) + (j : Int)) / 2 = (h : Int) := by omega
   rw [he]
   clear he
   have hih : i <= h /\ h < j := by omega
   clear hh
   have HX := HoldT.mk (HA.out h (by omega) wr HI.out.2.2)
   refine HX.out.mono ?_
   rintro e w4 ⟨rfl, hb4⟩
   have HB4 := HoldT.mk (HI.out.2.2.trans (hb4.mono HI.out.2.2.size))
   clear hb4
   simp only
   have hh1 : h <= 1000000 := by omega
   cases hp : P h with
   | false =>
    have HP := HoldT.mk hp
    clear hp
    go_wp2_with fail
    refine ⟨⟨h + 1, j, by go_num, rfl, by omega, hjn, ⟨fun q hq => ?_, HI.out.2.1, HB4.out⟩⟩, by simp [intOf]; omega⟩
    cases hq2 : P q with
    | false => rfl
    | true => rw [HM.out q h (by omega) hq2] at HP; exact absurd HP.out (by simp)
   | true =>
    have HP := HoldT.mk hp
    clear hp
    go_wp2_with fail
    exact ⟨⟨i, h, rfl, rfl, by omega, by omega, ⟨HI.out.1, fun _ => HP.out, HB4.out⟩⟩, by simp [intOf]; omega⟩
  ·obtain rfl : i = j := by omega
   go_wp2_with fail
   go_ret
   exact ⟨i, rfl, ⟨hjn, HI.out.1, HI.out.2.1⟩, HI.out.2.2⟩
end Go.Proofs.YtafilaiinbggoaaGreat
namespace Go.Proofs.YtafilaiinbggoaaGreat
open Go.RowKit Go.Maps
structure ShN (n : ND) : Prop where
 key : ∀ k ∈ n.keys, keyOk k
 up : upB n.keys
 leaf : n.leaf = true -> n.vals.length = n.keys.length /\ n.kids = [] /\ ∀ v ∈ n.vals, v.length <= 260
 node : n.leaf = false -> n.vals = [] /\ n.kids.length = n.keys.length + 1 /\ ∀ k ∈ n.kids, k <= 2147483647
 few : n.keys.length <= 9000
theorem ShN.fewN {n : ND} (h : ShN n) : FewN n := by
 refine ⟨by have := h.few; omega, ?_, ?_, fun k hk => by have := (h.key k hk).2; omega, fun v hv => ?_, fun hl => (h.leaf hl).1⟩
 ·cases hl : n.leaf with
  | true => rw [(h.leaf hl).1]; have := h.few; omega
  | false => rw [(h.node hl).1]; simp
 ·cases hl : n.leaf with
  | true => rw [(h.leaf hl).2.1]; simp
  | false => rw [(h.node hl).2.1]; have := h.few; omega
 ·cases hl : n.leaf with
  | true => have := (h.leaf hl).2.2 v hv; omega
  | false => rw [(h.node hl).1] at hv; cases hv
set_option maxRecDepth 100000 in
theorem shaped1_no (l : List Bts) (hl : ∀ v ∈ l, v.length <= 260) : NoB 95 l := fun x hx sv wr hy => by
 obtain ⟨a, cap, rfl, _⟩ := hy
 have h1 := hl x hx
 have b1 : decide (260 < (x.length : Int)) = false := decide_eq_false (by omega)
 go_enter Tryz.func95, Tryz.ntmps95
 go_wp2
 go_ret
 exact ⟨by simp, rfl⟩
set_option maxRecDepth 100000 in
theorem shaped2_no (l : List Nat) (hl : ∀ v ∈ l, v <= 2147483647) : NoI 97 (l.map Int.ofNat) := fun x hx wr => by
 obtain ⟨k, hk, rfl⟩ := List.mem_map.1 hx
 have h1 := hl k hk
 show Calls Tryz.prog _ #[.int .i64 (k : Int)] wr _
 have b1 : decide ((k : Int) < 0) = false := decide_eq_false (by omega)
 have b2 : decide (2147483647 < (k : Int)) = false := decide_eq_false (by omega)
 go_enter Tryz.func97, Tryz.ntmps97
 go_wp2
 go_ret
 exact ⟨by simp, rfl⟩
theorem shaped1_enters (args : Array Value) (w : World) : (callFunc 95 args).run Tryz.prog w = .ok (.enter 95 args) w := enters_of Tryz.func95 (by kernel_rfl) rfl args w
theorem shaped2_enters (args : Array Value) (w : World) : (callFunc 97 args).run Tryz.prog w = .ok (.enter 97 args) w := enters_of Tryz.func97 (by kernel_rfl) rfl args w
set_option maxHeartbeats 4000000 in
set_option maxRecDepth 100000 in
theorem node_shaped {w : World} {n : ND} {kv vv iv : Value} (h : NAt w n kv vv iv) (hs : ShN n) :
  Calls Tryz.prog 71 #[nodeV n kv vv iv] w fun e w' => e = .returned (.bool true) /\ Below w.heap.size w w' := by
 obtain ⟨ka, kc, rfl⟩ := h.keys.form
 obtain ⟨va, vc, rfl⟩ := h.vals.form
 obtain ⟨ia, ic, rfl⟩ := h.kids.form
 obtain ⟨leaf, keys, vals, kids⟩ := n
 obtain ⟨il, hil⟩ : ∃ il, il = (kids.map Int.ofNat).length := ⟨_, rfl⟩
 obtain ⟨w1, hw1⟩ : ∃ w1, w1 = w.alloc (.cells #[.bool leaf, .slice ka keys.length kc, .slice va vals.length vc, .slice ia il ic] 107) := ⟨_, rfl⟩
 have hb1 : Below w.heap.size w w1 := by rw [hw1]; exact (Below.refl _ w).alloc (Nat.le_refl _) _
 have hbx : NBox w1 w.heap.size ⟨leaf, keys, vals, kids⟩ (.slice ka keys.length kc) (.slice va vals.length vc) (.slice ia il ic) := by rw [hw1]; exact heap_alloc_new w _
 have hil' := hil
 rw [List.length_map] at hil
 have h1 := h.below hb1
 rw [show (NAt w1 ⟨leaf, keys, vals, kids⟩ (.slice ka keys.length kc) (.slice va vals.length vc) (.slice ia (kids.map Int.ofNat).length ic)) = (NAt w1 ⟨leaf, keys, vals, kids⟩ (.slice ka keys.length kc) (.slice va vals.length vc) (.slice ia il ic)) by rw [hil']] at h1
 have HV := HoldT.mk (conB_no 95 shaped1_enters (.slice va vals.length vc) vals w1 h1.vals (shaped1_no vals (by
  cases leaf with
  | true => exact (hs.leaf rfl).2.2
  | false => intro v hv; have := (hs.node rfl).1; simp only at this; rw [this] at hv; cases hv)) (by have := hs.fewN.vals; simp only at this; omega))
 have HI := HoldT.mk (conI_no 97 shaped2_enters (.slice ia il ic) (kids.map Int.ofNat) w1 h1.kids (shaped2_no kids (by
  cases leaf with
  | true => intro v hv; have := (hs.leaf rfl).2.1; simp only at this; rw [this] at hv; cases hv
  | false => exact (hs.node rfl).2.2)) (by rw [List.length_map]; have := hs.fewN.kids; simp only at this; omega))
 obtain ⟨kl, hkl⟩ : ∃ kl, kl = keys.length := ⟨_, rfl⟩
 have hk2 : kl <= 10000 := by rw [hkl]; exact hs.fewN.keys
 have HH := HoldT.mk (And.intro h1.keys (And.intro hs (And.intro hb1 hkl)))
 have HW := HoldT.mk hw1
 obtain ⟨x0, x1, x2, x3⟩ := hbx.cell
 obtain ⟨vl, hvl⟩ : ∃ vl, vl = vals.length := ⟨_, rfl⟩
 have hlv : leaf = true -> vl = kl /\ il = 0 := fun hl => ⟨by rw [hvl, hkl]; exact (hs.leaf hl).1, by rw [hil]; have := (hs.leaf hl).2.1; simp only at this; rw [this]; rfl⟩
 have hln : leaf = false -> vl = 0 /\ il = kl + 1 := fun hl => ⟨by rw [hvl]; have := (hs.node hl).1; simp only at this; rw [this]; rfl, by rw [hil, hkl]; exact (hs.node hl).2.1⟩
 simp only at x0 x1 x2 x3
 rw [<- hkl] at x1 HW
 rw [<- hvl] at x2 HV HW
 rw [<- hil']
 rw [show nodeV ⟨leaf, keys, vals, kids⟩ (.slice ka keys.length kc) (.slice va vals.length vc) (.slice ia il ic) = .agg #[.bool leaf, .slice ka kl kc, .slice va vl vc, .slice ia il ic] by rw [hkl, hvl]]
 clear h hs hw1 hb1 hbx hkl hil hil' h1 hvl
 cases leaf
 case' false =>
  obtain ⟨rfl, rfl⟩ := hln rfl
 case' true =>
  obtain ⟨hvl2, rfl⟩ := hlv rfl
  have hvl3 := hvl2.symm
  clear hvl2
  subst hvl3
 all_goals
  clear hlv hln
  go_enter Tryz.func71, Tryz.ntmps71
  go_wp2
  rw [<- HW.out]
  go_loopw [3, 4, 8] (fun s y i wr => ∃ j : Nat, i = .int .i64 j /\ j <= kl /\ wr = w1) (fun _ _ i _ => kl - (intOf i).toNat)
  case atStart => exact ⟨0, rfl, Nat.zero_le _, rfl⟩
  case round =>
   obtain ⟨j, rfl, hj, hwr⟩ := hrel
   obtain rfl := hwr.symm
   by_cases hlt : j < kl
   ·have b1 : decide ((j : Int) < (kl : Int)) = true := decide_eq_true (by omega)
    have hkk := HH.out.2.2.2
    obtain ⟨k, hk⟩ : ∃ k, keys[j]? = some k := ⟨keys[j]'(by omega), List.getElem?_eq_getElem (by omega)⟩
    obtain ⟨b, off, xa, xc, rfl, hc, hy⟩ := bat_cell HH.out.1 hk
    obtain ⟨o1, o2⟩ := HH.out.2.1.key k (List.mem_of_getElem? hk)
    have b2 : decide ((k.length : Int) < 1) = false := decide_eq_false (by omega)
    have b3 : decide (240 < (k.length : Int)) = false := decide_eq_false (by omega)
    have b4 : (j : Int) < (kl : Int) := by omega
    rcases Nat.eq_zero_or_pos j with rfl | hpos
    ·rw [Nat.add_zero] at hc
     clear hk hy hkk
     go_wp2_with fail
     exact ⟨⟨1, by go_num, by omega, trivial⟩, by simp [intOf]; omega⟩
    ·obtain ⟨q, rfl⟩ : ∃ q, j = q + 1 := ⟨j - 1, by omega⟩
     obtain ⟨p, hp⟩ : ∃ p, keys[q]? = some p := ⟨keys[q]'(by omega), List.getElem?_eq_getElem (by omega)⟩
     obtain ⟨b9, off9, pa, pc, e9, hcp, hyp⟩ := bat_cell HH.out.1 hp
     cases e9
     have hpos : lexC p k < 0 := ltB_iff.1 (upB_at HH.out.2.1.up hp hk (by omega))
     have HC := HoldT.mk (CompareB_any p k (.slice pa p.length pc) (.slice xa k.length xc) w1 (ybytes hyp) (ybytes hy))
     have b5 : decide (0 <= lexC p k) = false := decide_eq_false (by omega)
     have b6 : (q : Int) < (kl : Int) := by omega
     clear hk hy hkk hp hyp hpos
     go_wp2_with fail
     refine HC.out.mono ?_
     rintro e w4 ⟨rfl, hw4⟩
     obtain rfl := hw4.symm
     go_wp2_with fail
     exact ⟨⟨q + 1 + 1, by go_num, by omega, trivial⟩, by simp [intOf]; omega⟩
   ·obtain rfl : j = kl := by omega
    go_wp2_with fail
    first
    | refine HV.out.mono ?_
    | refine HI.out.mono ?_
    rintro e w4 ⟨rfl, hw4⟩
    obtain rfl := hw4.symm
    go_wp2_with fail
    go_ret
    exact ⟨rfl, HH.out.2.2.1⟩
set_option maxHeartbeats 4000000 in
set_option maxRecDepth 100000 in
theorem node_formed {w : World} {n : ND} {kv vv iv : Value} (h : NAt w n kv vv iv) (hs : ShN n) :
  Calls Tryz.prog 78 #[nodeV n kv vv iv] w fun e w' => e = .returned (.bool (decide (sizeN n <= 1024))) /\ Below w.heap.size w w' := by
 obtain ⟨ka, kc, rfl⟩ := h.keys.form
 obtain ⟨va, vc, rfl⟩ := h.vals.form
 obtain ⟨ia, ic, rfl⟩ := h.kids.form
 obtain ⟨w1, hw1⟩ : ∃ w1, w1 = w.alloc (.cells #[.bool n.leaf, .slice ka n.keys.length kc, .slice va n.vals.length vc, .slice ia (n.kids.map Int.ofNat).length ic] 107) := ⟨_, rfl⟩
 have hb1 : Below w.heap.size w w1 := by rw [hw1]; exact (Below.refl _ w).alloc (Nat.le_refl _) _
 have hbx : NBox w1 w.heap.size n (.slice ka n.keys.length kc) (.slice va n.vals.length vc) (.slice ia (n.kids.map Int.ofNat).length ic) := by rw [hw1]; exact heap_alloc_new w _
 obtain ⟨sz, hsz⟩ : ∃ sz, sz = sizeN n := ⟨_, rfl⟩
 have hsl : sz <= 400000000 := by rw [hsz]; have h1 := sizeJ_le hs.fewN n.keys.length (Nat.le_refl _); have h2 := hs.few; unfold sizeN; omega
 have HS := HoldT.mk (node_shaped (h.below hb1) hs)
 have HZ := fun (w2 : World) (hb2 : Below w1.heap.size w1 w2) => node_size ((h.below hb1).below hb2) hs.fewN
 rw [<- hsz] at HZ |-
 have HZ := HoldT.mk HZ
 have HH := HoldT.mk (And.intro hb1 hbx)
 have HW := HoldT.mk hw1
 obtain ⟨kl, hkl⟩ : ∃ kl, kl = n.keys.length := ⟨_, rfl⟩
 obtain ⟨vl, hvl⟩ : ∃ vl, vl = n.vals.length := ⟨_, rfl⟩
 obtain ⟨lf, hlf⟩ : ∃ lf, lf = n.leaf := ⟨_, rfl⟩
 obtain ⟨il, hil⟩ : ∃ il, il = (n.kids.map Int.ofNat).length := ⟨_, rfl⟩
 have hn : nodeV n (.slice ka n.keys.length kc) (.slice va n.vals.length vc) (.slice ia (n.kids.map Int.ofNat).length ic) = .agg #[.bool lf, .slice ka kl kc, .slice va vl vc, .slice ia il ic] := by rw [hkl, hvl, hlf, hil]
 obtain ⟨x0, x1, x2, x3⟩ := hbx.cell
 rw [hn] at HS HZ |-
 rw [<- hlf] at x0 HW
 rw [<- hkl] at x1 HW
 rw [<- hvl] at x2 HW
 rw [<- hil] at x3 HW
 clear h hs hw1 hb1 hbx hkl hil hn hvl hlf hsz
 go_enter Tryz.func78, Tryz.ntmps78
 go_wp2_with fail
 rw [<- HW.out]
 refine HS.out.mono ?_
 rintro e w2 ⟨rfl, hb2⟩
 have HB2 := HoldT.mk hb2
 have HX : ∀ (i : Nat) (v : Value), w1.cell? ⟨w.heap.size, i, none⟩ = some v -> w2.cell? ⟨w.heap.size, i, none⟩ = some v := fun i v hv => cle_below hb2 _ _ _ hv
 have y0 := HX 0 _ x0
 have y1 := HX 1 _ x1
 have y2 := HX 2 _ x2
 have y3 := HX 3 _ x3
 clear hb2 HX x0 x1 x2 x3
 go_wp2_with fail
 refine (HZ.out w2 HB2.out).mono ?_
 rintro e w3 ⟨rfl, hb3⟩
 have HB3 := HoldT.mk (HH.out.1.trans ((HB2.out.trans (hb3.mono HB2.out.size)).mono HH.out.1.size))
 clear hb3
 go_wp2_with fail
 go_ret
 have e9 : decide (sz <= 1024) = decide ((sz : Int) <= 1024) := decide_eq_decide.2 (by omega)
 rw [e9]
 exact ⟨rfl, HB3.out⟩
end Go.Proofs.YtafilaiinbggoaaGreat
