/- Writes, plainly: what is put is got, all else stays; Meet walked. -/
import Derived.Test.YtkhhbckpddkhlaaGreatDoorWJ
namespace Go.Proofs.YtkhhbckpddkhlaaGreatDoor
open Go.Shelf Go.RowKit

theorem up_iff (l : List WR) : upW l ↔ l.Pairwise (fun a b => ltW a b = true) := by
  rw [List.pairwise_iff_getElem]
  refine ⟨fun h i j hi hj hij => h i j _ _ hij (List.getElem?_eq_getElem hi) (List.getElem?_eq_getElem hj), fun h i j a b hij ha hb => ?_⟩
  obtain ⟨hi, rfl⟩ := List.getElem?_eq_some_iff.1 ha
  obtain ⟨hj, rfl⟩ := List.getElem?_eq_some_iff.1 hb
  exact h i j hi hj hij
open Classical in
theorem formedW_iff (l : List WR) : formedW l = true ↔ (∀ y ∈ l, oneF y = true) ∧ upW l ∧ l.length ≤ 12 := by
  unfold formedW
  rw [decide_eq_true_iff]
  refine ⟨fun ⟨h, h12⟩ => ⟨fun y hy => ?_, up_of_formed h, h12⟩, fun ⟨h1, h2, h12⟩ => ⟨⟨fun i y _ hy => h1 y (List.mem_of_getElem? hy), fun i a b _ ha hb => h2 i (i + 1) a b (by omega) ha hb⟩, h12⟩⟩
  obtain ⟨i, hi, rfl⟩ := List.getElem_of_mem hy
  exact h.1 i _ hi (List.getElem?_eq_getElem hi)
theorem sameW_ltR {a b c : WR} (h : sameW a b = true) : ltW a c = ltW b c := by
  unfold sameW at h; unfold ltW
  simp only [Bool.and_eq_true, decide_eq_true_eq] at h
  rw [h.1, h.2]
theorem lt_of_ge {a b : WR} (h : ltW a b = false) (k : sameW a b = false) : ltW b a = true := by
  cases hb : ltW b a with
  | true => rfl
  | false => rw [sameW_of h hb] at k; cases k
/-- what lies behind a write that is put -/
def restW (x : WR) (l : List WR) : List WR := l.drop (if foundW x l = true then placeW x l + 1 else placeW x l)
theorem putWL_eq (x : WR) (l : List WR) : putWL x l = l.take (placeW x l) ++ x :: restW x l := by
  unfold restW
  cases h : foundW x l with
  | true => rw [putWL_set2 h]; simp
  | false => rw [putWL_ins h]; simp
theorem rest_mem {x y : WR} {l : List WR} (h : y ∈ restW x l) : y ∈ l.drop (placeW x l) := by
  unfold restW at h
  split at h
  · rw [← List.drop_drop] at h; exact List.mem_of_mem_drop h
  · exact h
theorem rest_gt {x y : WR} {l : List WR} (hu : upW l) (h : y ∈ restW x l) : ltW x y = true := by
  unfold restW at h
  split at h
  · rename_i hf
    have hl := foundW_lt hf
    obtain ⟨i, hi, rfl⟩ := List.getElem_of_mem h
    obtain ⟨z, hz⟩ : ∃ z, l[placeW x l]? = some z := ⟨_, List.getElem?_eq_getElem hl⟩
    have hs : sameW z x = true := by unfold foundW at hf; rw [hz] at hf; exact hf
    rw [← sameW_ltR hs]
    refine hu (placeW x l) (placeW x l + 1 + i) z _ (by omega) hz ?_
    rw [List.getElem_drop, List.getElem?_eq_getElem]
  · rename_i hf
    obtain ⟨i, hi, rfl⟩ := List.getElem_of_mem h
    rw [List.length_drop] at hi
    have hl : placeW x l < l.length := by omega
    obtain ⟨z, hz⟩ : ∃ z, l[placeW x l]? = some z := ⟨_, List.getElem?_eq_getElem hl⟩
    have hs : sameW z x = false := by
      unfold foundW at hf; rw [hz] at hf; simpa using hf
    have h1 := lt_of_ge (placeW_at hz) hs
    rw [List.getElem_drop]
    by_cases h0 : i = 0
    · subst h0
      obtain ⟨_, e⟩ := List.getElem?_eq_some_iff.1 hz
      simp only [Nat.add_zero]
      rw [e]; exact h1
    · exact ltW_trans h1 (hu (placeW x l) (placeW x l + i) z _ (by omega) hz (List.getElem?_eq_getElem (by omega)))
theorem up_put {x : WR} {l : List WR} (hu : upW l) : upW (putWL x l) := by
  have hp := (up_iff l).1 hu
  rw [up_iff, putWL_eq, List.pairwise_append, List.pairwise_cons]
  refine ⟨hp.sublist (List.take_sublist _ _), ⟨fun y hy => rest_gt hu hy, hp.sublist (List.drop_sublist _ _)⟩, fun a ha b hb => ?_⟩
  have hax : ltW a x = true := by
    obtain ⟨i, hi, rfl⟩ := List.getElem_of_mem ha
    rw [List.length_take] at hi
    refine placeW_lt (w := x) (l := l) (t := i) (by omega) ?_
    rw [List.getElem_take, List.getElem?_eq_getElem (by omega)]
  rcases List.mem_cons.1 hb with rfl | hb
  · exact hax
  · exact ltW_trans hax (rest_gt hu hb)
theorem put_mem {x y : WR} {l : List WR} (h : y ∈ putWL x l) : y = x ∨ y ∈ l := by
  rw [putWL_eq] at h
  rcases List.mem_append.1 h with h | h
  · exact .inr (List.mem_of_mem_take h)
  · rcases List.mem_cons.1 h with h | h
    · exact .inl h
    · exact .inr (List.mem_of_mem_drop (rest_mem h))
theorem put_len {x : WR} {l : List WR} (h12 : l.length ≤ 12) (he : putWE l x = 0) : (putWL x l).length ≤ 12 := by
  rw [putWL_len]
  unfold putWE at he
  split at he
  · cases he
  · cases hf : foundW x l with
    | true => simp; omega
    | false =>
      rw [hf] at he
      simp only at he
      split at he
      · cases he
      · simp; omega
theorem put_parts {x : WR} {l : List WR} (he : putWE l x = 0) : formedW l = true ∧ oneF x = true := by
  unfold putWE at he
  split at he
  · cases he
  · rename_i h; rw [Bool.and_eq_true] at h; exact h
theorem put_formed {x : WR} {l : List WR} (he : putWE l x = 0) : formedW (putWL x l) = true := by
  obtain ⟨h1, h2⟩ := put_parts he
  obtain ⟨ha, hu, h12⟩ := (formedW_iff l).1 h1
  refine (formedW_iff _).2 ⟨fun y hy => ?_, up_put hu, put_len h12 he⟩
  rcases put_mem hy with rfl | hy
  · exact h2
  · exact ha y hy
theorem put_place {x : WR} {l : List WR} : placeW x (putWL x l) = placeW x l ∧ (putWL x l)[placeW x l]? = some x := by
  have hle := placeW_le x l
  have hat : (putWL x l)[placeW x l]? = some x := by
    rw [putWL_eq, List.getElem?_append_right (by rw [List.length_take]; omega), List.length_take, Nat.min_eq_left hle, Nat.sub_self]; rfl
  refine ⟨placeW_eq (by rw [putWL_len]; split <;> omega) (fun t y ht hy => ?_) (fun y hy => ?_), hat⟩
  · rw [putWL_eq, List.getElem?_append_left (by rw [List.length_take]; omega), List.getElem?_take, if_pos ht] at hy
    exact placeW_lt ht hy
  · rw [hat] at hy; cases hy; exact ltW_self x
theorem sameW_self (x : WR) : sameW x x = true := by simp [sameW]
theorem put_found2 {x : WR} {l : List WR} : foundW x (putWL x l) = true := by
  unfold foundW; rw [put_place.1, put_place.2]; exact sameW_self x
theorem put_twice {x : WR} {l : List WR} : putWL x (putWL x l) = putWL x l := by
  rw [putWL_set put_found2, put_place.1]
  have h := put_place (x := x) (l := l)
  obtain ⟨h1, h2⟩ := List.getElem?_eq_some_iff.1 h.2
  conv => lhs; arg 3; rw [← h2]
  exact List.set_getElem_self h1
theorem put_again {x : WR} {l : List WR} (he : putWE l x = 0) : putWE (putWL x l) x = 0 ∧ putWR (putWL x l) x = putWL x l := by
  have h0 : putWE (putWL x l) x = 0 := put_found (put_formed he) (put_parts he).2 put_found2
  exact ⟨h0, by unfold putWR; rw [if_pos h0, put_twice]⟩
theorem getF_append (a b : List WR) (sp : Int) (id : ByteArray) : getF (a ++ b) sp id = match getF a sp id with
    | some y => some y
    | none => getF b sp id := by
  induction a with
  | nil => rfl
  | cons y a ih =>
    rw [List.cons_append, getF, getF]
    split
    · rfl
    · exact ih
theorem put_got {x : WR} {l : List WR} : getF (putWL x l) x.sp x.id = some x := by
  refine getF_at (j := placeW x l) (fun q a hq ha => ?_) put_place.2 (by simp [hitW])
  have hle := placeW_le x l
  rw [putWL_eq, List.getElem?_append_left (by rw [List.length_take]; omega), List.getElem?_take, if_pos hq] at ha
  have := placeW_lt hq ha
  cases hh : hitW a x.sp x.id with
  | false => rfl
  | true =>
    have hs : sameW a x = true := hh
    rw [(sameW_lt hs).1] at this; cases this
theorem put_other {x : WR} {l : List WR} {sp : Int} {id : ByteArray} (h : hitW x sp id = false) : getF (putWL x l) sp id = getF l sp id := by
  have e : l = l.take (placeW x l) ++ l.drop (placeW x l) := (List.take_append_drop _ _).symm
  rw [putWL_eq]
  conv => rhs; rw [e]
  rw [getF_append, getF_append]
  have hr : getF (x :: restW x l) sp id = getF (l.drop (placeW x l)) sp id := by
    rw [getF, h, if_neg (by simp)]
    unfold restW
    split
    · rename_i hf
      have hl := foundW_lt hf
      rw [List.drop_eq_getElem_cons hl, getF]
      have hs : sameW l[placeW x l] x = true := by unfold foundW at hf; rw [List.getElem?_eq_getElem hl] at hf; exact hf
      have hn : hitW l[placeW x l] sp id = false := by
        unfold sameW at hs
        simp only [Bool.and_eq_true, decide_eq_true_eq] at hs
        unfold hitW at h ⊢
        rw [hs.1, hs.2]; exact h
      rw [hn, if_neg (by simp)]
    · rfl
  rw [hr]
theorem put_meets {x : WR} {l : List WR} : (putWL x l).any (fun y => getB [x] y.sp y.id) = true := by
  rw [List.any_eq_true]
  refine ⟨x, by rw [putWL_eq]; simp, ?_⟩
  unfold getB getF
  simp [hitW]

/-! Meet -/
def IdxW (b : Bool) (w : World) (e : Ending) (w' : World) : Prop := ∃ r : Int, e = .returned (.int .i64 r) ∧ decide (0 ≤ r) = b ∧ Below w.heap.size w w'
theorem anyW_true {l : List WR} {p : WR → Bool} {i : Nat} {x : WR} (hx : l[i]? = some x) (h : p x = true) : l.any p = true :=
  List.any_eq_true.2 ⟨x, List.mem_of_getElem? hx, h⟩
theorem anyW_false {l : List WR} {p : WR → Bool} (h : ∀ (i : Nat) x, i < l.length → l[i]? = some x → p x = false) : l.any p = false := by
  rw [← Bool.not_eq_true, List.any_eq_true]
  rintro ⟨x, hx, hp⟩
  obtain ⟨i, hil, e⟩ := List.getElem_of_mem hx
  rw [h i x hil (by rw [← e]; exact List.getElem?_eq_getElem hil)] at hp
  cases hp
theorem meet1_enters (args : Array Value) (w : World) : (callFunc 79 args).run Tryz.prog w = .ok (.enter 79 args) w := enters_of Tryz.func79 (by kernel_rfl) rfl args w

set_option maxRecDepth 100000 in
set_option maxHeartbeats 8000000 in
theorem meet1_any (m : List WR) (mv : Value) (x : WR) (k : Nat) (w : World) (hm : SAt 4 RW (cf w) mv m) (hk : w.heap[k]? = some (.cells #[mv] 54 (0, 0))) :
    Calls Tryz.prog 79 #[.agg x.cells, .pointer (some ⟨k, 0, none⟩)] w fun e w' => e = .returned (.bool (getB m x.sp x.id)) ∧ Below w.heap.size w w' := by
  obtain ⟨ma, mcap, rfl⟩ := hm.slice
  have HM := Hold.mk hm
  have hkl := ltR hk
  have hkc : w.cell? ⟨k, 0, none⟩ = some (.slice ma m.length mcap) := by simp [World.cell?, hk]
  obtain ⟨s, i, g, t⟩ := x
  obtain ⟨gv, hgv⟩ : ∃ gv, getV m s i = gv := ⟨_, rfl⟩
  obtain ⟨gb, hgb⟩ : ∃ gb, getB m s i = gb := ⟨_, rfl⟩
  have HGV := Hold.mk hgv
  have HGB := Hold.mk hgb
  unfold WR.cells
  simp only
  rw [hgb]
  obtain ⟨gs, gi, gg, gt⟩ := gv
  obtain ⟨W, hW⟩ : ∃ W, W = w.alloc (.cells #[.int .i64 s, .string i, .bool g, .string t] 58) := ⟨_, rfl⟩
  have hb : Below w.heap.size w W := by rw [hW]; exact (Below.refl _ w).alloc (Nat.le_refl _) _
  have HX : Hold (W.heap[w.heap.size]? = some (.cells #[.int .i64 s, .string i, .bool g, .string t] 58 (0, 0))) := ⟨by rw [hW]; exact heap_alloc_new w _⟩
  have c0 : W.cell? ⟨k, 0, none⟩ = some (.slice ma m.length mcap) := by rw [hb.cell (p := ⟨k, 0, none⟩) hkl]; exact hkc
  have HB := Hold.mk hb
  have HM2 := Hold.mk (HM.out.mono RW_mono (cle_below hb))
  clear hb hm hk hkl hkc hgv hgb
  go_enter Tryz.func79, Tryz.ntmps79
  go_upto_region 1 with (fail)
  rw [← hW]
  clear hW
  obtain ⟨y0, y1, y2, y3⟩ := cells4W HX.out
  go_wp2_with fail
  refine (wGet_any m _ s i W HM2.out).mono ?_
  rintro e w3 hgp
  obtain ⟨he, hbr⟩ := get_post hgp
  rw [HGV.out, HGB.out] at he
  unfold WR.cells at he
  simp only at he
  subst he
  have HBF := Hold.mk ((HB.out.trans (hbr.mono HB.out.size)).alloc (Nat.le_trans HB.out.size hbr.size) (.cells #[.int .i64 gs, .string gi, .bool gg, .string gt] 58))
  clear hbr hgp y0 y1 y2 y3 c0
  go_wp2_with fail
  go_ret
  exact ⟨rfl, HBF.out⟩

set_option maxRecDepth 100000 in
set_option maxHeartbeats 8000000 in
theorem widx_any (l m : List WR) (lv mv : Value) (k : Nat) (w : World) (hl : SAt 4 RW (cf w) lv l) (hm : SAt 4 RW (cf w) mv m) (hk : w.heap[k]? = some (.cells #[mv] 54 (0, 0))) :
    Calls Tryz.prog 122 #[lv, .func (.func 79) #[] #[.pointer (some ⟨k, 0, none⟩)]] w (IdxW (l.any fun y => getB m y.sp y.id) w) := by
  obtain ⟨a, cap, rfl, hlen, hcap, hel⟩ := hl
  have hle2 : l.length ≤ 9223372036854775807 := by omega
  have HE := Hold.mk hel
  have HM := Hold.mk hm
  have HK := Hold.mk hk
  have hF := meet1_enters
  clear hel hm hk
  go_enter Tryz.func122, Tryz.ntmps122
  go_wp2_with fail
  go_loopw [8] (fun i wr => ∃ j : Nat, i = .int .i64 j ∧ j ≤ l.length ∧ (∀ (q : Nat) x, q < j → l[q]? = some x → getB m x.sp x.id = false) ∧ Below w.heap.size w wr) (fun i _ => l.length - (intOf i).toNat)
  case atStart => exact ⟨0, rfl, Nat.zero_le _, fun q x h => by omega, Below.refl _ _⟩
  case round =>
    obtain ⟨j, rfl, hj, hall, hbl⟩ := hrel
    have HA := Hold.mk hall
    have HB := Hold.mk hbl
    clear hall hbl
    by_cases hlt : j < l.length
    · obtain ⟨x, hx⟩ : ∃ x, l[j]? = some x := ⟨l[j], List.getElem?_eq_getElem hlt⟩
      obtain ⟨b, off, d, rfl, hd, hc, hyi⟩ := HE.out j x hx
      obtain ⟨rfl, _, _, _⟩ := hyi
      have HXE := Hold.mk hx
      have HX := Hold.mk (meet1_any m _ x k wr (HM.out.mono RW_mono (cle_below HB.out)) (keptR HK.out HB.out))
      obtain ⟨s, i, g, t⟩ := x
      unfold WR.cells at HX
      simp only at HX
      have hcl := cle_below HB.out
      have z0 := hcl _ _ _ (hc 0 _ rfl)
      have z1 := hcl _ _ _ (hc 1 _ rfl)
      have z2 := hcl _ _ _ (hc 2 _ rfl)
      have z3 := hcl _ _ _ (hc 3 _ rfl)
      unfold cf at z0 z1 z2 z3
      rw [Nat.add_zero] at z0
      clear hx hd hc hcl
      obtain ⟨gb, hgb⟩ : ∃ gb, getB m s i = gb := ⟨_, rfl⟩
      rw [hgb] at HX
      have HF := Hold.mk hgb
      clear hgb
      cases gb with
      | false =>
        go_wp2_with fail
        refine HX.out.mono ?_
        rintro e w3 ⟨rfl, hb3⟩
        replace HB := Hold.mk (HB.out.trans (hb3.mono HB.out.size))
        clear hb3 HX z0 z1 z2 z3
        go_wp2_with fail
        refine ⟨⟨j + 1, by go_num, hlt, fun q s' hq hs' => ?_, HB.out⟩, by simp [intOf]; omega⟩
        by_cases e : q = j
        · subst e; rw [HXE.out] at hs'; cases hs'; exact HF.out
        · exact HA.out q s' (by omega) hs'
      | true =>
        go_wp2_with fail
        refine HX.out.mono ?_
        rintro e w3 ⟨rfl, hb3⟩
        replace HB := Hold.mk (HB.out.trans (hb3.mono HB.out.size))
        clear hb3 HX z0 z1 z2 z3
        go_wp2_with fail
        go_ret
        exact ⟨(j : Int), rfl, by rw [anyW_true (p := fun y => getB m y.sp y.id) HXE.out HF.out]; simp, HB.out⟩
    · have HAll : Hold (l.any (fun y => getB m y.sp y.id) = false) := ⟨anyW_false (fun q x hq => HA.out q x (by omega))⟩
      go_wp2_with fail
      go_ret
      exact ⟨-1, rfl, by rw [HAll.out]; rfl, HB.out⟩

set_option maxRecDepth 100000 in
set_option maxHeartbeats 8000000 in
theorem wMeet_any (l m : List WR) (lv mv : Value) (w : World) (hl : SAt 4 RW (cf w) lv l) (hm : SAt 4 RW (cf w) mv m) :
    Calls Tryz.prog 36 #[lv, mv] w fun e w' => e = .returned (.bool (l.any fun y => getB m y.sp y.id)) ∧ Below w.heap.size w w' := by
  have HL := Hold.mk hl
  have HM := Hold.mk hm
  obtain ⟨la, lcap, rfl⟩ := hl.slice
  obtain ⟨ma, mcap, rfl⟩ := hm.slice
  obtain ⟨W, hW⟩ : ∃ W, W = w.alloc (.cells #[.slice ma m.length mcap] 54) := ⟨_, rfl⟩
  have hb : Below w.heap.size w W := by rw [hW]; exact (Below.refl _ w).alloc (Nat.le_refl _) _
  have HK : Hold (W.heap[w.heap.size]? = some (.cells #[.slice ma m.length mcap] 54 (0, 0))) := ⟨by rw [hW]; exact heap_alloc_new w _⟩
  have HB := Hold.mk hb
  have HX := Hold.mk (widx_any l m _ _ w.heap.size W (HL.out.mono RW_mono (cle_below hb)) (HM.out.mono RW_mono (cle_below hb)) HK.out)
  generalize (l.any fun y => getB m y.sp y.id) = r at HX ⊢
  have HCF : Hold (Calls Tryz.prog 78 #[.slice la l.length lcap, .func (.func 79) #[] #[.pointer (some ⟨w.heap.size, 0, none⟩)]] W fun e w' => e = .returned (.bool r) ∧ Below W.heap.size W w') := ⟨by
    clear hb hW HB HK HL HM hl hm
    go_enter Tryz.func78, Tryz.ntmps78
    go_wp2_with fail
    refine HX.out.mono ?_
    rintro e w1 ⟨q, rfl, hr, hb1⟩
    have HR := Hold.mk hr
    have HB := Hold.mk hb1
    clear hr hb1 HX
    go_wp2_with fail
    go_ret
    exact ⟨by rw [← HR.out] <;> rfl, HB.out⟩⟩
  clear hb hl hm HX
  go_enter Tryz.func36, Tryz.ntmps36
  go_upto_region 1 with (fail)
  rw [← hW]
  clear hW
  go_wp2_with fail
  refine HCF.out.mono ?_
  rintro e w3 ⟨rfl, hb3⟩
  have HBF := HB.out.trans (hb3.mono HB.out.size)
  clear hb3 HCF
  go_wp2_with fail
  go_ret
  exact ⟨rfl, HBF⟩

end Go.Proofs.YtkhhbckpddkhlaaGreatDoor
