/- Filters: a clause, counted by the program; Check. -/
import Derived.Test.YtdajfdahgjhmaaaDoorFJ
namespace Go.Proofs.YtdajfdahgjhmaaaDoor
open Go.RowKit

section
variable {cnt : JV → Option Nat} {s : ByteArray} {v : JV}
theorem cl_list (h : isN s sAnd = true ∨ isN s sOr = true) (h5 : v.kind = 5) (h0 : v.items.length ≠ 0) : clauseF cnt s v = sumO 1 (v.items.map cnt) := by
  unfold clauseF; rw [if_pos (by simpa using h), if_pos ⟨h5, h0⟩]
theorem cl_nolist (h : isN s sAnd = true ∨ isN s sOr = true) (h5 : ¬ (v.kind = 5 ∧ v.items.length ≠ 0)) : clauseF cnt s v = none := by
  unfold clauseF; rw [if_pos (by simpa using h), if_neg h5]
theorem cl_not (h1 : isN s sAnd = false) (h2 : isN s sOr = false) (h3 : isN s sNot = true) : clauseF cnt s v = (cnt v).map (· + 1) := by
  unfold clauseF; rw [if_neg (by simp [h1, h2]), if_pos h3]
theorem cl_sign (h1 : isN s sAnd = false) (h2 : isN s sOr = false) (h3 : isN s sNot = false) (h4 : signF s = true) : clauseF cnt s v = none := by
  unfold clauseF; rw [if_neg (by simp [h1, h2]), if_neg (by simp [h3]), if_pos h4]
theorem cl_steps (h1 : isN s sAnd = false) (h2 : isN s sOr = false) (h3 : isN s sNot = false) (h4 : signF s = false) (h5 : stepsF s = none) : clauseF cnt s v = none := by
  unfold clauseF; rw [if_neg (by simp [h1, h2]), if_neg (by simp [h3]), if_neg (by simp [h4]), if_pos (by simp [h5])]
theorem cl_path (h1 : isN s sAnd = false) (h2 : isN s sOr = false) (h3 : isN s sNot = false) (h4 : signF s = false) {l : List ByteArray} (h5 : stepsF s = some l) : clauseF cnt s v = if testsF v && !((v.names.zip v.items).all fun p => testF p.1 p.2) then none else some 1 := by
  unfold clauseF; rw [if_neg (by simp [h1, h2]), if_neg (by simp [h3]), if_neg (by simp [h4]), if_neg (by simp [h5])]
end

set_option maxRecDepth 100000 in
set_option maxHeartbeats 8000000 in
theorem clause_list (d : Nat) (hd : d ≤ 6) (H : ClausesAt d) (s : ByteArray) (hs : s.toList = sAnd ∨ s.toList = sOr) (k n : Int) (t : ByteArray) (nm : List ByteArray) (it : List JV) (nv : Value) (ia : Option Addr) (icap : Nat) (w : World)
    (hf : formedF d (.mk k n t nm it) = true) (hit : ItemsAt (cf w) (.slice ia it.length icap) it) (hT : Tabs w) :
    Calls Tryd.prog 34 #[.string s, .agg #[.int .i64 k, .int .i64 n, .string t, nv, .slice ia it.length icap]] w fun e w' => e = .returned (.int .i64 (cntI (clauseF (countF d) s (.mk k n t nm it)))) ∧ Below w.heap.size w w' := by
  have hnm : isN s sAnd = true ∨ isN s sOr = true := by
    rcases hs with h | h
    · exact .inl (isN_yes h)
    · exact .inr (isN_yes h)
  have hb12 : (s.toList = [36, 97, 110, 100]) ∨ ((s.toList == [36, 97, 110, 100]) = false ∧ s.toList = [36, 111, 114]) := by
    rcases hs with h | h
    · exact .inl h
    · exact .inr ⟨by rw [h]; rfl, h⟩
  have HFK : Hold (∀ y ∈ it, formedF d y = true) := ⟨fun y hy => by
    cases d with
    | zero => simp [formedF] at hf
    | succ d => exact formed_mono d y (item_formed hf hy)⟩
  have HL := Hold.mk (formed_lens hf).1
  have HCB := Hold.mk (cntB_le d hd)
  have HT := Hold.mk hT
  have HH := Hold.mk H
  have HBD := Hold.mk (fun (y : JV) (m : Nat) (hy : formedF d y = true) (h : countF d y = some m) => count_le d y m hy h)
  obtain ⟨ia', icap', e, hilen, his⟩ := hit
  cases e
  have HI := Hold.mk his
  clear hT H hf his hs
  by_cases h5 : k = 5
  · by_cases h0 : it.length = 0
    · have HR := Hold.mk (cl_nolist (cnt := countF d) (v := .mk k n t nm it) hnm (fun h => h.2 h0))
      have b0 : ((it.length : Int) == 0) = true := by rw [h0]; rfl
      subst h5
      clear h0 hnm
      rcases hb12 with h | ⟨h1, h2⟩
      all_goals
        go_enter Tryd.func34, Tryd.ntmps34
        go_wp2_with fail
        go_ret
        exact ⟨by rw [HR.out]; rfl, (Below.refl _ _).alloc (Nat.le_refl _) _⟩
    · have HC0 := Hold.mk (cl_list (cnt := countF d) (v := .mk k n t nm it) hnm h5 h0)
      have b0 : ((it.length : Int) == 0) = false := by rw [beq_eq_false_iff_ne]; omega
      subst h5
      clear h0 hnm
      rcases hb12 with h | ⟨h1, h2⟩
      all_goals
        go_enter Tryd.func34, Tryd.ntmps34
        go_wp2_with fail
        go_loopw [5, 33] (fun a i wr => ∃ j m : Nat, i = .int .i64 j ∧ a = .int .i64 m ∧ j ≤ it.length ∧ m ≤ 1 + j * cntB d ∧ clauseF (countF d) s (.mk 5 n t nm it) = sumO m ((it.drop j).map (countF d)) ∧ Below w.heap.size w wr) (fun _ i _ => it.length - (intOf i).toNat)
        case atStart => exact ⟨0, 1, rfl, rfl, Nat.zero_le _, by simp, HC0.out, (Below.refl _ _).alloc (Nat.le_refl _) _⟩
        case round =>
          obtain ⟨j, m, rfl, rfl, hj, hm, hst, hbl⟩ := hrel
          have HM := Hold.mk hm
          have HST := Hold.mk hst
          have HB := Hold.mk hbl
          clear hm hst hbl
          by_cases hlt : j < it.length
          · obtain ⟨x, hx⟩ : ∃ x, it[j]? = some x := ⟨it[j], List.getElem?_eq_getElem hlt⟩
            obtain ⟨b, off, k2, n2, t2, nm2, it2, na2, ncap2, ia2, icap2, rfl, hxe, x0, x1, x2, x3, x4, hxj⟩ := HI.out j x hx
            have hcl := cle_below HB.out
            have z0 := hcl _ _ _ x0
            have z1 := hcl _ _ _ x1
            have z2 := hcl _ _ _ x2
            have z3 := hcl _ _ _ x3
            have z4 := hcl _ _ _ x4
            unfold cf at z0 z1 z2 z3 z4
            have hfx := HFK.out x (List.mem_of_getElem? hx)
            have HBA := Hold.mk (HB.out.alloc HB.out.size (.cells #[.int .i64 k2, .int .i64 n2, .string t2, .slice na2 nm2.length ncap2, .slice ia2 it2.length icap2] 32))
            have HX := Hold.mk (HH.out x _ _ hfx (hxj.mono (cle_below HBA.out)) (HT.out.below HBA.out))
            have HD := Hold.mk (HST.out.trans (congrArg (sumO m) (sum_drop (f := countF d) hx)))
            have HCL := Hold.mk (fun q h => HBD.out x q hfx h)
            clear x0 x1 x2 x3 x4 hcl hx hxe hxj hfx
            cases hc : countF d x with
            | none =>
              rw [hc] at HX
              have HR : Hold (clauseF (countF d) s (.mk 5 n t nm it) = none) := ⟨by rw [HD.out, hc, sumO]⟩
              clear hc
              rw [cntI_neg] at HX
              go_wp2_with fail
              refine HX.out.mono ?_
              rintro e w3 ⟨rfl, hb3⟩
              replace HB := Hold.mk (HBA.out.trans (hb3.mono HBA.out.size))
              clear hb3 HX z0 z1 z2 z3 z4 HBA
              go_wp2_with fail
              go_ret
              exact ⟨by rw [HR.out]; rfl, HB.out⟩
            | some q =>
              rw [hc] at HX
              have hq := HCL.out q hc
              have HR : Hold (clauseF (countF d) s (.mk 5 n t nm it) = sumO (m + q) ((it.drop (j + 1)).map (countF d))) := ⟨by rw [HD.out, hc, sumO]⟩
              have hm2 : m + q ≤ 1 + (j + 1) * cntB d := by rw [Nat.add_mul, Nat.one_mul]; have := HM.out; omega
              have hbig : (j + 1) * cntB d ≤ 24 * 10000000000000000 := Nat.mul_le_mul (by have h2 : it.length ≤ 24 := HL.out; omega) HCB.out
              have hmq : m + q ≤ 9000000000000000000 := Nat.le_trans (Nat.le_trans hm2 (Nat.add_le_add_left hbig 1)) (by decide)
              have HM2 := Hold.mk hm2
              clear hc hq hm2 hbig
              change Hold (Calls _ _ _ _ fun e w' => e = .returned (.int .i64 (q : Int)) ∧ _) at HX
              go_wp2_with fail
              refine HX.out.mono ?_
              rintro e w3 ⟨rfl, hb3⟩
              replace HB := Hold.mk (HBA.out.trans (hb3.mono HBA.out.size))
              clear hb3 HX z0 z1 z2 z3 z4 HBA
              go_wp2_with fail
              exact ⟨⟨j + 1, m + q, by go_num, by go_num, hlt, HM2.out, HR.out, HB.out⟩, by simp [intOf]; omega⟩
          · have HR : Hold (clauseF (countF d) s (.mk 5 n t nm it) = some m) := ⟨by rw [HST.out, List.drop_eq_nil_of_le (by omega)]; rfl⟩
            go_wp2_with fail
            go_ret
            exact ⟨by rw [HR.out]; rfl, HB.out⟩
  · have HR := Hold.mk (cl_nolist (cnt := countF d) (v := .mk k n t nm it) hnm (fun h => h5 h.1))
    have b5 : (k != 5) = true := by simpa using h5
    clear h5 hnm
    rcases hb12 with h | ⟨h1, h2⟩
    all_goals
      go_enter Tryd.func34, Tryd.ntmps34
      go_wp2_with fail
      go_ret
      exact ⟨by rw [HR.out]; rfl, (Below.refl _ _).alloc (Nat.le_refl _) _⟩

end Go.Proofs.YtdajfdahgjhmaaaDoor
