/- Filters: the conditions, counted by the program. -/
import Derived.Test.YtdajfdahgjhmaaaDoorFI
namespace Go.Proofs.YtdajfdahgjhmaaaDoor
open Go.RowKit

/-- how many conditions there may be -/
def cntB : Nat → Nat
  | 0 => 0
  | d + 1 => 24 * (2 + 24 * cntB d)
theorem cntB_le : ∀ d, d ≤ 6 → cntB d ≤ 10000000000000000
  | 0, _ => by decide
  | 1, _ => by decide
  | 2, _ => by decide
  | 3, _ => by decide
  | 4, _ => by decide
  | 5, _ => by decide
  | 6, _ => by decide
  | n + 7, h => by omega
theorem sumO_le {B : Nat} : ∀ (l : List (Option Nat)) (n r : Nat), (∀ x ∈ l, ∀ k, x = some k → k ≤ B) → sumO n l = some r → r ≤ n + l.length * B
  | [], n, r, _, h => by rw [sumO] at h; cases h; omega
  | none :: l, n, r, _, h => by rw [sumO] at h; cases h
  | some k :: l, n, r, hb, h => by
    rw [sumO] at h
    have h1 := sumO_le l (n + k) r (fun x hx => hb x (by simp [hx])) h
    have h2 := hb (some k) (by simp) k rfl
    rw [List.length_cons, Nat.add_mul, Nat.one_mul]
    omega
theorem sumO_ge : ∀ (l : List (Option Nat)) (n r : Nat), sumO n l = some r → n ≤ r
  | [], n, r, h => by rw [sumO] at h; cases h; omega
  | none :: l, n, r, h => by rw [sumO] at h; cases h
  | some k :: l, n, r, h => by rw [sumO] at h; have := sumO_ge l (n + k) r h; omega

theorem formed_lens {d : Nat} {v : JV} (hf : formedF d v = true) : v.items.length ≤ 24 ∧ v.names.length ≤ v.items.length := by
  cases d with
  | zero => simp [formedF] at hf
  | succ d =>
    obtain ⟨k, n, t, nm, it⟩ := v
    by_cases h5 : k < 5
    · rw [formedF, if_pos h5, Bool.and_eq_true] at hf
      have := of_decide_eq_true hf.2
      exact ⟨by show it.length ≤ 24; omega, by show nm.length ≤ it.length; omega⟩
    · have := formed_body hf h5
      refine ⟨this.1, ?_⟩
      show nm.length ≤ it.length
      have h2 := this.2.1
      split at h2 <;> omega
theorem formed_kids {d : Nat} {v : JV} (hf : formedF (d + 1) v = true) {x : JV} (hx : x ∈ v.items) : formedF d x = true := by
  obtain ⟨k, n, t, nm, it⟩ := v
  exact item_formed hf hx

theorem clause_le {d : Nat} {s : ByteArray} {v : JV} {n : Nat} (hb : ∀ x n, formedF d x = true → countF d x = some n → n ≤ cntB d) (hf : formedF d v = true) (h : clauseF (countF d) s v = some n) : n ≤ 2 + 24 * cntB d := by
  unfold clauseF at h
  split at h
  · split at h
    · have h1 := sumO_le (B := cntB d) _ _ _ (fun x hx k hk => by
        obtain ⟨y, hy, rfl⟩ := List.mem_map.1 hx
        have : formedF d y = true := by
          cases d with
          | zero => simp [formedF] at hf
          | succ d => exact formed_mono d y (formed_kids hf hy)
        exact hb y k this hk) h
      rw [List.length_map] at h1
      have h2 := (formed_lens hf).1
      have h3 : v.items.length * cntB d ≤ 24 * cntB d := Nat.mul_le_mul_right _ h2
      omega
    · cases h
  · split at h
    · rw [Option.map_eq_some_iff] at h
      obtain ⟨a, ha, rfl⟩ := h
      have := hb v a hf ha
      omega
    · split at h
      · cases h
      · split at h
        · cases h
        · split at h
          · cases h
          · cases h; omega
theorem count_le : ∀ (d : Nat) (f : JV) (n : Nat), formedF d f = true → countF d f = some n → n ≤ cntB d
  | 0, f, n, h, _ => by simp [formedF] at h
  | d + 1, f, n, hf, h => by
    rw [countF] at h
    split at h
    · have h1 := sumO_le (B := 2 + 24 * cntB d) _ _ _ (fun x hx k hk => by
        obtain ⟨y, hy, rfl⟩ := List.mem_map.1 hx
        exact clause_le (fun z m hz hm => count_le d z m hz hm) (formed_kids hf (List.of_mem_zip hy).2) hk) h
      rw [List.length_map, List.length_zip] at h1
      have h2 := (formed_lens hf).1
      have h3 : min f.names.length f.items.length * (2 + 24 * cntB d) ≤ 24 * (2 + 24 * cntB d) := Nat.mul_le_mul_right _ (by omega)
      rw [cntB]
      omega
    · cases h

/-- a count as the program tells it -/
def cntI : Option Nat → Int
  | none => -1
  | some n => n
theorem cntI_neg : cntI none = -1 := rfl

/-- what clauses is known to answer, going down d -/
def ClausesAt (d : Nat) : Prop := ∀ (f : JV) (x : Value) (w : World), formedF d f = true → JAt (cf w) f x → Tabs w →
  Calls Tryd.prog 22 #[x] w fun e w' => e = .returned (.int .i64 (cntI (countF d f))) ∧ Below w.heap.size w w'
def ClauseAt (d : Nat) : Prop := ∀ (s : ByteArray) (v : JV) (x : Value) (w : World), s.size ≤ 1000000 → formedF d v = true → JAt (cf w) v x → Tabs w →
  Calls Tryd.prog 34 #[.string s, x] w fun e w' => e = .returned (.int .i64 (cntI (clauseF (countF d) s v))) ∧ Below w.heap.size w w'

/-! where a sum stands -/
theorem sum_drop {α : Type} {l : List α} {f : α → Option Nat} {j : Nat} {x : α} (hx : l[j]? = some x) : (l.drop j).map f = f x :: (l.drop (j + 1)).map f := by
  obtain ⟨h1, e1⟩ := List.getElem?_eq_some_iff.1 hx
  rw [List.drop_eq_getElem_cons h1, List.map_cons, e1]
theorem zip_at {nm : List ByteArray} {it : List JV} {j : Nat} {s : ByteArray} {x : JV} (hs : nm[j]? = some s) (hx : it[j]? = some x) : (nm.zip it)[j]? = some (s, x) := by
  rw [List.getElem?_zip_eq_some]; exact ⟨hs, hx⟩

set_option maxRecDepth 100000 in
set_option maxHeartbeats 8000000 in
theorem clauses_step (d : Nat) (hd : d < 6) (H : ClauseAt d) : ClausesAt (d + 1) := by
  intro f x w hf hx hT
  have HL := Hold.mk (formed_lens hf)
  have HFK := Hold.mk (fun y (hy : y ∈ f.items) => formed_kids hf hy)
  have HNL := Hold.mk (fun (h6 : f.kind = 6) => (by obtain ⟨k, n, t, nm, it⟩ := f; exact names_len hf h6 : f.names.length = f.items.length))
  have HNS : Hold (∀ s ∈ f.names, s.size ≤ 1000000) := ⟨fun s hs => by
    obtain ⟨k, n, t, nm, it⟩ := f
    by_cases h5 : k < 5
    · rw [formedF, if_pos h5, Bool.and_eq_true] at hf
      rw [List.length_eq_zero_iff.1 (of_decide_eq_true hf.2).2] at hs; cases hs
    · exact Nat.le_trans (text_size ((formed_body hf h5).2.2.1 s hs)) (by decide)⟩
  have HBD := Hold.mk (fun (s : ByteArray) (y : JV) (m : Nat) (hy : formedF d y = true) (h : clauseF (countF d) s y = some m) => clause_le (fun z m hz hm => count_le d z m hz hm) hy h)
  have HCB := Hold.mk (cntB_le d (by omega))
  obtain ⟨k, n, t, nm, it, na, ncap, ia, icap, rfl, rfl, _, _, _, hst, hit⟩ := hx.open
  have HT := Hold.mk hT
  have HH := Hold.mk H
  clear hx hT H hf
  by_cases h6 : k = 6
  · subst h6
    obtain ⟨na', ncap', e, hnlen, hns⟩ := hst
    cases e
    obtain ⟨ia', icap', e, hilen, his⟩ := hit
    cases e
    have HN := Hold.mk hns
    have HI := Hold.mk his
    have HLE : Hold (nm.length = it.length) := ⟨HNL.out rfl⟩
    have HC0 : Hold (countF (d + 1) (.mk 6 n t nm it) = sumO 0 ((nm.zip it).map fun p => clauseF (countF d) p.1 p.2)) := ⟨by rw [countF, if_pos (show (JV.mk 6 n t nm it).kind = 6 from rfl)]; rfl⟩
    clear hns his HNL
    go_enter Tryd.func22, Tryd.ntmps22
    go_wp2_with fail
    go_loopw [3, 13] (fun a i wr => ∃ j m : Nat, i = .int .i64 j ∧ a = .int .i64 m ∧ j ≤ nm.length ∧ m ≤ j * (2 + 24 * cntB d) ∧ countF (d + 1) (.mk 6 n t nm it) = sumO m (((nm.zip it).drop j).map fun p => clauseF (countF d) p.1 p.2) ∧ Boxed w wr _) (fun _ i _ => nm.length - (intOf i).toNat)
    case atStart => exact ⟨0, 0, rfl, rfl, Nat.zero_le _, by simp, HC0.out, Boxed.refl _ _⟩
    case round =>
      obtain ⟨j, m, rfl, rfl, hj, hm, hst, hbx⟩ := hrel
      have HM := Hold.mk hm
      have HST := Hold.mk hst
      have HB := Hold.mk hbx
      have y4 := hbx.c4
      clear hm hst hbx
      by_cases hlt : j < nm.length
      · have hlt2 : j < it.length := by rw [← HLE.out]; exact hlt
        obtain ⟨s, hs⟩ : ∃ s, nm[j]? = some s := ⟨nm[j], List.getElem?_eq_getElem hlt⟩
        obtain ⟨x, hx⟩ : ∃ x, it[j]? = some x := ⟨it[j], List.getElem?_eq_getElem hlt2⟩
        obtain ⟨_, sb, so, rfl, hsc⟩ := HN.out j s hs
        obtain ⟨b, off, k2, n2, t2, nm2, it2, na2, ncap2, ia2, icap2, rfl, hxe, x0, x1, x2, x3, x4, hxj⟩ := HI.out j x hx
        have hcl := cle_below HB.out.below
        have z0 := hcl _ _ _ x0
        have z1 := hcl _ _ _ x1
        have z2 := hcl _ _ _ x2
        have z3 := hcl _ _ _ x3
        have z4 := hcl _ _ _ x4
        have z5 := hcl _ _ _ hsc
        unfold cf at z0 z1 z2 z3 z4 z5
        have hfx := HFK.out x (List.mem_of_getElem? hx)
        have HX := Hold.mk (HH.out s x _ wr (HNS.out s (List.mem_of_getElem? hs)) hfx (hxj.mono hcl) (HT.out.below HB.out.below))
        have HD := Hold.mk (HST.out.trans (congrArg (sumO m) (sum_drop (f := fun p : ByteArray × JV => clauseF (countF d) p.1 p.2) (zip_at hs hx))))
        have HCL := Hold.mk (fun q h => HBD.out s x q hfx h)
        clear x0 x1 x2 x3 x4 hcl hx hxe hxj hsc hs hfx
        cases hc : clauseF (countF d) s x with
        | none =>
          rw [hc] at HX
          have HR : Hold (countF (d + 1) (.mk 6 n t nm it) = none) := ⟨by rw [HD.out]; show sumO m (clauseF (countF d) s x :: _) = none; rw [hc, sumO]⟩
          clear hc
          rw [cntI_neg] at HX
          go_wp2_with fail
          refine HX.out.mono ?_
          rintro e w3 ⟨rfl, hb3⟩
          replace HB := Hold.mk (HB.out.next hb3)
          clear hb3 HX z0 z1 z2 z3 z4 z5 y4
          go_wp2_with fail
          go_ret
          exact ⟨by rw [HR.out]; rfl, HB.out.below⟩
        | some q =>
          rw [hc] at HX
          have hq := HCL.out q hc
          have HR : Hold (countF (d + 1) (.mk 6 n t nm it) = sumO (m + q) (((nm.zip it).drop (j + 1)).map fun p => clauseF (countF d) p.1 p.2)) := ⟨by rw [HD.out]; show sumO m (clauseF (countF d) s x :: _) = _; rw [hc, sumO]⟩
          have hm2 : m + q ≤ (j + 1) * (2 + 24 * cntB d) := by rw [Nat.add_mul, Nat.one_mul]; have := HM.out; omega
          have hbig : (j + 1) * (2 + 24 * cntB d) ≤ 24 * (2 + 24 * 10000000000000000) := Nat.mul_le_mul (by have := HL.out.1; have h2 : it.length ≤ 24 := this; omega) (by have := HCB.out; omega)
          have hmq : m + q ≤ 9000000000000000000 := Nat.le_trans (Nat.le_trans hm2 hbig) (by decide)
          have HM2 := Hold.mk hm2
          clear hc hq hm2 hbig
          change Hold (Calls _ _ _ _ fun e w' => e = .returned (.int .i64 (q : Int)) ∧ _) at HX
          go_wp2_with fail
          refine HX.out.mono ?_
          rintro e w3 ⟨rfl, hb3⟩
          replace HB := Hold.mk (HB.out.next hb3)
          clear hb3 HX z0 z1 z2 z3 z4 z5 y4
          go_wp2_with fail
          exact ⟨⟨j + 1, m + q, by go_num, by go_num, hlt, HM2.out, HR.out, HB.out⟩, by simp [intOf]; omega⟩
      · have HR : Hold (countF (d + 1) (.mk 6 n t nm it) = some m) := ⟨by rw [HST.out, List.drop_eq_nil_of_le (by rw [List.length_zip]; omega)]; rfl⟩
        go_wp2_with fail
        go_ret
        exact ⟨by rw [HR.out]; rfl, HB.out.below⟩
  · have HR : Hold (countF (d + 1) (.mk k n t nm it) = none) := ⟨by rw [countF, if_neg (show ¬ (JV.mk k n t nm it).kind = 6 from h6)]⟩
    have b6 : (k != 6) = true := by simpa using h6
    clear h6 hst hit
    go_enter Tryd.func22, Tryd.ntmps22
    go_wp2_with fail
    go_ret
    exact ⟨by rw [HR.out]; rfl, (Below.refl _ _).alloc (Nat.le_refl _) _⟩

end Go.Proofs.YtdajfdahgjhmaaaDoor
