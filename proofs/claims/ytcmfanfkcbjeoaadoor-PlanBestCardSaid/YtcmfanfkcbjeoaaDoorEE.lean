/- Indexes: Formed and Few of the reference. -/
import Derived.Test.YtcmfanfkcbjeoaaDoorEC
import Derived.Test.YtcmfanfkcbjeoaaDoorED
namespace Go.Proofs.YtcmfanfkcbjeoaaDoor
open Go.RowKit

theorem formI_no {nm : ByteArray} {l : List Fd} {u : Bool} (h : goodF l 0 l = false) : formI ⟨nm, l, u⟩ = false := by unfold formI; rw [h]; simp
theorem steps_er {s : ByteArray} {w w' : World} {e : Ending} (h : StepsPost s w e w') : ∃ sv er, e = .returned (.tuple #[sv, .int .i64 er]) ∧ (er = 0 ↔ (stepsF s).isSome = true) := by
  obtain ⟨hsp, _⟩ := h
  cases hl : stepsF s with
  | none => rw [hl] at hsp; exact ⟨_, 2, hsp, by simp⟩
  | some l => rw [hl] at hsp; obtain ⟨sv, rfl, _⟩ := hsp; exact ⟨sv, 0, rfl, by simp⟩

/-- few fields, short ones -/
def shortI (x : IX) : Bool := x.fields.all (fun f => decide (f.1.size ≤ 1000)) && decide (x.name.size ≤ 1000)

set_option maxRecDepth 100000 in
set_option maxHeartbeats 8000000 in
theorem rFewI_any (x : IX) (v : Value) (w : World) (hx : IAt (cf w) x v) (hn : x.fields.length ≤ 10) :
    Calls Tryd.prog 8 #[v] w fun e w' => e = .returned (.bool (shortI x)) ∧ Below w.heap.size w w' := by
  obtain ⟨hnm, fv, rfl, a, cap, rfl, hlen, hcap, hel⟩ := hx
  have HB := Hold.mk (Boxed.refl w (.cells #[.string x.name, .slice a x.fields.length cap, .bool x.uniq] 42))
  have HE := Hold.mk hel
  have HF0 : Hold (shortI x = ((x.fields.drop 0).all (fun f => decide (f.1.size ≤ 1000)) && decide (x.name.size ≤ 1000))) := ⟨rfl⟩
  obtain ⟨nm, l, u⟩ := x
  simp only at *
  clear hel
  go_enter Tryd.func8, Tryd.ntmps8
  go_wp2_with fail
  go_loopw [3] (fun i wr => ∃ j : Nat, i = .int .i64 j ∧ j ≤ l.length ∧ shortI ⟨nm, l, u⟩ = ((l.drop j).all (fun f => decide (f.1.size ≤ 1000)) && decide (nm.size ≤ 1000)) ∧ Boxed w wr _) (fun i _ => l.length - (intOf i).toNat)
  case atStart => exact ⟨0, rfl, Nat.zero_le _, HF0.out, HB.out⟩
  case round =>
    obtain ⟨j, rfl, hj, hst, hbx⟩ := hrel
    clear HB HF0
    have HST := Hold.mk hst
    have HB := Hold.mk hbx
    clear hst hbx
    obtain ⟨y0, y1, y2⟩ := cells_three HB.out.blk
    by_cases hlt : j < l.length
    · obtain ⟨f, hf⟩ : ∃ f, l[j]? = some f := ⟨l[j], List.getElem?_eq_getElem hlt⟩
      obtain ⟨hfs, b, off, rfl, x0, x1⟩ := HE.out j f hf
      have z0 := cle_below HB.out.below _ _ _ x0
      unfold cf at z0
      have HD : Hold (l.drop j = f :: l.drop (j + 1)) := ⟨by obtain ⟨h1, e1⟩ := List.getElem?_eq_some_iff.1 hf; rw [List.drop_eq_getElem_cons h1, e1]⟩
      have h10 : j < 10 := by omega
      clear x0 x1 hf
      obtain ⟨s, dn⟩ := f
      simp only at *
      by_cases hs : s.size ≤ 1000
      · have HR : Hold (shortI ⟨nm, l, u⟩ = ((l.drop (j + 1)).all (fun f => decide (f.1.size ≤ 1000)) && decide (nm.size ≤ 1000))) := ⟨by rw [HST.out, HD.out, List.all_cons, decide_eq_true hs, Bool.true_and]⟩
        go_wp2_with fail
        exact ⟨⟨j + 1, by go_num, hlt, HR.out, HB.out⟩, by simp [intOf]; omega⟩
      · have HR : Hold (shortI ⟨nm, l, u⟩ = false) := ⟨by rw [HST.out, HD.out, List.all_cons, decide_eq_false hs]; rfl⟩
        go_wp2_with fail
        go_ret
        exact ⟨by rw [HR.out]; rfl, HB.out.below⟩
    · have HR : Hold (shortI ⟨nm, l, u⟩ = decide (nm.size ≤ 1000)) := ⟨by rw [HST.out, List.drop_eq_nil_of_le (by omega)]; rfl⟩
      by_cases hs : nm.size ≤ 1000
      · replace HR := Hold.mk (HR.out.trans (decide_eq_true hs))
        go_wp2_with fail
        go_ret
        exact ⟨by rw [HR.out]; first | rfl | (simp; omega), HB.out.below⟩
      · replace HR := Hold.mk (HR.out.trans (decide_eq_false hs))
        go_wp2_with fail
        go_ret
        exact ⟨by rw [HR.out]; first | rfl | (simp; omega), HB.out.below⟩

end Go.Proofs.YtcmfanfkcbjeoaaDoor
