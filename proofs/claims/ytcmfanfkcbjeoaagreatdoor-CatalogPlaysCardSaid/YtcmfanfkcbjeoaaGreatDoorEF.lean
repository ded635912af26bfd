/- Indexes: few and awake of the law; the law EntriesForms, walked. -/
import Derived.Test.YtcmfanfkcbjeoaaGreatDoorEE
namespace Go.Proofs.YtcmfanfkcbjeoaaGreatDoor
open Go.RowKit

def fewI (x : IX) : Bool := decide (x.fields.length ≤ 10) && shortI x
theorem fewI_len {x : IX} (h : fewI x = true) : x.fields.length ≤ 10 := by unfold fewI at h; rw [Bool.and_eq_true] at h; exact of_decide_eq_true h.1
theorem fewI_small {x : IX} (h : fewI x = true) : ∀ f ∈ x.fields, f.1.size ≤ 1000000 := fun f hf => by
  unfold fewI shortI at h
  rw [Bool.and_eq_true, Bool.and_eq_true] at h
  have := of_decide_eq_true (List.all_eq_true.1 h.2.1 f hf)
  omega

/-- the index that awake asks for -/
def wakeI : IX := ⟨⟨#[120]⟩, [(⟨#[97]⟩, false)], false⟩
theorem name_a1 : nameF ⟨#[97, 49]⟩ = true := by decide +kernel
theorem wake_formed : formI wakeI = true := by
  have h1 : stepsF ⟨#[97]⟩ = some [⟨#[97]⟩] := by kernel_rfl
  have h2 : simpleF ⟨#[97]⟩ = true := by decide +kernel
  have h3 : nameF ⟨#[120]⟩ = true := by decide +kernel
  unfold formI wakeI
  simp only [h3, goodF, pathOk, h1, h2]
  simp

end Go.Proofs.YtcmfanfkcbjeoaaGreatDoor
