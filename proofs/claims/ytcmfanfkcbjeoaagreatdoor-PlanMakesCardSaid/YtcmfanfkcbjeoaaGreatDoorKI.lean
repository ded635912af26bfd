/- Keys of the reference: Same, Less. -/
import Derived.Test.YtcmfanfkcbjeoaaGreatDoorKA
import Derived.Test.YtcmfanfkcbjeoaaGreatDoorSA
import Derived.Test.YtcmfanfkcbjeoaaGreatDoorFO
import Derived.Test.YtcmfanfkcbjeoaaGreatDoorFA
namespace Go.Proofs.YtcmfanfkcbjeoaaGreatDoor
open Go.RowKit

/-- a slice of bytes -/
def BytesAt (c : CF) (v : Value) (l : List UInt8) : Prop :=
  ∃ a cap, v = .slice a l.length cap ∧ l.length ≤ 9223372036854775807 ∧ ∀ (i : Nat) x, l[i]? = some x → ∃ b off, a = some ⟨b, off, none⟩ ∧ c b (off + i) = some (.int .u8 (x.toNat : Int))
theorem BytesAt.mono {c d : CF} {v : Value} {l : List UInt8} (h : BytesAt c v l) (hl : CLe c d) : BytesAt d v l := by
  obtain ⟨a, cap, hv, hm, hs⟩ := h
  refine ⟨a, cap, hv, hm, fun i s hi => ?_⟩
  obtain ⟨b, off, h2, h3⟩ := hs i s hi
  exact ⟨b, off, h2, hl _ _ _ h3⟩
theorem BRow.bytesA {B : Nat} {w : World} {sv : Value} {l : List UInt8} (h : BRow B w sv l) : BytesAt (cfA B w) sv l := by
  obtain ⟨a, cap, rfl, hl⟩ := h.shape
  refine ⟨a, cap, rfl, hl, fun i x hi => ?_⟩
  rcases id h.own.2 with ⟨hv, hn⟩ | ⟨g, cap2, cur, hv, hb, hh, _⟩
  · have := List.length_eq_zero_iff.1 hn
    rw [this] at hi; simp at hi
  · injection hv with h1 h2 h3
    subst h1
    refine ⟨g, 0, rfl, ?_⟩
    have := h.own.cells (g := g) rfl i _ (bv_get hi)
    rw [addr_at] at this
    unfold cfA; rw [Nat.zero_add, if_pos hb]; exact this
theorem BRow.bytes {B : Nat} {w : World} {sv : Value} {l : List UInt8} (h : BRow B w sv l) : BytesAt (cf w) sv l := h.bytesA.mono (cfA_le _ _)
theorem bytes_no (c : CF) : BytesAt c (.slice none 0 0) [] := ⟨none, 0, rfl, by simp, fun i s h => by simp at h⟩

def sameY (l m : List UInt8) : Bool := decide (l = m)
theorem sameY_no {x y : List UInt8} (h : x ≠ y) : sameY x y = false := by unfold sameY; exact decide_eq_false h
theorem sameY_yes {x y : List UInt8} (h : x = y) : sameY x y = true := by unfold sameY; exact decide_eq_true h

set_option maxRecDepth 100000 in
set_option maxHeartbeats 4000000 in
theorem Same4_any (l m : List UInt8) (u v : Value) (w : World) (hu : BytesAt (cf w) u l) (hv : BytesAt (cf w) v m) :
    Calls Tryz.prog 14 #[u, v] w fun e w' => e = .returned (.bool (sameY l m)) ∧ Below w.heap.size w w' := by
  obtain ⟨la, lcap, rfl, hlen, hel⟩ := hu
  obtain ⟨ma, mcap, rfl, hmlen, hem⟩ := hv
  have HE := Hold.mk hel
  have HM := Hold.mk hem
  clear hel hem
  by_cases h3 : l.length = m.length
  · have b3 : (((l.length : Nat) : Int) != ((m.length : Nat) : Int)) = false := by rw [h3]; simp
    have HL := Hold.mk h3
    clear h3
    go_enter Tryz.func14, Tryz.ntmps14
    go_wp2_with fail
    go_loopw [5] (fun i wr => ∃ j : Nat, i = .int .i64 j ∧ j ≤ l.length ∧ EqTo l m j ∧ Below w.heap.size w wr) (fun i _ => l.length - (intOf i).toNat)
    case atStart => exact ⟨0, rfl, Nat.zero_le _, fun q hq => by omega, Below.refl _ _⟩
    case round =>
      obtain ⟨j, rfl, hj, hq, hbl⟩ := hrel
      have HQ := Hold.mk hq
      have HB := Hold.mk hbl
      clear hq hbl
      by_cases hlt : j < l.length
      · have hlt2 : j < m.length := by rw [← HL.out]; exact hlt
        obtain ⟨f, hf⟩ : ∃ s, l[j]? = some s := ⟨l[j], List.getElem?_eq_getElem hlt⟩
        obtain ⟨g, hg⟩ : ∃ s, m[j]? = some s := ⟨m[j], List.getElem?_eq_getElem hlt2⟩
        obtain ⟨b, off, rfl, x0⟩ := HE.out j f hf
        obtain ⟨b2, off2, rfl, v0⟩ := HM.out j g hg
        replace x0 := cle_below HB.out _ _ _ x0
        replace v0 := cle_below HB.out _ _ _ v0
        unfold cf at x0 v0
        have HF := Hold.mk hf
        have HG := Hold.mk hg
        clear hf hg
        by_cases hs : f = g
        · subst hs
          have HNX := Hold.mk (HQ.out.next (HF.out.trans HG.out.symm))
          go_wp2_with fail
          go_quiet (fail)
          go_wp2_with fail
          exact ⟨⟨j + 1, by go_num, hlt, HNX.out, ⟨HB.out.os, HB.out.tape, HB.out.output, HB.out.size, HB.out.block⟩⟩, by simp [intOf]; omega⟩
        · have bs : (((f.toNat : Nat) : Int) != ((g.toNat : Nat) : Int)) = true := by rw [bne_iff_ne]; exact fun e => hs (UInt8.toNat_inj.1 (by omega))
          have HR : Hold (sameY l m = false) := ⟨sameY_no (fun e => hs (by cases e; have := HF.out.symm.trans HG.out; simpa using this))⟩
          clear hs
          go_wp2_with fail
          go_quiet (fail)
          go_wp2_with fail
          go_ret
          exact ⟨by rw [HR.out]; rfl, ⟨HB.out.os, HB.out.tape, HB.out.output, HB.out.size, HB.out.block⟩⟩
      · obtain rfl : j = l.length := by omega
        have HR : Hold (sameY l m = true) := ⟨sameY_yes (EqTo.all HL.out HQ.out)⟩
        go_wp2_with fail
        go_ret
        exact ⟨by rw [HR.out]; rfl, HB.out⟩
  · have b3 : (((l.length : Nat) : Int) != ((m.length : Nat) : Int)) = true := by simp; omega
    have HR : Hold (sameY l m = false) := ⟨sameY_no (fun e => h3 (by cases e; rfl))⟩
    clear h3
    go_enter Tryz.func14, Tryz.ntmps14
    go_wp2_with fail
    go_ret
    exact ⟨by rw [HR.out]; rfl, Below.refl _ _⟩

def lessY (l m : List UInt8) : Bool := decide (lexC l m < 0)

end Go.Proofs.YtcmfanfkcbjeoaaGreatDoor
