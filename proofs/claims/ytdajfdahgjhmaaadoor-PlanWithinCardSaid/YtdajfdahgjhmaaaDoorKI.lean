/- Keys of the reference: Same, Less. -/
import Derived.Test.YtdajfdahgjhmaaaDoorKA
import Derived.Test.YtdajfdahgjhmaaaDoorSA
import Derived.Test.YtdajfdahgjhmaaaDoorFO
import Derived.Test.YtdajfdahgjhmaaaDoorFC
namespace Go.Proofs.YtdajfdahgjhmaaaDoor
open Go.RowKit

/-- a slice of bytes -/
def BytesAt (c : CF) (v : Value) (l : List UInt8) : Prop :=
  ∃ a cap, v = .slice a l.length cap ∧ l.length ≤ 9223372036854775807 ∧ ∀ (i : Nat) x, l[i]? = some x → ∃ b off, a = some ⟨b, off, none⟩ ∧ c b (off + i) = some (.int .u8 (x.toNat : Int))
theorem BytesAt.mono {c d : CF} {v : Value} {l : List UInt8} (h : BytesAt c v l) (hl : CLe c d) : BytesAt d v l := by
  obtain ⟨a, cap, hv, hm, hs⟩ := h
  refine ⟨a, cap, hv, hm, fun i s hi => ?_⟩
  obtain ⟨b, off, h2, h3⟩ := hs i s hi
  exact ⟨b, off, h2, hl _ _ _ h3⟩
theorem BRow.bytesA {B : Nat} {w : World} {sv : Value} {l : List UInt8} (h : BRow B w sv l) : BytesAt (cfA B w) sv l := by
  obtain ⟨a, cap, rfl, hl⟩ := h.shape
  refine ⟨a, cap, rfl, hl, fun i x hi => ?_⟩
  rcases id h.own.2 with ⟨hv, hn⟩ | ⟨g, cap2, cur, hv, hb, hh, _⟩
  · have := List.length_eq_zero_iff.1 hn
    rw [this] at hi; simp at hi
  · injection hv with h1 h2 h3
    subst h1
    refine ⟨g, 0, rfl, ?_⟩
    have := h.own.cells (g := g) rfl i _ (bv_get hi)
    rw [addr_at] at this
    unfold cfA; rw [Nat.zero_add, if_pos hb]; exact this
theorem BRow.bytes {B : Nat} {w : World} {sv : Value} {l : List UInt8} (h : BRow B w sv l) : BytesAt (cf w) sv l := h.bytesA.mono (cfA_le _ _)
theorem bytes_no (c : CF) : BytesAt c (.slice none 0 0) [] := ⟨none, 0, rfl, by simp, fun i s h => by simp at h⟩

def sameY (l m : List UInt8) : Bool := decide (l = m)
theorem sameY_no {x y : List UInt8} (h : x ≠ y) : sameY x y = false := by unfold sameY; exact decide_eq_false h
theorem sameY_yes {x y : List UInt8} (h : x = y) : sameY x y = true := by unfold sameY; exact decide_eq_true h

def lessY (l m : List UInt8) : Bool := decide (lexC l m < 0)

set_option maxRecDepth 100000 in
set_option maxHeartbeats 4000000 in
theorem Less4_any (l m : List UInt8) (u v : Value) (w : World) (hu : BytesAt (cf w) u l) (hv : BytesAt (cf w) v m) :
    Calls Tryd.prog 12 #[u, v] w fun e w' => e = .returned (.bool (lessY l m)) ∧ Below w.heap.size w w' := by
  obtain ⟨la, lcap, rfl, hlen, hel⟩ := hu
  obtain ⟨ma, mcap, rfl, hmlen, hem⟩ := hv
  have HE := Hold.mk hel
  have HM := Hold.mk hem
  clear hel hem
  go_enter Tryd.func12, Tryd.ntmps12
  go_wp2_with fail
  go_loopw [5] (fun i wr => ∃ j : Nat, i = .int .i64 j ∧ j ≤ l.length ∧ j ≤ m.length ∧ lexC l m = lexC (l.drop j) (m.drop j) ∧ Below w.heap.size w wr) (fun i _ => l.length - (intOf i).toNat)
  case atStart => exact ⟨0, rfl, Nat.zero_le _, Nat.zero_le _, rfl, Below.refl _ _⟩
  case round =>
    obtain ⟨j, rfl, hj1, hj2, hst, hbl⟩ := hrel
    have HST := Hold.mk hst
    have HB := Hold.mk hbl
    clear hst hbl
    by_cases h1 : j < l.length
    · by_cases h2 : j < m.length
      · obtain ⟨f, hf⟩ : ∃ s, l[j]? = some s := ⟨l[j], List.getElem?_eq_getElem h1⟩
        obtain ⟨g, hg⟩ : ∃ s, m[j]? = some s := ⟨m[j], List.getElem?_eq_getElem h2⟩
        obtain ⟨b, off, rfl, x0⟩ := HE.out j f hf
        obtain ⟨b2, off2, rfl, v0⟩ := HM.out j g hg
        replace x0 := cle_below HB.out _ _ _ x0
        replace v0 := cle_below HB.out _ _ _ v0
        unfold cf at x0 v0
        have HS := Hold.mk (HST.out.trans (lex_step hf hg))
        clear hf hg
        by_cases hlt : f.toNat < g.toNat
        · have bs : (((f.toNat : Nat) : Int) != ((g.toNat : Nat) : Int)) = true := by rw [bne_iff_ne]; omega
          have HR : Hold (lessY l m = true) := ⟨by unfold lessY; rw [HS.out, if_pos hlt]; rfl⟩
          go_wp2_with fail
          go_quiet (fail)
          go_wp2_with fail
          go_quiet (fail)
          go_wp2_with fail
          go_ret
          exact ⟨by rw [HR.out]; rfl, ⟨HB.out.os, HB.out.tape, HB.out.output, HB.out.size, HB.out.block⟩⟩
        by_cases hgt : g.toNat < f.toNat
        · have bs : (((f.toNat : Nat) : Int) != ((g.toNat : Nat) : Int)) = true := by rw [bne_iff_ne]; omega
          have HR : Hold (lessY l m = false) := ⟨by unfold lessY; rw [HS.out, if_neg hlt, if_pos hgt]; rfl⟩
          go_wp2_with fail
          go_quiet (fail)
          go_wp2_with fail
          go_quiet (fail)
          go_wp2_with fail
          go_ret
          exact ⟨by rw [HR.out]; rfl, ⟨HB.out.os, HB.out.tape, HB.out.output, HB.out.size, HB.out.block⟩⟩
        have bs : (((f.toNat : Nat) : Int) != ((g.toNat : Nat) : Int)) = false := by
          have : f.toNat = g.toNat := by omega
          rw [this]; simp
        replace HS := Hold.mk ((HS.out.trans (if_neg hlt)).trans (if_neg hgt))
        clear hlt hgt
        go_wp2_with fail
        go_quiet (fail)
        go_wp2_with fail
        exact ⟨⟨j + 1, by go_num, h1, h2, HS.out, ⟨HB.out.os, HB.out.tape, HB.out.output, HB.out.size, HB.out.block⟩⟩, by simp [intOf]; omega⟩
      · have HR : Hold (lessY l m = decide (l.length < m.length)) := ⟨by
          unfold lessY; rw [HST.out, lex_end (by omega) (by omega) (by omega)]; unfold cmpI
          have : ¬ ((l.length : Int) < m.length) := by omega
          have h3 : ¬ (l.length < m.length) := by omega
          rw [if_neg this]; simp only [h3]; split <;> rfl⟩
        go_wp2_with fail
        go_ret
        exact ⟨by rw [HR.out]; simp, HB.out⟩
    · have HR : Hold (lessY l m = decide (l.length < m.length)) := ⟨by
        unfold lessY; rw [HST.out, lex_end (by omega) (by omega) (by omega)]; unfold cmpI
        by_cases h3 : l.length < m.length
        · rw [if_pos (by omega)]; simp [h3]
        · rw [if_neg (by omega)]; simp only [h3]; split <;> rfl⟩
      go_wp2_with fail
      go_ret
      exact ⟨by rw [HR.out]; simp, HB.out⟩

end Go.Proofs.YtdajfdahgjhmaaaDoor
