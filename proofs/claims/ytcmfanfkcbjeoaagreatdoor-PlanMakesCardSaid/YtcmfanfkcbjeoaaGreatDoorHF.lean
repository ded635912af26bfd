/- Plans: names asked by a closure; what a path is asked. -/
import Derived.Test.YtcmfanfkcbjeoaaGreatDoorHD
namespace Go.Proofs.YtcmfanfkcbjeoaaGreatDoor
open Go.RowKit

/-- a closure that captures one pointer and asks p of a name -/
def AsksS (F : FuncId) (cp : Value) (p : ByteArray → Bool) (nm : List ByteArray) (w : World) : Prop := ∀ s ∈ nm, ∀ (wr : World), Below w.heap.size w wr →
  Calls Tryz.prog F #[.string s, cp] wr fun e w' => e = .returned (.bool (p s)) ∧ Below wr.heap.size wr w'

set_option maxHeartbeats 2000000 in
theorem strsIdxC_any (F : FuncId) (hF : ∀ args w, (callFunc F args).run Tryz.prog w = .ok (.enter F args) w) (cp : Addr) (p : ByteArray → Bool) (nv : Value) (nm : List ByteArray) (w : World) (h : StrsAt (cf w) nv nm) (H : AsksS F (.pointer (some cp)) p nm w) :
    Calls Tryz.prog 173 #[nv, .func (.func F) #[] #[.pointer (some cp)]] w (IdxAny (nm.any p) w) := by
  obtain ⟨a, cap, rfl, hlen, hel⟩ := h
  have HE := Hold.mk hel
  have HH := Hold.mk H
  clear hel H
  go_enter Tryz.func173, Tryz.ntmps173
  go_wp2_with fail
  go_loopw [8] (fun i wr => ∃ j : Nat, i = .int .i64 j ∧ j ≤ nm.length ∧ (∀ (q : Nat) x, q < j → nm[q]? = some x → p x = false) ∧ Below w.heap.size w wr) (fun i _ => nm.length - (intOf i).toNat)
  case atStart => exact ⟨0, rfl, Nat.zero_le _, fun q x h => by omega, Below.refl _ _⟩
  case round =>
    obtain ⟨j, rfl, hj, hall, hbl⟩ := hrel
    have HA := Hold.mk hall
    have HB := Hold.mk hbl
    clear hall hbl
    by_cases hlt : j < nm.length
    · obtain ⟨s, hs⟩ : ∃ s, nm[j]? = some s := ⟨nm[j], List.getElem?_eq_getElem hlt⟩
      obtain ⟨hsz, b, off, rfl, hsc⟩ := HE.out j s hs
      have z0 := cle_below HB.out _ _ _ hsc
      unfold cf at z0
      have HX := Hold.mk (HH.out s (List.mem_of_getElem? hs) wr HB.out)
      have HS := Hold.mk hs
      clear hsc hs
      cases hfx : p s with
      | false =>
        rw [hfx] at HX
        have HF := Hold.mk hfx
        clear hfx
        go_wp2_with fail
        refine HX.out.mono ?_
        rintro e w3 ⟨rfl, hb3⟩
        replace HB := Hold.mk (HB.out.trans (hb3.mono HB.out.size))
        clear hb3 HX z0
        go_wp2_with fail
        refine ⟨⟨j + 1, by go_num, hlt, fun q s' hq hs' => ?_, HB.out⟩, by simp [intOf]; omega⟩
        by_cases e : q = j
        · subst e; rw [HS.out] at hs'; cases hs'; exact HF.out
        · exact HA.out q s' (by omega) hs'
      | true =>
        rw [hfx] at HX
        have HF := Hold.mk hfx
        clear hfx
        go_wp2_with fail
        refine HX.out.mono ?_
        rintro e w3 ⟨rfl, hb3⟩
        replace HB := Hold.mk (HB.out.trans (hb3.mono HB.out.size))
        clear hb3 HX z0
        go_wp2_with fail
        go_ret
        exact ⟨(j : Int), rfl, by rw [any_true HS.out HF.out]; simp, HB.out⟩
    · have HAll : Hold (nm.any p = false) := ⟨any_false (fun q x hq => HA.out q x (by omega))⟩
      go_wp2_with fail
      go_ret
      exact ⟨-1, rfl, by rw [HAll.out]; rfl, HB.out⟩

set_option maxHeartbeats 2000000 in
theorem strsAnyC_any (F : FuncId) (hF : ∀ args w, (callFunc F args).run Tryz.prog w = .ok (.enter F args) w) (cp : Addr) (p : ByteArray → Bool) (nv : Value) (nm : List ByteArray) (w : World) (h : StrsAt (cf w) nv nm) (H : AsksS F (.pointer (some cp)) p nm w) :
    Calls Tryz.prog 134 #[nv, .func (.func F) #[] #[.pointer (some cp)]] w fun e w' => e = .returned (.bool (nm.any p)) ∧ Below w.heap.size w w' := by
  have HX := Hold.mk (strsIdxC_any F hF cp p nv nm w h H)
  clear h H
  go_enter Tryz.func134, Tryz.ntmps134
  go_wp2_with fail
  refine HX.out.mono ?_
  rintro e w1 ⟨r, rfl, hr, hb1⟩
  have HR := Hold.mk hr
  have HB := Hold.mk hb1
  clear hr hb1 HX
  go_wp2_with fail
  go_ret
  exact ⟨ret_b HR.out, HB.out⟩

/-! the same of a closure without captures: does a name begin with a dollar? -/
theorem dollarP_any (s : ByteArray) (w : World) (hs : s.size ≤ 9223372036854775807) :
    Calls Tryz.prog 135 #[.string s] w fun e w' => e = .returned (.bool (signF s)) ∧ w' = w := by
  have HH := Hold.mk (hasDollar_any s w hs)
  go_enter Tryz.func135, Tryz.ntmps135
  go_wp2_with fail
  refine HH.out.mono ?_
  rintro e w1 ⟨rfl, hw1⟩
  subst hw1
  go_wp2_with fail
  go_ret
  exact ⟨rfl, rfl⟩

set_option maxHeartbeats 2000000 in
theorem strsIdxP_any (nv : Value) (nm : List ByteArray) (w : World) (h : StrsAt (cf w) nv nm) :
    Calls Tryz.prog 173 #[nv, .func (.func 135) #[] #[]] w (IdxAny (nm.any signF) w) := by
  obtain ⟨a, cap, rfl, hlen, hel⟩ := h
  have HE := Hold.mk hel
  clear hel
  go_enter Tryz.func173, Tryz.ntmps173
  go_wp2_with fail
  go_loop [8] (fun i => ∃ j : Nat, i = .int .i64 j ∧ j ≤ nm.length ∧ (∀ (q : Nat) x, q < j → nm[q]? = some x → signF x = false)) (fun i => nm.length - (intOf i).toNat)
  case atStart => exact ⟨0, rfl, Nat.zero_le _, fun q x h => by omega⟩
  case round =>
    obtain ⟨j, rfl, hj, hall⟩ := hrel
    have HA := Hold.mk hall
    clear hall
    by_cases hlt : j < nm.length
    · obtain ⟨s, hs⟩ : ∃ s, nm[j]? = some s := ⟨nm[j], List.getElem?_eq_getElem hlt⟩
      obtain ⟨hsz, b, off, rfl, hsc⟩ := HE.out j s hs
      have z0 := hsc
      unfold cf at z0
      have HX := Hold.mk (dollarP_any s w hsz)
      have HS := Hold.mk hs
      clear hsc hs
      cases hfx : signF s with
      | false =>
        rw [hfx] at HX
        have HF := Hold.mk hfx
        clear hfx
        go_wp2_with fail
        refine HX.out.mono ?_
        rintro e w1 ⟨rfl, hw1⟩
        subst hw1
        go_wp2_with fail
        refine ⟨⟨j + 1, by go_num, hlt, fun q s' hq hs' => ?_⟩, by simp [intOf]; omega⟩
        by_cases e : q = j
        · subst e; rw [HS.out] at hs'; cases hs'; exact HF.out
        · exact HA.out q s' (by omega) hs'
      | true =>
        rw [hfx] at HX
        have HF := Hold.mk hfx
        clear hfx
        go_wp2_with fail
        refine HX.out.mono ?_
        rintro e w1 ⟨rfl, hw1⟩
        subst hw1
        go_wp2_with fail
        go_ret
        exact ⟨(j : Int), rfl, by rw [any_true HS.out HF.out]; simp, Below.refl _ _⟩
    · have HAll : Hold (nm.any signF = false) := ⟨any_false (fun q x hq => HA.out q x (by omega))⟩
      go_wp2_with fail
      go_ret
      exact ⟨-1, rfl, by rw [HAll.out]; rfl, Below.refl _ _⟩

set_option maxHeartbeats 2000000 in
theorem strsAnyP_any (nv : Value) (nm : List ByteArray) (w : World) (h : StrsAt (cf w) nv nm) :
    Calls Tryz.prog 134 #[nv, .func (.func 135) #[] #[]] w fun e w' => e = .returned (.bool (nm.any signF)) ∧ Below w.heap.size w w' := by
  have HX := Hold.mk (strsIdxP_any nv nm w h)
  clear h
  go_enter Tryz.func134, Tryz.ntmps134
  go_wp2_with fail
  refine HX.out.mono ?_
  rintro e w1 ⟨r, rfl, hr, hb1⟩
  have HR := Hold.mk hr
  have HB := Hold.mk hb1
  clear hr hb1 HX
  go_wp2_with fail
  go_ret
  exact ⟨ret_b HR.out, HB.out⟩

end Go.Proofs.YtcmfanfkcbjeoaaGreatDoor
