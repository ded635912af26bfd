/- Filters: what is handed to the library's functions; tests of the program. -/
import Derived.Test.YtdajfdahgjhmaaaDoorFG
import Derived.Test.YtdajfdahgjhmaaaDoorFC
import Derived.Test.YtdajfdahgjhmaaaDoorFE
namespace Go.Proofs.YtdajfdahgjhmaaaDoor
open Go.RowKit

theorem sign_yes {s : ByteArray} (h : 0 < s.size) (h36 : s[0] = 36) : signF s = true := by
  unfold signF
  have := byte_at h
  rw [List.head?_eq_getElem?, this, h36]; rfl
theorem sign_no {s : ByteArray} (h : 0 < s.size) (h36 : s[0] ≠ 36) : signF s = false := by
  unfold signF
  have := byte_at h
  rw [List.head?_eq_getElem?, this]
  simpa using h36
theorem sign_empty {s : ByteArray} (h : s.size = 0) : signF s = false := by
  unfold signF
  have : s.data.toList = [] := List.length_eq_zero_iff.1 (by rw [size_list]; exact h)
  rw [this]; rfl
theorem one_byte {s : ByteArray} (h : 0 < s.size) : s.extract 0 1 = ⟨#[s[0]]⟩ := by
  apply ByteArray.ext
  apply Array.ext
  · rw [ByteArray.data_extract]; simp; have : s.data.size = s.size := rfl; omega
  · intro i h1 h2
    obtain rfl : i = 0 := by simp at h2; omega
    simp [ByteArray.data_extract]
    rfl
theorem cut_one {s : ByteArray} (h : 0 < s.size) : (s.extract 0 1).toList = [s[0]] := by
  rw [one_byte h, ByteArray.toList_eq]

set_option maxHeartbeats 2000000 in
theorem hasDollar_any (s : ByteArray) (w : World) (hs : s.size ≤ 9223372036854775807) :
    Calls Tryd.prog 41 #[.string s, .string ⟨#[36]⟩] w fun e w' => e = .returned (.bool (signF s)) ∧ w' = w := by
  have H : Calls Tryd.prog 61 #[.string s, .string ⟨#[36]⟩] w fun e w' => e = .returned (.bool (signF s)) ∧ w' = w := by
    by_cases h0 : 0 < s.size
    · have e1 := cut_one h0
      obtain ⟨c, hc⟩ : ∃ c, s[0]'h0 = c := ⟨_, rfl⟩
      rw [hc] at e1
      by_cases h36 : c = 36
      · have HR := Hold.mk (sign_yes h0 (hc.trans h36))
        subst h36
        clear hc
        go_enter Tryd.func61, Tryd.ntmps61
        go_wp2_with fail
        go_ret
        exact ⟨by rw [HR.out]; rfl, rfl⟩
      · have HR := Hold.mk (sign_no h0 (by rw [hc]; exact h36))
        have hb : (c == 36) = false := by simpa using h36
        clear hc h36
        go_enter Tryd.func61, Tryd.ntmps61
        go_wp2_with fail
        go_ret
        exact ⟨by rw [HR.out]; rfl, rfl⟩
    · have HR := Hold.mk (sign_empty (s := s) (by omega))
      go_enter Tryd.func61, Tryd.ntmps61
      go_wp2_with fail
      go_ret
      exact ⟨by rw [HR.out]; rfl, rfl⟩
  have HH := Hold.mk H
  clear H
  go_enter Tryd.func41, Tryd.ntmps41
  go_wp2_with fail
  refine HH.out.mono ?_
  rintro e w1 ⟨rfl, hw1⟩
  subst hw1
  go_wp2_with fail
  go_ret
  exact ⟨rfl, rfl⟩

theorem dollar_any (s : ByteArray) (w : World) (hs : s.size ≤ 9223372036854775807) :
    Calls Tryd.prog 65 #[.string s] w fun e w' => e = .returned (.bool (signF s)) ∧ w' = w := by
  have HH := Hold.mk (hasDollar_any s w hs)
  go_enter Tryd.func65, Tryd.ntmps65
  go_wp2_with fail
  refine HH.out.mono ?_
  rintro e w1 ⟨rfl, hw1⟩
  subst hw1
  go_wp2_with fail
  go_ret
  exact ⟨rfl, rfl⟩

theorem any_true {α : Type} {l : List α} {p : α → Bool} {i : Nat} {x : α} (hx : l[i]? = some x) (h : p x = true) : l.any p = true :=
  List.any_eq_true.2 ⟨x, List.mem_of_getElem? hx, h⟩
theorem any_false {α : Type} {l : List α} {p : α → Bool} (h : ∀ (i : Nat) x, i < l.length → l[i]? = some x → p x = false) : l.any p = false := by
  rw [← Bool.not_eq_true, List.any_eq_true]
  rintro ⟨x, hx, hp⟩
  obtain ⟨i, hil, e⟩ := List.getElem_of_mem hx
  rw [h i x hil (by rw [← e]; exact List.getElem?_eq_getElem hil)] at hp
  cases hp

/-- what IndexFunc hands back -/
def IdxAny (b : Bool) (w : World) (e : Ending) (w' : World) : Prop := ∃ r : Int, e = .returned (.int .i64 r) ∧ decide (0 ≤ r) = b ∧ Below w.heap.size w w'

set_option maxHeartbeats 2000000 in
theorem strsIdx_any (nv : Value) (nm : List ByteArray) (w : World) (h : StrsAt (cf w) nv nm) :
    Calls Tryd.prog 62 #[nv, .func (.func 65) #[] #[]] w (IdxAny (nm.any signF) w) := by
  obtain ⟨a, cap, rfl, hlen, hel⟩ := h
  have HE := Hold.mk hel
  clear hel
  go_enter Tryd.func62, Tryd.ntmps62
  go_wp2_with fail
  go_loop [8] (fun i => ∃ j : Nat, i = .int .i64 j ∧ j ≤ nm.length ∧ (∀ (q : Nat) x, q < j → nm[q]? = some x → signF x = false)) (fun i => nm.length - (intOf i).toNat)
  case atStart => exact ⟨0, rfl, Nat.zero_le _, fun q x h => by omega⟩
  case round =>
    obtain ⟨j, rfl, hj, hall⟩ := hrel
    have HA := Hold.mk hall
    clear hall
    by_cases hlt : j < nm.length
    · obtain ⟨s, hs⟩ : ∃ s, nm[j]? = some s := ⟨nm[j], List.getElem?_eq_getElem hlt⟩
      obtain ⟨hsz, b, off, rfl, hsc⟩ := HE.out j s hs
      have z0 := hsc
      unfold cf at z0
      have HX := Hold.mk (dollar_any s w hsz)
      have HS := Hold.mk hs
      clear hsc hs
      cases hfx : signF s with
      | false =>
        rw [hfx] at HX
        have HF := Hold.mk hfx
        clear hfx
        go_wp2_with fail
        refine HX.out.mono ?_
        rintro e w1 ⟨rfl, hw1⟩
        subst hw1
        go_wp2_with fail
        refine ⟨⟨j + 1, by go_num, hlt, fun q s' hq hs' => ?_⟩, by simp [intOf]; omega⟩
        by_cases e : q = j
        · subst e; rw [HS.out] at hs'; cases hs'; exact HF.out
        · exact HA.out q s' (by omega) hs'
      | true =>
        rw [hfx] at HX
        have HF := Hold.mk hfx
        clear hfx
        go_wp2_with fail
        refine HX.out.mono ?_
        rintro e w1 ⟨rfl, hw1⟩
        subst hw1
        go_wp2_with fail
        go_ret
        exact ⟨(j : Int), rfl, by rw [any_true HS.out HF.out]; simp, Below.refl _ _⟩
    · have HAll : Hold (nm.any signF = false) := ⟨any_false (fun q x hq => HA.out q x (by omega))⟩
      go_wp2_with fail
      go_ret
      exact ⟨-1, rfl, by rw [HAll.out]; rfl, Below.refl _ _⟩

set_option maxHeartbeats 2000000 in
theorem strsAny_any (nv : Value) (nm : List ByteArray) (w : World) (h : StrsAt (cf w) nv nm) :
    Calls Tryd.prog 42 #[nv, .func (.func 65) #[] #[]] w fun e w' => e = .returned (.bool (nm.any signF)) ∧ Below w.heap.size w w' := by
  have HX := Hold.mk (strsIdx_any nv nm w h)
  clear h
  go_enter Tryd.func42, Tryd.ntmps42
  go_wp2_with fail
  refine HX.out.mono ?_
  rintro e w1 ⟨r, rfl, hr, hb1⟩
  have HR := Hold.mk hr
  have HB := Hold.mk hb1
  clear hr hb1 HX
  go_wp2_with fail
  go_ret
  exact ⟨ret_b HR.out, HB.out⟩

/-- a closure that captures one pointer and asks p of a value -/
def Asks (F : FuncId) (cp : Value) (p : JV → Bool) (it : List JV) (w : World) : Prop := ∀ x ∈ it, ∀ (y : Value) (wr : World), Below w.heap.size w wr → JAt (cf wr) x y →
  Calls Tryd.prog F #[y, cp] wr fun e w' => e = .returned (.bool (p x)) ∧ Below wr.heap.size wr w'

set_option maxHeartbeats 2000000 in
theorem itemsIdx_any (F : FuncId) (hF : ∀ args w, (callFunc F args).run Tryd.prog w = .ok (.enter F args) w) (cp : Addr) (p : JV → Bool) (iv : Value) (it : List JV) (w : World) (hi : ItemsAt (cf w) iv it) (H : Asks F (.pointer (some cp)) p it w) :
    Calls Tryd.prog 64 #[iv, .func (.func F) #[] #[.pointer (some cp)]] w (IdxAny (it.any p) w) := by
  obtain ⟨a, cap, rfl, hlen, hel⟩ := hi
  have HE := Hold.mk hel
  have HH := Hold.mk H
  clear hel H
  go_enter Tryd.func64, Tryd.ntmps64
  go_wp2_with fail
  go_loopw [8] (fun i wr => ∃ j : Nat, i = .int .i64 j ∧ j ≤ it.length ∧ (∀ (q : Nat) x, q < j → it[q]? = some x → p x = false) ∧ Below w.heap.size w wr) (fun i _ => it.length - (intOf i).toNat)
  case atStart => exact ⟨0, rfl, Nat.zero_le _, fun q x h => by omega, Below.refl _ _⟩
  case round =>
    obtain ⟨j, rfl, hj, hall, hbl⟩ := hrel
    have HA := Hold.mk hall
    have HB := Hold.mk hbl
    clear hall hbl
    by_cases hlt : j < it.length
    · obtain ⟨x, hx⟩ : ∃ x, it[j]? = some x := ⟨it[j], List.getElem?_eq_getElem hlt⟩
      obtain ⟨b, off, k2, n2, t2, nm2, it2, na2, ncap2, ia2, icap2, rfl, hxe, x0, x1, x2, x3, x4, hxj⟩ := HE.out j x hx
      have hcl := cle_below HB.out
      have z0 := hcl _ _ _ x0
      have z1 := hcl _ _ _ x1
      have z2 := hcl _ _ _ x2
      have z3 := hcl _ _ _ x3
      have z4 := hcl _ _ _ x4
      unfold cf at z0 z1 z2 z3 z4
      have HX := Hold.mk (HH.out x (List.mem_of_getElem? hx) _ wr HB.out (hxj.mono hcl))
      have HXE := Hold.mk hx
      clear x0 x1 x2 x3 x4 hcl hx hxe hxj
      cases hfx : p x with
      | false =>
        rw [hfx] at HX
        have HF := Hold.mk hfx
        clear hfx
        go_wp2_with fail
        refine HX.out.mono ?_
        rintro e w3 ⟨rfl, hb3⟩
        replace HB := Hold.mk (HB.out.trans (hb3.mono HB.out.size))
        clear hb3 HX z0 z1 z2 z3 z4
        go_wp2_with fail
        refine ⟨⟨j + 1, by go_num, hlt, fun q s' hq hs' => ?_, HB.out⟩, by simp [intOf]; omega⟩
        by_cases e : q = j
        · subst e; rw [HXE.out] at hs'; cases hs'; exact HF.out
        · exact HA.out q s' (by omega) hs'
      | true =>
        rw [hfx] at HX
        have HF := Hold.mk hfx
        clear hfx
        go_wp2_with fail
        refine HX.out.mono ?_
        rintro e w3 ⟨rfl, hb3⟩
        replace HB := Hold.mk (HB.out.trans (hb3.mono HB.out.size))
        clear hb3 HX z0 z1 z2 z3 z4
        go_wp2_with fail
        go_ret
        exact ⟨(j : Int), rfl, by rw [any_true HXE.out HF.out]; simp, HB.out⟩
    · have HAll : Hold (it.any p = false) := ⟨any_false (fun q x hq => HA.out q x (by omega))⟩
      go_wp2_with fail
      go_ret
      exact ⟨-1, rfl, by rw [HAll.out]; rfl, HB.out⟩

set_option maxHeartbeats 2000000 in
theorem itemsAny_any (F : FuncId) (hF : ∀ args w, (callFunc F args).run Tryd.prog w = .ok (.enter F args) w) (cp : Addr) (p : JV → Bool) (iv : Value) (it : List JV) (w : World) (hi : ItemsAt (cf w) iv it) (H : Asks F (.pointer (some cp)) p it w) :
    Calls Tryd.prog 48 #[iv, .func (.func F) #[] #[.pointer (some cp)]] w fun e w' => e = .returned (.bool (it.any p)) ∧ Below w.heap.size w w' := by
  have HX := Hold.mk (itemsIdx_any F hF cp p iv it w hi H)
  clear hi H
  go_enter Tryd.func48, Tryd.ntmps48
  go_wp2_with fail
  refine HX.out.mono ?_
  rintro e w1 ⟨r, rfl, hr, hb1⟩
  have HR := Hold.mk hr
  have HB := Hold.mk hb1
  clear hr hb1 HX
  go_wp2_with fail
  go_ret
  exact ⟨ret_b HR.out, HB.out⟩

/-- of a formed value -/
theorem formed_names {d : Nat} {v : JV} (hf : formedF d v = true) (hk : v.kind ≠ 6) : v.names = [] := by
  cases d with
  | zero => simp [formedF] at hf
  | succ d =>
    obtain ⟨k, n, t, nm, it⟩ := v
    by_cases h5 : k < 5
    · rw [formedF, if_pos h5, Bool.and_eq_true] at hf
      exact List.length_eq_zero_iff.1 (of_decide_eq_true hf.2).2
    · have := (formed_body hf h5).2.1
      rw [if_neg (show ¬ k = 6 from hk)] at this
      exact List.length_eq_zero_iff.1 this

set_option maxHeartbeats 2000000 in
theorem tests_any (v : JV) (x : Value) (w : World) (hx : JAt (cf w) v x) (hf : ∃ d, formedF d v = true) :
    Calls Tryd.prog 50 #[x] w fun e w' => e = .returned (.bool (testsF v)) ∧ Below w.heap.size w w' := by
  obtain ⟨d, hf⟩ := hf
  have HN := Hold.mk (formed_names hf)
  obtain ⟨k, n, t, nm, it, na, ncap, ia, icap, rfl, rfl, _, _, _, hst, _⟩ := hx.open
  have HX := Hold.mk (fun w' (hb : Below w.heap.size w w') => strsAny_any _ nm w' (hst.mono (cle_below hb)))
  clear hx hst hf
  have HB0 := Hold.mk ((Below.refl _ w).alloc (Nat.le_refl _) (.cells #[.int .i64 k, .int .i64 n, .string t, .slice na nm.length ncap, .slice ia it.length icap] 32))
  by_cases h6 : k = 6
  · subst h6
    go_enter Tryd.func50, Tryd.ntmps50
    go_wp2_with fail
    refine (HX.out _ HB0.out).mono ?_
    rintro e w1 ⟨rfl, hb1⟩
    replace HB0 := Hold.mk (HB0.out.trans (hb1.mono HB0.out.size))
    clear hb1
    go_wp2_with fail
    go_ret
    exact ⟨rfl, HB0.out⟩
  · have HR : Hold (testsF (.mk k n t nm it) = false) := ⟨by unfold testsF; rw [HN.out h6]; rfl⟩
    have b6 : (k == 6) = false := by simpa using h6
    clear h6
    go_enter Tryd.func50, Tryd.ntmps50
    go_wp2_with fail
    go_ret
    exact ⟨by rw [HR.out]; rfl, HB0.out⟩

end Go.Proofs.YtdajfdahgjhmaaaDoor
