/- Filters, plainly. Filters: what is handed to the library's functions; tests of the program. Filters: formed tests; the conditions, counted by the program. Filters: the conditions, counted by the program. Filters: a clause, counted by the program; Check. Filters: a clause, whole, and Check of the program. -/
import Derived.Test.YtcmfanfkcbjeoaaGreatDoorFO
import Derived.Test.YtcmfanfkcbjeoaaGreatDoorSA
import Derived.Test.YtcmfanfkcbjeoaaGreatDoorFA
import Derived.Test.YtcmfanfkcbjeoaaGreatDoorFE
namespace Go.Proofs.YtcmfanfkcbjeoaaGreatDoor

abbrev sAnd : List UInt8 := [36, 97, 110, 100]
abbrev sOr : List UInt8 := [36, 111, 114]
abbrev sNot : List UInt8 := [36, 110, 111, 116]
abbrev sEq : List UInt8 := [36, 101, 113]
abbrev sNe : List UInt8 := [36, 110, 101]
abbrev sLt : List UInt8 := [36, 108, 116]
abbrev sLe : List UInt8 := [36, 108, 101]
abbrev sGt : List UInt8 := [36, 103, 116]
abbrev sGe : List UInt8 := [36, 103, 101]
abbrev sIn : List UInt8 := [36, 105, 110]
abbrev sHas : List UInt8 := [36, 104, 97, 115]
/-- a name is this one -/
def isN (s : ByteArray) (l : List UInt8) : Bool := s.toList == l

/-- a name begins with a dollar -/
def signF (s : ByteArray) : Bool := s.data.toList.head? == some 36
/-- an Item is a list of tests -/
def testsF (v : JV) : Bool := v.names.any signF
/-- a formed test -/
def testF (s : ByteArray) (v : JV) : Bool :=
  if isN s sEq || isN s sNe || isN s sLt || isN s sLe || isN s sGt || isN s sGe then true
  else if isN s sIn then decide (v.kind = 5) else if isN s sHas then decide (v.kind = 2) || decide (v.kind = 1) else false

/-- a sum, from so much on, if all are there -/
def sumO : Nat → List (Option Nat) → Option Nat
  | n, [] => some n
  | _, none :: _ => none
  | n, some k :: l => sumO (n + k) l
/-- conditions of a clause -/
def clauseF (cnt : JV → Option Nat) (s : ByteArray) (v : JV) : Option Nat :=
  if isN s sAnd || isN s sOr then (if v.kind = 5 ∧ v.items.length ≠ 0 then sumO 1 (v.items.map cnt) else none)
  else if isN s sNot then (cnt v).map (· + 1)
  else if signF s then none
  else if (stepsF s).isNone then none
  else if testsF v && !((v.names.zip v.items).all fun p => testF p.1 p.2) then none else some 1
/-- conditions of a filter; none: it is none -/
def countF : Nat → JV → Option Nat
  | 0, _ => none
  | d + 1, f => if f.kind = 6 then sumO 0 ((f.names.zip f.items).map fun p => clauseF (countF d) p.1 p.2) else none
/-- what Check answers -/
def checkF (f : JV) : Int := if formedF 6 f = true then (match countF 6 f with | none => 2 | some n => if 12 < n then 3 else 0) else 2

/-- a clause holds -/
def oneFF (pass : ByteArray → JV → Option JV → Bool) (eq : JV → JV → Bool) (h : JV → Bool) (s : ByteArray) (v doc : JV) : Bool :=
  if isN s sAnd then v.items.all h else if isN s sOr then v.items.any h else if isN s sNot then !h v
  else if testsF v then (v.names.zip v.items).all fun p => pass p.1 p.2 (getJ doc s)
  else match getJ doc s with
    | some x => eq x v
    | none => false
/-- a filter holds -/
def holdsF (pass : ByteArray → JV → Option JV → Bool) (eq : JV → JV → Bool) : Nat → JV → JV → Bool
  | 0, _, _ => false
  | d + 1, f, doc => (f.names.zip f.items).all fun p => oneFF pass eq (fun g => holdsF pass eq d g doc) p.1 p.2 doc

/-- what the numbers of a comparison tell -/
def byName (s : ByteArray) (c : Int) (other : Bool) : Bool :=
  if isN s sEq then decide (c = 0) else if isN s sNe then decide (c ≠ 0) else if isN s sLt then decide (c < 0) else if isN s sLe then decide (c ≤ 0) else if isN s sGt then decide (0 < c) else other
/-- a test passes, as the program has it -/
noncomputable def passP (s : ByteArray) (v : JV) (x : Option JV) : Bool :=
  if isN s sHas then (x.isSome == decide (v.kind = 2))
  else match x with
    | none => isN s sNe
    | some x => if isN s sIn then v.items.any (sameB x) else byName s (cmpF 6 x v) (decide (0 ≤ cmpF 6 x v))
/-- a test passes, as the reference has it -/
def passR (s : ByteArray) (v : JV) (x : Option JV) : Bool :=
  if isN s sHas then (x.isSome && decide (v.kind = 2) || !x.isSome && decide (v.kind = 1))
  else match x with
    | none => isN s sNe
    | some x => byName s (cmpF 6 x v) (if isN s sGe then decide (0 ≤ cmpF 6 x v) else v.items.any fun y => decide (cmpF 6 x y = 0))
def eqR (x v : JV) : Bool := decide (cmpF 6 x v = 0)

/-- what Holds answers -/
noncomputable def HoldsP (f doc : JV) : Bool := decide (checkF f = 0) && decide (doc.kind = 6) && formedF 6 doc && holdsF passP sameB 6 f doc
def HoldsR (f doc : JV) : Bool := decide (checkF f = 0) && formedF 6 doc && decide (doc.kind = 6) && holdsF passR eqR 6 f doc

/-! alike: compared as 0 -/
theorem orI_iff {a b : Int} : orI a b = 0 ↔ a = 0 ∧ b = 0 := by
  unfold orI; split
  · rename_i h; exact ⟨fun e => ⟨h, e⟩, fun e => e.2⟩
  · rename_i h; exact ⟨fun e => absurd e h, fun e => absurd e.1 h⟩
theorem memb_zero {f : JV → JV → Int} {P : JV → Prop} (hf : ∀ x y, P x → P y → (f x y = 0 ↔ x = y)) (k : Int) : ∀ (it ju : List JV) (nm nu : List ByteArray), (∀ x ∈ it, P x) → (∀ x ∈ ju, P x) → nm.length = (if k = 6 then it.length else 0) → nu.length = (if k = 6 then ju.length else 0) → (membC f k it ju nm nu = 0 ↔ it = ju ∧ nm = nu)
  | [], [], nm, nu, _, _, h1, h2 => by
    have e1 : nm = [] := List.length_eq_zero_iff.1 (by rw [h1]; split <;> rfl)
    have e2 : nu = [] := List.length_eq_zero_iff.1 (by rw [h2]; split <;> rfl)
    simp [membC, e1, e2]
  | [], _ :: _, _, _, _, _, _, _ => by simp [membC]
  | _ :: _, [], _, _, _, _, _, _ => by simp [membC]
  | x :: it, y :: ju, nm, nu, hi, hj, h1, h2 => by
    rw [membC, orI_iff, orI_iff, hf x y (hi x (by simp)) (hj y (by simp))]
    by_cases hk : k = 6
    · rw [if_pos hk] at h1 h2 ⊢
      cases nm with
      | nil => simp at h1
      | cons a nm =>
        cases nu with
        | nil => simp at h2
        | cons b nu =>
          have ih := memb_zero hf k it ju nm nu (fun z hz => hi z (by simp [hz])) (fun z hz => hj z (by simp [hz])) (by rw [if_pos hk]; simpa using h1) (by rw [if_pos hk]; simpa using h2)
          simp only [List.headD_cons, List.tail_cons, cmpS_zero, ih, List.cons.injEq]
          constructor
          · rintro ⟨a, b, c, d⟩; exact ⟨⟨b, c⟩, a, d⟩
          · rintro ⟨⟨b, c⟩, a, d⟩; exact ⟨a, b, c, d⟩
    · rw [if_neg hk] at h1 h2 ⊢
      have e1 : nm = [] := List.length_eq_zero_iff.1 h1
      have e2 : nu = [] := List.length_eq_zero_iff.1 h2
      subst e1 e2
      have ih := memb_zero hf k it ju [] [] (fun z hz => hi z (by simp [hz])) (fun z hz => hj z (by simp [hz])) (by simp [hk]) (by simp [hk])
      simp only [List.tail_nil, ih, List.cons.injEq, and_true, true_and]
theorem cmp_zero : ∀ (d : Nat) (a b : JV), formedF d a = true → formedF d b = true → (cmpF d a b = 0 ↔ a = b)
  | 0, a, b, h, _ => by simp [formedF] at h
  | d + 1, .mk k n t nm it, .mk q m u nu ju, ha, hb => by
    have ht : ∀ {k n : Int} {t : ByteArray} {nm : List ByteArray} {it : List JV}, formedF (d + 1) (.mk k n t nm it) = true → (∀ x ∈ it, formedF d x = true) ∧ nm.length = (if k = 6 then it.length else 0) := by
      intro k n t nm it h
      by_cases hk : k < 5
      · rw [formedF, if_pos hk, Bool.and_eq_true] at h
        have h1 := of_decide_eq_true h.2
        have e1 := List.length_eq_zero_iff.1 h1.1
        have e2 := List.length_eq_zero_iff.1 h1.2
        subst e1 e2
        exact ⟨fun x hx => by simp at hx, by rw [if_neg (by omega)]; rfl⟩
      · have := formed_body h hk
        exact ⟨this.2.2.2.1, this.2.1⟩
    obtain ⟨ia, la⟩ := ht ha
    obtain ⟨ib, lb⟩ := ht hb
    rw [cmpF, orI_iff, orI_iff, orI_iff, JV.ext_iff', cmpS_zero]
    constructor
    · rintro ⟨h1, h2, h3, h4⟩
      have e1 := cmpI_zero h1
      subst e1
      rw [memb_zero (fun x y hx hy => cmp_zero d x y hx hy) k it ju nm nu ia ib la lb] at h4
      exact ⟨rfl, cmpI_zero h2, h3, h4.2, h4.1⟩
    · rintro ⟨rfl, rfl, rfl, rfl, rfl⟩
      exact ⟨cmpI_self _, cmpI_self _, rfl, (memb_zero (fun x y hx hy => cmp_zero d x y hx hy) k it it nm nm ia ib la lb).2 ⟨rfl, rfl⟩⟩

theorem formed_mono : ∀ (d : Nat) (v : JV), formedF d v = true → formedF (d + 1) v = true
  | 0, v, h => by simp [formedF] at h
  | d + 1, .mk k n t nm it, h => by
    rw [formedF, Bool.and_eq_true] at h ⊢
    refine ⟨h.1, ?_⟩
    by_cases hk : k < 5
    · rw [if_pos hk] at h ⊢; exact h.2
    · rw [if_neg hk, Bool.and_eq_true] at h ⊢
      refine ⟨h.2.1, ?_⟩
      rw [List.all_eq_true]
      intro x hx
      exact formed_mono d x (List.all_eq_true.1 h.2.2 x hx)
theorem formed_up {d e : Nat} {v : JV} (h : formedF d v = true) (hde : d ≤ e) : formedF e v = true := by
  induction hde with
  | refl => exact h
  | step _ ih => exact formed_mono _ v ih

end Go.Proofs.YtcmfanfkcbjeoaaGreatDoor

namespace Go.Proofs.YtcmfanfkcbjeoaaGreatDoor
open Go.RowKit

theorem sign_yes {s : ByteArray} (h : 0 < s.size) (h36 : s[0] = 36) : signF s = true := by
  unfold signF
  have := byte_at h
  rw [List.head?_eq_getElem?, this, h36]; rfl
theorem sign_no {s : ByteArray} (h : 0 < s.size) (h36 : s[0] ≠ 36) : signF s = false := by
  unfold signF
  have := byte_at h
  rw [List.head?_eq_getElem?, this]
  simpa using h36
theorem sign_empty {s : ByteArray} (h : s.size = 0) : signF s = false := by
  unfold signF
  have : s.data.toList = [] := List.length_eq_zero_iff.1 (by rw [size_list]; exact h)
  rw [this]; rfl
theorem one_byteF {s : ByteArray} (h : 0 < s.size) : s.extract 0 1 = ⟨#[s[0]]⟩ := by
  apply ByteArray.ext
  apply Array.ext
  · rw [ByteArray.data_extract]; simp; have : s.data.size = s.size := rfl; omega
  · intro i h1 h2
    obtain rfl : i = 0 := by simp at h2; omega
    simp [ByteArray.data_extract]
    rfl
theorem cut_one {s : ByteArray} (h : 0 < s.size) : (s.extract 0 1).toList = [s[0]] := by
  rw [one_byteF h, ByteArray.toList_eq]

set_option maxHeartbeats 2000000 in
theorem hasDollar_any (s : ByteArray) (w : World) (hs : s.size ≤ 9223372036854775807) :
    Calls Tryz.prog 133 #[.string s, .string ⟨#[36]⟩] w fun e w' => e = .returned (.bool (signF s)) ∧ w' = w := by
  have H : Calls Tryz.prog 172 #[.string s, .string ⟨#[36]⟩] w fun e w' => e = .returned (.bool (signF s)) ∧ w' = w := by
    by_cases h0 : 0 < s.size
    · have e1 := cut_one h0
      obtain ⟨c, hc⟩ : ∃ c, s[0]'h0 = c := ⟨_, rfl⟩
      rw [hc] at e1
      by_cases h36 : c = 36
      · have HR := Hold.mk (sign_yes h0 (hc.trans h36))
        subst h36
        clear hc
        go_enter Tryz.func172, Tryz.ntmps172
        go_wp2_with fail
        go_ret
        exact ⟨by rw [HR.out]; rfl, rfl⟩
      · have HR := Hold.mk (sign_no h0 (by rw [hc]; exact h36))
        have hb : (c == 36) = false := by simpa using h36
        clear hc h36
        go_enter Tryz.func172, Tryz.ntmps172
        go_wp2_with fail
        go_ret
        exact ⟨by rw [HR.out]; rfl, rfl⟩
    · have HR := Hold.mk (sign_empty (s := s) (by omega))
      go_enter Tryz.func172, Tryz.ntmps172
      go_wp2_with fail
      go_ret
      exact ⟨by rw [HR.out]; rfl, rfl⟩
  have HH := Hold.mk H
  clear H
  go_enter Tryz.func133, Tryz.ntmps133
  go_wp2_with fail
  refine HH.out.mono ?_
  rintro e w1 ⟨rfl, hw1⟩
  subst hw1
  go_wp2_with fail
  go_ret
  exact ⟨rfl, rfl⟩

theorem dollar_any (s : ByteArray) (w : World) (hs : s.size ≤ 9223372036854775807) :
    Calls Tryz.prog 201 #[.string s] w fun e w' => e = .returned (.bool (signF s)) ∧ w' = w := by
  have HH := Hold.mk (hasDollar_any s w hs)
  go_enter Tryz.func201, Tryz.ntmps201
  go_wp2_with fail
  refine HH.out.mono ?_
  rintro e w1 ⟨rfl, hw1⟩
  subst hw1
  go_wp2_with fail
  go_ret
  exact ⟨rfl, rfl⟩

theorem any_true {α : Type} {l : List α} {p : α → Bool} {i : Nat} {x : α} (hx : l[i]? = some x) (h : p x = true) : l.any p = true :=
  List.any_eq_true.2 ⟨x, List.mem_of_getElem? hx, h⟩
theorem any_false {α : Type} {l : List α} {p : α → Bool} (h : ∀ (i : Nat) x, i < l.length → l[i]? = some x → p x = false) : l.any p = false := by
  rw [← Bool.not_eq_true, List.any_eq_true]
  rintro ⟨x, hx, hp⟩
  obtain ⟨i, hil, e⟩ := List.getElem_of_mem hx
  rw [h i x hil (by rw [← e]; exact List.getElem?_eq_getElem hil)] at hp
  cases hp

/-- what IndexFunc hands back -/
def IdxAny (b : Bool) (w : World) (e : Ending) (w' : World) : Prop := ∃ r : Int, e = .returned (.int .i64 r) ∧ decide (0 ≤ r) = b ∧ Below w.heap.size w w'

set_option maxHeartbeats 2000000 in
theorem strsIdx_any (nv : Value) (nm : List ByteArray) (w : World) (h : StrsAt (cf w) nv nm) :
    Calls Tryz.prog 173 #[nv, .func (.func 201) #[] #[]] w (IdxAny (nm.any signF) w) := by
  obtain ⟨a, cap, rfl, hlen, hel⟩ := h
  have HE := Hold.mk hel
  clear hel
  go_enter Tryz.func173, Tryz.ntmps173
  go_wp2_with fail
  go_loop [8] (fun i => ∃ j : Nat, i = .int .i64 j ∧ j ≤ nm.length ∧ (∀ (q : Nat) x, q < j → nm[q]? = some x → signF x = false)) (fun i => nm.length - (intOf i).toNat)
  case atStart => exact ⟨0, rfl, Nat.zero_le _, fun q x h => by omega⟩
  case round =>
    obtain ⟨j, rfl, hj, hall⟩ := hrel
    have HA := Hold.mk hall
    clear hall
    by_cases hlt : j < nm.length
    · obtain ⟨s, hs⟩ : ∃ s, nm[j]? = some s := ⟨nm[j], List.getElem?_eq_getElem hlt⟩
      obtain ⟨hsz, b, off, rfl, hsc⟩ := HE.out j s hs
      have z0 := hsc
      unfold cf at z0
      have HX := Hold.mk (dollar_any s w hsz)
      have HS := Hold.mk hs
      clear hsc hs
      cases hfx : signF s with
      | false =>
        rw [hfx] at HX
        have HF := Hold.mk hfx
        clear hfx
        go_wp2_with fail
        refine HX.out.mono ?_
        rintro e w1 ⟨rfl, hw1⟩
        subst hw1
        go_wp2_with fail
        refine ⟨⟨j + 1, by go_num, hlt, fun q s' hq hs' => ?_⟩, by simp [intOf]; omega⟩
        by_cases e : q = j
        · subst e; rw [HS.out] at hs'; cases hs'; exact HF.out
        · exact HA.out q s' (by omega) hs'
      | true =>
        rw [hfx] at HX
        have HF := Hold.mk hfx
        clear hfx
        go_wp2_with fail
        refine HX.out.mono ?_
        rintro e w1 ⟨rfl, hw1⟩
        subst hw1
        go_wp2_with fail
        go_ret
        exact ⟨(j : Int), rfl, by rw [any_true HS.out HF.out]; simp, Below.refl _ _⟩
    · have HAll : Hold (nm.any signF = false) := ⟨any_false (fun q x hq => HA.out q x (by omega))⟩
      go_wp2_with fail
      go_ret
      exact ⟨-1, rfl, by rw [HAll.out]; rfl, Below.refl _ _⟩

set_option maxHeartbeats 2000000 in
theorem strsAny_any (nv : Value) (nm : List ByteArray) (w : World) (h : StrsAt (cf w) nv nm) :
    Calls Tryz.prog 134 #[nv, .func (.func 201) #[] #[]] w fun e w' => e = .returned (.bool (nm.any signF)) ∧ Below w.heap.size w w' := by
  have HX := Hold.mk (strsIdx_any nv nm w h)
  clear h
  go_enter Tryz.func134, Tryz.ntmps134
  go_wp2_with fail
  refine HX.out.mono ?_
  rintro e w1 ⟨r, rfl, hr, hb1⟩
  have HR := Hold.mk hr
  have HB := Hold.mk hb1
  clear hr hb1 HX
  go_wp2_with fail
  go_ret
  exact ⟨ret_b HR.out, HB.out⟩

/-- a closure that captures one pointer and asks p of a value -/
def Asks (F : FuncId) (cp : Value) (p : JV → Bool) (it : List JV) (w : World) : Prop := ∀ x ∈ it, ∀ (y : Value) (wr : World), Below w.heap.size w wr → JAt (cf wr) x y →
  Calls Tryz.prog F #[y, cp] wr fun e w' => e = .returned (.bool (p x)) ∧ Below wr.heap.size wr w'

set_option maxHeartbeats 2000000 in
theorem itemsIdx_any (F : FuncId) (hF : ∀ args w, (callFunc F args).run Tryz.prog w = .ok (.enter F args) w) (cp : Addr) (p : JV → Bool) (iv : Value) (it : List JV) (w : World) (hi : ItemsAt (cf w) iv it) (H : Asks F (.pointer (some cp)) p it w) :
    Calls Tryz.prog 167 #[iv, .func (.func F) #[] #[.pointer (some cp)]] w (IdxAny (it.any p) w) := by
  obtain ⟨a, cap, rfl, hlen, hel⟩ := hi
  have HE := Hold.mk hel
  have HH := Hold.mk H
  clear hel H
  go_enter Tryz.func167, Tryz.ntmps167
  go_wp2_with fail
  go_loopw [8] (fun i wr => ∃ j : Nat, i = .int .i64 j ∧ j ≤ it.length ∧ (∀ (q : Nat) x, q < j → it[q]? = some x → p x = false) ∧ Below w.heap.size w wr) (fun i _ => it.length - (intOf i).toNat)
  case atStart => exact ⟨0, rfl, Nat.zero_le _, fun q x h => by omega, Below.refl _ _⟩
  case round =>
    obtain ⟨j, rfl, hj, hall, hbl⟩ := hrel
    have HA := Hold.mk hall
    have HB := Hold.mk hbl
    clear hall hbl
    by_cases hlt : j < it.length
    · obtain ⟨x, hx⟩ : ∃ x, it[j]? = some x := ⟨it[j], List.getElem?_eq_getElem hlt⟩
      obtain ⟨b, off, k2, n2, t2, nm2, it2, na2, ncap2, ia2, icap2, rfl, hxe, x0, x1, x2, x3, x4, hxj⟩ := HE.out j x hx
      have hcl := cle_below HB.out
      have z0 := hcl _ _ _ x0
      have z1 := hcl _ _ _ x1
      have z2 := hcl _ _ _ x2
      have z3 := hcl _ _ _ x3
      have z4 := hcl _ _ _ x4
      unfold cf at z0 z1 z2 z3 z4
      have HX := Hold.mk (HH.out x (List.mem_of_getElem? hx) _ wr HB.out (hxj.mono hcl))
      have HXE := Hold.mk hx
      clear x0 x1 x2 x3 x4 hcl hx hxe hxj
      cases hfx : p x with
      | false =>
        rw [hfx] at HX
        have HF := Hold.mk hfx
        clear hfx
        go_wp2_with fail
        refine HX.out.mono ?_
        rintro e w3 ⟨rfl, hb3⟩
        replace HB := Hold.mk (HB.out.trans (hb3.mono HB.out.size))
        clear hb3 HX z0 z1 z2 z3 z4
        go_wp2_with fail
        refine ⟨⟨j + 1, by go_num, hlt, fun q s' hq hs' => ?_, HB.out⟩, by simp [intOf]; omega⟩
        by_cases e : q = j
        · subst e; rw [HXE.out] at hs'; cases hs'; exact HF.out
        · exact HA.out q s' (by omega) hs'
      | true =>
        rw [hfx] at HX
        have HF := Hold.mk hfx
        clear hfx
        go_wp2_with fail
        refine HX.out.mono ?_
        rintro e w3 ⟨rfl, hb3⟩
        replace HB := Hold.mk (HB.out.trans (hb3.mono HB.out.size))
        clear hb3 HX z0 z1 z2 z3 z4
        go_wp2_with fail
        go_ret
        exact ⟨(j : Int), rfl, by rw [any_true HXE.out HF.out]; simp, HB.out⟩
    · have HAll : Hold (it.any p = false) := ⟨any_false (fun q x hq => HA.out q x (by omega))⟩
      go_wp2_with fail
      go_ret
      exact ⟨-1, rfl, by rw [HAll.out]; rfl, HB.out⟩

set_option maxHeartbeats 2000000 in
theorem itemsAny_any (F : FuncId) (hF : ∀ args w, (callFunc F args).run Tryz.prog w = .ok (.enter F args) w) (cp : Addr) (p : JV → Bool) (iv : Value) (it : List JV) (w : World) (hi : ItemsAt (cf w) iv it) (H : Asks F (.pointer (some cp)) p it w) :
    Calls Tryz.prog 126 #[iv, .func (.func F) #[] #[.pointer (some cp)]] w fun e w' => e = .returned (.bool (it.any p)) ∧ Below w.heap.size w w' := by
  have HX := Hold.mk (itemsIdx_any F hF cp p iv it w hi H)
  clear hi H
  go_enter Tryz.func126, Tryz.ntmps126
  go_wp2_with fail
  refine HX.out.mono ?_
  rintro e w1 ⟨r, rfl, hr, hb1⟩
  have HR := Hold.mk hr
  have HB := Hold.mk hb1
  clear hr hb1 HX
  go_wp2_with fail
  go_ret
  exact ⟨ret_b HR.out, HB.out⟩

/-- of a formed value -/
theorem formed_names {d : Nat} {v : JV} (hf : formedF d v = true) (hk : v.kind ≠ 6) : v.names = [] := by
  cases d with
  | zero => simp [formedF] at hf
  | succ d =>
    obtain ⟨k, n, t, nm, it⟩ := v
    by_cases h5 : k < 5
    · rw [formedF, if_pos h5, Bool.and_eq_true] at hf
      exact List.length_eq_zero_iff.1 (of_decide_eq_true hf.2).2
    · have := (formed_body hf h5).2.1
      rw [if_neg (show ¬ k = 6 from hk)] at this
      exact List.length_eq_zero_iff.1 this

set_option maxHeartbeats 2000000 in
theorem tests_any (v : JV) (x : Value) (w : World) (hx : JAt (cf w) v x) (hf : ∃ d, formedF d v = true) :
    Calls Tryz.prog 168 #[x] w fun e w' => e = .returned (.bool (testsF v)) ∧ Below w.heap.size w w' := by
  obtain ⟨d, hf⟩ := hf
  have HN := Hold.mk (formed_names hf)
  obtain ⟨k, n, t, nm, it, na, ncap, ia, icap, rfl, rfl, _, _, _, hst, _⟩ := hx.open
  have HX := Hold.mk (fun w' (hb : Below w.heap.size w w') => strsAny_any _ nm w' (hst.mono (cle_below hb)))
  clear hx hst hf
  have HB0 := Hold.mk ((Below.refl _ w).alloc (Nat.le_refl _) (.cells #[.int .i64 k, .int .i64 n, .string t, .slice na nm.length ncap, .slice ia it.length icap] 25))
  by_cases h6 : k = 6
  · subst h6
    go_enter Tryz.func168, Tryz.ntmps168
    go_wp2_with fail
    refine (HX.out _ HB0.out).mono ?_
    rintro e w1 ⟨rfl, hb1⟩
    replace HB0 := Hold.mk (HB0.out.trans (hb1.mono HB0.out.size))
    clear hb1
    go_wp2_with fail
    go_ret
    exact ⟨rfl, HB0.out⟩
  · have HR : Hold (testsF (.mk k n t nm it) = false) := ⟨by unfold testsF; rw [HN.out h6]; rfl⟩
    have b6 : (k == 6) = false := by simpa using h6
    clear h6
    go_enter Tryz.func168, Tryz.ntmps168
    go_wp2_with fail
    go_ret
    exact ⟨by rw [HR.out]; rfl, HB0.out⟩

end Go.Proofs.YtcmfanfkcbjeoaaGreatDoor

namespace Go.Proofs.YtcmfanfkcbjeoaaGreatDoor
open Go.RowKit

theorem isN_yes {s : ByteArray} {l : List UInt8} (h : s.toList = l) : isN s l = true := by unfold isN; rw [h]; simp
theorem isN_no {s : ByteArray} {l : List UInt8} (h : ¬ s.toList = l) : isN s l = false := by unfold isN; simpa using h
theorem isN_ne {s : ByteArray} {l m : List UInt8} (h : s.toList = l) (hm : l ≠ m) : isN s m = false := isN_no (by rw [h]; exact hm)

set_option maxHeartbeats 4000000 in
theorem test_any (s : ByteArray) (v : JV) (x : Value) (w : World) (hx : JAt (cf w) v x) :
    Calls Tryz.prog 169 #[.string s, x] w fun e w' => e = .returned (.bool (testF s v)) ∧ Below w.heap.size w w' := by
  obtain ⟨k, n, t, nm, it, na, ncap, ia, icap, rfl, rfl, _⟩ := hx.open
  clear hx
  have HB0 := Hold.mk ((Below.refl _ w).alloc (Nat.le_refl _) (.cells #[.int .i64 k, .int .i64 n, .string t, .slice na nm.length ncap, .slice ia it.length icap] 25))
  by_cases h0 : s.toList = [36, 101, 113]
  · have HR : Hold (testF s (.mk k n t nm it) = true) := ⟨by unfold testF; rw [isN_yes (l := sEq) h0]; simp⟩
    go_enter Tryz.func169, Tryz.ntmps169
    go_wp2_with fail
    go_ret
    exact ⟨by rw [HR.out]; rfl, HB0.out⟩
  have b0 : (s.toList == [36, 101, 113]) = false := isN_no h0
  by_cases h1 : s.toList = [36, 110, 101]
  · have HR : Hold (testF s (.mk k n t nm it) = true) := ⟨by unfold testF; rw [isN_yes (l := sNe) h1]; simp⟩
    go_enter Tryz.func169, Tryz.ntmps169
    go_wp2_with fail
    go_ret
    exact ⟨by rw [HR.out]; rfl, HB0.out⟩
  have b1 : (s.toList == [36, 110, 101]) = false := isN_no h1
  by_cases h2 : s.toList = [36, 108, 116]
  · have HR : Hold (testF s (.mk k n t nm it) = true) := ⟨by unfold testF; rw [isN_yes (l := sLt) h2]; simp⟩
    go_enter Tryz.func169, Tryz.ntmps169
    go_wp2_with fail
    go_ret
    exact ⟨by rw [HR.out]; rfl, HB0.out⟩
  have b2 : (s.toList == [36, 108, 116]) = false := isN_no h2
  by_cases h3 : s.toList = [36, 108, 101]
  · have HR : Hold (testF s (.mk k n t nm it) = true) := ⟨by unfold testF; rw [isN_yes (l := sLe) h3]; simp⟩
    go_enter Tryz.func169, Tryz.ntmps169
    go_wp2_with fail
    go_ret
    exact ⟨by rw [HR.out]; rfl, HB0.out⟩
  have b3 : (s.toList == [36, 108, 101]) = false := isN_no h3
  by_cases h4 : s.toList = [36, 103, 116]
  · have HR : Hold (testF s (.mk k n t nm it) = true) := ⟨by unfold testF; rw [isN_yes (l := sGt) h4]; simp⟩
    go_enter Tryz.func169, Tryz.ntmps169
    go_wp2_with fail
    go_ret
    exact ⟨by rw [HR.out]; rfl, HB0.out⟩
  have b4 : (s.toList == [36, 103, 116]) = false := isN_no h4
  by_cases h5 : s.toList = [36, 103, 101]
  · have HR : Hold (testF s (.mk k n t nm it) = true) := ⟨by unfold testF; rw [isN_yes (l := sGe) h5]; simp⟩
    go_enter Tryz.func169, Tryz.ntmps169
    go_wp2_with fail
    go_ret
    exact ⟨by rw [HR.out]; rfl, HB0.out⟩
  have b5 : (s.toList == [36, 103, 101]) = false := isN_no h5
  have hsix : (isN s sEq || isN s sNe || isN s sLt || isN s sLe || isN s sGt || isN s sGe) = false := by
    rw [isN_no (l := sEq) h0, isN_no (l := sNe) h1, isN_no (l := sLt) h2, isN_no (l := sLe) h3, isN_no (l := sGt) h4, isN_no (l := sGe) h5]; rfl
  have H6 := Hold.mk hsix
  clear h0 h1 h2 h3 h4 h5 hsix
  by_cases h6 : s.toList = [36, 105, 110]
  · have HR0 : Hold (testF s (.mk k n t nm it) = decide (k = 5)) := ⟨by unfold testF; rw [H6.out, isN_yes (l := sIn) h6]; rfl⟩
    clear b0 b1 b2 b3 b4 b5
    by_cases hk : k = 5
    · have HR : Hold (testF s (.mk k n t nm it) = true) := ⟨by rw [HR0.out, hk]; rfl⟩
      subst hk
      go_enter Tryz.func169, Tryz.ntmps169
      go_wp2_with fail
      go_ret
      exact ⟨by rw [HR.out]; rfl, HB0.out⟩
    
    · have HR : Hold (testF s (.mk k n t nm it) = false) := ⟨by rw [HR0.out]; simpa using hk⟩
      have bk : (k == 5) = false := by simpa using hk
      clear hk
      go_enter Tryz.func169, Tryz.ntmps169
      go_wp2_with fail
      go_ret
      exact ⟨by rw [HR.out]; rfl, HB0.out⟩
  have b6 : (s.toList == [36, 105, 110]) = false := isN_no h6
  have H7 := Hold.mk (isN_no (l := sIn) h6)
  clear h6
  by_cases h7 : s.toList = [36, 104, 97, 115]
  · have HR0 : Hold (testF s (.mk k n t nm it) = (decide (k = 2) || decide (k = 1))) := ⟨by unfold testF; rw [H6.out, H7.out, isN_yes (l := sHas) h7]; rfl⟩
    clear b0 b1 b2 b3 b4 b5 b6
    by_cases hk : k = 2
    · have HR : Hold (testF s (.mk k n t nm it) = true) := ⟨by rw [HR0.out, hk]; rfl⟩
      subst hk
      go_enter Tryz.func169, Tryz.ntmps169
      go_wp2_with fail
      go_ret
      exact ⟨by rw [HR.out]; rfl, HB0.out⟩
    have bk : (k == 2) = false := by simpa using hk
    by_cases hk1 : k = 1
    · have HR : Hold (testF s (.mk k n t nm it) = true) := ⟨by rw [HR0.out, hk1]; rfl⟩
      subst hk1
      clear hk
      go_enter Tryz.func169, Tryz.ntmps169
      go_wp2_with fail
      go_ret
      exact ⟨by rw [HR.out]; rfl, HB0.out⟩
    · have HR : Hold (testF s (.mk k n t nm it) = false) := ⟨by rw [HR0.out]; simp [hk, hk1]⟩
      have bk1 : (k == 1) = false := by simpa using hk1
      clear hk hk1
      go_enter Tryz.func169, Tryz.ntmps169
      go_wp2_with fail
      go_ret
      exact ⟨by rw [HR.out]; rfl, HB0.out⟩
  have b7 : (s.toList == [36, 104, 97, 115]) = false := isN_no h7
  have HR : Hold (testF s (.mk k n t nm it) = false) := ⟨by unfold testF; rw [H6.out, H7.out, isN_no (l := sHas) h7]; rfl⟩
  clear h7
  go_enter Tryz.func169, Tryz.ntmps169
  go_wp2_with fail
  go_ret
  exact ⟨by rw [HR.out]; rfl, HB0.out⟩

set_option maxHeartbeats 4000000 in
theorem rtest_any (s : ByteArray) (v : JV) (x : Value) (w : World) (hx : JAt (cf w) v x) :
    Calls Tryz.prog 178 #[.string s, x] w fun e w' => e = .returned (.bool (testF s v)) ∧ Below w.heap.size w w' := by
  obtain ⟨k, n, t, nm, it, na, ncap, ia, icap, rfl, rfl, _⟩ := hx.open
  clear hx
  have HB0 := Hold.mk ((Below.refl _ w).alloc (Nat.le_refl _) (.cells #[.int .i64 k, .int .i64 n, .string t, .slice na nm.length ncap, .slice ia it.length icap] 25))
  by_cases h0 : s.toList = [36, 101, 113]
  · have HR : Hold (testF s (.mk k n t nm it) = true) := ⟨by unfold testF; rw [isN_yes (l := sEq) h0]; simp⟩
    go_enter Tryz.func178, Tryz.ntmps178
    go_wp2_with fail
    go_ret
    exact ⟨by rw [HR.out]; rfl, HB0.out⟩
  have b0 : (s.toList == [36, 101, 113]) = false := isN_no h0
  by_cases h1 : s.toList = [36, 110, 101]
  · have HR : Hold (testF s (.mk k n t nm it) = true) := ⟨by unfold testF; rw [isN_yes (l := sNe) h1]; simp⟩
    go_enter Tryz.func178, Tryz.ntmps178
    go_wp2_with fail
    go_ret
    exact ⟨by rw [HR.out]; rfl, HB0.out⟩
  have b1 : (s.toList == [36, 110, 101]) = false := isN_no h1
  by_cases h2 : s.toList = [36, 108, 116]
  · have HR : Hold (testF s (.mk k n t nm it) = true) := ⟨by unfold testF; rw [isN_yes (l := sLt) h2]; simp⟩
    go_enter Tryz.func178, Tryz.ntmps178
    go_wp2_with fail
    go_ret
    exact ⟨by rw [HR.out]; rfl, HB0.out⟩
  have b2 : (s.toList == [36, 108, 116]) = false := isN_no h2
  by_cases h3 : s.toList = [36, 108, 101]
  · have HR : Hold (testF s (.mk k n t nm it) = true) := ⟨by unfold testF; rw [isN_yes (l := sLe) h3]; simp⟩
    go_enter Tryz.func178, Tryz.ntmps178
    go_wp2_with fail
    go_ret
    exact ⟨by rw [HR.out]; rfl, HB0.out⟩
  have b3 : (s.toList == [36, 108, 101]) = false := isN_no h3
  by_cases h4 : s.toList = [36, 103, 116]
  · have HR : Hold (testF s (.mk k n t nm it) = true) := ⟨by unfold testF; rw [isN_yes (l := sGt) h4]; simp⟩
    go_enter Tryz.func178, Tryz.ntmps178
    go_wp2_with fail
    go_ret
    exact ⟨by rw [HR.out]; rfl, HB0.out⟩
  have b4 : (s.toList == [36, 103, 116]) = false := isN_no h4
  by_cases h5 : s.toList = [36, 103, 101]
  · have HR : Hold (testF s (.mk k n t nm it) = true) := ⟨by unfold testF; rw [isN_yes (l := sGe) h5]; simp⟩
    go_enter Tryz.func178, Tryz.ntmps178
    go_wp2_with fail
    go_ret
    exact ⟨by rw [HR.out]; rfl, HB0.out⟩
  have b5 : (s.toList == [36, 103, 101]) = false := isN_no h5
  have hsix : (isN s sEq || isN s sNe || isN s sLt || isN s sLe || isN s sGt || isN s sGe) = false := by
    rw [isN_no (l := sEq) h0, isN_no (l := sNe) h1, isN_no (l := sLt) h2, isN_no (l := sLe) h3, isN_no (l := sGt) h4, isN_no (l := sGe) h5]; rfl
  have H6 := Hold.mk hsix
  clear h0 h1 h2 h3 h4 h5 hsix
  by_cases h6 : s.toList = [36, 105, 110]
  · have HR0 : Hold (testF s (.mk k n t nm it) = decide (k = 5)) := ⟨by unfold testF; rw [H6.out, isN_yes (l := sIn) h6]; rfl⟩
    clear b0 b1 b2 b3 b4 b5
    by_cases hk : k = 5
    · have HR : Hold (testF s (.mk k n t nm it) = true) := ⟨by rw [HR0.out, hk]; rfl⟩
      subst hk
      go_enter Tryz.func178, Tryz.ntmps178
      go_wp2_with fail
      go_ret
      exact ⟨by rw [HR.out]; rfl, HB0.out⟩
    
    · have HR : Hold (testF s (.mk k n t nm it) = false) := ⟨by rw [HR0.out]; simpa using hk⟩
      have bk : (k == 5) = false := by simpa using hk
      clear hk
      go_enter Tryz.func178, Tryz.ntmps178
      go_wp2_with fail
      go_ret
      exact ⟨by rw [HR.out]; rfl, HB0.out⟩
  have b6 : (s.toList == [36, 105, 110]) = false := isN_no h6
  have H7 := Hold.mk (isN_no (l := sIn) h6)
  clear h6
  by_cases h7 : s.toList = [36, 104, 97, 115]
  · have HR0 : Hold (testF s (.mk k n t nm it) = (decide (k = 2) || decide (k = 1))) := ⟨by unfold testF; rw [H6.out, H7.out, isN_yes (l := sHas) h7]; rfl⟩
    clear b0 b1 b2 b3 b4 b5 b6
    by_cases hk : k = 2
    · have HR : Hold (testF s (.mk k n t nm it) = true) := ⟨by rw [HR0.out, hk]; rfl⟩
      subst hk
      go_enter Tryz.func178, Tryz.ntmps178
      go_wp2_with fail
      go_ret
      exact ⟨by rw [HR.out]; rfl, HB0.out⟩
    have bk : (k == 2) = false := by simpa using hk
    by_cases hk1 : k = 1
    · have HR : Hold (testF s (.mk k n t nm it) = true) := ⟨by rw [HR0.out, hk1]; rfl⟩
      subst hk1
      clear hk
      go_enter Tryz.func178, Tryz.ntmps178
      go_wp2_with fail
      go_ret
      exact ⟨by rw [HR.out]; rfl, HB0.out⟩
    · have HR : Hold (testF s (.mk k n t nm it) = false) := ⟨by rw [HR0.out]; simp [hk, hk1]⟩
      have bk1 : (k == 1) = false := by simpa using hk1
      clear hk hk1
      go_enter Tryz.func178, Tryz.ntmps178
      go_wp2_with fail
      go_ret
      exact ⟨by rw [HR.out]; rfl, HB0.out⟩
  have b7 : (s.toList == [36, 104, 97, 115]) = false := isN_no h7
  have HR : Hold (testF s (.mk k n t nm it) = false) := ⟨by unfold testF; rw [H6.out, H7.out, isN_no (l := sHas) h7]; rfl⟩
  clear h7
  go_enter Tryz.func178, Tryz.ntmps178
  go_wp2_with fail
  go_ret
  exact ⟨by rw [HR.out]; rfl, HB0.out⟩

end Go.Proofs.YtcmfanfkcbjeoaaGreatDoor

namespace Go.Proofs.YtcmfanfkcbjeoaaGreatDoor
open Go.RowKit

/-- how many conditions there may be -/
def cntB : Nat → Nat
  | 0 => 0
  | d + 1 => 24 * (2 + 24 * cntB d)
theorem cntB_le : ∀ d, d ≤ 6 → cntB d ≤ 10000000000000000
  | 0, _ => by decide
  | 1, _ => by decide
  | 2, _ => by decide
  | 3, _ => by decide
  | 4, _ => by decide
  | 5, _ => by decide
  | 6, _ => by decide
  | n + 7, h => by omega
theorem sumO_le {B : Nat} : ∀ (l : List (Option Nat)) (n r : Nat), (∀ x ∈ l, ∀ k, x = some k → k ≤ B) → sumO n l = some r → r ≤ n + l.length * B
  | [], n, r, _, h => by rw [sumO] at h; cases h; omega
  | none :: l, n, r, _, h => by rw [sumO] at h; cases h
  | some k :: l, n, r, hb, h => by
    rw [sumO] at h
    have h1 := sumO_le l (n + k) r (fun x hx => hb x (by simp [hx])) h
    have h2 := hb (some k) (by simp) k rfl
    rw [List.length_cons, Nat.add_mul, Nat.one_mul]
    omega
theorem sumO_ge : ∀ (l : List (Option Nat)) (n r : Nat), sumO n l = some r → n ≤ r
  | [], n, r, h => by rw [sumO] at h; cases h; omega
  | none :: l, n, r, h => by rw [sumO] at h; cases h
  | some k :: l, n, r, h => by rw [sumO] at h; have := sumO_ge l (n + k) r h; omega

theorem formed_lens {d : Nat} {v : JV} (hf : formedF d v = true) : v.items.length ≤ 24 ∧ v.names.length ≤ v.items.length := by
  cases d with
  | zero => simp [formedF] at hf
  | succ d =>
    obtain ⟨k, n, t, nm, it⟩ := v
    by_cases h5 : k < 5
    · rw [formedF, if_pos h5, Bool.and_eq_true] at hf
      have := of_decide_eq_true hf.2
      exact ⟨by show it.length ≤ 24; omega, by show nm.length ≤ it.length; omega⟩
    · have := formed_body hf h5
      refine ⟨this.1, ?_⟩
      show nm.length ≤ it.length
      have h2 := this.2.1
      split at h2 <;> omega
theorem formed_kids {d : Nat} {v : JV} (hf : formedF (d + 1) v = true) {x : JV} (hx : x ∈ v.items) : formedF d x = true := by
  obtain ⟨k, n, t, nm, it⟩ := v
  exact item_formed hf hx

theorem clause_le {d : Nat} {s : ByteArray} {v : JV} {n : Nat} (hb : ∀ x n, formedF d x = true → countF d x = some n → n ≤ cntB d) (hf : formedF d v = true) (h : clauseF (countF d) s v = some n) : n ≤ 2 + 24 * cntB d := by
  unfold clauseF at h
  split at h
  · split at h
    · have h1 := sumO_le (B := cntB d) _ _ _ (fun x hx k hk => by
        obtain ⟨y, hy, rfl⟩ := List.mem_map.1 hx
        have : formedF d y = true := by
          cases d with
          | zero => simp [formedF] at hf
          | succ d => exact formed_mono d y (formed_kids hf hy)
        exact hb y k this hk) h
      rw [List.length_map] at h1
      have h2 := (formed_lens hf).1
      have h3 : v.items.length * cntB d ≤ 24 * cntB d := Nat.mul_le_mul_right _ h2
      omega
    · cases h
  · split at h
    · rw [Option.map_eq_some_iff] at h
      obtain ⟨a, ha, rfl⟩ := h
      have := hb v a hf ha
      omega
    · split at h
      · cases h
      · split at h
        · cases h
        · split at h
          · cases h
          · cases h; omega
theorem count_le : ∀ (d : Nat) (f : JV) (n : Nat), formedF d f = true → countF d f = some n → n ≤ cntB d
  | 0, f, n, h, _ => by simp [formedF] at h
  | d + 1, f, n, hf, h => by
    rw [countF] at h
    split at h
    · have h1 := sumO_le (B := 2 + 24 * cntB d) _ _ _ (fun x hx k hk => by
        obtain ⟨y, hy, rfl⟩ := List.mem_map.1 hx
        exact clause_le (fun z m hz hm => count_le d z m hz hm) (formed_kids hf (List.of_mem_zip hy).2) hk) h
      rw [List.length_map, List.length_zip] at h1
      have h2 := (formed_lens hf).1
      have h3 : min f.names.length f.items.length * (2 + 24 * cntB d) ≤ 24 * (2 + 24 * cntB d) := Nat.mul_le_mul_right _ (by omega)
      rw [cntB]
      omega
    · cases h

/-- a count as the program tells it -/
def cntI : Option Nat → Int
  | none => -1
  | some n => n
theorem cntI_neg : cntI none = -1 := rfl

/-- what clauses is known to answer, going down d -/
def ClausesAt (d : Nat) : Prop := ∀ (f : JV) (x : Value) (w : World), formedF d f = true → JAt (cf w) f x → Tabs w →
  Calls Tryz.prog 91 #[x] w fun e w' => e = .returned (.int .i64 (cntI (countF d f))) ∧ Below w.heap.size w w'
def ClauseAt (d : Nat) : Prop := ∀ (s : ByteArray) (v : JV) (x : Value) (w : World), s.size ≤ 1000000 → formedF d v = true → JAt (cf w) v x → Tabs w →
  Calls Tryz.prog 128 #[.string s, x] w fun e w' => e = .returned (.int .i64 (cntI (clauseF (countF d) s v))) ∧ Below w.heap.size w w'

/-! where a sum stands -/
theorem sum_drop {α : Type} {l : List α} {f : α → Option Nat} {j : Nat} {x : α} (hx : l[j]? = some x) : (l.drop j).map f = f x :: (l.drop (j + 1)).map f := by
  obtain ⟨h1, e1⟩ := List.getElem?_eq_some_iff.1 hx
  rw [List.drop_eq_getElem_cons h1, List.map_cons, e1]
theorem zip_at {nm : List ByteArray} {it : List JV} {j : Nat} {s : ByteArray} {x : JV} (hs : nm[j]? = some s) (hx : it[j]? = some x) : (nm.zip it)[j]? = some (s, x) := by
  rw [List.getElem?_zip_eq_some]; exact ⟨hs, hx⟩

set_option maxRecDepth 100000 in
set_option maxHeartbeats 8000000 in
theorem clauses_step (d : Nat) (hd : d < 6) (H : ClauseAt d) : ClausesAt (d + 1) := by
  intro f x w hf hx hT
  have HL := Hold.mk (formed_lens hf)
  have HFK := Hold.mk (fun y (hy : y ∈ f.items) => formed_kids hf hy)
  have HNL := Hold.mk (fun (h6 : f.kind = 6) => (by obtain ⟨k, n, t, nm, it⟩ := f; exact names_len hf h6 : f.names.length = f.items.length))
  have HNS : Hold (∀ s ∈ f.names, s.size ≤ 1000000) := ⟨fun s hs => by
    obtain ⟨k, n, t, nm, it⟩ := f
    by_cases h5 : k < 5
    · rw [formedF, if_pos h5, Bool.and_eq_true] at hf
      rw [List.length_eq_zero_iff.1 (of_decide_eq_true hf.2).2] at hs; cases hs
    · exact Nat.le_trans (text_size ((formed_body hf h5).2.2.1 s hs)) (by decide)⟩
  have HBD := Hold.mk (fun (s : ByteArray) (y : JV) (m : Nat) (hy : formedF d y = true) (h : clauseF (countF d) s y = some m) => clause_le (fun z m hz hm => count_le d z m hz hm) hy h)
  have HCB := Hold.mk (cntB_le d (by omega))
  obtain ⟨k, n, t, nm, it, na, ncap, ia, icap, rfl, rfl, _, _, _, hst, hit⟩ := hx.open
  have HT := Hold.mk hT
  have HH := Hold.mk H
  clear hx hT H hf
  by_cases h6 : k = 6
  · subst h6
    obtain ⟨na', ncap', e, hnlen, hns⟩ := hst
    cases e
    obtain ⟨ia', icap', e, hilen, his⟩ := hit
    cases e
    have HN := Hold.mk hns
    have HI := Hold.mk his
    have HLE : Hold (nm.length = it.length) := ⟨HNL.out rfl⟩
    have HC0 : Hold (countF (d + 1) (.mk 6 n t nm it) = sumO 0 ((nm.zip it).map fun p => clauseF (countF d) p.1 p.2)) := ⟨by rw [countF, if_pos (show (JV.mk 6 n t nm it).kind = 6 from rfl)]; rfl⟩
    clear hns his HNL
    go_enter Tryz.func91, Tryz.ntmps91
    go_wp2_with fail
    go_loopw [3, 13] (fun a i wr => ∃ j m : Nat, i = .int .i64 j ∧ a = .int .i64 m ∧ j ≤ nm.length ∧ m ≤ j * (2 + 24 * cntB d) ∧ countF (d + 1) (.mk 6 n t nm it) = sumO m (((nm.zip it).drop j).map fun p => clauseF (countF d) p.1 p.2) ∧ Boxed w wr _) (fun _ i _ => nm.length - (intOf i).toNat)
    case atStart => exact ⟨0, 0, rfl, rfl, Nat.zero_le _, by simp, HC0.out, Boxed.refl _ _⟩
    case round =>
      obtain ⟨j, m, rfl, rfl, hj, hm, hst, hbx⟩ := hrel
      have HM := Hold.mk hm
      have HST := Hold.mk hst
      have HB := Hold.mk hbx
      have y4 := hbx.c4
      clear hm hst hbx
      by_cases hlt : j < nm.length
      · have hlt2 : j < it.length := by rw [← HLE.out]; exact hlt
        obtain ⟨s, hs⟩ : ∃ s, nm[j]? = some s := ⟨nm[j], List.getElem?_eq_getElem hlt⟩
        obtain ⟨x, hx⟩ : ∃ x, it[j]? = some x := ⟨it[j], List.getElem?_eq_getElem hlt2⟩
        obtain ⟨_, sb, so, rfl, hsc⟩ := HN.out j s hs
        obtain ⟨b, off, k2, n2, t2, nm2, it2, na2, ncap2, ia2, icap2, rfl, hxe, x0, x1, x2, x3, x4, hxj⟩ := HI.out j x hx
        have hcl := cle_below HB.out.below
        have z0 := hcl _ _ _ x0
        have z1 := hcl _ _ _ x1
        have z2 := hcl _ _ _ x2
        have z3 := hcl _ _ _ x3
        have z4 := hcl _ _ _ x4
        have z5 := hcl _ _ _ hsc
        unfold cf at z0 z1 z2 z3 z4 z5
        have hfx := HFK.out x (List.mem_of_getElem? hx)
        have HX := Hold.mk (HH.out s x _ wr (HNS.out s (List.mem_of_getElem? hs)) hfx (hxj.mono hcl) (HT.out.below HB.out.below))
        have HD := Hold.mk (HST.out.trans (congrArg (sumO m) (sum_drop (f := fun p : ByteArray × JV => clauseF (countF d) p.1 p.2) (zip_at hs hx))))
        have HCL := Hold.mk (fun q h => HBD.out s x q hfx h)
        clear x0 x1 x2 x3 x4 hcl hx hxe hxj hsc hs hfx
        cases hc : clauseF (countF d) s x with
        | none =>
          rw [hc] at HX
          have HR : Hold (countF (d + 1) (.mk 6 n t nm it) = none) := ⟨by rw [HD.out]; show sumO m (clauseF (countF d) s x :: _) = none; rw [hc, sumO]⟩
          clear hc
          rw [cntI_neg] at HX
          go_wp2_with fail
          refine HX.out.mono ?_
          rintro e w3 ⟨rfl, hb3⟩
          replace HB := Hold.mk (HB.out.next hb3)
          clear hb3 HX z0 z1 z2 z3 z4 z5 y4
          go_wp2_with fail
          go_ret
          exact ⟨by rw [HR.out]; rfl, HB.out.below⟩
        | some q =>
          rw [hc] at HX
          have hq := HCL.out q hc
          have HR : Hold (countF (d + 1) (.mk 6 n t nm it) = sumO (m + q) (((nm.zip it).drop (j + 1)).map fun p => clauseF (countF d) p.1 p.2)) := ⟨by rw [HD.out]; show sumO m (clauseF (countF d) s x :: _) = _; rw [hc, sumO]⟩
          have hm2 : m + q ≤ (j + 1) * (2 + 24 * cntB d) := by rw [Nat.add_mul, Nat.one_mul]; have := HM.out; omega
          have hbig : (j + 1) * (2 + 24 * cntB d) ≤ 24 * (2 + 24 * 10000000000000000) := Nat.mul_le_mul (by have := HL.out.1; have h2 : it.length ≤ 24 := this; omega) (by have := HCB.out; omega)
          have hmq : m + q ≤ 9000000000000000000 := Nat.le_trans (Nat.le_trans hm2 hbig) (by decide)
          have HM2 := Hold.mk hm2
          clear hc hq hm2 hbig
          change Hold (Calls _ _ _ _ fun e w' => e = .returned (.int .i64 (q : Int)) ∧ _) at HX
          go_wp2_with fail
          refine HX.out.mono ?_
          rintro e w3 ⟨rfl, hb3⟩
          replace HB := Hold.mk (HB.out.next hb3)
          clear hb3 HX z0 z1 z2 z3 z4 z5 y4
          go_wp2_with fail
          exact ⟨⟨j + 1, m + q, by go_num, by go_num, hlt, HM2.out, HR.out, HB.out⟩, by simp [intOf]; omega⟩
      · have HR : Hold (countF (d + 1) (.mk 6 n t nm it) = some m) := ⟨by rw [HST.out, List.drop_eq_nil_of_le (by rw [List.length_zip]; omega)]; rfl⟩
        go_wp2_with fail
        go_ret
        exact ⟨by rw [HR.out]; rfl, HB.out.below⟩
  · have HR : Hold (countF (d + 1) (.mk k n t nm it) = none) := ⟨by rw [countF, if_neg (show ¬ (JV.mk k n t nm it).kind = 6 from h6)]⟩
    have b6 : (k != 6) = true := by simpa using h6
    clear h6 hst hit
    go_enter Tryz.func91, Tryz.ntmps91
    go_wp2_with fail
    go_ret
    exact ⟨by rw [HR.out]; rfl, (Below.refl _ _).alloc (Nat.le_refl _) _⟩

end Go.Proofs.YtcmfanfkcbjeoaaGreatDoor

namespace Go.Proofs.YtcmfanfkcbjeoaaGreatDoor
open Go.RowKit

section
variable {cnt : JV → Option Nat} {s : ByteArray} {v : JV}
theorem cl_list (h : isN s sAnd = true ∨ isN s sOr = true) (h5 : v.kind = 5) (h0 : v.items.length ≠ 0) : clauseF cnt s v = sumO 1 (v.items.map cnt) := by
  unfold clauseF; rw [if_pos (by simpa using h), if_pos ⟨h5, h0⟩]
theorem cl_nolist (h : isN s sAnd = true ∨ isN s sOr = true) (h5 : ¬ (v.kind = 5 ∧ v.items.length ≠ 0)) : clauseF cnt s v = none := by
  unfold clauseF; rw [if_pos (by simpa using h), if_neg h5]
theorem cl_not (h1 : isN s sAnd = false) (h2 : isN s sOr = false) (h3 : isN s sNot = true) : clauseF cnt s v = (cnt v).map (· + 1) := by
  unfold clauseF; rw [if_neg (by simp [h1, h2]), if_pos h3]
theorem cl_sign (h1 : isN s sAnd = false) (h2 : isN s sOr = false) (h3 : isN s sNot = false) (h4 : signF s = true) : clauseF cnt s v = none := by
  unfold clauseF; rw [if_neg (by simp [h1, h2]), if_neg (by simp [h3]), if_pos h4]
theorem cl_steps (h1 : isN s sAnd = false) (h2 : isN s sOr = false) (h3 : isN s sNot = false) (h4 : signF s = false) (h5 : stepsF s = none) : clauseF cnt s v = none := by
  unfold clauseF; rw [if_neg (by simp [h1, h2]), if_neg (by simp [h3]), if_neg (by simp [h4]), if_pos (by simp [h5])]
theorem cl_path (h1 : isN s sAnd = false) (h2 : isN s sOr = false) (h3 : isN s sNot = false) (h4 : signF s = false) {l : List ByteArray} (h5 : stepsF s = some l) : clauseF cnt s v = if testsF v && !((v.names.zip v.items).all fun p => testF p.1 p.2) then none else some 1 := by
  unfold clauseF; rw [if_neg (by simp [h1, h2]), if_neg (by simp [h3]), if_neg (by simp [h4]), if_neg (by simp [h5])]
end

set_option maxRecDepth 100000 in
set_option maxHeartbeats 8000000 in
theorem clause_list (d : Nat) (hd : d ≤ 6) (H : ClausesAt d) (s : ByteArray) (hs : s.toList = sAnd ∨ s.toList = sOr) (k n : Int) (t : ByteArray) (nm : List ByteArray) (it : List JV) (nv : Value) (ia : Option Addr) (icap : Nat) (w : World)
    (hf : formedF d (.mk k n t nm it) = true) (hit : ItemsAt (cf w) (.slice ia it.length icap) it) (hT : Tabs w) :
    Calls Tryz.prog 128 #[.string s, .agg #[.int .i64 k, .int .i64 n, .string t, nv, .slice ia it.length icap]] w fun e w' => e = .returned (.int .i64 (cntI (clauseF (countF d) s (.mk k n t nm it)))) ∧ Below w.heap.size w w' := by
  have hnm : isN s sAnd = true ∨ isN s sOr = true := by
    rcases hs with h | h
    · exact .inl (isN_yes h)
    · exact .inr (isN_yes h)
  have hb12 : (s.toList = [36, 97, 110, 100]) ∨ ((s.toList == [36, 97, 110, 100]) = false ∧ s.toList = [36, 111, 114]) := by
    rcases hs with h | h
    · exact .inl h
    · exact .inr ⟨by rw [h]; rfl, h⟩
  have HFK : Hold (∀ y ∈ it, formedF d y = true) := ⟨fun y hy => by
    cases d with
    | zero => simp [formedF] at hf
    | succ d => exact formed_mono d y (item_formed hf hy)⟩
  have HL := Hold.mk (formed_lens hf).1
  have HCB := Hold.mk (cntB_le d hd)
  have HT := Hold.mk hT
  have HH := Hold.mk H
  have HBD := Hold.mk (fun (y : JV) (m : Nat) (hy : formedF d y = true) (h : countF d y = some m) => count_le d y m hy h)
  obtain ⟨ia', icap', e, hilen, his⟩ := hit
  cases e
  have HI := Hold.mk his
  clear hT H hf his hs
  by_cases h5 : k = 5
  · by_cases h0 : it.length = 0
    · have HR := Hold.mk (cl_nolist (cnt := countF d) (v := .mk k n t nm it) hnm (fun h => h.2 h0))
      have b0 : ((it.length : Int) == 0) = true := by rw [h0]; rfl
      subst h5
      clear h0 hnm
      rcases hb12 with h | ⟨h1, h2⟩
      all_goals
        go_enter Tryz.func128, Tryz.ntmps128
        go_wp2_with fail
        go_ret
        exact ⟨by rw [HR.out]; rfl, (Below.refl _ _).alloc (Nat.le_refl _) _⟩
    · have HC0 := Hold.mk (cl_list (cnt := countF d) (v := .mk k n t nm it) hnm h5 h0)
      have b0 : ((it.length : Int) == 0) = false := by rw [beq_eq_false_iff_ne]; omega
      subst h5
      clear h0 hnm
      rcases hb12 with h | ⟨h1, h2⟩
      all_goals
        go_enter Tryz.func128, Tryz.ntmps128
        go_wp2_with fail
        go_loopw [5, 33] (fun a i wr => ∃ j m : Nat, i = .int .i64 j ∧ a = .int .i64 m ∧ j ≤ it.length ∧ m ≤ 1 + j * cntB d ∧ clauseF (countF d) s (.mk 5 n t nm it) = sumO m ((it.drop j).map (countF d)) ∧ Below w.heap.size w wr) (fun _ i _ => it.length - (intOf i).toNat)
        case atStart => exact ⟨0, 1, rfl, rfl, Nat.zero_le _, by simp, HC0.out, (Below.refl _ _).alloc (Nat.le_refl _) _⟩
        case round =>
          obtain ⟨j, m, rfl, rfl, hj, hm, hst, hbl⟩ := hrel
          have HM := Hold.mk hm
          have HST := Hold.mk hst
          have HB := Hold.mk hbl
          clear hm hst hbl
          by_cases hlt : j < it.length
          · obtain ⟨x, hx⟩ : ∃ x, it[j]? = some x := ⟨it[j], List.getElem?_eq_getElem hlt⟩
            obtain ⟨b, off, k2, n2, t2, nm2, it2, na2, ncap2, ia2, icap2, rfl, hxe, x0, x1, x2, x3, x4, hxj⟩ := HI.out j x hx
            have hcl := cle_below HB.out
            have z0 := hcl _ _ _ x0
            have z1 := hcl _ _ _ x1
            have z2 := hcl _ _ _ x2
            have z3 := hcl _ _ _ x3
            have z4 := hcl _ _ _ x4
            unfold cf at z0 z1 z2 z3 z4
            have hfx := HFK.out x (List.mem_of_getElem? hx)
            have HBA := Hold.mk (HB.out.alloc HB.out.size (.cells #[.int .i64 k2, .int .i64 n2, .string t2, .slice na2 nm2.length ncap2, .slice ia2 it2.length icap2] 25))
            have HX := Hold.mk (HH.out x _ _ hfx (hxj.mono (cle_below HBA.out)) (HT.out.below HBA.out))
            have HD := Hold.mk (HST.out.trans (congrArg (sumO m) (sum_drop (f := countF d) hx)))
            have HCL := Hold.mk (fun q h => HBD.out x q hfx h)
            clear x0 x1 x2 x3 x4 hcl hx hxe hxj hfx
            cases hc : countF d x with
            | none =>
              rw [hc] at HX
              have HR : Hold (clauseF (countF d) s (.mk 5 n t nm it) = none) := ⟨by rw [HD.out, hc, sumO]⟩
              clear hc
              rw [cntI_neg] at HX
              go_wp2_with fail
              refine HX.out.mono ?_
              rintro e w3 ⟨rfl, hb3⟩
              replace HB := Hold.mk (HBA.out.trans (hb3.mono HBA.out.size))
              clear hb3 HX z0 z1 z2 z3 z4 HBA
              go_wp2_with fail
              go_ret
              exact ⟨by rw [HR.out]; rfl, HB.out⟩
            | some q =>
              rw [hc] at HX
              have hq := HCL.out q hc
              have HR : Hold (clauseF (countF d) s (.mk 5 n t nm it) = sumO (m + q) ((it.drop (j + 1)).map (countF d))) := ⟨by rw [HD.out, hc, sumO]⟩
              have hm2 : m + q ≤ 1 + (j + 1) * cntB d := by rw [Nat.add_mul, Nat.one_mul]; have := HM.out; omega
              have hbig : (j + 1) * cntB d ≤ 24 * 10000000000000000 := Nat.mul_le_mul (by have h2 : it.length ≤ 24 := HL.out; omega) HCB.out
              have hmq : m + q ≤ 9000000000000000000 := Nat.le_trans (Nat.le_trans hm2 (Nat.add_le_add_left hbig 1)) (by decide)
              have HM2 := Hold.mk hm2
              clear hc hq hm2 hbig
              change Hold (Calls _ _ _ _ fun e w' => e = .returned (.int .i64 (q : Int)) ∧ _) at HX
              go_wp2_with fail
              refine HX.out.mono ?_
              rintro e w3 ⟨rfl, hb3⟩
              replace HB := Hold.mk (HBA.out.trans (hb3.mono HBA.out.size))
              clear hb3 HX z0 z1 z2 z3 z4 HBA
              go_wp2_with fail
              exact ⟨⟨j + 1, m + q, by go_num, by go_num, hlt, HM2.out, HR.out, HB.out⟩, by simp [intOf]; omega⟩
          · have HR : Hold (clauseF (countF d) s (.mk 5 n t nm it) = some m) := ⟨by rw [HST.out, List.drop_eq_nil_of_le (by omega)]; rfl⟩
            go_wp2_with fail
            go_ret
            exact ⟨by rw [HR.out]; rfl, HB.out⟩
  · have HR := Hold.mk (cl_nolist (cnt := countF d) (v := .mk k n t nm it) hnm (fun h => h5 h.1))
    have b5 : (k != 5) = true := by simpa using h5
    clear h5 hnm
    rcases hb12 with h | ⟨h1, h2⟩
    all_goals
      go_enter Tryz.func128, Tryz.ntmps128
      go_wp2_with fail
      go_ret
      exact ⟨by rw [HR.out]; rfl, (Below.refl _ _).alloc (Nat.le_refl _) _⟩

end Go.Proofs.YtcmfanfkcbjeoaaGreatDoor

namespace Go.Proofs.YtcmfanfkcbjeoaaGreatDoor
open Go.RowKit

set_option maxRecDepth 100000 in
set_option maxHeartbeats 8000000 in
theorem clause_not (d : Nat) (hd : d ≤ 6) (H : ClausesAt d) (s : ByteArray) (hs : s.toList = sNot) (v : JV) (x : Value) (w : World) (hf : formedF d v = true) (hx : JAt (cf w) v x) (hT : Tabs w) :
    Calls Tryz.prog 128 #[.string s, x] w fun e w' => e = .returned (.int .i64 (cntI (clauseF (countF d) s v))) ∧ Below w.heap.size w w' := by
  have HC0 := Hold.mk (cl_not (cnt := countF d) (v := v) (isN_ne hs (by decide)) (isN_ne hs (by decide)) (isN_yes hs))
  have HCB := Hold.mk (cntB_le d hd)
  have HBD := Hold.mk (fun (m : Nat) (h : countF d v = some m) => count_le d v m hf h)
  obtain ⟨k, n, t, nm, it, na, ncap, ia, icap, hve, rfl, _⟩ := hx.open
  have HB := Hold.mk (Boxed.refl w (.cells #[.int .i64 k, .int .i64 n, .string t, .slice na nm.length ncap, .slice ia it.length icap] 25))
  have HX := Hold.mk (H v _ _ hf (hx.mono (cle_below HB.out.below)) (hT.below HB.out.below))
  have b0 : s.toList = [36, 110, 111, 116] := hs
  clear H hx hT hf hve hs
  cases hc : countF d v with
  | none =>
    rw [hc] at HX
    have HR : Hold (clauseF (countF d) s v = none) := ⟨by rw [HC0.out, hc]; rfl⟩
    clear hc
    rw [cntI_neg] at HX
    go_enter Tryz.func128, Tryz.ntmps128
    go_wp2_with fail
    refine HX.out.mono ?_
    rintro e w3 ⟨rfl, hb3⟩
    replace HB := Hold.mk (HB.out.next hb3)
    clear hb3 HX
    go_wp2_with fail
    go_ret
    exact ⟨by rw [HR.out]; rfl, HB.out.below⟩
  | some q =>
    rw [hc] at HX
    have HR : Hold (clauseF (countF d) s v = some (q + 1)) := ⟨by rw [HC0.out, hc]; rfl⟩
    have hq : q ≤ 10000000000000000 := Nat.le_trans (HBD.out q hc) HCB.out
    clear hc
    change Hold (Calls _ _ _ _ fun e w' => e = .returned (.int .i64 (q : Int)) ∧ _) at HX
    go_enter Tryz.func128, Tryz.ntmps128
    go_wp2_with fail
    refine HX.out.mono ?_
    rintro e w3 ⟨rfl, hb3⟩
    replace HB := Hold.mk (HB.out.next hb3)
    clear hb3 HX
    go_wp2_with fail
    go_ret
    exact ⟨by rw [HR.out]; rfl, HB.out.below⟩

/-- all tests before j are formed -/
def TestsTo (nm : List ByteArray) (it : List JV) (j : Nat) : Prop := ∀ (q : Nat) p, q < j → (nm.zip it)[q]? = some p → testF p.1 p.2 = true
theorem TestsTo.next {nm : List ByteArray} {it : List JV} {j : Nat} {s : ByteArray} {x : JV} (h : TestsTo nm it j) (hp : (nm.zip it)[j]? = some (s, x)) (ht : testF s x = true) : TestsTo nm it (j + 1) := fun q p hq hpq => by
  by_cases e : q = j
  · subst e; rw [hp] at hpq; cases hpq; exact ht
  · exact h q p (by omega) hpq

set_option maxRecDepth 100000 in
set_option maxHeartbeats 8000000 in
theorem clause_path (d : Nat) (s : ByteArray) (hsz : s.size ≤ 1000000) (h1 : ¬ s.toList = sAnd) (h2 : ¬ s.toList = sOr) (h3 : ¬ s.toList = sNot) (v : JV) (x : Value) (w : World) (hf : formedF d v = true) (hx : JAt (cf w) v x) (hT : Tabs w) :
    Calls Tryz.prog 128 #[.string s, x] w fun e w' => e = .returned (.int .i64 (cntI (clauseF (countF d) s v))) ∧ Below w.heap.size w w' := by
  have i1 := isN_no h1
  have i2 := isN_no h2
  have i3 := isN_no h3
  have b1 : (s.toList == [36, 97, 110, 100]) = false := i1
  have b2 : (s.toList == [36, 111, 114]) = false := i2
  have b3 : (s.toList == [36, 110, 111, 116]) = false := i3
  have HI1 := Hold.mk i1
  have HI2 := Hold.mk i2
  have HI3 := Hold.mk i3
  have HF := Hold.mk hf
  obtain ⟨k, n, t, nm, it, na, ncap, ia, icap, rfl, rfl, _, _, _, hst, hit⟩ := hx.open
  have HJ := Hold.mk hx
  have HT := Hold.mk hT
  have HLEN := Hold.mk (formed_lens hf).2
  have HB := Hold.mk (Boxed.refl w (.cells #[.int .i64 k, .int .i64 n, .string t, .slice na nm.length ncap, .slice ia it.length icap] 25))
  have HP := Hold.mk (fun w => hasDollar_any s w (by omega))
  have HST := Hold.mk hst
  have HIT := Hold.mk hit
  clear hx hT hf i1 i2 i3 h1 h2 h3 hst hit
  cases hsg : signF s with
  | true =>
    rw [hsg] at HP
    have HR := Hold.mk (cl_sign (cnt := countF d) (v := .mk k n t nm it) HI1.out HI2.out HI3.out hsg)
    clear hsg
    go_enter Tryz.func128, Tryz.ntmps128
    go_wp2_with fail
    refine (HP.out _).mono ?_
    rintro e w1 ⟨rfl, hw1⟩
    subst hw1
    go_wp2_with fail
    go_ret
    exact ⟨by rw [HR.out]; rfl, HB.out.below⟩
  | false =>
    rw [hsg] at HP
    have HSG := Hold.mk hsg
    clear hsg
    go_enter Tryz.func128, Tryz.ntmps128
    go_wp2_with fail
    refine (HP.out _).mono ?_
    rintro e w1 ⟨rfl, hw1⟩
    subst hw1
    go_wp2_with fail
    refine (Steps_any s _ hsz (HT.out.below HB.out.below)).mono ?_
    rintro e w2 ⟨hsp, hb2⟩
    replace HB := Hold.mk (HB.out.next hb2)
    clear hb2 HP
    cases hl : stepsF s with
    | none =>
      rw [hl] at hsp
      simp only at hsp
      subst hsp
      have HR := Hold.mk (cl_steps (cnt := countF d) (v := .mk k n t nm it) HI1.out HI2.out HI3.out HSG.out hl)
      clear hl
      go_wp2_with fail
      go_ret
      exact ⟨by rw [HR.out]; rfl, HB.out.below⟩
    | some l =>
      rw [hl] at hsp
      simp only at hsp
      obtain ⟨sv, rfl, hsv⟩ := hsp
      have HC0 := Hold.mk (cl_path (cnt := countF d) (v := .mk k n t nm it) HI1.out HI2.out HI3.out HSG.out hl)
      clear hl hsv
      have y0 := HB.out.c0
      have y1 := HB.out.c1
      have y2 := HB.out.c2
      have y3 := HB.out.c3
      have y4 := HB.out.c4
      have HX := Hold.mk (tests_any (.mk k n t nm it) _ w2 (HJ.out.mono (cle_below HB.out.below)) ⟨d, HF.out⟩)
      cases htt : testsF (.mk k n t nm it) with
      | false =>
        rw [htt] at HX HC0
        have HR : Hold (clauseF (countF d) s (.mk k n t nm it) = some 1) := ⟨by rw [HC0.out]; rfl⟩
        clear htt
        go_wp2_with fail
        refine HX.out.mono ?_
        rintro e w3 ⟨rfl, hb3⟩
        replace HB := Hold.mk (HB.out.next hb3)
        clear hb3 HX y0 y1 y2 y3 y4
        go_wp2_with fail
        go_ret
        exact ⟨by rw [HR.out]; rfl, HB.out.below⟩
      | true =>
        rw [htt] at HX HC0
        clear htt
        obtain ⟨na', ncap', e, hnlen, hns⟩ := HST.out
        cases e
        obtain ⟨ia', icap', e, hilen, his⟩ := HIT.out
        cases e
        have HN := Hold.mk hns
        have HI := Hold.mk his
        clear hns his HST HIT
        go_wp2_with fail
        refine HX.out.mono ?_
        rintro e w3 ⟨rfl, hb3⟩
        replace HB := Hold.mk (HB.out.next hb3)
        clear hb3 HX y0 y1 y2 y3 y4
        have y3 := HB.out.c3
        go_wp2_with fail
        clear y3
        go_loopw [70] (fun i wr => ∃ j : Nat, i = .int .i64 j ∧ j ≤ nm.length ∧ TestsTo nm it j ∧ Boxed w wr _) (fun i _ => nm.length - (intOf i).toNat)
        case atStart => exact ⟨0, rfl, Nat.zero_le _, fun q p h => by omega, HB.out⟩
        case round =>
          obtain ⟨j, rfl, hj, htt, hbx⟩ := hrel
          clear HB
          have HTT := Hold.mk htt
          have HB := Hold.mk hbx
          have y4 := hbx.c4
          clear htt hbx
          by_cases hlt : j < nm.length
          · have hlt2 : j < it.length := by have h2 : nm.length ≤ it.length := HLEN.out; omega
            obtain ⟨u, hu⟩ : ∃ s, nm[j]? = some s := ⟨nm[j], List.getElem?_eq_getElem hlt⟩
            obtain ⟨x, hx⟩ : ∃ x, it[j]? = some x := ⟨it[j], List.getElem?_eq_getElem hlt2⟩
            obtain ⟨_, sb, so, rfl, hsc⟩ := HN.out j u hu
            obtain ⟨b, off, k2, n2, t2, nm2, it2, na2, ncap2, ia2, icap2, rfl, hxe, x0, x1, x2, x3, x4, hxj⟩ := HI.out j x hx
            have hcl := cle_below HB.out.below
            have z0 := hcl _ _ _ x0
            have z1 := hcl _ _ _ x1
            have z2 := hcl _ _ _ x2
            have z3 := hcl _ _ _ x3
            have z4 := hcl _ _ _ x4
            have z5 := hcl _ _ _ hsc
            unfold cf at z0 z1 z2 z3 z4 z5
            have HX := Hold.mk (test_any u x _ wr (hxj.mono hcl))
            have HZ := Hold.mk (zip_at hu hx)
            clear x0 x1 x2 x3 x4 hcl hx hxe hxj hsc hu
            cases htx : testF u x with
            | false =>
              rw [htx] at HX
              have HR : Hold (clauseF (countF d) s (.mk k n t nm it) = none) := ⟨by
                rw [HC0.out]
                have : ((JV.mk k n t nm it).names.zip (JV.mk k n t nm it).items).all (fun p => testF p.1 p.2) = false := all_false (l := nm.zip it) HZ.out htx
                rw [this]; rfl⟩
              clear htx
              go_wp2_with fail
              refine HX.out.mono ?_
              rintro e w4 ⟨rfl, hb4⟩
              replace HB := Hold.mk (HB.out.next hb4)
              clear hb4 HX z0 z1 z2 z3 z4 z5 y4
              go_wp2_with fail
              go_ret
              exact ⟨by rw [HR.out]; rfl, HB.out.below⟩
            | true =>
              rw [htx] at HX
              have HNX := Hold.mk (HTT.out.next HZ.out htx)
              clear htx
              go_wp2_with fail
              refine HX.out.mono ?_
              rintro e w4 ⟨rfl, hb4⟩
              replace HB := Hold.mk (HB.out.next hb4)
              clear hb4 HX z0 z1 z2 z3 z4 z5 y4
              go_wp2_with fail
              exact ⟨⟨j + 1, by go_num, hlt, HNX.out, HB.out⟩, by simp [intOf]; omega⟩
          · have HR : Hold (clauseF (countF d) s (.mk k n t nm it) = some 1) := ⟨by
              rw [HC0.out]
              have : ((JV.mk k n t nm it).names.zip (JV.mk k n t nm it).items).all (fun p => testF p.1 p.2) = true := all_true (l := nm.zip it) (fun q p hq hp => HTT.out q p (by rw [List.length_zip] at hq; omega) hp)
              rw [this]; rfl⟩
            go_wp2_with fail
            go_ret
            exact ⟨by rw [HR.out]; rfl, HB.out.below⟩

theorem clause_any (d : Nat) (hd : d ≤ 6) (H : ClausesAt d) : ClauseAt d := by
  intro s v x w hs hf hx hT
  by_cases h1 : s.toList = sAnd ∨ s.toList = sOr
  · obtain ⟨k, n, t, nm, it, na, ncap, ia, icap, rfl, rfl, _, _, _, _, hit⟩ := hx.open
    exact clause_list d hd H s h1 k n t nm it _ ia icap w hf hit hT
  by_cases h3 : s.toList = sNot
  · exact clause_not d hd H s h3 v x w hf hx hT
  · exact clause_path d s hs (fun h => h1 (.inl h)) (fun h => h1 (.inr h)) h3 v x w hf hx hT
theorem clauses_any : ∀ d, d ≤ 6 → ClausesAt d
  | 0, _ => fun f x w hf => by simp [formedF] at hf
  | d + 1, hd => clauses_step d (by omega) (clause_any d (by omega) (clauses_any d (by omega)))

set_option maxHeartbeats 4000000 in
theorem Check_any (f : JV) (x : Value) (w : World) (hx : JAt (cf w) f x) (hT : Tabs w) :
    Calls Tryz.prog 43 #[x] w fun e w' => e = .returned (.int .i64 (checkF f)) ∧ Below w.heap.size w w' := by
  obtain ⟨k, n, t, nm, it, na, ncap, ia, icap, hve, rfl, _⟩ := hx.open
  have HB := Hold.mk (Boxed.refl w (.cells #[.int .i64 k, .int .i64 n, .string t, .slice na nm.length ncap, .slice ia it.length icap] 25))
  have HX := Hold.mk (Formed_any f _ _ (hx.mono (cle_below HB.out.below)) (hT.below HB.out.below))
  have HJ := Hold.mk hx
  have HT := Hold.mk hT
  clear hx hT hve
  cases hf : formedF 6 f with
  | false =>
    rw [hf] at HX
    have HR : Hold (checkF f = 2) := ⟨by unfold checkF; rw [if_neg (by simp [hf])]⟩
    clear hf
    go_enter Tryz.func43, Tryz.ntmps43
    go_wp2_with fail
    refine HX.out.mono ?_
    rintro e w1 ⟨rfl, hb1⟩
    replace HB := Hold.mk (HB.out.next hb1)
    clear hb1 HX
    go_wp2_with fail
    go_ret
    exact ⟨by rw [HR.out]; rfl, HB.out.below⟩
  | true =>
    rw [hf] at HX
    have HC0 : Hold (checkF f = (match countF 6 f with | none => 2 | some n => if 12 < n then 3 else 0)) := ⟨by unfold checkF; rw [if_pos hf] <;> (cases countF 6 f <;> rfl)⟩
    have HF := Hold.mk hf
    clear hf
    go_enter Tryz.func43, Tryz.ntmps43
    go_wp2_with fail
    refine HX.out.mono ?_
    rintro e w1 ⟨rfl, hb1⟩
    replace HB := Hold.mk (HB.out.next hb1)
    clear hb1 HX
    have y0 := HB.out.c0
    have y1 := HB.out.c1
    have y2 := HB.out.c2
    have y3 := HB.out.c3
    have y4 := HB.out.c4
    have HX := Hold.mk (clauses_any 6 (Nat.le_refl 6) f _ w1 HF.out (HJ.out.mono (cle_below HB.out.below)) (HT.out.below HB.out.below))
    cases hc : countF 6 f with
    | none =>
      rw [hc] at HX HC0
      have HR : Hold (checkF f = 2) := ⟨HC0.out⟩
      clear hc
      rw [cntI_neg] at HX
      go_wp2_with fail
      refine HX.out.mono ?_
      rintro e w2 ⟨rfl, hb2⟩
      replace HB := Hold.mk (HB.out.next hb2)
      clear hb2 HX y0 y1 y2 y3 y4
      go_wp2_with fail
      go_ret
      exact ⟨by rw [HR.out]; rfl, HB.out.below⟩
    | some q =>
      rw [hc] at HX HC0
      have HQ := Hold.mk (count_le 6 f q HF.out hc)
      clear hc
      change Hold (Calls _ _ _ _ fun e w' => e = .returned (.int .i64 (q : Int)) ∧ _) at HX
      go_wp2_with fail
      refine HX.out.mono ?_
      rintro e w2 ⟨rfl, hb2⟩
      replace HB := Hold.mk (HB.out.next hb2)
      clear hb2 HX y0 y1 y2 y3 y4
      by_cases h12 : 12 < q
      · have HR : Hold (checkF f = 3) := ⟨by rw [HC0.out]; simp [h12]⟩
        go_wp2_with fail
        go_ret
        exact ⟨by rw [HR.out]; rfl, HB.out.below⟩
      · have HR : Hold (checkF f = 0) := ⟨by rw [HC0.out]; simp; omega⟩
        go_wp2_with fail
        go_ret
        exact ⟨by rw [HR.out]; rfl, HB.out.below⟩

end Go.Proofs.YtcmfanfkcbjeoaaGreatDoor
