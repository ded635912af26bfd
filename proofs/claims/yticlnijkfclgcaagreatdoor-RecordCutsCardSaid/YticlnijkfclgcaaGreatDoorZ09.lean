/- Same of the program. Same of the program, whole; Same of the reference. Same of the reference. -/
import Derived.Test.YticlnijkfclgcaaGreatDoorZ02
import Derived.Test.YticlnijkfclgcaaGreatDoorZ03
import Derived.Test.YticlnijkfclgcaaGreatDoorZ05
import Derived.BigQuiet
import Derived.Deep.QuietTactic
namespace Go.Proofs.YticlnijkfclgcaaGreatDoor
open Go.RowKit

open Classical in
/-- two values are alike -/
noncomputable def sameB (a b : JV) : Bool := decide (a = b)
theorem sameB_true {a b : JV} (h : a = b) : sameB a b = true := by simp [sameB, h]
theorem sameB_false {a b : JV} (h : a ≠ b) : sameB a b = false := by simp [sameB, h]
theorem JV.ext_iff' {k n q m : Int} {t u : ByteArray} {nm nu : List ByteArray} {it ju : List JV} : JV.mk k n t nm it = JV.mk q m u nu ju ↔ k = q ∧ n = m ∧ t = u ∧ nm = nu ∧ it = ju := by
  constructor
  · intro h; injection h with h1 h2 h3 h4 h5; exact ⟨h1, h2, h3, h4, h5⟩
  · rintro ⟨rfl, rfl, rfl, rfl, rfl⟩; rfl
/-- all before j are alike -/
def EqTo {α : Type} (a b : List α) (j : Nat) : Prop := ∀ q, q < j → a[q]? = b[q]?
theorem EqTo.all {α : Type} {a b : List α} (hl : a.length = b.length) (h : EqTo a b a.length) : a = b := by
  apply List.ext_getElem?
  intro i
  by_cases hi : i < a.length
  · exact h i hi
  · rw [List.getElem?_eq_none (by omega), List.getElem?_eq_none (by omega)]
theorem EqTo.next {α : Type} {a b : List α} {j : Nat} (h : EqTo a b j) (hj : a[j]? = b[j]?) : EqTo a b (j + 1) := fun q hq => by
  by_cases e : q = j
  · rw [e]; exact hj
  · exact h q (by omega)
set_option maxHeartbeats 4000000 in
theorem strsEq_any (nv mv : Value) (nm nu : List ByteArray) (w : World) (h1 : StrsAt (cf w) nv nm) (h2 : StrsAt (cf w) mv nu) :
    Calls Tryz.prog 44 #[nv, mv] w fun e w' => e = .returned (.bool (decide (nm = nu))) ∧ Below w.heap.size w w' := by
  obtain ⟨na, ncap, rfl, hnl, hns⟩ := h1
  obtain ⟨ma, mcap, rfl, hml, hms⟩ := h2
  have HN := Hold.mk hns
  have HM := Hold.mk hms
  clear hns hms
  by_cases hle : nm.length = nu.length
  · have hlb : (((nm.length : Nat) : Int) != ((nu.length : Nat) : Int)) = false := by rw [hle]; simp
    have HLE := Hold.mk hle
    clear hle
    go_enter Tryz.func44, Tryz.ntmps44
    go_wp2_with fail
    go_loopw [13] (fun i wr => ∃ j : Nat, i = .int .i64 j ∧ j ≤ nm.length ∧ EqTo nm nu j ∧ Below w.heap.size w wr) (fun i _ => nm.length - (intOf i).toNat)
    case atStart => exact ⟨0, rfl, Nat.zero_le _, fun q hq => by omega, Below.refl _ _⟩
    case round =>
      obtain ⟨j, rfl, hj, heq, hbl⟩ := hrel
      have HEQ := Hold.mk heq
      have HB := Hold.mk hbl
      clear heq hbl
      by_cases hlt : j < nm.length
      · have hlt2 : j < nu.length := by rw [← HLE.out]; exact hlt
        obtain ⟨s, hs⟩ : ∃ s, nm[j]? = some s := ⟨nm[j], List.getElem?_eq_getElem hlt⟩
        obtain ⟨t, ht⟩ : ∃ t, nu[j]? = some t := ⟨nu[j], List.getElem?_eq_getElem hlt2⟩
        obtain ⟨_, sb, so, rfl, hsc⟩ := HN.out j s hs
        obtain ⟨_, tb, tof, rfl, htc⟩ := HM.out j t ht
        have z0 := cle_below HB.out _ _ _ hsc
        have z1 := cle_below HB.out _ _ _ htc
        unfold cf at z0 z1
        have HS := Hold.mk hs
        have HT := Hold.mk ht
        clear hsc htc hs ht
        by_cases hst : s = t
        · subst hst
          have HNX := Hold.mk (HEQ.out.next (HS.out.trans HT.out.symm))
          go_wp2_with fail
          go_quiet (fail)
          go_wp2_with fail
          exact ⟨⟨j + 1, by go_num, hlt, HNX.out, ⟨HB.out.os, HB.out.tape, HB.out.output, HB.out.size, HB.out.block⟩⟩, by simp [intOf]; omega⟩
        · have hne : (s.toList == t.toList) = false := str_ne hst
          have HNE : Hold (decide (nm = nu) = false) := ⟨decide_eq_false fun e => hst (Option.some.inj (HS.out.symm.trans ((congrArg (·[j]?) e).trans HT.out)))⟩
          go_wp2_with fail
          go_quiet (fail)
          go_wp2_with fail
          go_ret
          exact ⟨by rw [HNE.out]; rfl, ⟨HB.out.os, HB.out.tape, HB.out.output, HB.out.size, HB.out.block⟩⟩
      · have HNE : Hold (decide (nm = nu) = true) := ⟨decide_eq_true (EqTo.all HLE.out (fun q hq => HEQ.out q (by omega)))⟩
        go_wp2_with fail
        go_ret
        exact ⟨by rw [HNE.out]; rfl, HB.out⟩
  · have hlb : (((nm.length : Nat) : Int) != ((nu.length : Nat) : Int)) = true := by rw [bne_iff_ne]; omega
    have HNE : Hold (decide (nm = nu) = false) := ⟨decide_eq_false fun e => hle (by rw [e])⟩
    clear hle
    go_enter Tryz.func44, Tryz.ntmps44
    go_wp2_with fail
    go_ret
    exact ⟨by rw [HNE.out]; rfl, Below.refl _ _⟩
/-- what Same is known to answer of a -/
def SameAt (a : JV) : Prop := ∀ (b : JV) (x y : Value) (w : World), JAt (cf w) a x → JAt (cf w) b y →
  Calls Tryz.prog 29 #[x, y] w fun e w' => e = .returned (.bool (sameB a b)) ∧ Below w.heap.size w w'
open Classical in
noncomputable def itemsB (a b : List JV) : Bool := decide (a = b)
theorem itemsB_iff {a b : List JV} : itemsB a b = true ↔ a = b := by simp [itemsB]
theorem itemsB_true {a b : List JV} (h : a = b) : itemsB a b = true := by simp [itemsB, h]
theorem itemsB_false {a b : List JV} (h : a ≠ b) : itemsB a b = false := by simp [itemsB, h]
set_option maxHeartbeats 4000000 in
theorem itemsEq_any (iv jv : Value) (it ju : List JV) (w : World) (h1 : ItemsAt (cf w) iv it) (h2 : ItemsAt (cf w) jv ju) (H : ∀ x ∈ it, SameAt x) :
    Calls Tryz.prog 49 #[iv, jv, .func (.func 29) #[] #[]] w fun e w' => e = .returned (.bool (itemsB it ju)) ∧ Below w.heap.size w w' := by
  obtain ⟨na, ncap, rfl, hnl, hns⟩ := h1
  obtain ⟨ma, mcap, rfl, hml, hms⟩ := h2
  have HN := Hold.mk hns
  have HM := Hold.mk hms
  have HH := Hold.mk H
  clear hns hms H
  by_cases hle : it.length = ju.length
  · have hlb : (((it.length : Nat) : Int) != ((ju.length : Nat) : Int)) = false := by rw [hle]; simp
    have HLE := Hold.mk hle
    clear hle
    go_enter Tryz.func49, Tryz.ntmps49
    go_wp2_with fail
    go_loopw [17] (fun i wr => ∃ j : Nat, i = .int .i64 j ∧ j ≤ it.length ∧ EqTo it ju j ∧ Below w.heap.size w wr) (fun i _ => it.length - (intOf i).toNat)
    case atStart => exact ⟨0, rfl, Nat.zero_le _, fun q hq => by omega, Below.refl _ _⟩
    case round =>
      obtain ⟨j, rfl, hj, heq, hbl⟩ := hrel
      have HEQ := Hold.mk heq
      have HB := Hold.mk hbl
      clear heq hbl
      by_cases hlt : j < it.length
      · have hlt2 : j < ju.length := by rw [← HLE.out]; exact hlt
        obtain ⟨x, hx⟩ : ∃ s, it[j]? = some s := ⟨it[j], List.getElem?_eq_getElem hlt⟩
        obtain ⟨y, hy⟩ : ∃ t, ju[j]? = some t := ⟨ju[j], List.getElem?_eq_getElem hlt2⟩
        obtain ⟨b, off, k2, n2, t2, nm2, it2, na2, ncap2, ia2, icap2, rfl, _, x0, x1, x2, x3, x4, hxj⟩ := HN.out j x hx
        obtain ⟨b3, off3, k3, n3, t3, nm3, it3, na3, ncap3, ia3, icap3, rfl, _, v0, v1, v2, v3, v4, hyj⟩ := HM.out j y hy
        have hcl := cle_below HB.out
        have z0 := hcl _ _ _ x0
        have z1 := hcl _ _ _ x1
        have z2 := hcl _ _ _ x2
        have z3 := hcl _ _ _ x3
        have z4 := hcl _ _ _ x4
        have u0 := hcl _ _ _ v0
        have u1 := hcl _ _ _ v1
        have u2 := hcl _ _ _ v2
        have u3 := hcl _ _ _ v3
        have u4 := hcl _ _ _ v4
        unfold cf at z0 z1 z2 z3 z4 u0 u1 u2 u3 u4
        have hb3 := lt_of_cell u0
        have HX := Hold.mk (hxj.mono hcl)
        have HY := Hold.mk (hyj.mono hcl)
        have HS := Hold.mk hx
        have HT := Hold.mk hy
        have HSA := Hold.mk (HH.out x (List.mem_of_getElem? hx))
        clear x0 x1 x2 x3 x4 v0 v1 v2 v3 v4 hcl hxj hyj hx hy
        go_wp2_with fail
        refine (HSA.out y _ _ _ (HX.out.mono ((cle_alloc _ _).trans (cle_alloc _ _))) (HY.out.mono ((cle_alloc _ _).trans (cle_alloc _ _)))).mono ?_
        rintro e w2 ⟨rfl, hb2⟩
        have HB2 := Hold.mk (((HB.out.alloc HB.out.size _).alloc (by have := HB.out.size; simp; omega) _).trans (hb2.mono (by have := HB.out.size; simp; omega)))
        clear hb2 z0 z1 z2 z3 z4 u0 u1 u2 u3 u4
        by_cases hst : x = y
        · subst hst
          have HNX := Hold.mk (HEQ.out.next (HS.out.trans HT.out.symm))
          rw [sameB_true rfl]
          go_wp2_with fail
          exact ⟨⟨j + 1, by go_num, hlt, HNX.out, HB2.out⟩, by simp [intOf]; omega⟩
        · have HNE : Hold (itemsB it ju = false) := ⟨itemsB_false fun e => hst (Option.some.inj (HS.out.symm.trans ((congrArg (·[j]?) e).trans HT.out)))⟩
          rw [sameB_false hst]
          go_wp2_with fail
          go_ret
          exact ⟨by rw [HNE.out]; rfl, HB2.out⟩
      · have HNE : Hold (itemsB it ju = true) := ⟨itemsB_true (EqTo.all HLE.out (fun q hq => HEQ.out q (by omega)))⟩
        go_wp2_with fail
        go_ret
        exact ⟨by rw [HNE.out]; rfl, HB.out⟩
  · have hlb : (((it.length : Nat) : Int) != ((ju.length : Nat) : Int)) = true := by rw [bne_iff_ne]; omega
    have HNE : Hold (itemsB it ju = false) := ⟨itemsB_false fun e => hle (by rw [e])⟩
    clear hle
    go_enter Tryz.func49, Tryz.ntmps49
    go_wp2_with fail
    go_ret
    exact ⟨by rw [HNE.out]; rfl, Below.refl _ _⟩
end Go.Proofs.YticlnijkfclgcaaGreatDoor

namespace Go.Proofs.YticlnijkfclgcaaGreatDoor
open Go.RowKit

theorem cells_five {w : World} {k : Nat} {c0 c1 c2 c3 c4 : Value} {t : TypeId} {fr : Nat × Nat} (h : w.heap[k]? = some (.cells #[c0, c1, c2, c3, c4] t fr)) :
    w.cell? ⟨k, 0, none⟩ = some c0 ∧ w.cell? ⟨k, 1, none⟩ = some c1 ∧ w.cell? ⟨k, 2, none⟩ = some c2 ∧ w.cell? ⟨k, 3, none⟩ = some c3 ∧ w.cell? ⟨k, 4, none⟩ = some c4 := by
  simp [World.cell?, h]
/-- two boxes of values -/
structure Two (w wr : World) (a b : Array Value) : Prop where
  bel : Below w.heap.size w wr
  one : wr.heap[w.heap.size]? = some (.cells a 58 (0, 0))
  two : wr.heap[w.heap.size + 1]? = some (.cells b 58 (0, 0))
theorem Two.refl (w : World) (a b : Array Value) : Two w ((w.alloc (.cells a 58)).alloc (.cells b 58)) a b := by
  refine ⟨((Below.refl _ w).alloc (Nat.le_refl _) _).alloc (by simp) _, ?_, ?_⟩
  · rw [Below.heap_alloc _ _ _ (by simp)]; exact heap_alloc_new w _
  · have := heap_alloc_new (w.alloc (.cells a 58)) (.cells b 58)
    simpa using this
theorem Two.next {w wr w' : World} {a b : Array Value} (h : Two w wr a b) (hb : Below wr.heap.size wr w') : Two w w' a b :=
  ⟨h.bel.trans (hb.mono h.bel.size), kept h.one hb, kept h.two hb⟩
theorem Two.drewN {w wr : World} {a b : Array Value} (h : Two w wr a b) (n : Nat) : Two w (wr.drewN n) a b := h.next ⟨rfl, rfl, rfl, Nat.le_refl _, fun _ _ => rfl⟩
set_option maxHeartbeats 4000000 in
theorem Same_any : ∀ a, SameAt a := by
  intro a
  induction a using JV.ind with
  | h k n t nm it ih =>
    intro v x y w hx hy
    obtain ⟨k', n', t', nm', it', na, ncap, ia, icap, e, rfl, hk, hn, ht, hst, hit⟩ := hx.open
    cases e
    obtain ⟨q, m, u, nu, ju, ma, mcap, ja, jcap, rfl, rfl, hq, hm, hu, hsu, hju⟩ := hy.open
    have H2 := Hold.mk (Two.refl w #[.int .i64 k, .int .i64 n, .string t, .slice na nm.length ncap, .slice ia it.length icap] #[.int .i64 q, .int .i64 m, .string u, .slice ma nu.length mcap, .slice ja ju.length jcap])
    have HE := Hold.mk (fun w' (hb : Below w.heap.size w w') => strsEq_any _ _ nm nu w' (hst.mono (cle_below hb)) (hsu.mono (cle_below hb)))
    have HI := Hold.mk (fun w' (hb : Below w.heap.size w w') => itemsEq_any _ _ it ju w' (hit.mono (cle_below hb)) (hju.mono (cle_below hb)) ih)
    have fin : ∀ r : Bool, (r = true ↔ k = q ∧ n = m ∧ t = u ∧ nm = nu ∧ it = ju) → sameB (.mk k n t nm it) (.mk q m u nu ju) = r := by
      intro r hr
      cases r with
      | false => exact sameB_false fun e => by rw [JV.ext_iff'] at e; exact absurd (hr.2 e) (by simp)
      | true => exact sameB_true (JV.ext_iff'.2 (hr.1 rfl))
    have FIN := Hold.mk fin
    clear hx hy hst hit hsu hju ih hk hn hq hm ht hu fin
    by_cases ek : k = q
    · subst ek
      by_cases en : n = m
      · subst en
        by_cases et : t = u
        · subst et
          go_enter Tryz.func29, Tryz.ntmps29
          go_wp2_with fail
          refine (HE.out _ H2.out.bel).mono ?_
          rintro e w1 ⟨rfl, hb1⟩
          replace H2 := Hold.mk (H2.out.next hb1)
          obtain ⟨y0, y1, y2, y3, y4⟩ := cells_five H2.out.one
          obtain ⟨z0, z1, z2, z3, z4⟩ := cells_five H2.out.two
          clear hb1
          by_cases enm : nm = nu
          · rw [decide_eq_true enm]
            have ENM := Hold.mk enm
            clear enm
            go_wp2_with fail
            refine (HI.out _ H2.out.bel).mono ?_
            rintro e w2 ⟨rfl, hb2⟩
            replace H2 := Hold.mk (H2.out.next hb2)
            clear hb2 y0 y1 y2 y3 y4 z0 z1 z2 z3 z4
            have HF := Hold.mk (FIN.out (itemsB it ju) (by simp [itemsB_iff, ENM.out]))
            go_wp2_with fail
            go_ret
            exact ⟨by rw [HF.out]; rfl, H2.out.bel⟩
          · rw [decide_eq_false enm]
            have HF := Hold.mk (FIN.out false ⟨(fun e => by cases e), fun e => absurd e.2.2.2.1 enm⟩)
            clear enm
            go_wp2_with fail
            go_ret
            exact ⟨by rw [HF.out]; rfl, H2.out.bel⟩
        · have hb : (t.toList == u.toList) = false := str_ne et
          have HF := Hold.mk (FIN.out false ⟨(fun e => by cases e), fun e => absurd e.2.2.1 et⟩)
          clear et
          go_enter Tryz.func29, Tryz.ntmps29
          go_wp2_with fail
          go_ret
          exact ⟨by rw [HF.out]; rfl, H2.out.bel⟩
      · have hb : (n == m) = false := by simpa using en
        have HF := Hold.mk (FIN.out false ⟨(fun e => by cases e), fun e => absurd e.2.1 en⟩)
        clear en
        go_enter Tryz.func29, Tryz.ntmps29
        go_wp2_with fail
        go_ret
        exact ⟨by rw [HF.out]; rfl, H2.out.bel⟩
    · have hb : (k == q) = false := by simpa using ek
      have HF := Hold.mk (FIN.out false ⟨(fun e => by cases e), fun e => absurd e.1 ek⟩)
      clear ek
      go_enter Tryz.func29, Tryz.ntmps29
      go_wp2_with fail
      go_ret
      exact ⟨by rw [HF.out]; rfl, H2.out.bel⟩
end Go.Proofs.YticlnijkfclgcaaGreatDoor

namespace Go.Proofs.YticlnijkfclgcaaGreatDoor
open Go.RowKit

end Go.Proofs.YticlnijkfclgcaaGreatDoor
