/- Catalogs: BinarySearchFunc at collections and placed indexes (printed by genXCF.py). -/
import Derived.Test.YtfpphpjobkhalaaGreatDoorZ12
import Derived.Test.YtfpphpjobkhalaaGreatDoorZ27
namespace Go.Proofs.YtfpphpjobkhalaaGreatDoor
open Go.Shelf Go.RowKit

/-- names that rise; where a name has its place -/
def upZ (nm : List ByteArray) : Prop := nm.Pairwise fun a b => strLt a b = true
def placeZ (nm : List ByteArray) (s : ByteArray) : Nat := (nm.takeWhile fun x => strLt x s).length
def foundZ (nm : List ByteArray) (s : ByteArray) : Bool := decide (nm[placeZ nm s]? = some s)
def tbZ (s : ByteArray) : List UInt8 := s.data.toList
theorem tbZ_inj {a b : ByteArray} (h : tbZ a = tbZ b) : a = b := by cases a; cases b; exact congrArg ByteArray.mk (Array.toList_inj.1 h)
theorem strLt_tbZ (a b : ByteArray) : strLt a b = decide (tbZ a < tbZ b) := by unfold strLt tbZ; rw [ByteArray.toList_eq, ByteArray.toList_eq, bytesLess_eq]
theorem strLtZ_trans {a b c : ByteArray} (h : strLt a b = true) (k : strLt b c = true) : strLt a c = true := by
  rw [strLt_tbZ] at *
  exact decide_eq_true (List.lt_trans (of_decide_eq_true h) (of_decide_eq_true k))
theorem strLtZ_irrefl (a : ByteArray) : strLt a a = false := by
  rw [strLt_tbZ]; exact decide_eq_false (List.lt_irrefl _)
theorem rises_upZ : ∀ {nm : List ByteArray}, rises nm = true → upZ nm
  | [], _ => List.Pairwise.nil
  | [a], _ => List.pairwise_singleton _ _
  | a :: b :: l, h => by
    rw [rises, Bool.and_eq_true] at h
    have ih := rises_upZ h.2
    refine List.pairwise_cons.2 ⟨fun c hc => ?_, ih⟩
    rcases List.mem_cons.1 hc with rfl | hc
    · exact h.1
    · exact strLtZ_trans h.1 ((List.pairwise_cons.1 ih).1 c hc)
theorem up_risesZ {nm : List ByteArray} (h : upZ nm) : rises nm = true :=
  rises_at fun i a b ha hb => by
    obtain ⟨hi, rfl⟩ := List.getElem?_eq_some_iff.1 ha
    obtain ⟨hj, rfl⟩ := List.getElem?_eq_some_iff.1 hb
    exact List.pairwise_iff_getElem.1 h i (i + 1) hi hj (by omega)
theorem placeZ_le (nm : List ByteArray) (s : ByteArray) : placeZ nm s ≤ nm.length := by
  unfold placeZ
  induction nm with
  | nil => simp
  | cons x l ih => rw [List.takeWhile_cons]; split <;> simp <;> omega
theorem placeZ_lt : ∀ {nm : List ByteArray} {s : ByteArray} {t : Nat} {x : ByteArray}, t < placeZ nm s → nm[t]? = some x → strLt x s = true := by
  intro nm s
  unfold placeZ
  induction nm with
  | nil => intro t x h; simp at h
  | cons y l ih =>
    intro t x h hx
    rw [List.takeWhile_cons] at h
    split at h
    · rename_i hy
      cases t with
      | zero => simp at hx; subst hx; exact hy
      | succ t => rw [List.length_cons] at h; exact ih (t := t) (by omega) (by simpa using hx)
    · simp at h
theorem placeZ_at : ∀ {nm : List ByteArray} {s x : ByteArray}, nm[placeZ nm s]? = some x → strLt x s = false := by
  intro nm s
  unfold placeZ
  induction nm with
  | nil => intro x h; simp at h
  | cons y l ih =>
    intro x h
    rw [List.takeWhile_cons] at h
    split at h
    · rw [List.length_cons] at h; exact ih (by simpa using h)
    · rename_i hy
      simp at h; subst h; simpa using hy
theorem placeZ_eq {nm : List ByteArray} {s : ByteArray} {i : Nat} (hi : i ≤ nm.length) (h1 : ∀ (t : Nat) x, t < i → nm[t]? = some x → strLt x s = true) (h2 : ∀ x, nm[i]? = some x → strLt x s = false) : placeZ nm s = i := by
  have hle := placeZ_le nm s
  rcases Nat.lt_trichotomy (placeZ nm s) i with h | h | h
  · have hx := List.getElem?_eq_getElem (show placeZ nm s < nm.length by omega)
    have := h1 _ _ h hx
    rw [placeZ_at hx] at this; cases this
  · exact h
  · have hx := List.getElem?_eq_getElem (show i < nm.length by omega)
    have := placeZ_lt h hx
    rw [h2 _ hx] at this; cases this
/-- i and j close in on a name's place -/
def NearZ (nm : List ByteArray) (s : ByteArray) (i j : Nat) : Prop := (∀ (t : Nat) y, t < i → nm[t]? = some y → strLt y s = true) ∧ (∀ (t : Nat) y, j ≤ t → nm[t]? = some y → strLt y s = false)
theorem upZ_lt {nm : List ByteArray} (hu : upZ nm) {i j : Nat} {a b : ByteArray} (hij : i < j) (ha : nm[i]? = some a) (hb : nm[j]? = some b) : strLt a b = true := by
  obtain ⟨hi, rfl⟩ := List.getElem?_eq_some_iff.1 ha
  obtain ⟨hj, rfl⟩ := List.getElem?_eq_some_iff.1 hb
  exact List.pairwise_iff_getElem.1 hu i j hi hj hij
theorem NearZ.lo {nm : List ByteArray} {s y : ByteArray} {i j m : Nat} (hu : upZ nm) (h : NearZ nm s i j) (hy : nm[m]? = some y) (hl : strLt y s = true) : NearZ nm s (m + 1) j := by
  refine ⟨fun t z ht hz => ?_, h.2⟩
  by_cases e : t = m
  · subst e; rw [hy] at hz; cases hz; exact hl
  · exact strLtZ_trans (upZ_lt hu (show t < m by omega) hz hy) hl
theorem NearZ.hi {nm : List ByteArray} {s y : ByteArray} {i j m : Nat} (hu : upZ nm) (h : NearZ nm s i j) (hy : nm[m]? = some y) (hl : strLt y s = false) : NearZ nm s i m := by
  refine ⟨h.1, fun t z ht hz => ?_⟩
  by_cases e : t = m
  · subst e; rw [hy] at hz; cases hz; exact hl
  · cases hzx : strLt z s with
    | false => rfl
    | true => rw [strLtZ_trans (upZ_lt hu (show m < t by omega) hy hz) hzx] at hl; cases hl
theorem cmpS_ltZ (a b : ByteArray) : cmpS a b < 0 ↔ strLt a b = true := by
  unfold cmpS
  cases strLt a b with
  | true => simp
  | false => by_cases h : a = b <;> simp [h]
theorem cloC_enters (args : Array Value) (w : World) : (callFunc 64 args).run Tryz.prog w = .ok (.enter 64 args) w := enters_of Tryz.func64 (by kernel_rfl) rfl args w
set_option maxRecDepth 100000 in
set_option maxHeartbeats 4000000 in
theorem cloC_any (x : CX) (s : ByteArray) (xa : Option Addr) (xcap : Nat) (w : World) :
    Calls Tryz.prog 64 #[.agg #[.string x.name, .int .i64 x.sp, .slice xa x.ixs.length xcap], .string s] w fun e w' => e = .returned (.int .i64 (cmpS x.name s)) ∧ Below w.heap.size w w' := by
  have HB := Hold.mk ((Below.refl _ w).alloc (Nat.le_refl _) (.cells #[.string x.name, .int .i64 x.sp, .slice xa x.ixs.length xcap] 67))
  go_enter Tryz.func64, Tryz.ntmps64
  go_wp2_with fail
  refine (compare_str x.name s _).mono ?_
  rintro e w2 ⟨rfl, hw2⟩
  subst hw2
  go_wp2_with fail
  go_ret
  exact ⟨rfl, HB.out⟩
set_option maxRecDepth 100000 in
set_option maxHeartbeats 8000000 in
theorem searchC_any (l : List CX) (s : ByteArray) (lv : Value) (w : World) (hl : SAt 3 RCX (cf w) lv l) (hu : upZ (l.map fun x => x.name)) (hlen : l.length ≤ 1000000) :
    Calls Tryz.prog 63 #[lv, .string s, .func (.func 64) #[] #[]] w
      fun e w' => e = .returned (.tuple #[.int .i64 (placeZ (l.map fun x => x.name) s), .bool (foundZ (l.map fun x => x.name) s)]) ∧ Below w.heap.size w w' := by
  obtain ⟨la, lcap, rfl, hle, hcap, hel⟩ := hl
  have HE := Hold.mk hel
  obtain ⟨nms, hnms⟩ : ∃ nms, nms = l.map fun x => x.name := ⟨_, rfl⟩
  rw [← hnms] at hu ⊢
  have hnl : nms.length = l.length := by rw [hnms, List.length_map]
  have HAT : Hold (∀ (i : Nat) x, l[i]? = some x → nms[i]? = some x.name) := ⟨fun i x h => by rw [hnms, List.getElem?_map, h]; rfl⟩
  have HNL := Hold.mk hnl
  have HU := Hold.mk hu
  have hF := cloC_enters
  obtain ⟨r1, hr1⟩ : ∃ r1, r1 = placeZ nms s := ⟨_, rfl⟩
  obtain ⟨r2, hr2⟩ : ∃ r2, r2 = foundZ nms s := ⟨_, rfl⟩
  rw [← hr1, ← hr2]
  have HR1 := Hold.mk hr1
  have HR2 := Hold.mk hr2
  clear hel hu hr1 hr2 hnms hnl
  go_enter Tryz.func63, Tryz.ntmps63
  go_wp2_with fail
  go_loopg [9, 10] l.length (fun kx s9 s10 wr => ∃ lo hi : Nat, s9 = .int .i64 lo ∧ s10 = .int .i64 hi ∧ lo ≤ hi ∧ hi ≤ l.length ∧ hi - lo ≤ kx ∧ Hold (NearZ nms s lo hi) ∧ Hold (Below w.heap.size w wr))
  case atStart => exact ⟨0, l.length, rfl, rfl, Nat.zero_le _, Nat.le_refl _, by omega, ⟨fun t y ht => by omega, fun t y ht hy => by have := (List.getElem?_eq_some_iff.1 hy).1; rw [HNL.out] at this; omega⟩, ⟨Below.refl _ _⟩⟩
  case round =>
    obtain ⟨lo, hi, rfl, rfl, hlh, hin, hg, HN, HB⟩ := hrel
    by_cases hlt : lo < hi
    · obtain ⟨m, hm⟩ : ∃ m, m = (lo + hi) / 2 := ⟨_, rfl⟩
      have hm2 : ((lo : Int) + (hi : Int)) / 2 = (m : Int) := by omega
      have hml : m < l.length := by omega
      have hmlo : lo ≤ m := by omega
      have hmhi : m < hi := by omega
      obtain ⟨x, hy⟩ : ∃ y, l[m]? = some y := ⟨l[m], List.getElem?_eq_getElem hml⟩
      obtain ⟨b, off, d, rfl, hd, hc, hxi⟩ := HE.out m x hy
      obtain ⟨xa, xcap, rfl, _⟩ := hxi
      have HY := Hold.mk (HAT.out m x hy)
      have hcl := cle_below HB.out
      have z0 := hcl _ _ _ (hc 0 _ rfl)
      have z1 := hcl _ _ _ (hc 1 _ rfl)
      have z2 := hcl _ _ _ (hc 2 _ rfl)
      unfold cf at z0 z1 z2
      rw [Nat.add_zero] at z0
      have HC := Hold.mk (fun w => cloC_any x s xa xcap w)
      have HLW := Hold.mk (cmpS_ltZ x.name s)
      clear hy hd hc hcl hm
      generalize cmpS x.name s = c at HC HLW
      cases hlw : strLt x.name s with
      | true =>
        have hcz : c < 0 := HLW.out.2 hlw
        have HN2 := Hold.mk (HN.out.lo HU.out HY.out hlw)
        clear hlw
        go_wp2_with fail
        refine (HC.out _).mono ?_
        rintro e w3 ⟨rfl, hb3⟩
        replace HB := Hold.mk (HB.out.trans (hb3.mono HB.out.size))
        clear hb3 z0 z1 z2
        go_wp2_with fail
        go_roundg (hi - (m + 1))
        case measure => omega
        case rel => exact ⟨m + 1, hi, by go_num, rfl, by omega, hin, Nat.le_refl _, HN2, HB⟩
      | false =>
        have hcz : ¬ c < 0 := fun h => by have := HLW.out.1 h; rw [hlw] at this; cases this
        have HN2 := Hold.mk (HN.out.hi HU.out HY.out hlw)
        clear hlw
        go_wp2_with fail
        refine (HC.out _).mono ?_
        rintro e w3 ⟨rfl, hb3⟩
        replace HB := Hold.mk (HB.out.trans (hb3.mono HB.out.size))
        clear hb3 z0 z1 z2
        go_wp2_with fail
        go_roundg (m - lo)
        case measure => omega
        case rel => exact ⟨lo, m, rfl, rfl, by omega, by omega, Nat.le_refl _, HN2, HB⟩
    · obtain rfl : hi = lo := by omega
      have hpl : placeZ nms s = hi := placeZ_eq (by rw [HNL.out]; exact hin) HN.out.1 (fun y hy => HN.out.2 hi y (Nat.le_refl _) hy)
      have hR1 : Hold (r1 = hi) := ⟨by rw [HR1.out, hpl]⟩
      have HF : Hold (r2 = decide (nms[hi]? = some s)) := ⟨by rw [HR2.out]; unfold foundZ; rw [hpl]⟩
      clear hpl
      by_cases hlt2 : hi < l.length
      · obtain ⟨x, hy⟩ : ∃ y, l[hi]? = some y := ⟨l[hi], List.getElem?_eq_getElem hlt2⟩
        obtain ⟨b, off, d, rfl, hd, hc, hxi⟩ := HE.out hi x hy
        obtain ⟨xa, xcap, rfl, _⟩ := hxi
        have hyi := HAT.out hi x hy
        have hcl := cle_below HB.out
        have z0 := hcl _ _ _ (hc 0 _ rfl)
        have z1 := hcl _ _ _ (hc 1 _ rfl)
        have z2 := hcl _ _ _ (hc 2 _ rfl)
        unfold cf at z0 z1 z2
        rw [Nat.add_zero] at z0
        have HC := Hold.mk (fun w => cloC_any x s xa xcap w)
        have HZ : Hold (r2 = (cmpS x.name s == 0)) := ⟨by
          rw [HF.out, hyi]
          rw [Bool.eq_iff_iff, beq_iff_eq, cmpS_zero, decide_eq_true_iff, Option.some.injEq]⟩
        clear hy hd hc hcl hyi
        generalize cmpS x.name s = c at HC HZ
        go_wp2_with fail
        refine (HC.out _).mono ?_
        rintro e w3 ⟨rfl, hb3⟩
        have HBF := HB.out.trans (hb3.mono HB.out.size)
        clear hb3 z0 z1 z2
        go_wp2_with fail
        go_ret2
        exact ⟨by rw [hR1.out, HZ.out] <;> rfl, HBF⟩
      · have HZ : Hold (r2 = false) := ⟨by rw [HF.out, List.getElem?_eq_none (by rw [HNL.out]; omega)]; rfl⟩
        have HBF := HB.out
        go_wp2_with fail
        go_ret2
        exact ⟨by rw [hR1.out, HZ.out] <;> rfl, HBF⟩
end Go.Proofs.YtfpphpjobkhalaaGreatDoor
