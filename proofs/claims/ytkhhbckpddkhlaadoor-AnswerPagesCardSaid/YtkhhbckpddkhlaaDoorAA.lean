/- Answers, plainly: how two documents are ordered. -/
import Derived.Test.YtkhhbckpddkhlaaDoorFO
import Derived.Sort.Walk0
import Derived.Lib.RowBridge
namespace Go.Proofs.YtkhhbckpddkhlaaDoor

/-- a comparison that orders: of all, three by three -/
structure Good {α : Type} (c : α → α → Int) : Prop where
  anti : ∀ a b, c a b = - c b a
  trans : ∀ a b d, c a b ≤ 0 → c b d ≤ 0 → c a d ≤ 0
theorem Good.zero {α : Type} {c : α → α → Int} (h : Good c) {a b d : α} (h1 : c a b ≤ 0) (h2 : c b d ≤ 0) (h3 : c a d = 0) : c a b = 0 ∧ c b d = 0 := by
  have e1 := h.anti a d
  have e2 := h.anti a b
  have e3 := h.anti b d
  have t1 := h.trans b d a h2 (by omega)
  have t2 := h.trans d a b (by omega) h1
  omega
theorem orI_trans {a1 a2 a3 b1 b2 b3 : Int} (h1 : a1 ≤ 0 → a2 ≤ 0 → a3 ≤ 0) (h0 : a1 ≤ 0 → a2 ≤ 0 → a3 = 0 → a1 = 0 ∧ a2 = 0) (h2 : b1 ≤ 0 → b2 ≤ 0 → b3 ≤ 0) : orI a1 b1 ≤ 0 → orI a2 b2 ≤ 0 → orI a3 b3 ≤ 0 := by
  unfold orI
  intro k1 k2
  have l1 : a1 ≤ 0 := by split at k1 <;> omega
  have l2 : a2 ≤ 0 := by split at k2 <;> omega
  have l3 := h1 l1 l2
  split
  · rename_i h3
    obtain ⟨e1, e2⟩ := h0 l1 l2 h3
    rw [if_pos e1] at k1
    rw [if_pos e2] at k2
    exact h2 k1 k2
  · exact l3
theorem orI_neg (a b : Int) : orI (-a) (-b) = - orI a b := by
  unfold orI; split <;> split <;> omega
theorem Good.both {α : Type} {c d : α → α → Int} (h : Good c) (k : Good d) : Good fun a b => orI (c a b) (d a b) :=
  ⟨fun a b => by show orI (c a b) (d a b) = - orI (c b a) (d b a); rw [h.anti a b, k.anti a b, orI_neg], fun a b e => orI_trans (h.trans a b e) (fun h1 h2 h3 => h.zero h1 h2 h3) (k.trans a b e)⟩
theorem Good.map {α β : Type} {c : α → α → Int} (h : Good c) (f : β → α) : Good fun a b => c (f a) (f b) := ⟨fun _ _ => h.anti _ _, fun _ _ _ => h.trans _ _ _⟩
theorem Good.none {α : Type} : Good fun (_ _ : α) => (0 : Int) := ⟨fun _ _ => by decide, fun _ _ _ _ _ => by decide⟩
theorem Good.turn {α : Type} {c : α → α → Int} (h : Good c) (b : Bool) : Good fun x y => if b = true then - c x y else c x y := by
  cases b with
  | true => exact ⟨fun x y => by have := h.anti x y; simp only [if_true]; omega, fun x y z h1 h2 => by
      simp only [if_true] at *
      have e1 := h.anti x y
      have e2 := h.anti y z
      have e3 := h.anti x z
      have := h.trans z y x (by omega) (by omega)
      omega⟩
  | false => exact h
theorem cmpI_anti (a b : Int) : cmpI a b = - cmpI b a := by
  unfold cmpI
  repeat' split
  all_goals omega
theorem good_int : Good cmpI := ⟨cmpI_anti, fun a b d => by
    unfold cmpI; intro h1 h2
    split at h1
    · split at h2
      · rw [if_pos (by omega)]; decide
      · split at h2
        · omega
        · rw [if_pos (by omega)]; decide
    · split at h1
      · omega
      · split at h2
        · rw [if_pos (by omega)]; decide
        · split at h2
          · omega
          · rw [if_neg (by omega), if_neg (by omega)]; decide⟩
theorem lexA_lt {a b : List UInt8} : lexC a b < 0 ↔ Op.bytesLess a b = true := by
  rw [lexC_less]
  split
  · rename_i h; simp [h]
  · rename_i h; split <;> simp [h]
/-- a list's bytes: they order lists -/
def tbA (s : ByteArray) : List UInt8 := s.data.toList
theorem tbA_inj {a b : ByteArray} (h : tbA a = tbA b) : a = b := by cases a; cases b; exact congrArg ByteArray.mk (Array.toList_inj.1 h)
theorem strLt_tbA (a b : ByteArray) : strLt a b = decide (tbA a < tbA b) := by unfold strLt tbA; rw [ByteArray.toList_eq, ByteArray.toList_eq, bytesLess_eq]
theorem good_str : Good cmpS := by
  refine ⟨fun a b => ?_, fun a b d => ?_⟩
  · unfold cmpS
    rw [strLt_tbA, strLt_tbA]
    by_cases h1 : tbA a < tbA b
    · have h2 : ¬ tbA b < tbA a := fun h => List.lt_irrefl _ (List.lt_trans h1 h)
      have h3 : ¬ b = a := fun e => by rw [e] at h1; exact List.lt_irrefl _ h1
      simp [h1, h2, h3]
    · by_cases h2 : tbA b < tbA a
      · have h3 : ¬ a = b := fun e => by rw [e] at h2; exact List.lt_irrefl _ h2
        simp [h1, h2, h3]
      · have e : a = b := tbA_inj (List.le_antisymm (List.not_lt.1 h2) (List.not_lt.1 h1))
        subst e
        simp [h1]
  · unfold cmpS
    rw [strLt_tbA, strLt_tbA, strLt_tbA]
    intro h1 h2
    have k1 : ∀ {x y : ByteArray}, (if decide (tbA x < tbA y) = true then (-1 : Int) else if x = y then 0 else 1) ≤ 0 → tbA x ≤ tbA y := fun {x y} h => by
      by_cases hl : tbA x < tbA y
      · exact List.le_of_lt hl
      · by_cases e : x = y
        · rw [e]; exact List.le_refl _
        · simp [hl, e] at h
    have l := List.le_trans (k1 h1) (k1 h2)
    by_cases hl : tbA a < tbA d
    · simp [hl]
    · have e : a = d := tbA_inj (List.le_antisymm l (List.not_lt.1 hl))
      rw [← e]; split <;> simp
theorem memb_anti {f : JV → JV → Int} (hf : Good f) (k : Int) : ∀ it ju nm nu, membC f k it ju nm nu = - membC f k ju it nu nm
  | [], [], _, _ => by simp [membC]
  | [], _ :: _, _, _ => by simp [membC]
  | _ :: _, [], _, _ => by simp [membC]
  | x :: it, y :: ju, nm, nu => by
    rw [membC, membC, memb_anti hf k it ju, hf.anti x y, orI_neg]
    by_cases h : k = 6
    · rw [if_pos h, if_pos h, good_str.anti, orI_neg]
    · rw [if_neg h, if_neg h]; unfold orI; simp
theorem memb_trans {f : JV → JV → Int} (hf : Good f) (k : Int) : ∀ it ju lu nm nu no, membC f k it ju nm nu ≤ 0 → membC f k ju lu nu no ≤ 0 → membC f k it lu nm no ≤ 0
  | [], _, [], _, _, _ => by simp [membC]
  | [], _, _ :: _, _, _, _ => by simp [membC]
  | _ :: _, [], _, _, _, _ => by simp [membC]
  | _ :: _, _ :: _, [], _, _, _ => by simp [membC]
  | x :: it, y :: ju, z :: lu, nm, nu, no => by
    rw [membC, membC, membC]
    have hg : Good fun (a b : ByteArray) => if k = 6 then cmpS a b else 0 := by
      by_cases h : k = 6
      · simp only [if_pos h]; exact good_str
      · simp only [if_neg h]; exact Good.none
    refine orI_trans (hg.trans _ _ _) (fun h1 h2 h3 => hg.zero h1 h2 h3) ?_
    exact orI_trans (hf.trans x y z) (fun h1 h2 h3 => hf.zero h1 h2 h3) (memb_trans hf k it ju lu nm.tail nu.tail no.tail)
theorem good_val : ∀ d, Good (cmpF d)
  | 0 => ⟨fun _ _ => by simp [cmpF], fun _ _ _ _ _ => by simp [cmpF]⟩
  | d + 1 => by
    have hf := good_val d
    refine ⟨fun a b => ?_, fun a b e => ?_⟩
    · obtain ⟨k, n, t, nm, it⟩ := a
      obtain ⟨q, m, u, nu, ju⟩ := b
      rw [cmpF, cmpF]
      by_cases h : k = q
      · subst h
        rw [cmpI_self, good_int.anti n m, good_str.anti t u, memb_anti hf k it ju, orI_neg, orI_neg]; unfold orI; simp
      · have h1 : cmpI k q ≠ 0 := fun e => h (cmpI_zero e)
        have h2 : cmpI q k ≠ 0 := fun e => h (cmpI_zero e).symm
        have := good_int.anti k q
        unfold orI
        rw [if_neg h1, if_neg h2]; exact this
    · obtain ⟨k, n, t, nm, it⟩ := a
      obtain ⟨q, m, u, nu, ju⟩ := b
      obtain ⟨r, o, s, no, lu⟩ := e
      rw [cmpF, cmpF, cmpF]
      intro h1 h2
      by_cases hz : cmpI k r = 0
      · have hl1 : cmpI k q ≤ 0 := by unfold orI at h1; split at h1 <;> omega
        have hl2 : cmpI q r ≤ 0 := by unfold orI at h2; split at h2 <;> omega
        obtain ⟨e1, e2⟩ := good_int.zero hl1 hl2 hz
        obtain rfl := cmpI_zero e1
        obtain rfl := cmpI_zero e2
        exact orI_trans (good_int.trans k k k) (fun h1 h2 h3 => good_int.zero h1 h2 h3) (orI_trans (good_int.trans n m o) (fun h1 h2 h3 => good_int.zero h1 h2 h3) (orI_trans (good_str.trans t u s) (fun h1 h2 h3 => good_str.zero h1 h2 h3) (memb_trans hf k it ju lu nm nu no))) h1 h2
      · have hl1 : cmpI k q ≤ 0 := by unfold orI at h1; split at h1 <;> omega
        have hl2 : cmpI q r ≤ 0 := by unfold orI at h2; split at h2 <;> omega
        have := good_int.trans k q r hl1 hl2
        unfold orI; rw [if_neg hz]; exact this
/-- of two that may lack -/
def cmpO {α : Type} (c : α → α → Int) : Option α → Option α → Int
  | some u, some v => c u v
  | some _, none => 1
  | none, some _ => -1
  | none, none => 0
theorem Good.opt {α : Type} {c : α → α → Int} (h : Good c) : Good (cmpO c) :=
  ⟨fun a b => by cases a <;> cases b <;> first | exact h.anti _ _ | simp [cmpO],
   fun a b d => by cases a <;> cases b <;> cases d <;> first | exact h.trans _ _ _ | simp [cmpO]⟩
/-- a query's order: a path, and whether it falls -/
structure OR where
  path : ByteArray
  down : Bool
/-- two values by a path -/
def atF (p : ByteArray) (a b : JV) : Int := cmpO (cmpF 6) (getJ a p) (getJ b p)
def turnI (d : Bool) (c : Int) : Int := if d = true then -c else c
theorem good_at (p : ByteArray) : Good (atF p) := ((good_val 6).opt).map fun v => getJ v p
theorem atF_small (p : ByteArray) (a b : JV) : -1 ≤ atF p a b ∧ atF p a b ≤ 1 := by
  unfold atF cmpO
  split <;> first | exact cmpF_small _ _ _ | decide

end Go.Proofs.YtkhhbckpddkhlaaDoor
