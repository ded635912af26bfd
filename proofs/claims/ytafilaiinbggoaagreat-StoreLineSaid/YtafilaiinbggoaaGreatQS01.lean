import Derived.Test.YtafilaiinbggoaaGreatRows
namespace Go.Proofs.YtafilaiinbggoaaGreat
def lexC : List UInt8 -> List UInt8 -> Int
 | [], [] => 0
 | [], _ :: _ => -1
 | _ :: _, [] => 1
 | a :: l, b :: m => if a.toNat < b.toNat then -1 else if b.toNat < a.toNat then 1 else lexC l m
end Go.Proofs.YtafilaiinbggoaaGreat
namespace Go.Proofs.YtafilaiinbggoaaGreat
abbrev Bts := List UInt8
def ltB (a b : Bts) : Bool := decide (lexC a b < 0)
theorem lexC_eq0 : ∀ {a b : Bts}, lexC a b = 0 -> a = b
 | [], [], _ => rfl
 | [], _ :: _, h => by simp [lexC] at h
 | _ :: _, [], h => by simp [lexC] at h
 | a :: l, b :: m, h => by
  rw [lexC] at h
  split at h
  ·omega
  ·split at h
   ·omega
   ·rename_i h1 h2
    have : a = b := UInt8.toNat_inj.1 (by omega)
    rw [this, lexC_eq0 h]
theorem lexC_flip : ∀ a b : Bts, lexC b a = - lexC a b
 | [], [] => by simp [lexC]
 | [], _ :: _ => by simp [lexC]
 | _ :: _, [] => by simp [lexC]
 | a :: l, b :: m => by
  rw [lexC, lexC, lexC_flip l m]
  by_cases h1 : a.toNat < b.toNat
  ·rw [if_neg (by omega), if_pos h1, if_pos h1]; rfl
  ·by_cases h2 : b.toNat < a.toNat
   ·rw [if_pos h2, if_neg h1, if_pos h2]
   ·rw [if_neg h2, if_neg h1, if_neg h1, if_neg h2]
theorem lexC_refl : ∀ a : Bts, lexC a a = 0
 | [] => rfl
 | a :: l => by rw [lexC, if_neg (by omega), if_neg (by omega)]; exact lexC_refl l
theorem ltB_iff {a b : Bts} : ltB a b = true ↔ lexC a b < 0 := by unfold ltB; exact decide_eq_true_iff
theorem ltB_irrefl (a : Bts) : ltB a a = false := by unfold ltB; rw [lexC_refl]; rfl
theorem ltB_total (a b : Bts) : ltB a b = true \/ a = b \/ ltB b a = true := by
 rw [ltB_iff, ltB_iff, lexC_flip a b]
 by_cases h : lexC a b = 0
 ·exact .inr (.inl (lexC_eq0 h))
 ·omega
theorem ltB_asym {a b : Bts} (h : ltB a b = true) : ltB b a = false := by
 cases e : ltB b a with
 | false => rfl
 | true => rw [ltB_iff] at h e; rw [lexC_flip a b] at e; omega
theorem lexC_trans : ∀ {a b c : Bts}, lexC a b < 0 -> lexC b c < 0 -> lexC a c < 0
 | [], [], _, h, _ => by simp [lexC] at h
 | [], _ :: _, [], _, h => by simp [lexC] at h
 | [], _ :: _, _ :: _, _, _ => by simp [lexC]
 | _ :: _, [], _, h, _ => by simp [lexC] at h
 | _ :: _, _ :: _, [], _, h => by simp [lexC] at h
 | a :: l, b :: m, c :: n, h, k => by
  rw [lexC] at h k |-
  by_cases h1 : a.toNat < b.toNat
  ·by_cases k1 : b.toNat < c.toNat
   ·rw [if_pos (by omega)]; omega
   ·rw [if_neg k1] at k
    by_cases k2 : c.toNat < b.toNat
    ·rw [if_pos k2] at k; omega
    ·rw [if_pos (by omega)]; omega
  ·rw [if_neg h1] at h
   by_cases h2 : b.toNat < a.toNat
   ·rw [if_pos h2] at h; omega
   ·rw [if_neg h2] at h
    by_cases k1 : b.toNat < c.toNat
    ·rw [if_pos (by omega)]; omega
    ·rw [if_neg k1] at k
     by_cases k2 : c.toNat < b.toNat
     ·rw [if_pos k2] at k; omega
     ·rw [if_neg k2] at k
      rw [if_neg (by omega), if_neg (by omega)]
      exact lexC_trans h k
theorem ltB_trans {a b c : Bts} (h : ltB a b = true) (k : ltB b c = true) : ltB a c = true := by
 rw [ltB_iff] at *; exact lexC_trans h k
def upB (l : List Bts) : Prop := l.Pairwise fun a b => ltB a b = true
def placeB (k : Bts) : List Bts -> Nat
 | [] => 0
 | x :: l => if ltB x k = true then placeB k l + 1 else 0
theorem placeB_le (k : Bts) : ∀ l : List Bts, placeB k l <= l.length
 | [] => Nat.le_refl _
 | x :: l => by
  have := placeB_le k l
  unfold placeB; split
  ·simp only [List.length_cons]; omega
  ·omega
theorem placeB_lt {k : Bts} : ∀ {l : List Bts} {i : Nat} {x : Bts}, i < placeB k l -> l[i]? = some x -> ltB x k = true
 | [], i, x, h, _ => by unfold placeB at h; omega
 | y :: l, i, x, h, hx => by
  unfold placeB at h
  split at h
  ·rename_i hy
   match i, hx with
   | 0, hx => obtain rfl := Option.some.inj hx; exact hy
   | i + 1, hx => exact placeB_lt (l := l) (by omega) hx
  ·omega
theorem placeB_ge {k : Bts} : ∀ {l : List Bts} (_ : upB l) {i : Nat} {x : Bts}, placeB k l <= i -> l[i]? = some x -> ltB x k = false
 | [], _, i, x, _, hx => by simp at hx
 | y :: l, hu, i, x, h, hx => by
  obtain ⟨h1, h2⟩ := List.pairwise_cons.1 hu
  unfold placeB at h
  split at h
  ·match i, hx with
   | 0, hx => omega
   | i + 1, hx => exact placeB_ge h2 (by omega) hx
  ·rename_i hy
   have hy' : ltB y k = false := by simpa using hy
   match i, hx with
   | 0, hx => obtain rfl := Option.some.inj hx; exact hy'
   | i + 1, hx =>
    cases e : ltB x k with
    | false => rfl
    | true => rw [ltB_trans (h1 x (List.mem_of_getElem? hx)) e] at hy'; cases hy'
abbrev EL := List (Bts × Bts)
def putE (k v : Bts) : EL -> EL
 | [] => [(k, v)]
 | (x, y) :: l => if ltB x k = true then (x, y) :: putE k v l else if x = k then (k, v) :: l else (k, v) :: (x, y) :: l
def getE (k : Bts) : EL -> Option Bts
 | [] => none
 | (x, y) :: l => if ltB x k = true then getE k l else if x = k then some y else none
def delE (k : Bts) : EL -> EL
 | [] => []
 | (x, y) :: l => if ltB x k = true then (x, y) :: delE k l else if x = k then l else (x, y) :: l
end Go.Proofs.YtafilaiinbggoaaGreat
