/- Records: Formed and Write of the program. -/
import Derived.Test.YticlnijkfclgcaaGreatDoorZ42
namespace Go.Proofs.YticlnijkfclgcaaGreatDoor
open Go.Shelf Go.RowKit

/-- a record as a value: its list of writes lies there -/
def RcdAt (c : CF) (r : RCD) (v : Value) : Prop := ∃ lv, v = .agg #[.int .u64 (r.time : Int), .string r.cat, lv] ∧ SAt 4 RW c lv r.ws
def SmallR (r : RCD) : Prop := r.cat.size ≤ 1000000 ∧ r.ws.length ≤ 1000 ∧ ∀ x ∈ r.ws, x.id.size ≤ 1000000 ∧ x.text.size ≤ 1000000
theorem empty_iff (t : ByteArray) : t.toList = [] ↔ t.size = 0 := by
  rw [ByteArray.toList_eq, ← size_list]
  exact List.length_eq_zero_iff.symm
set_option maxRecDepth 100000 in
set_option maxHeartbeats 16000000 in
theorem Formed21_any (r : RCD) (v : Value) (w : World) (hr : RcdAt (cf w) r v) (hsm : SmallR r) (hT : Tabs w) (hP : Pow w.heap.size w) (hE : Errs w.heap.size w) :
    Calls Tryz.prog 10 #[v] w fun e w' => e = .returned (.bool (formedR r)) ∧ Below w.heap.size w w' := by
  obtain ⟨lv, rfl, hl⟩ := hr
  obtain ⟨la, lcap, rfl, _⟩ := id hl
  obtain ⟨tm, ct, ws⟩ := r
  obtain ⟨h1, h2, h3⟩ := hsm
  simp only at *
  obtain ⟨W, hW⟩ : ∃ W, W = w.alloc (.cells #[.int .u64 (tm : Int), .string ct, .slice la ws.length lcap] 25) := ⟨_, rfl⟩
  have hb : Below w.heap.size w W := by rw [hW]; exact (Below.refl _ w).alloc (Nat.le_refl _) _
  have HX : Hold (W.heap[w.heap.size]? = some (.cells #[.int .u64 (tm : Int), .string ct, .slice la ws.length lcap] 25 (0, 0))) := ⟨by rw [hW]; exact heap_alloc_new w _⟩
  have HB := Hold.mk hb
  have HTX := Hold.mk (text21_any ct W h1 (hT.below hb) (Pow.below hP hb) (errs_after hE hb))
  have HFW := Hold.mk (wFormed_any ws _ W (hl.mono RW_mono (cle_below hb)) h3 (hT.below hb) (Pow.below hP hb) (errs_after hE hb))
  have HF : Hold (formedR ⟨tm, ct, ws⟩ = (if ct.size = 0 then decide (0 < ws.length) && formedW ws else decide (ws.length = 0) && textC ct)) := ⟨rfl⟩
  generalize formedR ⟨tm, ct, ws⟩ = fr at HF ⊢
  obtain ⟨z0, z1, z2⟩ := cells_three HX.out
  clear hb hT hP hE h1 h3 hl
  by_cases hc : ct.size = 0
  · have k1 : ct.toList = [] := (empty_iff ct).2 hc
    have k2 : ct.toList.isEmpty = true := by rw [k1]; rfl
    rw [if_pos hc] at HF
    clear hc HTX
    by_cases hn : 0 < ws.length
    · have k3 : (0 : Int) < (ws.length : Int) := by omega
      have HR : Hold (fr = formedW ws) := ⟨by rw [HF.out, decide_eq_true hn]; rfl⟩
      clear HF hn
      go_enter Tryz.func10, Tryz.ntmps10
      go_upto_region 1 with (fail)
      rw [← hW]
      clear hW
      go_wp2_with fail
      refine HFW.out.mono ?_
      rintro e w2 ⟨rfl, hb2⟩
      have HB2 := Hold.mk (HB.out.trans (hb2.mono HB.out.size))
      clear hb2 HFW
      go_wp2_with fail
      go_ret
      exact ⟨by rw [HR.out] <;> rfl, HB2.out⟩
    · have k3 : ¬ (0 : Int) < (ws.length : Int) := by omega
      have HR : Hold (fr = false) := ⟨by rw [HF.out, decide_eq_false hn]; rfl⟩
      clear HF hn HFW
      go_enter Tryz.func10, Tryz.ntmps10
      go_upto_region 1 with (fail)
      rw [← hW]
      clear hW
      go_wp2_with fail
      go_ret
      exact ⟨by rw [HR.out] <;> rfl, HB.out⟩
  · have k1 : ¬ ct.toList = [] := fun e => hc ((empty_iff ct).1 e)
    have k2 : ct.toList.isEmpty = false := by cases h : ct.toList with | nil => exact absurd h k1 | cons a l => rfl
    rw [if_neg hc] at HF
    clear hc HFW
    by_cases hn : ws.length = 0
    · have HR : Hold (fr = textC ct) := ⟨by rw [HF.out, decide_eq_true hn]; rfl⟩
      have k3 : ((ws.length : Int) == 0) = true := by rw [hn]; rfl
      clear HF hn
      go_enter Tryz.func10, Tryz.ntmps10
      go_upto_region 1 with (fail)
      rw [← hW]
      clear hW
      go_wp2_with fail
      refine HTX.out.mono ?_
      rintro e w2 ⟨rfl, hb2⟩
      have HB2 := Hold.mk (HB.out.trans (hb2.mono HB.out.size))
      clear hb2 HTX
      go_wp2_with fail
      go_ret
      exact ⟨by rw [HR.out] <;> rfl, HB2.out⟩
    · have k3 : ((ws.length : Int) == 0) = false := by rw [beq_eq_false_iff_ne]; omega
      have HR : Hold (fr = false) := ⟨by rw [HF.out, decide_eq_false hn]; rfl⟩
      clear HF hn HTX
      go_enter Tryz.func10, Tryz.ntmps10
      go_upto_region 1 with (fail)
      rw [← hW]
      clear hW
      go_wp2_with fail
      go_ret
      exact ⟨by rw [HR.out] <;> rfl, HB.out⟩
/-- what Write answers -/
def WritePost (r : RCD) (w : World) (e : Ending) (w' : World) : Prop := (if formedR r = true then ∃ sv, e = .returned (.tuple #[sv, .int .i64 0]) ∧ BRow w.heap.size w' sv (encR r) else e = .returned (.tuple #[.slice none 0 0, .int .i64 2])) ∧ Below w.heap.size w w'
theorem BRow.low0 {B B' : Nat} {w : World} {sv : Value} {l : List UInt8} (h : BRow B w sv l) (hb : B' ≤ B) : BRow B' w sv l := ⟨by
  obtain ⟨h1, h2⟩ := h.own
  refine ⟨h1, ?_⟩
  rcases h2 with h2 | ⟨g, cap, cur, e1, e2, e3⟩
  · exact .inl h2
  · exact .inr ⟨g, cap, cur, e1, Nat.le_trans hb e2, e3⟩, Nat.le_trans hb h.le⟩
theorem BRow.turn {B : Nat} {w w' : World} {sv s1 : Value} {l l2 : List UInt8} (h : BRow B w sv l) (_ : BRow B w' s1 l2) (hg : w.grownBy w' sv.ownBlock) : Below B w w' :=
  (Below.refl B w).grown hg h.le (fun g e => (h.low g e).1)
theorem BRow.ne {B k : Nat} {w : World} {sv : Value} {l : List UInt8} {vs : Array Value} {T : TypeId} {s : Nat × Nat} (h : BRow B w sv l) (hk : w.heap[k]? = some (.cells vs T s)) (hT : T ≠ 5) : sv.ownBlock ≠ some k := fun e =>
  own_ne h.own hk hT k e rfl
theorem BRow.keepBox {B k : Nat} {w w' : World} {sv : Value} {l : List UInt8} {vs : Array Value} {T : TypeId} {s : Nat × Nat} (h : BRow B w sv l) (hk : w.heap[k]? = some (.cells vs T s)) (hT : T ≠ 5) (hg : w.grownBy w' sv.ownBlock) : w'.heap[k]? = some (.cells vs T s) := by
  rw [hg.block k (heap_lt hk) (fun e => h.ne hk hT e.symm)]; exact hk
theorem encW_len (x : WR) : (encW x).length ≤ x.id.size + x.text.size + 5 := by
  unfold encW be16
  simp only [List.length_append, List.length_cons, List.length_nil, len_list]
  omega
theorem encs_len : ∀ l : List WR, (∀ x ∈ l, x.id.size ≤ 1000000 ∧ x.text.size ≤ 1000000) → (l.flatMap encW).length ≤ l.length * 2000005
  | [], _ => by simp
  | x :: l, h => by
    have h1 := h x (List.mem_cons_self ..)
    have h2 := encs_len l fun y hy => h y (List.mem_cons_of_mem _ hy)
    have h3 := encW_len x
    rw [List.flatMap_cons, List.length_append, List.length_cons]
    omega
open Classical in
theorem formedR_parts {r : RCD} (h : formedR r = true) : r.ws.length ≤ 12 ∧ ∀ x ∈ r.ws, 1 ≤ x.sp ∧ x.sp ≤ 200 ∧ x.id.size ≤ 16 ∧ x.text.size ≤ 240 := by
  unfold formedR at h
  split at h
  · rw [Bool.and_eq_true] at h
    have h2 := h.2
    unfold formedW at h2
    have h3 := of_decide_eq_true h2
    refine ⟨h3.2, fun x hx => ?_⟩
    obtain ⟨i, hi, rfl⟩ := List.getElem_of_mem hx
    have h4 := h3.1.1 i _ hi (List.getElem?_eq_getElem hi)
    unfold oneF at h4
    simp only [Bool.and_eq_true, decide_eq_true_eq] at h4
    have h5 := h4.1.1.2
    unfold idF at h5
    simp only [Bool.and_eq_true, decide_eq_true_eq] at h5
    exact ⟨h4.1.1.1.1, h4.1.1.1.2, h5.1.2, h4.1.2⟩
  · rw [Bool.and_eq_true] at h
    have h2 := of_decide_eq_true h.1
    have h3 : r.ws = [] := List.length_eq_zero_iff.1 h2
    rw [h3]; exact ⟨by simp, fun x hx => by simp at hx⟩
theorem formedR_size {r : RCD} (h : formedR r = true) (hc : r.cat.size < 65536) : SizeR r := by
  obtain ⟨h1, h2⟩ := formedR_parts h
  exact ⟨hc, by omega, fun x hx => by have := h2 x hx; exact ⟨by omega, by omega⟩⟩
end Go.Proofs.YticlnijkfclgcaaGreatDoor
