/- Plans: a value's part of a key; bytes cloned. -/
import Derived.Test.YtcmfanfkcbjeoaaGreatDoorHI
import Derived.Test.YtcmfanfkcbjeoaaGreatDoorHE
namespace Go.Proofs.YtcmfanfkcbjeoaaGreatDoor
open Go.Shelf Go.RowKit

theorem gather_any : ∀ d, GatherAt d
  | 0 => fun f _ _ _ _ _ _ hf => by simp [formedF] at hf
  | d + 1 => gather_succ d (gather_any d)

theorem BRow.bel {B B2 : Nat} {w : World} {sv : Value} {l : List UInt8} (h : BRow B w sv l) (hB : B2 ≤ B) : BRow B2 w sv l :=
  ⟨⟨h.own.1, h.own.2.imp id fun ⟨g, cap, cur, h1, h2, h3⟩ => ⟨g, cap, cur, h1, Nat.le_trans hB h2, h3⟩⟩, Nat.le_trans hB h.le⟩
/-- one byte is written -/
theorem BRow.set {B : Nat} {w : World} {a : Option Addr} {cap : Nat} {l : List UInt8} (h : BRow B w (.slice a l.length cap) l) {j : Nat} (hj : j < l.length) (c : UInt8) :
    ∃ g, a = some ⟨g, 0, none⟩ ∧ B ≤ g ∧ w.frozen? ⟨g, j, none⟩ = false ∧ BRow B (w.setCell ⟨g, j, none⟩ (.int .u8 (c.toNat : Int))) (.slice a l.length cap) (l.set j c) := by
  rcases id h.own.2 with ⟨hv, hn⟩ | ⟨g, cap2, cur, hv, hb, hh, h1, h2, h3, h4⟩
  · omega
  · injection hv with e1 e2 e3
    subst e1
    refine ⟨g, rfl, hb, free_box hh j, ⟨⟨by rw [bv_len, List.length_set]; omega, .inr ⟨g, cap2, cur.set! j (.int .u8 (c.toNat : Int)), by rw [List.length_set, e3], hb, set_self hh, by rw [List.length_set]; exact h1, h2, by simpa using h3, ?_⟩⟩, by have := h.le; simp [World.setCell]; exact this⟩⟩
    rw [List.length_set, Array.set!_eq_setIfInBounds, Array.toList_setIfInBounds, List.take_set, h4]
    simp [bv, List.map_set]
def turnT (l : List UInt8) (j : Nat) : List UInt8 := (l.take j).map notB ++ l.drop j
theorem turnT_len (l : List UInt8) (j : Nat) : (turnT l j).length = l.length := by simp [turnT]; omega
theorem turnT_get {l : List UInt8} {j : Nat} {c : UInt8} (h : l[j]? = some c) : (turnT l j)[j]? = some c := by
  obtain ⟨h1, _⟩ := List.getElem?_eq_some_iff.1 h
  unfold turnT
  rw [List.getElem?_append_right (by simp; omega)]
  simp only [List.length_map, List.length_take, Nat.min_eq_left (Nat.le_of_lt h1), Nat.sub_self, List.getElem?_drop, Nat.add_zero]
  exact h
theorem turnT_set {l : List UInt8} {j : Nat} {c : UInt8} (h : l[j]? = some c) : (turnT l j).set j (notB c) = turnT l (j + 1) := by
  obtain ⟨h1, e1⟩ := List.getElem?_eq_some_iff.1 h
  unfold turnT
  rw [List.set_append_right _ _ (by simp; omega)]
  simp only [List.length_map, List.length_take, Nat.min_eq_left (Nat.le_of_lt h1), Nat.sub_self]
  rw [List.drop_eq_getElem_cons h1, List.set_cons_zero, take_succ h, List.map_append, List.append_assoc]
  rfl

set_option maxRecDepth 100000 in
set_option maxHeartbeats 8000000 in
theorem part_any (v : JV) (x : Value) (d : Bool) (w : World) (hf : formedF 6 v = true) (hx : JAt (cf w) v x) (hT : Tabs w) :
    Calls Tryz.prog 98 #[x, .bool d] w fun e w' => ∃ sv, e = .returned sv ∧ BRow w.heap.size w' sv (partK v d) ∧ Below w.heap.size w w' := by
  obtain ⟨k, n, t, nm, it, na, ncap, ia, icap, _, rfl, _⟩ := id hx.open
  have HB := Hold.mk ((Below.refl _ w).alloc (Nat.le_refl _) (.cells #[.int .i64 k, .int .i64 n, .string t, .slice na nm.length ncap, .slice ia it.length icap] 25))
  have HK := Hold.mk (Key4_any v _ _ (hx.mono (cle_below HB.out)) (hT.below HB.out))
  have HF := Hold.mk hf
  have HPL : Hold ((putF v).length ≤ 200000000000) := ⟨Nat.le_trans (putF_len 6 v hf) keyB_six⟩
  clear hf hx hT
  go_enter Tryz.func98, Tryz.ntmps98
  go_wp2_with fail
  refine HK.out.mono ?_
  rintro e w2 ⟨hk, hb2⟩
  rw [if_pos HF.out] at hk
  obtain ⟨sk, rfl, hsk⟩ := hk
  obtain ⟨p, hp⟩ : ∃ p, p = putF v := ⟨_, rfl⟩
  rw [← hp] at hsk HPL
  obtain ⟨ka, kcap, rfl, _⟩ := hsk.shape
  have HP := Hold.mk hp
  have HS := Hold.mk (hsk.bel (show w.heap.size ≤ _ from HB.out.size))
  replace HB := Hold.mk (HB.out.trans (hb2.mono HB.out.size))
  clear hsk hb2 hp HK
  cases d with
  | false =>
    go_wp2_with fail
    go_ret
    refine ⟨_, rfl, ?_, HB.out⟩
    show BRow w.heap.size w2 (.slice ka p.length kcap) (putF v)
    rw [← HP.out]; exact HS.out
  | true =>
    go_wp2_with fail
    go_loopw [16] (fun i wr => ∃ j : Nat, i = .int .i64 j ∧ j ≤ p.length ∧ BRow w.heap.size wr (.slice ka p.length kcap) (turnT p j) ∧ Below w.heap.size w wr) (fun i _ => p.length - (intOf i).toNat)
    case atStart => exact ⟨0, rfl, Nat.zero_le _, HS.out, HB.out⟩
    case round =>
      obtain ⟨j, rfl, hj, hr, hb⟩ := hrel
      clear HS HB
      have HR := Hold.mk hr
      have HB := Hold.mk hb
      clear hr hb
      by_cases hlt : j < p.length
      · obtain ⟨c, hc⟩ : ∃ c, p[j]? = some c := ⟨p[j], List.getElem?_eq_getElem hlt⟩
        have HL := Hold.mk (turnT_len p j)
        have h0 := HR.out
        rw [← HL.out] at h0
        obtain ⟨g, rfl, hg1, hg2, z0⟩ := h0.get (turnT_get hc)
        obtain ⟨g', e, hgB, zf, hset⟩ := h0.set (by rw [HL.out]; exact hlt) (notB c)
        cases e
        rw [turnT_set hc, HL.out] at hset
        have HN := Hold.mk (not_cell c)
        have HST := Hold.mk hset
        have HBN : Hold (Below w.heap.size w (wr.setCell ⟨g, j, none⟩ (.int .u8 ((notB c).toNat : Int)))) := ⟨HB.out.setCell (p := ⟨g, j, none⟩) hgB _⟩
        clear hc h0 hset
        go_wp2_with fail
        rw [HN.out]
        exact ⟨⟨j + 1, by go_num, hlt, HST.out, HBN.out⟩, by simp [intOf]; omega⟩
      · obtain rfl : j = p.length := by omega
        have HE : Hold (turnT p p.length = partK v true) := ⟨by unfold turnT partK; rw [List.take_of_length_le (Nat.le_refl _), List.drop_length, List.append_nil, HP.out]; rfl⟩
        rw [HE.out] at HR
        go_wp2_with fail
        go_ret
        exact ⟨_, rfl, HR.out, HB.out⟩

set_option maxRecDepth 100000 in
set_option maxHeartbeats 8000000 in
theorem cloneB_any (B : Nat) (l : List UInt8) (sv : Value) (w : World) (h : BRow B w sv l) (hlen : l.length ≤ 100000000000000) :
    Calls Tryz.prog 99 #[sv] w fun e w' => ∃ s1, e = .returned s1 ∧ BRow w.heap.size w' s1 l ∧ Below w.heap.size w w' := by
  obtain ⟨i0, hi, hz0, hz1, hz2⟩ := info_parts infoB
  have HI := Hold.mk (And.intro hi (And.intro hz0 (And.intro hz1 hz2)))
  have HLEN := Hold.mk hlen
  have q22 : ∀ (w : World) (a : Option Addr) (n c n' c' : Nat), (binOp .eql 29 (.slice a n c) (.slice none n' c')).run Tryz.prog w = .ok (.bool a.isNone) w := fun w a n c n' c' => Lib.run_eql_slice_nil w _ _ a n c n' c' Tryz.underlying29
  clear hi hz0 hz1 hz2 hlen
  rcases id h.own.2 with ⟨hv, hn⟩ | ⟨g, cap, cur, hv, hgb, hg, h1, h2, h3, h4⟩
  · subst hv
    obtain rfl := List.length_eq_zero_iff.1 hn
    have HP := Hold.mk (BRow.empty w)
    clear h hn
    go_enter Tryz.func99, Tryz.ntmps99
    go_wp2_with fail
    go_ret
    exact ⟨_, rfl, HP.out, Below.refl _ _⟩
  · subst hv
    have HC : Hold (∀ (j : Nat) u, (bv l)[j]? = some u → (w.alloc (.cells #[] 5)).cell? (Addr.add ⟨g, 0, none⟩ j) = some u) := ⟨fun j u hu => by
      have := h.own.cells (g := g) rfl j u hu
      rw [addr_at] at this ⊢
      exact Lib.cell?_alloc_some _ this⟩
    have HCC : Hold (l.length ≤ cap) := ⟨h1⟩
    have HMX : Hold (cap ≤ 9223372036854775807) := ⟨by unfold maxLen at h2; omega⟩
    have hcc := HCC.out
    have hmx := HMX.out
    clear h hg h1 h2 h3 h4
    go_enter Tryz.func99, Tryz.ntmps99
    go_wp2_with (at_builtin; refine wpList_append_own _ rfl _ _ 29 rfl w.heap.size 5 i0 (.int .u8 0) 1 1 Tryz.underlying29 HI.out.1 HI.out.2.1 HI.out.2.2.1 HI.out.2.2.2 rfl (by decide) _ _ _ rfl (World.ownsRow_made w #[] 0 (Nat.le_refl _) (Nat.zero_le _) (by simp)) ⟨g, 0, none⟩ l.length cap (bv l) rfl ?qc1 ?qc2 ?qc3 ?qc4 ?qc5 ?qc6 ?_)
    case qc1 => rw [bv_len]; omega
    case qc2 => exact HC.out
    case qc3 => exact bv_one l
    case qc4 => have := HLEN.out; unfold maxLen; omega
    case qc5 => have := HLEN.out; omega
    case qc6 => simp
    intro v' w1 hown hgrow hnil
    have hb := ((Below.refl _ w).alloc (Nat.le_refl _) (.cells #[] 5)).grown hgrow (by simp) (by intro k hk; simp [Value.ownBlock] at hk; omega)
    have HP : Hold (BRow w.heap.size w1 v' l ∧ Below w.heap.size w w1) := ⟨⟨by simpa using hown, hb.size⟩, hb⟩
    clear hown hgrow hb
    go_wp2_with fail
    go_ret
    exact ⟨_, rfl, HP.out⟩

end Go.Proofs.YtcmfanfkcbjeoaaGreatDoor
