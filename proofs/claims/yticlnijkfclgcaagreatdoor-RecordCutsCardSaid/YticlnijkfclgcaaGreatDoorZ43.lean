/- Records: the reader's take and number. -/
import Derived.Test.YticlnijkfclgcaaGreatDoorZ42
import Derived.Laws.Bits64b
namespace Go.Proofs.YticlnijkfclgcaaGreatDoor
open Go.Shelf Go.RowKit

/-- bytes in memory c, behind an address -/
def BytesC (c : CF) (a : Option Addr) (len cap : Nat) (l : List UInt8) : Prop :=
  len = l.length ∧ l.length ≤ cap ∧ cap ≤ 9223372036854775807 ∧ (a = none → l = []) ∧ ∀ b off tl, a = some ⟨b, off, tl⟩ → tl = none ∧ ∀ (i : Nat) x, l[i]? = some x → c b (off + i) = some (.int .u8 (x.toNat : Int))
theorem BytesC.mono {c d : CF} {a : Option Addr} {len cap : Nat} {l : List UInt8} (h : BytesC c a len cap l) (hl : CLe c d) : BytesC d a len cap l := by
  obtain ⟨h1, h2, h3, h4, h5⟩ := h
  exact ⟨h1, h2, h3, h4, fun b off tl e => ⟨(h5 b off tl e).1, fun i x hx => hl _ _ _ ((h5 b off tl e).2 i x hx)⟩⟩
theorem BRow.bytesC {B : Nat} {w : World} {sv : Value} {l : List UInt8} (h : BRow B w sv l) : ∃ a cap, sv = .slice a l.length cap ∧ BytesC (cfA B w) a l.length cap l := by
  rcases id h.own.2 with ⟨hv, hn⟩ | ⟨g, cap2, cur, hv, hb, hh, h1, h2, _⟩
  · have e : l = [] := List.length_eq_zero_iff.1 hn
    subst e
    exact ⟨none, 0, hv, rfl, Nat.le_refl _, by decide, fun _ => rfl, (fun b off tl e => by cases e)⟩
  · refine ⟨some ⟨g, 0, none⟩, cap2, hv, rfl, h1, by unfold maxLen at h2; exact h2, fun e => (by cases e), fun b off tl e => ?_⟩
    cases e
    refine ⟨rfl, fun i x hi => ?_⟩
    have := h.own.cells (g := g) (by rw [hv]; rfl) i _ (bv_get hi)
    rw [addr_at] at this
    unfold cfA; rw [Nat.zero_add, if_pos hb]; exact this
theorem BytesC.at_ {c : CF} {a : Option Addr} {len cap : Nat} {l : List UInt8} (h : BytesC c a len cap l) : BytesAt c (.slice a len cap) l := by
  obtain ⟨h1, h2, h3, h4, h5⟩ := h
  refine ⟨a, cap, by rw [h1], by omega, fun i s hi => ?_⟩
  cases a with
  | none => rw [h4 rfl] at hi; simp at hi
  | some p =>
    obtain ⟨b, off, tl⟩ := p
    obtain ⟨rfl, h6⟩ := h5 b off tl rfl
    exact ⟨b, off, rfl, h6 i s hi⟩
theorem bytesC_take {c : CF} {a : Option Addr} {len cap n : Nat} {l : List UInt8} (h : BytesC c a len cap l) (hn : n ≤ l.length) : BytesC c a n cap (l.take n) := by
  obtain ⟨h1, h2, h3, h4, h5⟩ := h
  have hl : (l.take n).length = n := by rw [List.length_take]; omega
  refine ⟨hl.symm, by omega, h3, fun e => by rw [h4 e]; simp, fun b off tl e => ⟨(h5 b off tl e).1, fun i x hx => ?_⟩⟩
  have hi : i < n := by have := (List.getElem?_eq_some_iff.1 hx).1; omega
  rw [List.getElem?_take, if_pos hi] at hx
  exact (h5 b off tl e).2 i x hx
theorem bytesC_drop {c : CF} {b off len cap n : Nat} {l : List UInt8} (h : BytesC c (some ⟨b, off, none⟩) len cap l) (hn : n ≤ l.length) : BytesC c (some ⟨b, off + n, none⟩) (len - n) (cap - n) (l.drop n) := by
  obtain ⟨h1, h2, h3, _, h5⟩ := h
  refine ⟨by rw [List.length_drop, h1], by rw [List.length_drop]; omega, by omega, fun e => (by cases e), fun b2 off2 tl e => ?_⟩
  cases e
  refine ⟨rfl, fun i x hx => ?_⟩
  rw [List.getElem?_drop] at hx
  have := (h5 b off none rfl).2 (n + i) x hx
  rw [← Nat.add_assoc] at this; exact this
theorem bytesC_nil (c : CF) (b off cap : Nat) (hc : cap ≤ 9223372036854775807) : BytesC c (some ⟨b, off, none⟩) 0 cap [] :=
  ⟨rfl, Nat.zero_le _, hc, (fun e => by cases e), fun b2 off2 tl e => by cases e; exact ⟨rfl, fun i x hx => by simp at hx⟩⟩
/-- what take hands back, and what is left -/
def TakePostV (c : CF) (rb : Nat) (l : List UInt8) (n : Nat) (w : World) (e : Ending) (w' : World) : Prop := ∃ a1 c1 a2 n2 c2, e = .returned (.slice a1 (l.take n).length c1) ∧ BytesC c a1 (l.take n).length c1 (l.take n) ∧ BytesC c a2 n2 c2 (l.drop n) ∧ w' = w.setCell ⟨rb, 0, none⟩ (.slice a2 n2 c2)
set_option maxRecDepth 100000 in
set_option maxHeartbeats 8000000 in
theorem take21_any (c : CF) (rb n len cap : Nat) (a : Option Addr) (l : List UInt8) (w : World) (hbox : w.heap[rb]? = some (.cells #[.slice a len cap] 47 (0, 0))) (hc : BytesC c a len cap l) (hn : n ≤ 65535) :
    Calls Tryz.prog 14 #[.pointer (some ⟨rb, 0, none⟩), .int .i64 (n : Int)] w (TakePostV c rb l n w) := by
  have HC := Hold.mk hc
  have HK := Hold.mk hbox
  obtain ⟨rfl, hle, hcap, ha, _⟩ := hc
  have y0 : w.cell? ⟨rb, 0, none⟩ = some (.slice a l.length cap) := by simp [World.cell?, hbox]
  have f0 := free_box hbox 0
  clear hbox
  obtain ⟨k, hk⟩ : ∃ k, k = min n l.length := ⟨_, rfl⟩
  have hk1 : k ≤ l.length := by omega
  have hkc : (k : Int) ≤ (cap : Int) := by omega
  have hkl : (k : Int) ≤ (l.length : Int) := by omega
  have HT : Hold (l.take n = l.take k ∧ l.drop n = l.drop k) := ⟨by
    by_cases h : n ≤ l.length
    · have : k = n := by omega
      subst this; exact ⟨rfl, rfl⟩
    · have e : k = l.length := by omega
      subst e
      rw [List.take_of_length_le (by omega), List.take_of_length_le (Nat.le_refl _), List.drop_eq_nil_of_le (by omega), List.drop_eq_nil_of_le (Nat.le_refl _)]; exact ⟨rfl, rfl⟩⟩
  have HK1 : Hold ((l.take n).length = k) := ⟨by rw [List.length_take, hk]⟩
  have hmin : min (n : Int) (l.length : Int) = (k : Int) := by omega
  go_enter Tryz.func14, Tryz.ntmps14
  go_upto_region 2 with (fail)
  rw [← hk]
  clear hk hmin
  cases a with
  | none =>
    have e := ha rfl
    subst e
    have hk0 : k = 0 := by simpa using hk1
    subst hk0
    go_wp2_with fail
    go_ret
    exact ⟨none, cap, none, 0, cap, by simp, by simpa using HC.out, by simpa using HC.out, rfl⟩
  | some p =>
    obtain ⟨pb, po, tl⟩ := p
    obtain rfl : tl = none := ((HC.out.2.2.2.2) pb po tl rfl).1
    have HT1 : Hold (BytesC c (some ⟨pb, po, none⟩) (l.take n).length cap (l.take n)) := ⟨by rw [HK1.out, HT.out.1]; exact bytesC_take HC.out hk1⟩
    by_cases hcn : cap = k
    · have hlk : l.length = k := by omega
      have HD : Hold (BytesC c (some ⟨pb, po, none⟩) (l.length - k) 0 (l.drop n)) := ⟨by
        rw [HT.out.2, List.drop_eq_nil_of_le (by omega), hlk, Nat.sub_self]; exact bytesC_nil c pb po 0 (by decide)⟩
      have HC1 : Hold (BytesC c (some ⟨pb, po, none⟩) (l.take n).length k (l.take n)) := ⟨by rw [← hcn]; exact HT1.out⟩
      clear hlk
      go_wp2_with fail
      go_ret
      exact ⟨_, k, _, _, _, by rw [HK1.out]; rfl, HC1.out, HD.out, rfl⟩
    · have HD : Hold (BytesC c (some ⟨pb, po + k, none⟩) (l.length - k) (cap - k) (l.drop n)) := ⟨by
        rw [HT.out.2]; exact bytesC_drop HC.out hk1⟩
      go_wp2_with fail
      go_ret
      exact ⟨_, cap, _, _, _, by rw [HK1.out]; rfl, HT1.out, HD.out, rfl⟩
/-- what number hands back: so many bytes' number; the rest lies there -/
def NumPostV (c : CF) (rb n : Nat) (w : World) (e : Ending) (w' : World) : Prop := ∃ (z : Nat) (l2 : List UInt8), ∃ a2 n2 c2, e = .returned (.int .u64 (z : Int)) ∧ z < 256 ^ n ∧ BytesC c a2 n2 c2 l2 ∧ w' = w.setCell ⟨rb, 0, none⟩ (.slice a2 n2 c2)
theorem BytesC.byte {c : CF} {a : Option Addr} {len cap : Nat} {l : List UInt8} (h : BytesC c a len cap l) {i : Nat} {x : UInt8} (hx : l[i]? = some x) : ∃ b off, a = some ⟨b, off, none⟩ ∧ c b (off + i) = some (.int .u8 (x.toNat : Int)) := by
  obtain ⟨h1, h2, h3, h4, h5⟩ := h
  cases a with
  | none => rw [h4 rfl] at hx; simp at hx
  | some p =>
    obtain ⟨b, off, tl⟩ := p
    obtain ⟨rfl, h6⟩ := h5 b off tl rfl
    exact ⟨b, off, rfl, h6 i x hx⟩
theorem next_byteV {z xn j : Nat} (hz : z < 256 ^ j) (hj : j < 8) (hx : xn < 256) : ∃ z2 : Nat, bits BinOp.or IntKind.u64 (IntKind.u64.wrap ((z : Int) * 256)) (IntKind.u64.wrap (xn : Int)) = (z2 : Int) ∧ z2 < 256 ^ (j + 1) := by
  have h1 : z * 256 < 256 ^ (j + 1) := by rw [Nat.pow_succ]; omega
  have h2 : 256 ^ (j + 1) ≤ 18446744073709551616 := by
    have : (256 : Nat) ^ (j + 1) ≤ 256 ^ 8 := Nat.pow_le_pow_right (by decide) (by omega)
    exact Nat.le_trans this (by decide)
  have e1 : IntKind.u64.wrap ((z : Int) * 256) = ((z * 256 : Nat) : Int) := by rw [IntKind.wrap_u64, Int.emod_eq_of_lt (by omega) (by omega)]; exact (Int.natCast_mul z 256).symm
  have e2 : IntKind.u64.wrap (xn : Int) = (xn : Int) := by rw [IntKind.wrap_u64]; omega
  rw [e1, e2, bits_or_u64_nat _ _ (by omega) (by omega)]
  refine ⟨_, rfl, ?_⟩
  have e3 : (256 : Nat) ^ (j + 1) = 2 ^ (8 * (j + 1)) := by rw [show (256 : Nat) = 2 ^ 8 from rfl, ← Nat.pow_mul]
  rw [e3] at h1 ⊢
  refine Nat.or_lt_two_pow h1 (Nat.lt_of_lt_of_le hx ?_)
  have : (2 : Nat) ^ 8 ≤ 2 ^ (8 * (j + 1)) := Nat.pow_le_pow_right (by decide) (by omega)
  exact Nat.le_trans (by decide) this
set_option maxRecDepth 100000 in
set_option maxHeartbeats 8000000 in
theorem number21_any (B : Nat) (w0 : World) (rb n len cap : Nat) (a : Option Addr) (l : List UInt8) (w : World) (hb : Below B w0 w) (hrb : B ≤ rb) (hbox : w.heap[rb]? = some (.cells #[.slice a len cap] 47 (0, 0))) (hc : BytesC (cfU B w0) a len cap l) (hn : n ≤ 8) :
    Calls Tryz.prog 13 #[.pointer (some ⟨rb, 0, none⟩), .int .i64 (n : Int)] w (NumPostV (cfU B w0) rb n w) := by
  have HTK := Hold.mk (take21_any (cfU B w0) rb n len cap a l w hbox hc (by omega))
  have HB := Hold.mk hb
  have HN := Hold.mk hn
  clear hbox hc hb
  go_enter Tryz.func13, Tryz.ntmps13
  go_wp2_with fail
  refine HTK.out.mono ?_
  rintro e w1 ⟨a1, c1, a2, n2, c2, rfl, h1, h2, hw1⟩
  obtain ⟨m, hm⟩ : ∃ m, m = l.take n := ⟨_, rfl⟩
  rw [← hm] at h1 ⊢
  have HM : Hold (m.length ≤ n) := ⟨by rw [hm, List.length_take]; omega⟩
  have H1 := Hold.mk h1
  have H2 := Hold.mk h2
  have HW1 := Hold.mk hw1
  have HB1 : Hold (Below B w0 w1) := ⟨by rw [hw1]; exact HB.out.setCell (p := ⟨rb, 0, none⟩) hrb _⟩
  clear h1 h2 hm HTK hw1 HB
  have hml : m.length ≤ 8 := by have := HM.out; have := HN.out; omega
  go_wp2_with fail
  go_loopw [5, 12] (fun x i wr => ∃ (j z : Nat), i = .int .i64 j ∧ x = .int .u64 (z : Int) ∧ j ≤ m.length ∧ z < 256 ^ j ∧ wr = w1) (fun _ i _ => m.length - (intOf i).toNat)
  case atStart => exact ⟨0, 0, rfl, rfl, Nat.zero_le _, by decide, rfl⟩
  case round =>
    obtain ⟨j, z, rfl, rfl, hj, hz, hwr⟩ := hrel
    subst hwr
    by_cases hlt : j < m.length
    · obtain ⟨x, hx⟩ : ∃ x, m[j]? = some x := ⟨m[j], List.getElem?_eq_getElem hlt⟩
      obtain ⟨b, off, rfl, hcell⟩ := H1.out.byte hx
      have y0 := cfU_keep HB1.out _ _ _ hcell
      unfold cf at y0
      have HZ := Hold.mk hz
      have HX : Hold (x.toNat < 256) := ⟨x.toNat_lt⟩
      obtain ⟨xn, hxn⟩ : ∃ xn, xn = x.toNat := ⟨_, rfl⟩
      rw [← hxn] at y0 HX
      clear hx hcell hz hxn
      obtain ⟨z2, he, hz2⟩ := next_byteV HZ.out (by omega) HX.out
      have HE := Hold.mk he
      have HZ2 := Hold.mk hz2
      clear he hz2
      go_wp2_with fail
      exact ⟨⟨j + 1, z2, by go_num, by rw [HE.out], hlt, HZ2.out, trivial⟩, by simp [intOf]; omega⟩
    · obtain rfl : j = m.length := by omega
      have HZ := Hold.mk hz
      clear hz
      go_wp2_with fail
      go_ret
      refine ⟨z, _, _, _, _, rfl, Nat.lt_of_lt_of_le HZ.out (Nat.pow_le_pow_right (by decide) HM.out), H2.out, HW1.out⟩
end Go.Proofs.YticlnijkfclgcaaGreatDoor
