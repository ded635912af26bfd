/- Keys of the reference: Same, Less. -/
import Derived.Test.YticlnijkfclgcaaGreatDoorZ09
import Derived.Test.YticlnijkfclgcaaGreatDoorZ20
import Derived.Test.YticlnijkfclgcaaGreatDoorZ21
import Derived.Test.YticlnijkfclgcaaGreatDoorZ23
import Derived.Test.YticlnijkfclgcaaGreatDoorZ38
import Derived.Test.YticlnijkfclgcaaGreatDoorZ41
import Derived.Lib.AppendStr
namespace Go.Proofs.YticlnijkfclgcaaGreatDoor
open Go.RowKit

/-- a slice of bytes -/
def BytesAt (c : CF) (v : Value) (l : List UInt8) : Prop :=
  ∃ a cap, v = .slice a l.length cap ∧ l.length ≤ 9223372036854775807 ∧ ∀ (i : Nat) x, l[i]? = some x → ∃ b off, a = some ⟨b, off, none⟩ ∧ c b (off + i) = some (.int .u8 (x.toNat : Int))
theorem BytesAt.mono {c d : CF} {v : Value} {l : List UInt8} (h : BytesAt c v l) (hl : CLe c d) : BytesAt d v l := by
  obtain ⟨a, cap, hv, hm, hs⟩ := h
  refine ⟨a, cap, hv, hm, fun i s hi => ?_⟩
  obtain ⟨b, off, h2, h3⟩ := hs i s hi
  exact ⟨b, off, h2, hl _ _ _ h3⟩
theorem BRow.bytesA {B : Nat} {w : World} {sv : Value} {l : List UInt8} (h : BRow B w sv l) : BytesAt (cfA B w) sv l := by
  obtain ⟨a, cap, rfl, hl⟩ := h.shape
  refine ⟨a, cap, rfl, hl, fun i x hi => ?_⟩
  rcases id h.own.2 with ⟨hv, hn⟩ | ⟨g, cap2, cur, hv, hb, hh, _⟩
  · have := List.length_eq_zero_iff.1 hn
    rw [this] at hi; simp at hi
  · injection hv with h1 h2 h3
    subst h1
    refine ⟨g, 0, rfl, ?_⟩
    have := h.own.cells (g := g) rfl i _ (bv_get hi)
    rw [addr_at] at this
    unfold cfA; rw [Nat.zero_add, if_pos hb]; exact this
theorem BRow.bytes {B : Nat} {w : World} {sv : Value} {l : List UInt8} (h : BRow B w sv l) : BytesAt (cf w) sv l := h.bytesA.mono (cfA_le _ _)
end Go.Proofs.YticlnijkfclgcaaGreatDoor

/- Records: bytes and strings appended; append64, append16 of the program. -/
namespace Go.Proofs.YticlnijkfclgcaaGreatDoor
open Go.Shelf Go.RowKit

/-- a row of bytes is handed back, longer; all else stands -/
def RowPost (B : Nat) (sv : Value) (l : List UInt8) (w : World) (e : Ending) (w' : World) : Prop := ∃ s1, e = .returned s1 ∧ BRow B w' s1 l ∧ w.grownBy w' sv.ownBlock
set_option maxRecDepth 100000 in
theorem app_str {ops : Array Oper} {rest : List Oper} {o : Oper} {a : Act} {Q : Exit → Act → World → Prop} (hgd : o.guard = none) (sl x : Operand) (ho : o.op = .call { callee := .builtin .append, args := #[sl, x], argTypes := #[29, 9] })
    (B : Nat) (w : World) (sv : Value) (l : List UInt8) (hb : BRow B w sv l) (hs : a.eval sl = sv) (s : ByteArray) (hx : a.eval x = .string s) (hlen : l.length + s.size ≤ 140737488355328)
    (h : ∀ sv' w', BRow B w' sv' (l ++ s.data.toList) → w.grownBy w' sv.ownBlock → wpList Tryz.prog ops Q rest (a.put o.dst sv') w') : wpList Tryz.prog ops Q (o :: rest) a w := by
  obtain ⟨i0, hi, hz0, hz1, hz2⟩ := info_parts infoB
  refine Lib.wpList_append_own_string w hgd sl x 29 9 ho B 5 i0 Tryz.underlying29 Tryz.underlying9 hi hz0 hz1 hz2 sv l.length (bv l) hs hb.own s hx (by unfold maxLen; omega) hlen hb.le ?_
  intro v' w' h1 h2 _
  refine h v' w' ⟨?_, Nat.le_trans hb.le h2.size⟩ h2
  rw [List.length_append, bv_app, len_list]
  exact h1
set_option maxRecDepth 100000 in
set_option maxHeartbeats 4000000 in
theorem append64R_any (B : Nat) (sv : Value) (l : List UInt8) (x : Nat) (w : World) (hb : BRow B w sv l) (hl : l.length + 8 ≤ 140737488355328) :
    Calls Tryz.prog 11 #[sv, .int .u64 (x : Int)] w (PutPostK B sv (l ++ be64 x) w) := by
  obtain ⟨sa, scap, rfl, _⟩ := hb.shape
  have HB := Hold.mk hb
  have HL := Hold.mk hl
  clear hb hl
  go_enter Tryz.func11, Tryz.ntmps11
  go_wp2_with fail
  go_loopw [0, 5] (fun v i wr => ∃ j : Nat, i = .int .i64 (56 - 8 * (j : Int)) ∧ j ≤ 8 ∧ BRow B wr v (l ++ (be64 x).take j) ∧ Grew w wr (.slice sa l.length scap) v) (fun _ i _ => (intOf i + 8).toNat)
  case atStart => exact ⟨0, rfl, Nat.zero_le _, by simpa using HB.out, Grew.refl _ _⟩
  case round =>
    obtain ⟨j, rfl, hj, hbr, hbl⟩ := hrel
    obtain ⟨l1, hl1⟩ : ∃ l1, l1 = l ++ (be64 x).take j := ⟨_, rfl⟩
    rw [← hl1] at hbr
    obtain ⟨ja, jcap, rfl, _⟩ := hbr.shape
    have HBR := Hold.mk hbr
    have HBL := Hold.mk hbl
    have HL1 := Hold.mk hl1
    have hlen : l1.length ≤ l.length + j := by
      rw [hl1, List.length_append, List.length_take]; omega
    clear hbr hbl hl1
    by_cases hlt : j < 8
    · have HFIT : Hold (l1.length + 1 ≤ 140737488355328) := ⟨by have := HL.out; omega⟩
      clear hlen
      have hc := be_get x hlt
      have hcv := be_cell x j
      have HC : Hold ((be64 x).take (j + 1) = (be64 x).take j ++ [(x / 2 ^ (56 - 8 * j)).toUInt8]) := ⟨take_succ hc⟩
      have HCV := Hold.mk hcv
      clear hc hcv
      go_wp2_with (at_builtin; refine app_new rfl _ _ rfl B _ _ _ HBR.out rfl _ [(x / 2 ^ (56 - 8 * j)).toUInt8] (by simp only [bv, List.map_cons, List.map_nil]; rw [HCV.out]) _ rfl (by simp) (Nat.succ_pos _) (by have := HFIT.out; simp; omega) ?_)
      intro sv3 w3 hb3 hbl3
      have HB3 : Hold (BRow B w3 sv3 (l ++ (be64 x).take (j + 1))) := ⟨by rw [HC.out, ← List.append_assoc, ← HL1.out]; exact hb3⟩
      replace HBL := Hold.mk (HBL.out.trans hbl3)
      clear hb3 hbl3
      go_wp2_with fail
      exact ⟨⟨j + 1, by go_num, hlt, HB3.out, HBL.out⟩, by simp [intOf]; omega⟩
    · obtain rfl : j = 8 := by omega
      clear hlen
      go_wp2_with fail
      go_ret
      have HB9 : Hold (BRow B wr (.slice ja l1.length jcap) (l ++ be64 x)) := ⟨by have e : l1 = l ++ be64 x := HL1.out; rw [← e]; exact HBR.out⟩
      exact ⟨_, rfl, HB9.out, HBL.out⟩
theorem be16_cells (x : Nat) : (((x / 256).toUInt8.toNat : Nat) : Int) = (x : Int) / 256 % 256 ∧ ((x.toUInt8.toNat : Nat) : Int) = (x : Int) % 256 := by
  constructor <;> simp
set_option maxRecDepth 100000 in
set_option maxHeartbeats 4000000 in
theorem append16R_any (B : Nat) (sv : Value) (l : List UInt8) (x : Nat) (w : World) (hx : x < 65536) (hb : BRow B w sv l) (hl : l.length + 2 ≤ 140737488355328) :
    Calls Tryz.prog 12 #[sv, .int .u16 (x : Int)] w (RowPost B sv (l ++ be16 x) w) := by
  obtain ⟨sa, scap, rfl, _⟩ := hb.shape
  have HB := Hold.mk hb
  have HL := Hold.mk hl
  have HX := Hold.mk hx
  have HC := Hold.mk (be16_cells x)
  clear hb hl hx
  go_enter Tryz.func12, Tryz.ntmps12
  go_wp2_with (at_builtin; refine app_new rfl _ _ rfl B _ _ _ HB.out rfl _ (be16 x) (by simp only [bv, be16, List.map_cons, List.map_nil]; rw [HC.out.1, HC.out.2]) _ rfl (by simp) (Nat.succ_pos _) (by have := HL.out; simp [be16]; omega) ?_)
  intro sv3 w3 hb3 hbl3
  have HB3 := Hold.mk hb3
  have HG3 := Hold.mk hbl3.by_
  clear hb3 hbl3
  go_wp2_with fail
  go_ret
  exact ⟨_, rfl, HB3.out, HG3.out⟩
end Go.Proofs.YticlnijkfclgcaaGreatDoor

/- Records: a catalog's text; formed records. -/
namespace Go.Proofs.YticlnijkfclgcaaGreatDoor
open Go.Shelf Go.RowKit

theorem formed_items {n : Nat} {v : JV} (h : formedF (n + 1) v = true) : v.items.length ≤ 24 ∧ (∀ i ∈ v.items, formedF n i = true) ∧ v.text.size ≤ 60 := by
  obtain ⟨k, m, t, nm, it⟩ := v
  rw [formedF, Bool.and_eq_true] at h
  have h1 := of_decide_eq_true h.1
  have ht : t.size ≤ 60 := by
    have h2 := h1.2.2.2.2
    unfold textF at h2
    rw [Bool.and_eq_true] at h2
    first
      | exact of_decide_eq_true h2.1
      | exact of_decide_eq_true h2.2
  have h2 := h.2
  split at h2
  · have h3 := of_decide_eq_true h2
    have : it = [] := List.length_eq_zero_iff.1 h3.1
    subst this
    exact ⟨by simp [JV.items], fun i hi => by simp [JV.items] at hi, ht⟩
  · rw [Bool.and_eq_true] at h2
    have h3 := h2.1
    unfold bodyOk at h3
    simp only [Bool.and_eq_true] at h3
    exact ⟨of_decide_eq_true h3.1.1.1, fun i hi => List.all_eq_true.1 h2.2 i hi, ht⟩
theorem formed_parsable {v : JV} (h : formedF 6 v = true) : (∀ r ∈ v.items, ∀ c ∈ r.items, parsable c) ∧ v.items.length ≤ 1000 := by
  obtain ⟨h1, h2, _⟩ := formed_items h
  refine ⟨fun r hr c hc i hi => ?_, by omega⟩
  obtain ⟨_, h3, _⟩ := formed_items (h2 r hr)
  obtain ⟨_, h4, _⟩ := formed_items (h3 c hc)
  obtain ⟨h5, h6, _⟩ := formed_items (h4 i hi)
  exact ⟨by omega, fun j hj => by have := (formed_items (h6 j hj)).2.2; omega⟩
set_option maxRecDepth 100000 in
set_option maxHeartbeats 16000000 in
theorem text21_any (s : ByteArray) (w : World) (hs : s.size ≤ 1000000) (hT : Tabs w) (hP : Pow w.heap.size w) (hE : Errs w.heap.size w) :
    Calls Tryz.prog 16 #[.string s] w fun e w' => e = .returned (.bool (textC s)) ∧ Below w.heap.size w w' := by
  have HT := Hold.mk hT
  have HP := Hold.mk hP
  have HR := Hold.mk (Read_any s w hs hT hE)
  have HTX : Hold (textC s = (decide ((readF s.data.toList).2 = 0) && decide ((parseC (readF s.data.toList).1).2 = 0) && decide (printS (readF s.data.toList).1 = s) && decide ((readF s.data.toList).1.kind = 5))) := ⟨rfl⟩
  generalize textC s = tx at HTX ⊢
  have HRF := Hold.mk (@read_formed s.data.toList)
  clear hT hP hE hs
  go_enter Tryz.func16, Tryz.ntmps16
  go_wp2_with fail
  refine HR.out.mono ?_
  rintro e w1 ⟨hb1, x, rfl, hx⟩
  obtain ⟨v, hv⟩ : ∃ v, v = (readF s.data.toList).1 := ⟨_, rfl⟩
  obtain ⟨er, her⟩ : ∃ er, er = (readF s.data.toList).2 := ⟨_, rfl⟩
  rw [← hv, ← her] at HTX HRF
  rw [← hv] at hx
  rw [← her]
  have HB1 := Hold.mk hb1
  have HV := Hold.mk (hx.mono (cfF_cf _ _))
  obtain ⟨k, n, t, nm, it, na, ncap, ia, icap, hve, rfl, _⟩ := hx.open
  have HK : Hold (v.kind = k) := ⟨by rw [hve]; rfl⟩
  obtain ⟨W2, hW2⟩ : ∃ W2, W2 = w1.alloc (.cells #[.int .i64 k, .int .i64 n, .string t, .slice na nm.length ncap, .slice ia it.length icap] 58) := ⟨_, rfl⟩
  have hb2 : Below w1.heap.size w1 W2 := by rw [hW2]; exact (Below.refl _ w1).alloc (Nat.le_refl _) _
  have HX2 : Hold (W2.heap[w1.heap.size]? = some (.cells #[.int .i64 k, .int .i64 n, .string t, .slice na nm.length ncap, .slice ia it.length icap] 58 (0, 0))) := ⟨by rw [hW2]; exact heap_alloc_new w1 _⟩
  have HB2 := Hold.mk (hb1.trans (hb2.mono hb1.size))
  have HV2 := Hold.mk (HV.out.mono (cle_below hb2))
  obtain ⟨vb, hvb⟩ : ∃ vb, vb = w1.heap.size := ⟨_, rfl⟩
  rw [← hvb] at HX2
  clear hv her hb1 hx hve hb2 HR
  by_cases h0 : er = 0
  · subst h0
    have HF := Hold.mk (HRF.out rfl)
    have HPA := Hold.mk (formed_parsable HF.out)
    obtain ⟨⟨pl, pe⟩, hpe⟩ : ∃ p, p = parseC v := ⟨_, rfl⟩
    have HPC := Hold.mk (ParseC_any v _ W2 HV2.out HPA.out.1 HPA.out.2 (HT.out.below HB2.out))
    rw [← hpe] at HTX HPC
    clear hpe
    obtain ⟨y0, y1, y2, y3, y4⟩ := cells_five HX2.out
    go_upto_region 4 with (fail)
    rw [← hW2, ← hvb]
    clear hW2 hvb
    go_wp2_with fail
    clear y0 y1 y2 y3 y4
    refine HPC.out.mono ?_
    rintro e w3 ⟨cv, rfl, _, hb3⟩
    have HX3 := Hold.mk (kept HX2.out hb3)
    have HV3 := Hold.mk (HV2.out.mono (cle_below hb3))
    have HB3 := Hold.mk (HB2.out.trans (hb3.mono HB2.out.size))
    clear hb3 HPC
    have HPR := Hold.mk (Print_any v _ w3 HV3.out (HT.out.below HB3.out) (Pow.below HP.out HB3.out))
    obtain ⟨pt, hpt⟩ : ∃ pt, pt = printS v := ⟨_, rfl⟩
    rw [← hpt] at HTX HPR
    clear hpt
    obtain ⟨y0, y1, y2, y3, y4⟩ := cells_five HX3.out
    go_wp2_with fail
    clear y0 y1 y2 y3 y4
    refine HPR.out.mono ?_
    rintro e w4 ⟨rfl, hb4⟩
    have HX4 := Hold.mk (kept HX3.out hb4)
    have HB4 := Hold.mk (HB3.out.trans (hb4.mono HB3.out.size))
    clear hb4 HPR
    obtain ⟨y0, y1, y2, y3, y4⟩ := cells_five HX4.out
    simp only at HTX ⊢
    by_cases h1 : pe = 0
    · subst h1
      by_cases h2 : pt = s
      · have h2' : (pt.toList == s.toList) = true := by rw [h2]; simp
        by_cases h3 : k = 5
        · have h3' : (k == 5) = true := by simpa using h3
          have HR : Hold (tx = true) := ⟨by rw [HTX.out, HK.out]; simp [h2, h3]⟩
          clear HTX HK h2 h3
          go_wp2_with fail
          go_ret
          exact ⟨by rw [HR.out] <;> rfl, HB4.out⟩
        · have h3' : (k == 5) = false := by simpa using h3
          have HR : Hold (tx = false) := ⟨by rw [HTX.out, HK.out]; simp [h3]⟩
          clear HTX HK h2 h3
          go_wp2_with fail
          go_ret
          exact ⟨by rw [HR.out] <;> rfl, HB4.out⟩
      · have h2' := str_ne h2
        have HR : Hold (tx = false) := ⟨by rw [HTX.out]; simp [h2]⟩
        clear HTX HK h2
        go_wp2_with fail
        go_ret
        exact ⟨by rw [HR.out] <;> rfl, HB4.out⟩
    · have h1' : (pe == 0) = false := by simpa using h1
      have HR : Hold (tx = false) := ⟨by rw [HTX.out]; simp [h1]⟩
      clear HTX HK h1
      go_wp2_with fail
      go_ret
      exact ⟨by rw [HR.out] <;> rfl, HB4.out⟩
  · have h0' : (er != 0) = true := by simpa using h0
    have HR : Hold (tx = false) := ⟨by rw [HTX.out]; simp [h0]⟩
    clear HTX HRF HK h0
    go_upto_region 2 with (fail)
    rw [← hW2, ← hvb]
    clear hW2 hvb
    go_wp2_with fail
    go_ret
    exact ⟨by rw [HR.out] <;> rfl, HB2.out⟩
end Go.Proofs.YticlnijkfclgcaaGreatDoor
