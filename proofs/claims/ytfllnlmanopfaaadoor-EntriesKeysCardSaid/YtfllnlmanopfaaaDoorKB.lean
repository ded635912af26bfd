/- Keys of the program: bytes appended to a row of a call's own; append64, text. -/
import Derived.Test.YtfllnlmanopfaaaDoorKA
import Derived.Deep.AppendLies
namespace Go.Proofs.YtfllnlmanopfaaaDoor
open Go.RowKit

theorem infoB : (Tryd.prog.info? 5).map (fun i => (i.zero, i.size, i.bytes)) = some (some (.int .u8 0), 1, 1) := by kernel_rfl

/-- bytes that lie in the last block are appended -/
theorem wp_app_new {o : Oper} {a : Act} {K : Act → World → Prop} {Q : Exit → Act → World → Prop} (s x : Operand) (ho : o.op = .call { callee := .builtin .append, args := #[s, x], argTypes := #[55, 55] })
    (B : Nat) (w : World) (sv : Value) (l : List UInt8) (hb : BRow B w sv l) (hs : a.eval s = sv) (vs : Array Value) (m : List UInt8) (hvs : vs.toList = bv m) (H : Nat) (hx : a.eval x = .slice (some ⟨H, 0, none⟩) m.length m.length) (hH : w.heap.size = H) (hm : 0 < m.length) (hlen : l.length + m.length ≤ 140737488355328)
    (h : ∀ sv' w', BRow B w' sv' (l ++ m) → Grew w w' sv sv' → K (a.put o.dst sv') w') : o.wp Tryd.prog a (w.alloc (.cells vs 5)) K Q := by
  subst hH
  obtain ⟨i0, hi, hz0, hz1, hz2⟩ := info_parts infoB
  have hb2 := hb.alloc (.cells vs 5)
  refine wp_append_lies _ s x 55 ho B 5 i0 (.int .u8 0) 1 1 Tryd.underlying55 hi hz0 hz1 hz2 rfl (by decide) sv l.length (bv l) hs hb2.own ⟨w.heap.size, 0, none⟩ m.length m.length (bv m) hx (by rw [bv_len]; omega) ?_ (bv_one m) hm (by unfold maxLen; omega) (by omega) hb2.le _ rfl ?_
  · rw [← hvs]; exact World.news_of_block (heap_alloc_new w _)
  · intro g cap w' ho' hg hgg _
    refine h _ w' ⟨by rw [List.length_append, bv_app]; exact ho', Nat.le_trans hb2.le hg.size⟩ (((Grew.refl w sv).alloc _).trans ⟨hg, fun q hq => ?_⟩)
    obtain rfl : g = q := by simpa [Value.ownBlock] using hq
    rcases hgg with h1 | h1
    · exact .inl h1
    · exact .inr (by omega)
theorem app_new {ops : Array Oper} {rest : List Oper} {o : Oper} {a : Act} {Q : Exit → Act → World → Prop} (hgd : o.guard = none) (s x : Operand) (ho : o.op = .call { callee := .builtin .append, args := #[s, x], argTypes := #[55, 55] })
    (B : Nat) (w : World) (sv : Value) (l : List UInt8) (hb : BRow B w sv l) (hs : a.eval s = sv) (vs : Array Value) (m : List UInt8) (hvs : vs.toList = bv m) (H : Nat) (hx : a.eval x = .slice (some ⟨H, 0, none⟩) m.length m.length) (hH : w.heap.size = H) (hm : 0 < m.length) (hlen : l.length + m.length ≤ 140737488355328)
    (h : ∀ sv' w', BRow B w' sv' (l ++ m) → Grew w w' sv sv' → wpList Tryd.prog ops Q rest (a.put o.dst sv') w') : wpList Tryd.prog ops Q (o :: rest) a (w.alloc (.cells vs 5)) :=
  wpList_plain hgd fun _ hK => wp_app_new s x ho B w sv l hb hs vs m hvs H hx hH hm hlen fun sv' w' h1 h2 => hK _ _ (h sv' w' h1 h2)

/-- a row of bytes is handed back, longer -/
def PutPost (B : Nat) (sv : Value) (l : List UInt8) (w : World) (e : Ending) (w' : World) : Prop := ∃ s1, e = .returned s1 ∧ BRow B w' s1 l ∧ Grew w w' sv s1

theorem escK_take {s : ByteArray} {j : Nat} {c : UInt8} (h : s.data.toList[j]? = some c) : (s.data.toList.take (j + 1)).flatMap escK = (s.data.toList.take j).flatMap escK ++ escK c := by
  rw [take_succ h, List.flatMap_append]; simp

set_option maxRecDepth 100000 in
set_option maxHeartbeats 4000000 in
theorem text4_any (B : Nat) (sv : Value) (l : List UInt8) (s : ByteArray) (w : World) (hb : BRow B w sv l) (hs : s.size ≤ 1000000) (hl : l.length + (2 * s.size + 2) ≤ 140737488355328) :
    Calls Tryd.prog 172 #[sv, .string s] w (PutPost B sv (l ++ textK s.data.toList) w) := by
  obtain ⟨sa, scap, rfl, _⟩ := hb.shape
  have HB := Hold.mk hb
  have HL := Hold.mk hl
  clear hb hl
  go_enter Tryd.func172, Tryd.ntmps172
  go_wp2_with fail
  go_loopw [0, 8] (fun v i wr => ∃ j : Nat, i = .int .i64 j ∧ j ≤ s.size ∧ BRow B wr v (l ++ (s.data.toList.take j).flatMap escK) ∧ Grew w wr (.slice sa l.length scap) v) (fun _ i _ => s.size - (intOf i).toNat)
  case atStart => exact ⟨0, rfl, Nat.zero_le _, by simpa using HB.out, Grew.refl _ _⟩
  case round =>
    obtain ⟨j, rfl, hj, hbr, hbl⟩ := hrel
    obtain ⟨l1, hl1⟩ : ∃ l1, l1 = l ++ (s.data.toList.take j).flatMap escK := ⟨_, rfl⟩
    rw [← hl1] at hbr
    obtain ⟨ja, jcap, rfl, _⟩ := hbr.shape
    have HBR := Hold.mk hbr
    have HBL := Hold.mk hbl
    have HL1 := Hold.mk hl1
    have hlen : l1.length ≤ l.length + 2 * j := by
      rw [hl1, List.length_append]
      have := textK_len (s.data.toList.take j)
      unfold textK at this
      rw [List.length_append, List.length_take] at this
      simp only [List.length_cons, List.length_nil] at this
      omega
    clear hbr hbl hl1
    by_cases hlt : j < s.size
    · have hc : s.data.toList[j]? = some s[j] := by
        rw [List.getElem?_eq_getElem (by rw [size_list]; exact hlt)]; rfl
      have HST := Hold.mk (escK_take hc)
      clear hc
      by_cases h0 : s[j] = 0
      · have hz : ((s[j].toNat : Int) == 0) = true := by rw [h0]; rfl
        have HE : Hold (escK s[j] = [s[j]] ++ [255]) := ⟨by rw [h0]; rfl⟩
        have HFIT : Hold (l1.length + 2 ≤ 140737488355328) := ⟨by have := HL.out; omega⟩
        clear h0 hlen
        go_wp2_with (at_builtin; refine app_new rfl _ _ rfl B _ _ _ HBR.out rfl _ [s[j]] rfl _ rfl (by simp) (Nat.succ_pos _) (by have := HFIT.out; simp; omega) ?_)
        intro sv2 w2 hb2 hbl2
        obtain ⟨ka, kcap, rfl, _⟩ := hb2.shape
        have HB2 := Hold.mk hb2
        replace HBL := Hold.mk (HBL.out.trans hbl2)
        clear hb2 hbl2 HBR
        obtain ⟨l2, hl2⟩ : ∃ l2, l2 = l1 ++ [s[j]] := ⟨_, rfl⟩
        rw [← hl2] at HB2 HBL ⊢
        have HFIT2 : Hold (l2.length + 1 ≤ 140737488355328) := ⟨by have := HFIT.out; rw [hl2]; simp; omega⟩
        have HL2 := Hold.mk hl2
        clear hl2
        go_wp2_with (at_builtin; refine app_new rfl _ _ rfl B _ _ _ HB2.out rfl _ [255] rfl _ rfl (by simp) (Nat.succ_pos _) (by have := HFIT2.out; simp; omega) ?_)
        intro sv3 w3 hb3 hbl3
        have HB3 : Hold (BRow B w3 sv3 (l ++ (s.data.toList.take (j + 1)).flatMap escK)) := ⟨by rw [HST.out, HE.out, ← List.append_assoc, ← List.append_assoc, ← HL1.out, ← HL2.out]; exact hb3⟩
        replace HBL := Hold.mk (HBL.out.trans hbl3)
        clear hb3 hbl3
        go_wp2_with fail
        exact ⟨⟨j + 1, by go_num, hlt, HB3.out, HBL.out⟩, by simp [intOf]; omega⟩
      · have hz : ((s[j].toNat : Int) == 0) = false := by
          rw [beq_eq_false_iff_ne]; intro e; exact h0 (UInt8.toNat_inj.1 (by simpa using e))
        have HE : Hold (escK s[j] = [s[j]]) := ⟨by unfold escK; rw [if_neg h0]⟩
        have HFIT : Hold (l1.length + 1 ≤ 140737488355328) := ⟨by have := HL.out; omega⟩
        clear h0 hlen
        go_wp2_with (at_builtin; refine app_new rfl _ _ rfl B _ _ _ HBR.out rfl _ [s[j]] rfl _ rfl (by simp) (Nat.succ_pos _) (by have := HFIT.out; simp; omega) ?_)
        intro sv3 w3 hb3 hbl3
        have HB3 : Hold (BRow B w3 sv3 (l ++ (s.data.toList.take (j + 1)).flatMap escK)) := ⟨by rw [HST.out, HE.out, ← List.append_assoc, ← HL1.out]; exact hb3⟩
        replace HBL := Hold.mk (HBL.out.trans hbl3)
        clear hb3 hbl3
        go_wp2_with fail
        exact ⟨⟨j + 1, by go_num, hlt, HB3.out, HBL.out⟩, by simp [intOf]; omega⟩
    · obtain rfl : j = s.size := by omega
      have HFIT : Hold (l1.length + 2 ≤ 140737488355328) := ⟨by have := HL.out; omega⟩
      clear hlen
      go_wp2_with (at_builtin; refine app_new rfl _ _ rfl B _ _ _ HBR.out rfl _ [0, 0] rfl _ rfl (by simp) (Nat.succ_pos _) (by have := HFIT.out; simp; omega) ?_)
      intro sv3 w3 hb3 hbl3
      have HB3 : Hold (BRow B w3 sv3 (l ++ textK s.data.toList)) := ⟨by unfold textK; rw [HL1.out, List.take_of_length_le (by rw [size_list]; omega), List.append_assoc] at hb3; exact hb3⟩
      replace HBL := Hold.mk (HBL.out.trans hbl3)
      clear hb3 hbl3
      go_wp2_with fail
      go_ret
      exact ⟨_, rfl, HB3.out, HBL.out⟩

theorem be_get (x : Nat) {j : Nat} (h : j < 8) : (be64 x)[j]? = some (x / 2 ^ (56 - 8 * j)).toUInt8 := by
  match j, h with
  | 0, _ => rfl
  | 1, _ => rfl
  | 2, _ => rfl
  | 3, _ => rfl
  | 4, _ => rfl
  | 5, _ => rfl
  | 6, _ => rfl
  | 7, _ => simp [be64]
theorem be_cell (x j : Nat) : (((x / 2 ^ (56 - 8 * j)).toUInt8.toNat : Nat) : Int) = (x : Int) / 2 ^ (56 - 8 * j) % 256 := by
  have h : (x / 2 ^ (56 - 8 * j)).toUInt8.toNat = x / 2 ^ (56 - 8 * j) % 256 := by simp
  rw [h]; simp

set_option maxRecDepth 100000 in
set_option maxHeartbeats 4000000 in
theorem append64_any (B : Nat) (sv : Value) (l : List UInt8) (x : Nat) (w : World) (hb : BRow B w sv l) (hl : l.length + 8 ≤ 140737488355328) :
    Calls Tryd.prog 171 #[sv, .int .u64 (x : Int)] w (PutPost B sv (l ++ be64 x) w) := by
  obtain ⟨sa, scap, rfl, _⟩ := hb.shape
  have HB := Hold.mk hb
  have HL := Hold.mk hl
  clear hb hl
  go_enter Tryd.func171, Tryd.ntmps171
  go_wp2_with fail
  go_loopw [0, 5] (fun v i wr => ∃ j : Nat, i = .int .i64 (56 - 8 * (j : Int)) ∧ j ≤ 8 ∧ BRow B wr v (l ++ (be64 x).take j) ∧ Grew w wr (.slice sa l.length scap) v) (fun _ i _ => (intOf i + 8).toNat)
  case atStart => exact ⟨0, rfl, Nat.zero_le _, by simpa using HB.out, Grew.refl _ _⟩
  case round =>
    obtain ⟨j, rfl, hj, hbr, hbl⟩ := hrel
    obtain ⟨l1, hl1⟩ : ∃ l1, l1 = l ++ (be64 x).take j := ⟨_, rfl⟩
    rw [← hl1] at hbr
    obtain ⟨ja, jcap, rfl, _⟩ := hbr.shape
    have HBR := Hold.mk hbr
    have HBL := Hold.mk hbl
    have HL1 := Hold.mk hl1
    have hlen : l1.length ≤ l.length + j := by
      rw [hl1, List.length_append, List.length_take]; omega
    clear hbr hbl hl1
    by_cases hlt : j < 8
    · have HFIT : Hold (l1.length + 1 ≤ 140737488355328) := ⟨by have := HL.out; omega⟩
      clear hlen
      have hc := be_get x hlt
      have hcv := be_cell x j
      have HC : Hold ((be64 x).take (j + 1) = (be64 x).take j ++ [(x / 2 ^ (56 - 8 * j)).toUInt8]) := ⟨take_succ hc⟩
      have HCV := Hold.mk hcv
      clear hc hcv
      go_wp2_with (at_builtin; refine app_new rfl _ _ rfl B _ _ _ HBR.out rfl _ [(x / 2 ^ (56 - 8 * j)).toUInt8] (by simp only [bv, List.map_cons, List.map_nil]; rw [HCV.out]) _ rfl (by simp) (Nat.succ_pos _) (by have := HFIT.out; simp; omega) ?_)
      intro sv3 w3 hb3 hbl3
      have HB3 : Hold (BRow B w3 sv3 (l ++ (be64 x).take (j + 1))) := ⟨by rw [HC.out, ← List.append_assoc, ← HL1.out]; exact hb3⟩
      replace HBL := Hold.mk (HBL.out.trans hbl3)
      clear hb3 hbl3
      go_wp2_with fail
      exact ⟨⟨j + 1, by go_num, hlt, HB3.out, HBL.out⟩, by simp [intOf]; omega⟩
    · obtain rfl : j = 8 := by omega
      clear hlen
      go_wp2_with fail
      go_ret
      have HB9 : Hold (BRow B wr (.slice ja l1.length jcap) (l ++ be64 x)) := ⟨by have e : l1 = l ++ be64 x := HL1.out; rw [← e]; exact HBR.out⟩
      exact ⟨_, rfl, HB9.out, HBL.out⟩

end Go.Proofs.YtfllnlmanopfaaaDoor
