/- quoted of the printer. -/
import Derived.Test.YtdhilnnohokoeaaDoorPA
import Derived.Test.YtdhilnnohokoeaaDoorJD
import Derived.Test.YtdhilnnohokoeaaDoorPLays
import Derived.Shelf.Small.Strs
import Derived.StillTailTactics
namespace Go.Proofs.YtdhilnnohokoeaaDoor
open Go.Shelf Go.RowKit

/-- the printer at b holds these bytes -/
def PB (B b : Nat) (l : List UInt8) (w : World) : Prop := Lib.IsBuilderF 53 5 B b (Lib.byteCells l) w
/-- what a writing call leaves as it was -/
structure Keep (B b : Nat) (w w' : World) : Prop where
  below : Below B w w'
  others : Lib.OthersKept 5 (some b) w w'
theorem Keep.refl (B b : Nat) (w : World) : Keep B b w w := ⟨Below.refl _ _, Lib.OthersKept.refl _ _ _⟩
theorem Keep.trans {B b : Nat} {a c d : World} (h : Keep B b a c) (k : Keep B b c d) : Keep B b a d := ⟨h.below.trans k.below, h.others.trans k.others⟩
theorem Keep.drew {B b : Nat} {a c : World} (h : Keep B b a c) : Keep B b a c.drew := ⟨h.below.drew, h.others.drew⟩
theorem PB.drew {B b : Nat} {l : List UInt8} {w : World} (h : PB B b l w) : PB B b l w.drew := by
  rcases h with h | h
  · exact .inl h.drew
  · exact .inr h.drew
theorem PB.le {B b : Nat} {l : List UInt8} {w : World} (h : PB B b l w) : B ≤ w.heap.size := by
  have : ∃ p, Lib.BuilderAtF 53 5 B b p (Lib.byteCells l) w := by
    rcases h with h | h
    · exact ⟨_, h⟩
    · exact ⟨_, h⟩
  obtain ⟨p, hB, v, hb, _⟩ := this
  have := (Array.getElem?_eq_some_iff.1 hb).1
  omega

theorem pb_byte {B b : Nat} {l : List UInt8} (c : UInt8) {w : World} (h : PB B b l w) (hl : l.length + 1 ≤ 140737488355328) :
    Calls Tryd.prog 43 #[.pointer (some ⟨b, 0, none⟩), .int .u8 c.toNat] w fun e w' => e = .returned .nilIface ∧ PB B b (l ++ [c]) w' ∧ Keep B b w w' :=
  (pb_WriteByte B b _ c.toNat w h (by rw [Lib.byteCells_length]; exact hl) h.le).mono fun e w' ⟨he, hb, hk1, hk2⟩ => ⟨he, .inr (by simpa [Lib.byteCells] using hb), hk1, hk2⟩

theorem pb_str {B b : Nat} {l : List UInt8} (s : ByteArray) {w : World} (h : PB B b l w) (hl : l.length + s.size ≤ 140737488355328) :
    Calls Tryd.prog 40 #[.pointer (some ⟨b, 0, none⟩), .string s] w fun e w' => e = .returned (.tuple #[.int .i64 s.size, .nilIface]) ∧ PB B b (l ++ s.data.toList) w' ∧ Keep B b w w' :=
  (pb_WriteString B b _ s w h (by rw [Lib.byteCells_length]; exact hl) h.le).mono fun e w' ⟨he, hb, hk1, hk2⟩ => ⟨he, .inr (by simpa [Lib.byteCells, Lib.strCells] using hb), hk1, hk2⟩

theorem index_any (c : UInt8) (w : World) :
    Calls Tryd.prog 28 #[.string ⟨#[8, 9, 10, 12, 13]⟩, .int .u8 c.toNat] w fun e w' => e = .returned (.int .i64 (Lib.indexByte [8, 9, 10, 12, 13] c)) ∧ w' = w := by
  have h : Calls Tryd.prog 28 #[.string ⟨#[8, 9, 10, 12, 13]⟩, .int .u8 c.toNat] w fun e w' => e = .returned (.int .i64 (Lib.indexByte [8, 9, 10, 12, 13] (c.toNat : Int).toNat.toUInt8)) ∧ w' = w :=
    Any.strings_IndexByte Tryd.laysIB ⟨#[8, 9, 10, 12, 13]⟩ c.toNat w
  simpa using h

theorem len6 {n k : Nat} (h : n + 6 ≤ 140737488355328) (hk : k ≤ 6) : n + k ≤ 140737488355328 := by omega
theorem index_none {c : UInt8} (h8 : c ≠ 8) (h9 : c ≠ 9) (h10 : c ≠ 10) (h12 : c ≠ 12) (h13 : c ≠ 13) : Lib.indexByte [8, 9, 10, 12, 13] c = -1 := by
  simp [Lib.indexByte, h8.symm, h9.symm, h10.symm, h12.symm, h13.symm]

theorem quoted_step {B b : Nat} {l : List UInt8} {s : ByteArray} {j : Nat} (hj : j < s.size) {c : UInt8} (hc : s[j]'hj = c) {w : World} (h : PB B b (l ++ (34 :: (s.data.toList.take j).flatMap escF) ++ escF c) w) :
    PB B b (l ++ (34 :: (s.data.toList.take (j + 1)).flatMap escF)) w := by
  have e : s.data.toList[j]? = some c := by
    rw [← hc, Array.getElem?_toList]
    exact Array.getElem?_eq_getElem hj
  rw [take_succ e]
  simpa using h

theorem quoted_len {l : List UInt8} {s : ByteArray} {j : Nat} (hj : j < s.size) (hl : l.length + 6 * s.size + 2 ≤ 140737488355328) : (l ++ (34 :: (s.data.toList.take j).flatMap escF)).length + 6 ≤ 140737488355328 := by
  have h1 := @flatMap_len (s.data.toList.take j)
  have h2 : (s.data.toList.take j).length ≤ j := List.length_take_le _ _
  rw [List.length_append, List.length_cons]
  omega

theorem byte_cases (c : UInt8) : c = 34 ∨ c = 92 ∨ c ∈ ([8, 9, 10, 12, 13] : List UInt8) ∨ (c ≠ 34 ∧ c ≠ 92 ∧ c ≠ 8 ∧ c ≠ 9 ∧ c ≠ 10 ∧ c ≠ 12 ∧ c ≠ 13) := by
  by_cases h1 : c = 34
  · exact .inl h1
  by_cases h2 : c = 92
  · exact .inr (.inl h2)
  by_cases h3 : c ∈ ([8, 9, 10, 12, 13] : List UInt8)
  · exact .inr (.inr (.inl h3))
  simp at h3
  exact .inr (.inr (.inr ⟨h1, h2, h3⟩))
theorem two_cut {q : Nat} (h : q < 2) : (⟨#[48, 49]⟩ : ByteArray).extract q (q + 1) = ⟨#[hexD q]⟩ := by
  have : ∀ q : Fin 2, (⟨#[48, 49]⟩ : ByteArray).extract q.val (q.val + 1) = ⟨#[hexD q.val]⟩ := by decide +kernel
  exact this ⟨q, h⟩
theorem run_two {q : Nat} (h : q < 2) (w : World) : (Instr.slice 9 (.string ⟨#[48, 49]⟩) (some (.int .u8 (q : Int))) (some (.int .u8 ((q : Int) + 1))) none).run Tryd.prog w = .ok (.string ⟨#[hexD q]⟩) w := by
  rw [run_slice_string w 9 _ .u8 .u8 _ _ Tryd.underlying9 (by omega) (by omega) (by simp [ByteArray.size]; omega), ← two_cut h]
  congr 3
def nameB (k : Nat) : UInt8 := ([98, 116, 110, 102, 114] : List UInt8).getD k 0
theorem byte_named {c : UInt8} (h : c ∈ ([8, 9, 10, 12, 13] : List UInt8)) : ∃ k : Nat, k < 5 ∧ Lib.indexByte [8, 9, 10, 12, 13] c = (k : Int) ∧ escF c = [92, nameB k] ∧ ((c.toNat : Int) == 34) = false ∧ ((c.toNat : Int) == 92) = false := by
  have hm2 : c = 8 ∨ c = 9 ∨ c = 10 ∨ c = 12 ∨ c = 13 := by simpa using h
  rcases hm2 with rfl | rfl | rfl | rfl | rfl
  · exact ⟨0, by decide, by decide +kernel, by decide +kernel, by decide +kernel, by decide +kernel⟩
  · exact ⟨1, by decide, by decide +kernel, by decide +kernel, by decide +kernel, by decide +kernel⟩
  · exact ⟨2, by decide, by decide +kernel, by decide +kernel, by decide +kernel, by decide +kernel⟩
  · exact ⟨3, by decide, by decide +kernel, by decide +kernel, by decide +kernel, by decide +kernel⟩
  · exact ⟨4, by decide, by decide +kernel, by decide +kernel, by decide +kernel, by decide +kernel⟩
theorem named_cut {q : Nat} (h : q < 5) : (⟨#[98, 116, 110, 102, 114]⟩ : ByteArray).extract q (q + 1) = ⟨#[nameB q]⟩ := by
  have : ∀ q : Fin 5, (⟨#[98, 116, 110, 102, 114]⟩ : ByteArray).extract q.val (q.val + 1) = ⟨#[nameB q.val]⟩ := by decide +kernel
  exact this ⟨q, h⟩
theorem run_named {q : Nat} (h : q < 5) (w : World) : (Instr.slice 9 (.string ⟨#[98, 116, 110, 102, 114]⟩) (some (.int .i64 (q : Int))) (some (.int .i64 ((q : Int) + 1))) none).run Tryd.prog w = .ok (.string ⟨#[nameB q]⟩) w := by
  rw [run_slice_string w 9 _ .i64 .i64 _ _ Tryd.underlying9 (by omega) (by omega) (by simp [ByteArray.size]; omega), ← named_cut h]
  congr 3
theorem named_data (q : Nat) : ((⟨#[92]⟩ : ByteArray) ++ (⟨#[nameB q]⟩ : ByteArray)).data.toList = [92, nameB q] := by
  simp [ByteArray.data_append]
set_option maxRecDepth 100000 in
set_option maxHeartbeats 4000000 in
theorem quoted_any (B b : Nat) (l : List UInt8) (s : ByteArray) (w : World) (h : PB B b l w) (hs : s.size ≤ 1000000000) (hl : l.length + 6 * s.size + 2 ≤ 140737488355328) :
    Calls Tryd.prog 42 #[.pointer (some ⟨b, 0, none⟩), .string s] w fun e w' => e = .returned (.tuple #[]) ∧ PB B b (l ++ quotedF s.data.toList) w' ∧ Keep B b w w' := by
  have HX := Lib.hid (pb_byte 34 h (by omega))
  go_enter Tryd.func42, Tryd.ntmps42
  go_wp2_with fail
  refine HX.out.mono ?_
  rintro e w1 ⟨rfl, h1, hk1⟩
  have H1 := Lib.hid h1
  have K1 := Lib.hid hk1
  clear h1 hk1 HX h
  go_wp2_with fail
  go_loopw [13] (fun i wr => ∃ j : Nat, i = .int .i64 j ∧ j ≤ s.size ∧ PB B b (l ++ (34 :: (s.data.toList.take j).flatMap escF)) wr ∧ Keep B b w wr) (fun i _ => s.size - (intOf i).toNat)
  case atStart => exact ⟨0, rfl, Nat.zero_le _, by simpa using H1.out, K1.out⟩
  case round =>
    obtain ⟨j, rfl, hj, hpb, hkp⟩ := hrel
    have HPB := Lib.hid hpb
    have HK := Lib.hid hkp
    clear hpb hkp
    by_cases hjl : j < s.size
    · obtain ⟨c, hc⟩ : ∃ c, s[j]'hjl = c := ⟨_, rfl⟩
      have HST := Lib.hid (fun wr' (h : PB B b (l ++ (34 :: (s.data.toList.take j).flatMap escF) ++ escF c) wr') => quoted_step hjl hc h)
      have HLEN : Hid ((l ++ (34 :: (s.data.toList.take j).flatMap escF)).length + 6 ≤ 140737488355328) := quoted_len hjl hl
      have hc34 : c = 34 ∨ c = 92 ∨ c ∈ ([8, 9, 10, 12, 13] : List UInt8) ∨ (c ≠ 34 ∧ c ≠ 92 ∧ c ≠ 8 ∧ c ≠ 9 ∧ c ≠ 10 ∧ c ≠ 12 ∧ c ≠ 13) := byte_cases c
      rcases hc34 with rfl | rfl | hm | hn
      · have HIB := Lib.hid (index_any 34 wr)
        rw [show Lib.indexByte [8, 9, 10, 12, 13] 34 = -1 by kernel_rfl] at HIB
        go_wp2_with fail
        refine HIB.out.mono ?_
        rintro e w2 ⟨rfl, rfl⟩
        clear HIB
        go_wp2_with fail
        refine (pb_str _ HPB.out (len6 HLEN.out (by decide))).mono ?_
        rintro e w3 ⟨rfl, h3, hk3⟩
        have H3 := Lib.hid (HST.out _ h3)
        have HK3 := Lib.hid (HK.out.trans hk3)
        clear h3 hk3
        go_wp2_with fail
        exact ⟨⟨j + 1, by go_num, hjl, H3.out, HK3.out⟩, by simp [intOf]; omega⟩
      · have HIB := Lib.hid (index_any 92 wr)
        rw [show Lib.indexByte [8, 9, 10, 12, 13] 92 = -1 by kernel_rfl] at HIB
        go_wp2_with fail
        refine HIB.out.mono ?_
        rintro e w2 ⟨rfl, rfl⟩
        clear HIB
        go_wp2_with fail
        refine (pb_str _ HPB.out (len6 HLEN.out (by decide))).mono ?_
        rintro e w3 ⟨rfl, h3, hk3⟩
        have H3 := Lib.hid (HST.out _ h3)
        have HK3 := Lib.hid (HK.out.trans hk3)
        clear h3 hk3
        go_wp2_with fail
        exact ⟨⟨j + 1, by go_num, hjl, H3.out, HK3.out⟩, by simp [intOf]; omega⟩
      · obtain ⟨k, hk, hix, hes, b34, b92⟩ := byte_named hm
        have HIB := Lib.hid (index_any c wr)
        rw [hix] at HIB
        have HES := Lib.hid hes
        have s1 := run_named hk
        have e1 := IntWalk.i64_in ((k : Int) + 1) (by omega)
        clear hm hix hes
        go_wp2_with fail
        refine HIB.out.mono ?_
        rintro e w2 ⟨rfl, rfl⟩
        clear HIB
        go_wp2_with fail
        go_still_tail 8, (by kernel_rfl)
        go_wp2_with fail
        refine (pb_str _ HPB.out.drew (len6 HLEN.out (by rw [← size_list, named_data]; exact Nat.le_add_left 2 4))).mono ?_
        rintro e w3 ⟨rfl, h3, hk3⟩
        rw [named_data] at h3
        have H3 := Lib.hid (HST.out _ (by rw [HES.out]; exact h3))
        have HK3 := Lib.hid (HK.out.drew.trans hk3)
        clear h3 hk3
        go_wp2_with fail
        exact ⟨⟨j + 1, by go_num, hjl, H3.out, HK3.out⟩, by simp [intOf]; omega⟩
      · obtain ⟨n34, n92, n8, n9, n10, n12, n13⟩ := hn
        have HIB := Lib.hid (index_any c wr)
        rw [index_none n8 n9 n10 n12 n13] at HIB
        have b34 : ((c.toNat : Int) == 34) = false := byte_ne n34
        have b92 : ((c.toNat : Int) == 92) = false := byte_ne n92
        have HF := Lib.hid (escF_else n34 n92 n8 n9 n10 n12 n13)
        by_cases h32 : c.toNat < 32
        · rw [if_pos h32] at HF
          clear n34 n92 n8 n9 n10 n12 n13
          have hc1 : (c.toNat : Int) < 32 := by omega
          go_wp2_with fail
          refine HIB.out.mono ?_
          rintro e w2 ⟨rfl, rfl⟩
          clear HIB
          go_wp2_with fail
          have e1 := wrap_div c
          have e2 := tmod_byte c
          have hq : c.toNat / 16 < 2 := by omega
          have hr : c.toNat % 16 < 16 := by omega
          have hlow := low_data (c.toNat / 16) (c.toNat % 16)
          generalize c.toNat / 16 = q at *
          generalize c.toNat % 16 = r at *
          have e3 := wrap_add q (by omega)
          have e4 := wrap_add r (by omega)
          have s1 := run_two hq
          have s2 := run_hex hr
          have HLOW := Lib.hid hlow
          clear hq hr hlow
          go_still_tail 17, (by kernel_rfl)
          go_wp2_with fail
          refine (pb_str _ HPB.out.drew (len6 HLEN.out (by rw [← size_list, HLOW.out]; exact Nat.le_refl 6))).mono ?_
          rintro e w3 ⟨rfl, h3, hk3⟩
          have H3 := Lib.hid (HST.out _ (by rw [HF.out, ← HLOW.out]; exact h3))
          have HK3 := Lib.hid (HK.out.drew.trans hk3)
          clear h3 hk3
          go_wp2_with fail
          exact ⟨⟨j + 1, by go_num, hjl, H3.out, HK3.out⟩, by simp [intOf]; omega⟩
        · rw [if_neg h32] at HF
          clear n34 n92 n8 n9 n10 n12 n13
          have hc1 : ¬ (c.toNat : Int) < 32 := by omega
          go_wp2_with fail
          refine HIB.out.mono ?_
          rintro e w2 ⟨rfl, rfl⟩
          clear HIB
          go_wp2_with fail
          refine (pb_byte _ HPB.out (len6 HLEN.out (by decide))).mono ?_
          rintro e w3 ⟨rfl, h3, hk3⟩
          have H3 := Lib.hid (HST.out _ (by rw [HF.out]; exact h3))
          have HK3 := Lib.hid (HK.out.trans hk3)
          clear h3 hk3
          go_wp2_with fail
          exact ⟨⟨j + 1, by go_num, hjl, H3.out, HK3.out⟩, by simp [intOf]; omega⟩
    · have e : s.data.toList.take j = s.data.toList := List.take_of_length_le (by rw [size_list]; omega)
      rw [e] at HPB
      clear e
      have hfl := @flatMap_len s.data.toList
      have hsz := size_list s
      have HL : Hid ((l ++ (34 :: s.data.toList.flatMap escF)).length + 1 ≤ 140737488355328) := by
        show _ ≤ _
        rw [List.length_append, List.length_cons]; omega
      clear hfl hsz
      go_wp2_with fail
      refine (pb_byte 34 HPB.out HL.out).mono ?_
      rintro e w3 ⟨rfl, h3, hk3⟩
      have H3 := Lib.hid h3
      have HK3 := Lib.hid (HK.out.trans hk3)
      clear h3 hk3
      go_wp2_with fail
      go_end0
      exact ⟨rfl, by have := H3.out; simpa [quotedF] using this, HK3.out⟩

end Go.Proofs.YtdhilnnohokoeaaDoor
