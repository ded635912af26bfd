/- Paths: the steps, walked. Paths: numbers and places, walked. Paths: what lies at one, walked. -/
import Derived.Test.YtkhhbckpddkhlaaDoorFO
import Derived.Test.YtkhhbckpddkhlaaDoorOW
import Derived.Test.YtkhhbckpddkhlaaDoorJK
import Derived.Test.YtkhhbckpddkhlaaDoorJD
import Derived.Deep.RegionWith
import Derived.Test.YtkhhbckpddkhlaaDoorSA
import Derived.StillTailTactics
namespace Go.Proofs.YtkhhbckpddkhlaaDoor
open Go.RowKit

theorem validF_any (s : ByteArray) (w : World) (hs : s.size ≤ 1000000) (hT : Tabs w) :
    Calls Tryd.prog 30 #[.string s] w fun e w' => e = .returned (.bool (Lib.validD s.data.toList)) ∧ Below w.heap.size w w' :=
  Any.utf8_ValidString Tryd.laysValid s w (by omega) hT

theorem own_shape {w : World} {B : Nat} {e : TypeId} {v : Value} {n : Nat} {xs : List Value} (h : w.ownsRow B e 1 v n xs) : ∃ a cap, v = .slice a n cap := by
  rcases h.2 with ⟨hv, hn⟩ | ⟨g, cap, cur, hv, _⟩
  · exact ⟨none, 0, by rw [hv, hn]⟩
  · exact ⟨_, cap, hv⟩
/-- a row of strings of the call's own -/
theorem strs_of_own {w : World} {B : Nat} {v : Value} {l : List ByteArray} (h : w.ownsRow B 9 1 v l.length (l.map Value.string)) (hl : l.length ≤ 1000000) (hs : ∀ s ∈ l, s.size ≤ 9223372036854775807) : StrsAt (cfA B w) v l := by
  have h2 := h.2
  rcases h2 with ⟨hv, hn⟩ | ⟨g, cap, cur, hv, hb, _⟩
  · obtain rfl : l = [] := List.length_eq_zero_iff.1 hn
    exact ⟨none, 0, hv, by simp, fun i s h => by simp at h⟩
  · refine ⟨some ⟨g, 0, none⟩, cap, hv, by omega, fun i s hi => ⟨hs s (List.mem_of_getElem? hi), g, 0, rfl, ?_⟩⟩
    have := h.cells (g := g) (by rw [hv]; rfl) i (.string s) (by simp [hi])
    rw [addr_at] at this
    unfold cfA
    rw [if_pos hb, Nat.zero_add]
    exact this

/-- a slice's bounds -/
def CapOk (v : Value) : Prop := ∃ a n cap, v = .slice a n cap ∧ n ≤ cap ∧ cap ≤ 9223372036854775807
theorem capOk_own {w : World} {B : Nat} {T : TypeId} {n : Nat} {v : Value} {p : Nat} {cs : List Value} (h : w.ownsRow B T n v p cs) : CapOk v := by
  rcases h.2 with ⟨hv, hn⟩ | ⟨g, cap, cur, hv, _, _, h1, h2, _⟩
  · exact ⟨none, 0, 0, hv, by omega, by decide⟩
  · exact ⟨_, _, cap, hv, h1, by unfold maxLen at h2; exact h2⟩
/-- what Steps hands back -/
def StepsPost (s : ByteArray) (w : World) (e : Ending) (w' : World) : Prop := (match stepsF s with
      | some l => ∃ sv, e = .returned (.tuple #[sv, .int .i64 0]) ∧ StrsAt (cfA w.heap.size w') sv l ∧ CapOk sv
      | none => e = .returned (.tuple #[.slice none 0 0, .int .i64 2])) ∧ Below w.heap.size w w'
theorem steps_no {s : ByteArray} {w w' : World} (h : stepsF s = none) (hb : Below w.heap.size w w') : StepsPost s w (.returned (.tuple #[.slice none 0 0, .int .i64 2])) w' := by
  unfold StepsPost; rw [h]; exact ⟨rfl, hb⟩
theorem steps_yes {s : ByteArray} {w w' : World} {l : List ByteArray} {sv : Value} (h : stepsF s = some l) (hs : StrsAt (cfA w.heap.size w') sv l) (hcp : CapOk sv) (hb : Below w.heap.size w w') : StepsPost s w (.returned (.tuple #[sv, .int .i64 0])) w' := by
  unfold StepsPost; rw [h]; exact ⟨⟨sv, rfl, hs, hcp⟩, hb⟩

theorem go_on {s : ByteArray} {j fr : Nat} {out : List ByteArray} (_hj : j ≤ s.size) (h : j < s.size ∧ s.data.toList[j]? ≠ some 46) : stepsGo s (s.size + 1 - j) fr j out = stepsGo s (s.size + 1 - (j + 1)) fr (j + 1) out := by
  rw [show s.size + 1 - j = (s.size + 1 - (j + 1)) + 1 by omega, stepsGo, if_pos h]
theorem go_bad {s : ByteArray} {j fr : Nat} {out : List ByteArray} (hj : j ≤ s.size) (h : ¬ (j < s.size ∧ s.data.toList[j]? ≠ some 46)) (hc : j = fr ∨ 60 < j - fr ∨ out.length = 4 ∨ Lib.validD (s.extract fr j).data.toList = false) : stepsGo s (s.size + 1 - j) fr j out = none := by
  rw [show s.size + 1 - j = (s.size + 1 - (j + 1)) + 1 by omega, stepsGo, if_neg h, if_pos hc]
theorem go_add {s : ByteArray} {j fr : Nat} {out : List ByteArray} (hj : j ≤ s.size) (h : ¬ (j < s.size ∧ s.data.toList[j]? ≠ some 46)) (hc : ¬ (j = fr ∨ 60 < j - fr ∨ out.length = 4 ∨ Lib.validD (s.extract fr j).data.toList = false)) : stepsGo s (s.size + 1 - j) fr j out = stepsGo s (s.size + 1 - (j + 1)) (j + 1) (j + 1) (out ++ [s.extract fr j]) := by
  rw [show s.size + 1 - j = (s.size + 1 - (j + 1)) + 1 by omega, stepsGo, if_neg h, if_neg hc]
theorem go_end {s : ByteArray} {j fr : Nat} {out : List ByteArray} (hj : ¬ j ≤ s.size) : stepsGo s (s.size + 1 - j) fr j out = some out := by
  rw [show s.size + 1 - j = 0 by omega, stepsGo]
theorem byte_at {s : ByteArray} {j : Nat} (h : j < s.size) : s.data.toList[j]? = some s[j] := by
  rw [Array.getElem?_toList]; exact Array.getElem?_eq_getElem h
theorem sizes_snoc {out : List ByteArray} {x : ByteArray} (h : ∀ y ∈ out, y.size ≤ 9223372036854775807) (hx : x.size ≤ 60) : ∀ y ∈ out ++ [x], y.size ≤ 9223372036854775807 := fun y hy => by
  rcases List.mem_append.1 hy with h1 | h1
  · exact h y h1
  · obtain rfl : y = x := by simpa using h1
    exact Nat.le_trans hx (by decide)
theorem byte_is {c k : UInt8} (h : c = k) : ((c.toNat : Int) == (k.toNat : Int)) = true := by subst h; simp
theorem byte_bne {c k : UInt8} (h : c ≠ k) : ((c.toNat : Int) != (k.toNat : Int)) = true := by rw [bne, byte_ne h]; rfl
theorem byte_beq {c k : UInt8} (h : c = k) : ((c.toNat : Int) != (k.toNat : Int)) = false := by rw [bne, byte_is h]; rfl

set_option maxRecDepth 100000 in
set_option maxHeartbeats 8000000 in
theorem Steps_any (s : ByteArray) (w : World) (hs : s.size ≤ 1000000) (hT : Tabs w) :
    Calls Tryd.prog 36 #[.string s] w (StepsPost s w) := by
  obtain ⟨i0, hi, hz0, hz1, hz2⟩ := info_parts infoStr
  have HT := Hold.mk hT
  clear hT
  go_enter Tryd.func36, Tryd.ntmps36
  go_wp2_with fail
  go_loopw [4, 5, 6] (fun o f i wr => ∃ (j fr : Nat) (out : List ByteArray), i = .int .i64 j ∧ f = .int .i64 fr ∧ j ≤ s.size + 1 ∧ fr ≤ j ∧ out.length ≤ 4 ∧ (∀ x ∈ out, x.size ≤ 9223372036854775807) ∧ wr.ownsRow w.heap.size 9 1 o out.length (out.map Value.string) ∧ stepsF s = stepsGo s (s.size + 1 - j) fr j out ∧ Below w.heap.size w wr) (fun _ _ i _ => s.size + 1 - (intOf i).toNat)
  case atStart => exact ⟨0, 0, [], rfl, rfl, Nat.zero_le _, Nat.le_refl _, by simp, by simp, World.ownsRow_nil _ _ _ _, rfl, Below.refl _ _⟩
  case round =>
    obtain ⟨j, fr, out, rfl, rfl, hj, hfr, hol, hos, hown, hst, hbl⟩ := hrel
    obtain ⟨oa, ocap, rfl⟩ := own_shape hown
    have HO := Hold.mk hown
    have HS := Hold.mk hst
    have HB := Hold.mk hbl
    have HOS := Hold.mk hos
    clear hown hst hbl hos
    by_cases hlt : j ≤ s.size
    · by_cases hc : j < s.size ∧ s.data.toList[j]? ≠ some 46
      · have HC := Hold.mk hc
        obtain ⟨hc1, hc2⟩ := hc
        rw [byte_at hc1] at hc2
        have hb : ((s[j].toNat : Int) != 46) = true := byte_bne (k := 46) (fun (e : s[j] = 46) => hc2 (by rw [e]))
        clear hc2
        go_wp2_with fail
        exact ⟨⟨j + 1, fr, out, by go_num, rfl, by omega, by omega, hol, HOS.out, HO.out, by rw [HS.out]; exact go_on hlt HC.out, HB.out⟩, by simp [intOf]; omega⟩
      · have HB46 := Hold.mk hc
        have hside : (j = s.size ∧ ¬ j < s.size) ∨ ∃ h : j < s.size, s[j] = 46 := by
          by_cases h : j < s.size
          · right; refine ⟨h, ?_⟩; by_cases e : s[j] = 46; exact e; exact absurd ⟨h, by rw [byte_at h]; simpa using e⟩ hc
          · left; exact ⟨by omega, h⟩
        clear hc
        have hfr2 : (fr : Int) ≤ j := by omega
        by_cases h1 : j = fr
        · have b1 : ((j : Int) == (fr : Int)) = true := by rw [h1]; simp
          have H1 := Hold.mk h1
          clear h1
          rcases hside with ⟨rfl, hx⟩ | ⟨hx, hy⟩
          · go_wp2_with fail
            go_ret2
            exact steps_no (by rw [HS.out]; exact go_bad (Nat.le_refl _) HB46.out (.inl H1.out)) HB.out
          · have hb : ((s[j].toNat : Int) != 46) = false := byte_beq hy
            clear hy
            go_wp2_with fail
            go_ret2
            exact steps_no (by rw [HS.out]; exact go_bad hlt HB46.out (.inl H1.out)) HB.out
        have b1 : ((j : Int) == (fr : Int)) = false := by rw [beq_eq_false_iff_ne]; omega
        have H1 := Hold.mk h1
        clear h1
        by_cases h2 : 60 < j - fr
        · have b2 : 60 < (j : Int) - fr := by omega
          have H2 := Hold.mk h2
          clear h2
          rcases hside with ⟨rfl, hx⟩ | ⟨hx, hy⟩
          · go_wp2_with fail
            go_ret2
            exact steps_no (by rw [HS.out]; exact go_bad (Nat.le_refl _) HB46.out (.inr (.inl H2.out))) HB.out
          · have hb : ((s[j].toNat : Int) != 46) = false := byte_beq hy
            clear hy
            go_wp2_with fail
            go_ret2
            exact steps_no (by rw [HS.out]; exact go_bad hlt HB46.out (.inr (.inl H2.out))) HB.out
        have b2 : ¬ 60 < (j : Int) - fr := by omega
        have H2 := Hold.mk h2
        clear h2
        by_cases h3 : out.length = 4
        · have b3 : (((out.length : Nat) : Int) == 4) = true := by rw [h3]; rfl
          have H3 := Hold.mk h3
          clear h3
          rcases hside with ⟨rfl, hx⟩ | ⟨hx, hy⟩
          · go_wp2_with fail
            go_ret2
            exact steps_no (by rw [HS.out]; exact go_bad (Nat.le_refl _) HB46.out (.inr (.inr (.inl H3.out)))) HB.out
          · have hb : ((s[j].toNat : Int) != 46) = false := byte_beq hy
            clear hy
            go_wp2_with fail
            go_ret2
            exact steps_no (by rw [HS.out]; exact go_bad hlt HB46.out (.inr (.inr (.inl H3.out)))) HB.out
        have b3 : (((out.length : Nat) : Int) == 4) = false := by rw [beq_eq_false_iff_ne]; omega
        have hol3 : out.length ≤ 3 := by omega
        have H3 := Hold.mk h3
        clear h3
        have hsl := fun wx => run_slice_string (P := Tryd.prog) wx 9 s .i64 .i64 (fr : Int) (j : Int) Tryd.underlying9 (by omega) hfr2 (by omega)
        rw [Int.toNat_natCast, Int.toNat_natCast] at hsl
        have hsz : (s.extract fr j).size ≤ 60 := by rw [ByteArray.size_extract]; have := H2.out; omega
        have HV := Hold.mk (validF_any (s.extract fr j) wr (by omega) (HT.out.below HB.out))
        have HX : Hold (∀ v, Lib.validD (s.extract fr j).data.toList = v → True) := ⟨fun _ _ => trivial⟩
        cases hv : Lib.validD (s.extract fr j).data.toList with
        | false =>
          rw [hv] at HV
          have H4 := Hold.mk hv
          clear hv HX
          rcases hside with ⟨rfl, hx⟩ | ⟨hx, hy⟩
          · go_wp2_with fail
            refine HV.out.mono ?_
            rintro e w2 ⟨rfl, hb2⟩
            replace HB := Hold.mk (HB.out.trans (hb2.mono HB.out.size))
            clear hb2
            go_wp2_with fail
            go_ret2
            exact steps_no (by rw [HS.out]; exact go_bad (Nat.le_refl _) HB46.out (.inr (.inr (.inr H4.out)))) HB.out
          · have hb : ((s[j].toNat : Int) != 46) = false := byte_beq hy
            clear hy
            go_wp2_with fail
            refine HV.out.mono ?_
            rintro e w2 ⟨rfl, hb2⟩
            replace HB := Hold.mk (HB.out.trans (hb2.mono HB.out.size))
            clear hb2
            go_wp2_with fail
            go_ret2
            exact steps_no (by rw [HS.out]; exact go_bad hlt HB46.out (.inr (.inr (.inr H4.out)))) HB.out
        | true =>
          rw [hv] at HV
          have H4 : Hold (¬ (j = fr ∨ 60 < j - fr ∨ out.length = 4 ∨ Lib.validD (s.extract fr j).data.toList = false)) := ⟨by rw [hv]; rintro (h | h | h | h); exact H1.out h; exact H2.out h; exact H3.out h; cases h⟩
          clear hv HX
          rcases hside with ⟨rfl, hx⟩ | ⟨hx, hy⟩
          · go_wp2_with fail
            refine HV.out.mono ?_
            rintro e w2 ⟨rfl, hb2⟩
            have hg : wr.grownBy w2 none := ⟨hb2.os, hb2.tape, hb2.output, hb2.size, fun k hk _ => hb2.block k hk⟩
            have hown2 := HO.out.kept hg (by cases oa with | none => exact .inl rfl | some x => exact .inr (by simp [Value.ownBlock]))
            replace HB := Hold.mk (HB.out.trans (hb2.mono HB.out.size))
            have hbs := HB.out.size
            clear hb2 hg
            go_wp2_with (at_builtin; refine wpList_append_own _ rfl _ _ 22 rfl w.heap.size 9 i0 (.string ⟨#[]⟩) 1 16 Tryd.underlying22 hi hz0 hz1 hz2 rfl (by decide) _ _ _ rfl (hown2.alloc _) ⟨w2.heap.size, 0, none⟩ 1 1 [.string (s.extract fr s.size)] rfl rfl ?c01 ?c02 ?c03 ?c04 ?c05 ?_)
            case c01 =>
              intro q u hq
              match q, hq with
              | 0, hq => simp at hq; subst hq; simp [Addr.add]
            case c02 => intro u hu; simp at hu; subst hu; rfl
            case c03 => unfold maxLen; omega
            case c04 => omega
            case c05 => simp; omega
            intro v' w3 hown3 hgrow3 _
            have HO3 := Hold.mk hown3
            have HB3 := Hold.mk ((HB.out.alloc hbs _).grown hgrow3 (by simp; omega) (fun q hq => (hown2.lt q hq).1))
            clear hown3 hgrow3 hown2
            go_wp2_with fail
            exact ⟨⟨s.size + 1, s.size + 1, out ++ [s.extract fr s.size], by go_num, by go_num, by omega, by omega, by simp <;> omega, sizes_snoc HOS.out hsz, by simpa using HO3.out, by rw [HS.out]; exact go_add (Nat.le_refl _) HB46.out H4.out, HB3.out⟩, by simp [intOf] <;> omega⟩
          · have hb : ((s[j].toNat : Int) != 46) = false := byte_beq hy
            clear hy
            go_wp2_with fail
            refine HV.out.mono ?_
            rintro e w2 ⟨rfl, hb2⟩
            have hg : wr.grownBy w2 none := ⟨hb2.os, hb2.tape, hb2.output, hb2.size, fun k hk _ => hb2.block k hk⟩
            have hown2 := HO.out.kept hg (by cases oa with | none => exact .inl rfl | some x => exact .inr (by simp [Value.ownBlock]))
            replace HB := Hold.mk (HB.out.trans (hb2.mono HB.out.size))
            have hbs := HB.out.size
            clear hb2 hg
            go_wp2_with (at_builtin; refine wpList_append_own _ rfl _ _ 22 rfl w.heap.size 9 i0 (.string ⟨#[]⟩) 1 16 Tryd.underlying22 hi hz0 hz1 hz2 rfl (by decide) _ _ _ rfl (hown2.alloc _) ⟨w2.heap.size, 0, none⟩ 1 1 [.string (s.extract fr j)] rfl rfl ?c11 ?c12 ?c13 ?c14 ?c15 ?_)
            case c11 =>
              intro q u hq
              match q, hq with
              | 0, hq => simp at hq; subst hq; simp [Addr.add]
            case c12 => intro u hu; simp at hu; subst hu; rfl
            case c13 => unfold maxLen; omega
            case c14 => omega
            case c15 => simp; omega
            intro v' w3 hown3 hgrow3 _
            have HO3 := Hold.mk hown3
            have HB3 := Hold.mk ((HB.out.alloc hbs _).grown hgrow3 (by simp; omega) (fun q hq => (hown2.lt q hq).1))
            clear hown3 hgrow3 hown2
            go_wp2_with fail
            exact ⟨⟨j + 1, j + 1, out ++ [s.extract fr j], by go_num, by go_num, by omega, by omega, by simp <;> omega, sizes_snoc HOS.out hsz, by simpa using HO3.out, by rw [HS.out]; exact go_add hlt HB46.out H4.out, HB3.out⟩, by simp [intOf] <;> omega⟩
    · go_wp2_with fail
      go_ret2
      exact steps_yes (by rw [HS.out]; exact go_end hlt) (strs_of_own HO.out (by omega) HOS.out) (capOk_own HO.out) HB.out

end Go.Proofs.YtkhhbckpddkhlaaDoor

namespace Go.Proofs.YtkhhbckpddkhlaaDoor
open Go.RowKit

theorem numF_no {s : ByteArray} (h : s.size = 0 ∨ 4 < s.size ∨ 1 < s.size ∧ s.data.toList[0]? = some 48) : numF s = -1 := by unfold numF; rw [if_pos h]
theorem numF_go {s : ByteArray} (h : ¬ (s.size = 0 ∨ 4 < s.size ∨ 1 < s.size ∧ s.data.toList[0]? = some 48)) : numF s = numGo s.data.toList 0 := by unfold numF; rw [if_neg h]
theorem drop_at {s : ByteArray} {j : Nat} (h : j < s.size) : s.data.toList.drop j = s[j] :: s.data.toList.drop (j + 1) := by
  rw [List.drop_eq_getElem_cons (by rw [size_list]; exact h)]
  congr 1
theorem numGo_bad {c : UInt8} {l : List UInt8} {n : Nat} (h : c.toNat < 48 ∨ 57 < c.toNat) : numGo (c :: l) n = -1 := by rw [numGo, if_pos h]
theorem numGo_on {c : UInt8} {l : List UInt8} {n : Nat} (h : ¬ (c.toNat < 48 ∨ 57 < c.toNat)) : numGo (c :: l) n = numGo l (n * 10 + (c.toNat - 48)) := by rw [numGo, if_neg h]
theorem idx_hit {s n : ByteArray} {l : List ByteArray} {j : Nat} (h : n = s) : idxGo s (n :: l) j = j := by rw [idxGo, if_pos h]
theorem idx_on {s n : ByteArray} {l : List ByteArray} {j : Nat} (h : n ≠ s) : idxGo s (n :: l) j = idxGo s l (j + 1) := by rw [idxGo, if_neg h]
theorem drop_name {l : List ByteArray} {j : Nat} {n : ByteArray} (h : l[j]? = some n) : l.drop j = n :: l.drop (j + 1) := by
  obtain ⟨hj, e⟩ := List.getElem?_eq_some_iff.1 h
  rw [List.drop_eq_getElem_cons hj, e]
theorem numGo_lt : ∀ (l : List UInt8) (n : Nat), numGo l n = -1 ∨ ∃ q : Nat, numGo l n = q
  | [], n => .inr ⟨n, rfl⟩
  | c :: l, n => by
    rw [numGo]; split
    · exact .inl rfl
    · exact numGo_lt l _
theorem numF_cases (s : ByteArray) : numF s = -1 ∨ ∃ q : Nat, numF s = q := by
  unfold numF; split
  · exact .inl rfl
  · exact numGo_lt _ _
theorem wrap_sub (c : UInt8) (h : 48 ≤ c.toNat) : IntKind.u8.wrap ((c.toNat : Int) - 48) = ((c.toNat - 48 : Nat) : Int) := by
  have := c.toNat_lt
  rw [show (c.toNat : Int) - 48 = ((c.toNat - 48 : Nat) : Int) by omega]
  simp [IntKind.wrap, IntKind.bits, IntKind.signed]; omega
theorem str_eq {a b : ByteArray} (h : a = b) : (a.toList == b.toList) = true := by rw [h]; simp

set_option maxRecDepth 100000 in
set_option maxHeartbeats 8000000 in
theorem numberF_any (s : ByteArray) (w : World) (hs : s.size ≤ 1000000) :
    Calls Tryd.prog 79 #[.string s] w fun e w' => e = .returned (.int .i64 (numF s)) ∧ w = w' := by
  by_cases h0 : s.size = 0
  · have HN := Hold.mk (numF_no (.inl h0))
    have b0 : ((s.size : Int) == 0) = true := by rw [h0]; rfl
    clear h0
    go_enter Tryd.func79, Tryd.ntmps79
    go_wp2_with fail
    go_ret
    exact ⟨by rw [HN.out]; rfl, rfl⟩
  have b0 : ((s.size : Int) == 0) = false := by rw [beq_eq_false_iff_ne]; omega
  by_cases h4 : 4 < s.size
  · have HN := Hold.mk (numF_no (.inr (.inl h4)))
    go_enter Tryd.func79, Tryd.ntmps79
    go_wp2_with fail
    go_ret
    exact ⟨by rw [HN.out]; rfl, rfl⟩
  have hp : 0 < s.size := by omega
  have main : ∀ (HH : ¬ (s.size = 0 ∨ 4 < s.size ∨ 1 < s.size ∧ s.data.toList[0]? = some 48)) (hx : ¬ 1 < s.size ∨ (1 < s.size ∧ ((s[0].toNat : Int) == 48) = false)), Calls Tryd.prog 79 #[.string s] w fun e w' => e = .returned (.int .i64 (numF s)) ∧ w = w' := by
    intro HH hx
    have HN := Hold.mk (numF_go HH)
    have HSZ := Hold.mk h4
    clear HH h0
    rcases hx with hx | ⟨hx, hy⟩
    all_goals
      go_enter Tryd.func79, Tryd.ntmps79
      go_wp2_with fail
      go_loop [3, 4] (fun n i => ∃ j m : Nat, i = .int .i64 j ∧ n = .int .i64 m ∧ j ≤ s.size ∧ m < 10 ^ j ∧ numF s = numGo (s.data.toList.drop j) m) (fun _ i => s.size - (intOf i).toNat)
      case atStart => exact ⟨0, 0, rfl, rfl, Nat.zero_le _, by decide, by rw [HN.out]; rfl⟩
      case round =>
        obtain ⟨j, m, rfl, rfl, hj, hm, hst⟩ := hrel
        have HST := Hold.mk hst
        have HM := Hold.mk hm
        clear hst hm
        by_cases hlt : j < s.size
        · have hm2 : m < 10000 := Nat.lt_of_lt_of_le HM.out (Nat.pow_le_pow_right (by decide) (show j ≤ 4 by have := HSZ.out; omega))
          have HD := Hold.mk (drop_at hlt)
          obtain ⟨c, hc⟩ : ∃ c, s[j]'hlt = c := ⟨_, rfl⟩
          rw [hc] at HD
          have hcl := c.toNat_lt
          by_cases hlo : c.toNat < 48
          · have HB := Hold.mk (HST.out.trans ((congrArg (fun l => numGo l m) HD.out).trans (numGo_bad (.inl hlo))))
            have e1 : (c.toNat : Int) < 48 := by omega
            go_wp2_with fail
            go_ret
            exact ⟨by rw [HB.out]; rfl, rfl⟩
          by_cases hhi : 57 < c.toNat
          · have HB := Hold.mk (HST.out.trans ((congrArg (fun l => numGo l m) HD.out).trans (numGo_bad (.inr hhi))))
            have e1 : ¬ (c.toNat : Int) < 48 := by omega
            have e2 : 57 < (c.toNat : Int) := by omega
            go_wp2_with fail
            go_ret
            exact ⟨by rw [HB.out]; rfl, rfl⟩
          have HB := Hold.mk (HST.out.trans ((congrArg (fun l => numGo l m) HD.out).trans (numGo_on (by omega))))
          have e1 : ¬ (c.toNat : Int) < 48 := by omega
          have e2 : ¬ 57 < (c.toNat : Int) := by omega
          have e3 := wrap_sub c (by omega)
          have hq : c.toNat - 48 < 10 := by omega
          clear hlo hhi
          generalize c.toNat - 48 = q at *
          go_wp2_with fail
          exact ⟨⟨j + 1, m * 10 + q, by go_num, by go_num, hlt, by rw [Nat.pow_succ]; have := HM.out; omega, HB.out⟩, by simp [intOf]; omega⟩
        · have HB : Hold (numF s = m) := ⟨by rw [HST.out, List.drop_eq_nil_of_le (by rw [size_list]; omega), numGo]⟩
          go_wp2_with fail
          go_ret
          exact ⟨by rw [HB.out]; rfl, rfl⟩
  by_cases h1 : 1 < s.size
  · by_cases hz : s[0] = 48
    · have HN := Hold.mk (numF_no (.inr (.inr ⟨h1, by rw [byte_at hp, hz]⟩)))
      have b1 : ((s[0].toNat : Int) == 48) = true := byte_is hz
      clear hz main h0
      go_enter Tryd.func79, Tryd.ntmps79
      go_wp2_with fail
      go_ret
      exact ⟨by rw [HN.out]; rfl, rfl⟩
    · refine main ?_ (.inr ⟨h1, byte_ne hz⟩)
      rintro (h | h | ⟨_, h⟩)
      · exact h0 h
      · exact h4 h
      · rw [byte_at hp] at h; exact hz (Option.some.inj h)
  · refine main ?_ (.inl h1)
    rintro (h | h | ⟨h, _⟩)
    · exact h0 h
    · exact h4 h
    · exact h1 h

set_option maxRecDepth 100000 in
set_option maxHeartbeats 8000000 in
theorem place_any (v : JV) (x : Value) (s : ByteArray) (w : World) (hx : JAt (cf w) v x) (hs : s.size ≤ 1000000) :
    Calls Tryd.prog 57 #[x, .string s] w fun e w' => e = .returned (.int .i64 (placeF v s)) ∧ Below w.heap.size w w' := by
  obtain ⟨k, n, t, nm, it, na, ncap, ia, icap, rfl, rfl, _, _, _, hst, hit⟩ := hx.open
  have hilen : it.length ≤ 9223372036854775807 := by obtain ⟨_, _, _, h, _⟩ := hit; exact h
  have HNUM := Hold.mk (fun w => numberF_any s w hs)
  clear hx hit
  by_cases h5 : k = 5
  · subst h5
    rcases numF_cases s with hm | ⟨q, hq⟩
    · have HP : Hold (placeF (.mk 5 n t nm it) s = -1) := ⟨by unfold placeF; rw [if_pos ⟨rfl, by rw [hm]; omega⟩, hm]⟩
      rw [hm] at HNUM
      clear hm
      go_enter Tryd.func57, Tryd.ntmps57
      go_wp2_with fail
      refine (HNUM.out _).mono ?_
      rintro e w1 ⟨rfl, rfl⟩
      have hneg : (-1 : Int) < (it.length : Int) := by omega
      go_wp2_with fail
      go_ret
      exact ⟨by rw [HP.out]; rfl, (Below.refl _ _).alloc (Nat.le_refl _) _⟩
    · rw [hq] at HNUM
      by_cases hlt : q < it.length
      · have HP : Hold (placeF (.mk 5 n t nm it) s = q) := ⟨by unfold placeF; rw [if_pos ⟨rfl, by rw [hq]; exact Int.ofNat_lt.2 hlt⟩, hq]⟩
        clear hq
        go_enter Tryd.func57, Tryd.ntmps57
        go_wp2_with fail
        refine (HNUM.out _).mono ?_
        rintro e w1 ⟨rfl, rfl⟩
        go_wp2_with fail
        go_ret
        exact ⟨by rw [HP.out]; rfl, (Below.refl _ _).alloc (Nat.le_refl _) _⟩
      · have HP : Hold (placeF (.mk 5 n t nm it) s = -1) := ⟨by unfold placeF; rw [if_neg (fun h => hlt (Int.ofNat_lt.1 (by rw [← hq]; exact h.2))), if_neg (show ¬ (JV.mk 5 n t nm it).kind = 6 from (by decide : ¬ (5 : Int) = 6))]⟩
        clear hq
        go_enter Tryd.func57, Tryd.ntmps57
        go_wp2_with fail
        refine (HNUM.out _).mono ?_
        rintro e w1 ⟨rfl, rfl⟩
        go_wp2_with fail
        go_ret
        exact ⟨by rw [HP.out]; rfl, (Below.refl _ _).alloc (Nat.le_refl _) _⟩
  by_cases h6 : k = 6
  · subst h6
    have HP : Hold (placeF (.mk 6 n t nm it) s = idxGo s nm 0) := ⟨by unfold placeF; rw [if_neg (fun h => absurd h.1 (show ¬ (6 : Int) = 5 by decide)), if_pos (show (JV.mk 6 n t nm it).kind = 6 from rfl)]; rfl⟩
    obtain ⟨na', ncap', e, hnlen, hns⟩ := hst
    cases e
    have HS := Hold.mk hns
    clear hns h5 HNUM
    go_enter Tryd.func57, Tryd.ntmps57
    go_wp2_with fail
    go_loopw [6] (fun i wr => ∃ j : Nat, i = .int .i64 j ∧ j ≤ nm.length ∧ idxGo s nm 0 = idxGo s (nm.drop j) j ∧ Boxed w wr _) (fun i _ => nm.length - (intOf i).toNat)
    case atStart => exact ⟨0, rfl, Nat.zero_le _, rfl, Boxed.refl _ _⟩
    case round =>
      obtain ⟨j, rfl, hj, hst, hbx⟩ := hrel
      have HST := Hold.mk hst
      have HB := Hold.mk hbx
      have y3 := hbx.c3
      clear hst hbx
      by_cases hlt : j < nm.length
      · obtain ⟨u, hu⟩ : ∃ u, nm[j]? = some u := ⟨nm[j], List.getElem?_eq_getElem hlt⟩
        obtain ⟨_, sb, so, rfl, hsc⟩ := HS.out j u hu
        have z5 := cle_below HB.out.below _ _ _ hsc
        unfold cf at z5
        have HD := Hold.mk (drop_name hu)
        clear hsc hu
        by_cases he : u = s
        · have hb : (u.toList == s.toList) = true := str_eq he
          have HR := Hold.mk (HST.out.trans ((congrArg (fun l => idxGo s l j) HD.out).trans (idx_hit he)))
          clear he
          go_wp2_with fail
          go_ret
          exact ⟨by rw [HP.out, HR.out]; rfl, HB.out.below⟩
        · have hb : (u.toList == s.toList) = false := str_ne he
          have HR := Hold.mk (HST.out.trans ((congrArg (fun l => idxGo s l j) HD.out).trans (idx_on he)))
          clear he
          go_wp2_with fail
          exact ⟨⟨j + 1, by go_num, hlt, HR.out, HB.out⟩, by simp [intOf]; omega⟩
      · have HR : Hold (idxGo s nm 0 = -1) := ⟨by rw [HST.out, List.drop_eq_nil_of_le (by omega), idxGo]⟩
        go_wp2_with fail
        go_ret
        exact ⟨by rw [HP.out, HR.out]; rfl, HB.out.below⟩
  have HP : Hold (placeF (.mk k n t nm it) s = -1) := ⟨by unfold placeF; rw [if_neg (fun h => h5 h.1), if_neg (show ¬ (JV.mk k n t nm it).kind = 6 from h6)]⟩
  have b5 : (k == 5) = false := by simpa using h5
  have b6 : (k == 6) = false := by simpa using h6
  clear h5 h6
  go_enter Tryd.func57, Tryd.ntmps57
  go_wp2_with fail
  go_ret
  exact ⟨by rw [HP.out]; rfl, (Below.refl _ _).alloc (Nat.le_refl _) _⟩

end Go.Proofs.YtkhhbckpddkhlaaDoor

namespace Go.Proofs.YtkhhbckpddkhlaaDoor
open Go.RowKit

/-- the cells below B -/
def cfU (B : Nat) (w : World) : CF := fun b o => if b < B then w.cell? ⟨b, o, none⟩ else none
theorem cfU_keep {B : Nat} {w w' : World} (hb : Below B w w') : CLe (cfU B w) (cf w') := fun b o u h => by
  unfold cfU at h; split at h
  · rename_i hB; unfold cf; rw [hb.cell (p := ⟨b, o, none⟩) hB]; exact h
  · cases h
theorem cle_cfU (w : World) : CLe (cf w) (cfU w.heap.size w) := fun b o u h => by
  unfold cfU; rw [if_pos (lt_of_cell h)]; exact h

theorem cfU_cf (B : Nat) (w : World) : CLe (cfU B w) (cf w) := fun b o u h => by
  unfold cfU at h; split at h
  · exact h
  · cases h
/-- five stores into one box -/
abbrev set5 (w : World) (k : Nat) (c0 c1 c2 c3 c4 : Value) : World := ((((w.setCell ⟨k, 0, none⟩ c0).setCell ⟨k, 1, none⟩ c1).setCell ⟨k, 2, none⟩ c2).setCell ⟨k, 3, none⟩ c3).setCell ⟨k, 4, none⟩ c4
theorem set_self {w : World} {k o : Nat} {cs : Array Value} {t : TypeId} {fr : Nat × Nat} {c : Value} (h : w.heap[k]? = some (.cells cs t fr)) : (w.setCell ⟨k, o, none⟩ c).heap[k]? = some (.cells (cs.set! o c) t fr) := by
  simp [World.setCell, Array.getElem?_modify, h]
theorem set5_self {w : World} {k : Nat} {a0 a1 a2 a3 a4 c0 c1 c2 c3 c4 : Value} {t : TypeId} {fr : Nat × Nat} (h : w.heap[k]? = some (.cells #[a0, a1, a2, a3, a4] t fr)) : (set5 w k c0 c1 c2 c3 c4).heap[k]? = some (.cells #[c0, c1, c2, c3, c4] t fr) := by
  have := set_self (o := 4) (c := c4) (set_self (o := 3) (c := c3) (set_self (o := 2) (c := c2) (set_self (o := 1) (c := c1) (set_self (o := 0) (c := c0) h))))
  simpa using this
theorem set5_other {w : World} {k j : Nat} {c0 c1 c2 c3 c4 : Value} (h : j ≠ k) : (set5 w k c0 c1 c2 c3 c4).heap[j]? = w.heap[j]? := by
  rw [Below.heap_setCell _ _ _ _ h, Below.heap_setCell _ _ _ _ h, Below.heap_setCell _ _ _ _ h, Below.heap_setCell _ _ _ _ h, Below.heap_setCell _ _ _ _ h]
theorem set5_below {w a : World} {B k : Nat} {c0 c1 c2 c3 c4 : Value} (hb : Below B a w) (hB : B ≤ k) : Below B a (set5 w k c0 c1 c2 c3 c4) :=
  ((((hb.setCell (p := ⟨k, 0, none⟩) hB _).setCell (p := ⟨k, 1, none⟩) hB _).setCell (p := ⟨k, 2, none⟩) hB _).setCell (p := ⟨k, 3, none⟩) hB _).setCell (p := ⟨k, 4, none⟩) hB _
theorem free_box {w : World} {k : Nat} {cs : Array Value} {t : TypeId} (h : w.heap[k]? = some (.cells cs t (0, 0))) (o : Nat) : w.frozen? ⟨k, o, none⟩ = false := by simp [World.frozen?, h]
theorem set5_cells {w : World} {k : Nat} {c0 c1 c2 c3 c4 : Value} {b o : Nat} (h : b ≠ k) : (set5 w k c0 c1 c2 c3 c4).cell? ⟨b, o, none⟩ = w.cell? ⟨b, o, none⟩ := World.cell?_of_block (set5_other h)

/-- what Get hands back: what lies in the cells c -/
def GetPostC (c : CF) (v : JV) (p : ByteArray) (w : World) (e : Ending) (w' : World) : Prop := (match getJ v p with
      | some u => ∃ x, e = .returned (.tuple #[x, .bool true]) ∧ JAt c u x
      | none => e = .returned (.tuple #[.agg #[.int .i64 0, .int .i64 0, .string ⟨#[]⟩, .slice none 0 0, .slice none 0 0], .bool false])) ∧ Below w.heap.size w w'
def GetPostJ (v : JV) (p : ByteArray) (w : World) : Ending → World → Prop := GetPostC (cfU w.heap.size w) v p w
theorem get_no {c : CF} {v : JV} {p : ByteArray} {w w' : World} (h : getJ v p = none) (hb : Below w.heap.size w w') : GetPostC c v p w (.returned (.tuple #[.agg #[.int .i64 0, .int .i64 0, .string ⟨#[]⟩, .slice none 0 0, .slice none 0 0], .bool false])) w' := by
  unfold GetPostC; rw [h]; exact ⟨rfl, hb⟩
theorem get_yes {c : CF} {v u : JV} {p : ByteArray} {w w' : World} {x : Value} (h : getJ v p = some u) (hx : JAt c u x) (hb : Below w.heap.size w w') : GetPostC c v p w (.returned (.tuple #[x, .bool true])) w' := by
  unfold GetPostC; rw [h]; exact ⟨⟨x, rfl, hx⟩, hb⟩

/-- in a formed value a place is one of an item -/
theorem place_item {d : Nat} {v : JV} {s : ByteArray} (hf : formedF d v = true) (h : ¬ placeF v s < 0) : ∃ q : Nat, placeF v s = q ∧ q < v.items.length := by
  cases d with
  | zero => simp [formedF] at hf
  | succ d =>
    obtain ⟨k, n, t, nm, it⟩ := v
    unfold placeF at h ⊢
    by_cases h5 : k = 5 ∧ numF s < it.length
    · rw [if_pos (show (JV.mk k n t nm it).kind = 5 ∧ numF s < (JV.mk k n t nm it).items.length from h5)] at h ⊢
      exact ⟨(numF s).toNat, by omega, by have := h5.2; show (numF s).toNat < it.length; omega⟩
    rw [if_neg (show ¬ ((JV.mk k n t nm it).kind = 5 ∧ numF s < (JV.mk k n t nm it).items.length) from h5)] at h ⊢
    by_cases h6 : k = 6
    · rw [if_pos (show (JV.mk k n t nm it).kind = 6 from h6)] at h ⊢
      obtain ⟨_, hl, _⟩ := formed_body hf (by omega)
      rw [if_pos h6] at hl
      rcases idxGo_ge s nm 0 with e | ⟨q, e, hq⟩
      · exact absurd (show idxGo s (JV.mk k n t nm it).names 0 < 0 by show idxGo s nm 0 < 0; rw [e]; decide) h
      · exact ⟨q, by show idxGo s nm 0 = _; rw [e, Nat.zero_add], by show q < it.length; omega⟩
    · rw [if_neg (show ¬ (JV.mk k n t nm it).kind = 6 from h6)] at h
      exact absurd (by decide) h

/-- where Get stands: at the value u, the j-th step next -/
structure GetAt (c : CF) (v : JV) (p : ByteArray) (l : List ByteArray) (sv : Value) (w wr : World) (j : Nat) (u : JV) (box : Array Value) : Prop where
  eq : getJ v p = walkF (l.drop j) u
  formed : ∃ d, formedF d u = true
  at_ : JAt c u (.agg box)
  two : Two w wr box #[.int .i64 0, .int .i64 0, .string ⟨#[]⟩, .slice none 0 0, .slice none 0 0]
  strs : StrsAt (cfA (w.heap.size + 2) wr) sv l
theorem GetAt.next {c : CF} {v u : JV} {p : ByteArray} {l : List ByteArray} {sv : Value} {w wr w' : World} {j : Nat} {box : Array Value} (h : GetAt c v p l sv w wr j u box) (hb : Below wr.heap.size wr w') : GetAt c v p l sv w w' j u box :=
  ⟨h.eq, h.formed, h.at_, h.two.next hb, h.strs.mono fun b o x hx => by
    unfold cfA at hx ⊢; split at hx
    · rename_i hB; rw [if_pos hB]; exact cle_below hb b o x hx
    · cases hx⟩
theorem GetAt.put {c : CF} {v u u' : JV} {p : ByteArray} {l : List ByteArray} {sv : Value} {w wr : World} {j : Nat} {a0 a1 a2 a3 a4 c0 c1 c2 c3 c4 : Value} (h : GetAt c v p l sv w wr j u #[a0, a1, a2, a3, a4]) (he : walkF (l.drop j) u = walkF (l.drop (j + 1)) u') (hf : ∃ d, formedF d u' = true)
    (hj : JAt c u' (.agg #[c0, c1, c2, c3, c4])) : GetAt c v p l sv w (set5 wr w.heap.size c0 c1 c2 c3 c4) (j + 1) u' #[c0, c1, c2, c3, c4] :=
  ⟨h.eq.trans he, hf, hj, ⟨set5_below h.two.bel (Nat.le_refl _), set5_self h.two.one, by rw [set5_other (by omega)]; exact h.two.two⟩, h.strs.mono fun b o x hx => by
    unfold cfA at hx ⊢; split at hx
    · rename_i hB; rw [if_pos hB, set5_cells (by omega)]; exact hx
    · cases hx⟩
theorem walk_no {s : ByteArray} {l : List ByteArray} {j : Nat} {u : JV} (hs : l[j]? = some s) (h : placeF u s < 0) : walkF (l.drop j) u = none := by
  rw [drop_name hs, walkF, if_pos h]
theorem walk_on {s : ByteArray} {l : List ByteArray} {j q : Nat} {u u' : JV} (hs : l[j]? = some s) (h : placeF u s = q) (hu : u.items[q]? = some u') : walkF (l.drop j) u = walkF (l.drop (j + 1)) u' := by
  rw [drop_name hs, walkF, if_neg (by omega), h, Int.toNat_natCast, hu]; rfl
theorem formed_item {d : Nat} {k n : Int} {t : ByteArray} {nm : List ByteArray} {it : List JV} {x : JV} (hf : formedF d (.mk k n t nm it) = true) (hx : x ∈ it) : ∃ d, formedF d x = true := by
  cases d with
  | zero => simp [formedF] at hf
  | succ d =>
    by_cases hk : k < 5
    · rw [formedF, if_pos hk, Bool.and_eq_true] at hf
      have := (of_decide_eq_true hf.2).1
      rw [List.length_eq_zero_iff.1 this] at hx; cases hx
    · exact ⟨d, (formed_body hf hk).2.2.2.1 x hx⟩

theorem stepsGo_small {s : ByteArray} (hs : s.size ≤ 1000000) : ∀ m fr i out r, (∀ x ∈ out, x.size ≤ 1000000) → stepsGo s m fr i out = some r → ∀ x ∈ r, x.size ≤ 1000000
  | 0, _, _, out, r, h, e => by rw [stepsGo] at e; cases e; exact h
  | m + 1, fr, i, out, r, h, e => by
    rw [stepsGo] at e
    split at e
    · exact stepsGo_small hs m _ _ _ r h e
    · split at e
      · cases e
      · refine stepsGo_small hs m _ _ _ r (fun x hx => ?_) e
        rcases List.mem_append.1 hx with h1 | h1
        · exact h x h1
        · obtain rfl : x = s.extract fr i := by simpa using h1
          rw [ByteArray.size_extract]; omega
theorem steps_small {s : ByteArray} (hs : s.size ≤ 1000000) {l : List ByteArray} (h : stepsF s = some l) : ∀ x ∈ l, x.size ≤ 1000000 := stepsGo_small hs _ _ _ _ l (by simp) h

set_option maxRecDepth 100000 in
set_option maxHeartbeats 8000000 in
theorem GetC_any (c : CF) (v : JV) (x : Value) (p : ByteArray) (w : World) (hc : CLe c (cfU w.heap.size w)) (hx : JAt c v x) (hs : p.size ≤ 1000000) (hT : Tabs w) :
    Calls Tryd.prog 35 #[x, .string p] w (GetPostC c v p w) := by
  obtain ⟨k, n, t, nm, it, na, ncap, ia, icap, hve, rfl, _⟩ := hx.open
  have HCL := Hold.mk hc
  have HJ := Hold.mk (hx.mono (hc.trans (cfU_cf _ w)))
  have HJC := Hold.mk hx
  have HT := Hold.mk hT
  have H2 := Hold.mk (Two.refl w #[.int .i64 k, .int .i64 n, .string t, .slice na nm.length ncap, .slice ia it.length icap] #[.int .i64 0, .int .i64 0, .string ⟨#[]⟩, .slice none 0 0, .slice none 0 0])
  have HS := Hold.mk (Steps_any p _ hs (hT.below H2.out.bel))
  clear hx hve hT hc
  go_enter Tryd.func35, Tryd.ntmps35
  go_wp2_with fail
  refine HS.out.mono ?_
  rintro e w1 ⟨hst, hb1⟩
  replace H2 := Hold.mk (H2.out.next hb1)
  clear HS hb1
  obtain ⟨y0, y1, y2, y3, y4⟩ := cells_five H2.out.one
  obtain ⟨z0, z1, z2, z3, z4⟩ := cells_five H2.out.two
  have f0 := free_box H2.out.two 0
  have f1 := free_box H2.out.two 1
  have f2 := free_box H2.out.two 2
  have f3 := free_box H2.out.two 3
  have f4 := free_box H2.out.two 4
  cases hl : stepsF p with
  | none =>
    rw [hl] at hst
    simp only at hst
    subst hst
    have HG : Hold (getJ v p = none) := ⟨by unfold getJ; rw [hl]; rfl⟩
    clear hl
    go_wp2_with fail
    obtain ⟨q0, q1, q2, q3, q4⟩ := cells_five (set5_self (c0 := .int .i64 0) (c1 := .int .i64 0) (c2 := .string ⟨#[]⟩) (c3 := .slice none 0 0) (c4 := .slice none 0 0) H2.out.two)
    refine bodyPost_ret (v := .tuple #[.agg #[.int .i64 0, .int .i64 0, .string ⟨#[]⟩, .slice none 0 0, .slice none 0 0], .bool false]) (by simp [results, Tryd.results35, go_sem, q0, q1, q2, q3, q4]) rfl (get_no HG.out (set5_below H2.out.bel (by omega)))
  | some l =>
    rw [hl] at hst
    simp only at hst
    obtain ⟨sv, rfl, hsv, _⟩ := hst
    obtain ⟨sa, scap, rfl, hslen, hsel⟩ := id hsv
    have HSV : Hold (StrsAt (cfA (w.heap.size + 2) w1) (.slice sa l.length scap) l) := ⟨by simpa using hsv⟩
    have HSZ := Hold.mk (steps_small hs hl)
    have HSL := Hold.mk hl
    clear hl hsv hsel
    have HF := Hold.mk (Formed_any v _ _ (HJ.out.mono (cle_below H2.out.bel)) (HT.out.below H2.out.bel))
    cases hf : formedF 6 v with
    | false =>
      rw [hf] at HF
      have HG : Hold (getJ v p = none) := ⟨by unfold getJ; rw [HSL.out]; simp [hf]⟩
      clear hf
      go_wp2_with fail
      refine HF.out.mono ?_
      rintro e w2 ⟨rfl, hb2⟩
      replace H2 := Hold.mk (H2.out.next hb2)
      clear hb2 HF y0 y1 y2 y3 y4 z0 z1 z2 z3 z4 f0 f1 f2 f3 f4 HSV
      obtain ⟨z0, z1, z2, z3, z4⟩ := cells_five H2.out.two
      have f0 := free_box H2.out.two 0
      have f1 := free_box H2.out.two 1
      have f2 := free_box H2.out.two 2
      have f3 := free_box H2.out.two 3
      have f4 := free_box H2.out.two 4
      go_wp2_with fail
      obtain ⟨q0, q1, q2, q3, q4⟩ := cells_five (set5_self (c0 := .int .i64 0) (c1 := .int .i64 0) (c2 := .string ⟨#[]⟩) (c3 := .slice none 0 0) (c4 := .slice none 0 0) H2.out.two)
      refine bodyPost_ret (v := .tuple #[.agg #[.int .i64 0, .int .i64 0, .string ⟨#[]⟩, .slice none 0 0, .slice none 0 0], .bool false]) (by simp [results, Tryd.results35, go_sem, q0, q1, q2, q3, q4]) rfl (get_no HG.out (set5_below H2.out.bel (by omega)))
    | true =>
      rw [hf] at HF
      have HA : Hold (GetAt c v p l (.slice sa l.length scap) w w1 0 v #[.int .i64 k, .int .i64 n, .string t, .slice na nm.length ncap, .slice ia it.length icap]) := ⟨⟨by unfold getJ; rw [HSL.out]; simp [hf], ⟨6, hf⟩, HJC.out, H2.out, HSV.out⟩⟩
      clear hf HSV HSL
      go_wp2_with fail
      refine HF.out.mono ?_
      rintro e w2 ⟨rfl, hb2⟩
      replace HA := Hold.mk (HA.out.next hb2)
      clear hb2 HF H2 y0 y1 y2 y3 y4 z0 z1 z2 z3 z4 f0 f1 f2 f3 f4
      go_wp2_with fail
      go_loopw [8] (fun i wr => ∃ (j : Nat) (u : JV) (box : Array Value), i = .int .i64 j ∧ j ≤ l.length ∧ GetAt c v p l (.slice sa l.length scap) w wr j u box) (fun i _ => l.length - (intOf i).toNat)
      case atStart => exact ⟨0, v, _, rfl, Nat.zero_le _, HA.out⟩
      case round =>
        clear HJ HJC HA
        obtain ⟨j, u, box, rfl, hj, hat⟩ := hrel
        obtain ⟨k, n, t, nm, it, na, ncap, ia, icap, rfl, hbe, _, _, _, _, hit⟩ := hat.at_.open
        cases hbe
        have HA := Hold.mk hat
        obtain ⟨y0, y1, y2, y3, y4⟩ := cells_five hat.two.one
        obtain ⟨z0, z1, z2, z3, z4⟩ := cells_five hat.two.two
        have f0 := free_box hat.two.two 0
        have f1 := free_box hat.two.two 1
        have f2 := free_box hat.two.two 2
        have f3 := free_box hat.two.two 3
        have f4 := free_box hat.two.two 4
        have HIT := Hold.mk hit
        clear hat hit
        by_cases hlt : j < l.length
        · obtain ⟨s, hs⟩ : ∃ s, l[j]? = some s := ⟨l[j], List.getElem?_eq_getElem hlt⟩
          obtain ⟨sa', scap', e, _, hsel⟩ := id HA.out.strs
          cases e
          obtain ⟨_, sb, so, rfl, hsc⟩ := hsel j s hs
          have g5 := Grow.cell (cfA_le _ _ _ _ _ hsc)
          have g0 := Grow.cell y0
          have g1 := Grow.cell y1
          have g2 := Grow.cell y2
          have g3 := Grow.cell y3
          have g4 := Grow.cell y4
          have HSX := Hold.mk hs
          have HPL := Hold.mk (Calls.grow (fun e : Grow wr => place_any (.mk k n t nm it) _ s e.val ((HA.out.at_.mono (HCL.out.trans (cfU_keep HA.out.two.bel))).mono (cle_below e.property)) (HSZ.out s (List.mem_of_getElem? hs))))
          clear hsel hsc hs y0 y1 y2 y3 y4 z0 z1 z2 z3 z4 f0 f1 f2 f3 f4
          generalize hpl : placeF (.mk k n t nm it) s = pl at HPL
          go_wp2_with fail
          refine wp_region_grow (by kernel_rfl) (by kernel_rfl) ?_
          repeat (go_big_quiet_step (exact HPL.out _))
          refine wpQuiet_nil ?_
          rintro ⟨w3, hb3⟩
          replace HA := Hold.mk (HA.out.next hb3)
          simp only
          clear hb3 g0 g1 g2 g3 g4 g5 HPL
          obtain ⟨y0, y1, y2, y3, y4⟩ := cells_five HA.out.two.one
          by_cases hneg : pl < 0
          · have HG := Hold.mk (HA.out.eq.trans (walk_no HSX.out (by rw [hpl]; exact hneg)))
            clear hpl
            obtain ⟨z0, z1, z2, z3, z4⟩ := cells_five HA.out.two.two
            have f0 := free_box HA.out.two.two 0
            have f1 := free_box HA.out.two.two 1
            have f2 := free_box HA.out.two.two 2
            have f3 := free_box HA.out.two.two 3
            have f4 := free_box HA.out.two.two 4
            go_wp2_with fail
            obtain ⟨q0, q1, q2, q3, q4⟩ := cells_five (set5_self (c0 := .int .i64 0) (c1 := .int .i64 0) (c2 := .string ⟨#[]⟩) (c3 := .slice none 0 0) (c4 := .slice none 0 0) HA.out.two.two)
            refine bodyPost_ret (v := .tuple #[.agg #[.int .i64 0, .int .i64 0, .string ⟨#[]⟩, .slice none 0 0, .slice none 0 0], .bool false]) (by simp [results, Tryd.results35, go_sem, q0, q1, q2, q3, q4]) rfl (get_no HG.out (set5_below HA.out.two.bel (by omega)))
          · obtain ⟨df, hdf⟩ := HA.out.formed
            obtain ⟨q, hq, hql⟩ := place_item hdf (by rw [hpl]; exact hneg)
            obtain rfl : pl = q := hpl.symm.trans hq
            have hql2 : q < it.length := hql
            obtain ⟨x, hx⟩ : ∃ x, it[q]? = some x := ⟨it[q], List.getElem?_eq_getElem hql2⟩
            obtain ⟨ia', icap', e, hilen, hiel⟩ := HIT.out
            cases e
            obtain ⟨bb, off, k2, n2, t2, nm2, it2, na2, ncap2, ia2, icap2, rfl, _, x0, x1, x2, x3, x4, hxj⟩ := hiel q x hx
            have hcl := HCL.out.trans (cfU_keep HA.out.two.bel)
            have z0 := hcl _ _ _ x0
            have z1 := hcl _ _ _ x1
            have z2 := hcl _ _ _ x2
            have z3 := hcl _ _ _ x3
            have z4 := hcl _ _ _ x4
            unfold cf at z0 z1 z2 z3 z4
            have f0 := free_box HA.out.two.one 0
            have f1 := free_box HA.out.two.one 1
            have f2 := free_box HA.out.two.one 2
            have f3 := free_box HA.out.two.one 3
            have f4 := free_box HA.out.two.one 4
            have HN := Hold.mk (HA.out.put (walk_on HSX.out hpl hx) (formed_item hdf (List.mem_of_getElem? hx)) hxj)
            clear hpl hq hdf hx hcl x0 x1 x2 x3 x4 hxj hneg hiel hql HIT
            go_wp2_with fail
            exact ⟨⟨j + 1, x, _, by go_num, hlt, HN.out⟩, by simp [intOf]; omega⟩
        · have HG : Hold (getJ v p = some (.mk k n t nm it)) := ⟨by rw [HA.out.eq, List.drop_eq_nil_of_le (by omega), walkF]⟩
          go_wp2_with fail
          obtain ⟨q0, q1, q2, q3, q4⟩ := cells_five (set5_self (c0 := .int .i64 k) (c1 := .int .i64 n) (c2 := .string t) (c3 := .slice na nm.length ncap) (c4 := .slice ia it.length icap) HA.out.two.two)
          refine bodyPost_ret (v := .tuple #[.agg #[.int .i64 k, .int .i64 n, .string t, .slice na nm.length ncap, .slice ia it.length icap], .bool true]) (by simp [results, Tryd.results35, go_sem, q0, q1, q2, q3, q4]) rfl (get_yes HG.out HA.out.at_ (set5_below HA.out.two.bel (by omega)))

theorem Get_any (v : JV) (x : Value) (p : ByteArray) (w : World) (hx : JAt (cf w) v x) (hs : p.size ≤ 1000000) (hT : Tabs w) : Calls Tryd.prog 35 #[x, .string p] w (GetPostJ v p w) :=
  GetC_any _ v x p w (CLe.refl _) (hx.mono (cle_cfU w)) hs hT
end Go.Proofs.YtkhhbckpddkhlaaDoor
