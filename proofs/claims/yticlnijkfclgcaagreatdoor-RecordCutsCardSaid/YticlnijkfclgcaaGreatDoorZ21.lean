/- Paths: the steps, walked. Paths: numbers and places, walked. Paths: what lies at one, walked. -/
import Derived.Test.YticlnijkfclgcaaGreatDoorZ02
import Derived.Test.YticlnijkfclgcaaGreatDoorZ05
import Derived.Test.YticlnijkfclgcaaGreatDoorZ09
import Derived.Test.YticlnijkfclgcaaGreatDoorZ20
import Derived.Deep.RegionWith
import Derived.StillTailTactics
namespace Go.Proofs.YticlnijkfclgcaaGreatDoor
open Go.RowKit

theorem validF_any (s : ByteArray) (w : World) (hs : s.size ≤ 1000000) (hT : Tabs w) :
    Calls Tryz.prog 23 #[.string s] w fun e w' => e = .returned (.bool (Lib.validD s.data.toList)) ∧ Below w.heap.size w w' :=
  Any.utf8_ValidString Tryz.laysValid s w (by omega) hT
theorem own_shape {w : World} {B : Nat} {e : TypeId} {v : Value} {n : Nat} {xs : List Value} (h : w.ownsRow B e 1 v n xs) : ∃ a cap, v = .slice a n cap := by
  rcases h.2 with ⟨hv, hn⟩ | ⟨g, cap, cur, hv, _⟩
  · exact ⟨none, 0, by rw [hv, hn]⟩
  · exact ⟨_, cap, hv⟩
/-- a row of strings of the call's own -/
theorem strs_of_own {w : World} {B : Nat} {v : Value} {l : List ByteArray} (h : w.ownsRow B 9 1 v l.length (l.map Value.string)) (hl : l.length ≤ 1000000) (hs : ∀ s ∈ l, s.size ≤ 9223372036854775807) : StrsAt (cfA B w) v l := by
  have h2 := h.2
  rcases h2 with ⟨hv, hn⟩ | ⟨g, cap, cur, hv, hb, _⟩
  · obtain rfl : l = [] := List.length_eq_zero_iff.1 hn
    exact ⟨none, 0, hv, by simp, fun i s h => by simp at h⟩
  · refine ⟨some ⟨g, 0, none⟩, cap, hv, by omega, fun i s hi => ⟨hs s (List.mem_of_getElem? hi), g, 0, rfl, ?_⟩⟩
    have := h.cells (g := g) (by rw [hv]; rfl) i (.string s) (by simp [hi])
    rw [addr_at] at this
    unfold cfA
    rw [if_pos hb, Nat.zero_add]
    exact this
/-- a slice's bounds -/
def CapOk (v : Value) : Prop := ∃ a n cap, v = .slice a n cap ∧ n ≤ cap ∧ cap ≤ 9223372036854775807
theorem capOk_own {w : World} {B : Nat} {T : TypeId} {n : Nat} {v : Value} {p : Nat} {cs : List Value} (h : w.ownsRow B T n v p cs) : CapOk v := by
  rcases h.2 with ⟨hv, hn⟩ | ⟨g, cap, cur, hv, _, _, h1, h2, _⟩
  · exact ⟨none, 0, 0, hv, by omega, by decide⟩
  · exact ⟨_, _, cap, hv, h1, by unfold maxLen at h2; exact h2⟩
/-- what Steps hands back -/
def StepsPost (s : ByteArray) (w : World) (e : Ending) (w' : World) : Prop := (match stepsF s with
      | some l => ∃ sv, e = .returned (.tuple #[sv, .int .i64 0]) ∧ StrsAt (cfA w.heap.size w') sv l ∧ CapOk sv
      | none => e = .returned (.tuple #[.slice none 0 0, .int .i64 2])) ∧ Below w.heap.size w w'
theorem steps_no {s : ByteArray} {w w' : World} (h : stepsF s = none) (hb : Below w.heap.size w w') : StepsPost s w (.returned (.tuple #[.slice none 0 0, .int .i64 2])) w' := by
  unfold StepsPost; rw [h]; exact ⟨rfl, hb⟩
theorem steps_yes {s : ByteArray} {w w' : World} {l : List ByteArray} {sv : Value} (h : stepsF s = some l) (hs : StrsAt (cfA w.heap.size w') sv l) (hcp : CapOk sv) (hb : Below w.heap.size w w') : StepsPost s w (.returned (.tuple #[sv, .int .i64 0])) w' := by
  unfold StepsPost; rw [h]; exact ⟨⟨sv, rfl, hs, hcp⟩, hb⟩
theorem go_on {s : ByteArray} {j fr : Nat} {out : List ByteArray} (_hj : j ≤ s.size) (h : j < s.size ∧ s.data.toList[j]? ≠ some 46) : stepsGo s (s.size + 1 - j) fr j out = stepsGo s (s.size + 1 - (j + 1)) fr (j + 1) out := by
  rw [show s.size + 1 - j = (s.size + 1 - (j + 1)) + 1 by omega, stepsGo, if_pos h]
theorem go_bad {s : ByteArray} {j fr : Nat} {out : List ByteArray} (hj : j ≤ s.size) (h : ¬ (j < s.size ∧ s.data.toList[j]? ≠ some 46)) (hc : j = fr ∨ 60 < j - fr ∨ out.length = 4 ∨ Lib.validD (s.extract fr j).data.toList = false) : stepsGo s (s.size + 1 - j) fr j out = none := by
  rw [show s.size + 1 - j = (s.size + 1 - (j + 1)) + 1 by omega, stepsGo, if_neg h, if_pos hc]
theorem go_add {s : ByteArray} {j fr : Nat} {out : List ByteArray} (hj : j ≤ s.size) (h : ¬ (j < s.size ∧ s.data.toList[j]? ≠ some 46)) (hc : ¬ (j = fr ∨ 60 < j - fr ∨ out.length = 4 ∨ Lib.validD (s.extract fr j).data.toList = false)) : stepsGo s (s.size + 1 - j) fr j out = stepsGo s (s.size + 1 - (j + 1)) (j + 1) (j + 1) (out ++ [s.extract fr j]) := by
  rw [show s.size + 1 - j = (s.size + 1 - (j + 1)) + 1 by omega, stepsGo, if_neg h, if_neg hc]
theorem go_end {s : ByteArray} {j fr : Nat} {out : List ByteArray} (hj : ¬ j ≤ s.size) : stepsGo s (s.size + 1 - j) fr j out = some out := by
  rw [show s.size + 1 - j = 0 by omega, stepsGo]
theorem byte_at {s : ByteArray} {j : Nat} (h : j < s.size) : s.data.toList[j]? = some s[j] := by
  rw [Array.getElem?_toList]; exact Array.getElem?_eq_getElem h
theorem sizes_snoc {out : List ByteArray} {x : ByteArray} (h : ∀ y ∈ out, y.size ≤ 9223372036854775807) (hx : x.size ≤ 60) : ∀ y ∈ out ++ [x], y.size ≤ 9223372036854775807 := fun y hy => by
  rcases List.mem_append.1 hy with h1 | h1
  · exact h y h1
  · obtain rfl : y = x := by simpa using h1
    exact Nat.le_trans hx (by decide)
theorem byte_is {c k : UInt8} (h : c = k) : ((c.toNat : Int) == (k.toNat : Int)) = true := by subst h; simp
theorem byte_bne {c k : UInt8} (h : c ≠ k) : ((c.toNat : Int) != (k.toNat : Int)) = true := by rw [bne, byte_ne h]; rfl
theorem byte_beq {c k : UInt8} (h : c = k) : ((c.toNat : Int) != (k.toNat : Int)) = false := by rw [bne, byte_is h]; rfl
set_option maxRecDepth 100000 in
set_option maxHeartbeats 8000000 in
theorem Steps_any (s : ByteArray) (w : World) (hs : s.size ≤ 1000000) (hT : Tabs w) :
    Calls Tryz.prog 93 #[.string s] w (StepsPost s w) := by
  obtain ⟨i0, hi, hz0, hz1, hz2⟩ := info_parts infoStr
  have HT := Hold.mk hT
  clear hT
  go_enter Tryz.func93, Tryz.ntmps93
  go_wp2_with fail
  go_loopw [4, 5, 6] (fun o f i wr => ∃ (j fr : Nat) (out : List ByteArray), i = .int .i64 j ∧ f = .int .i64 fr ∧ j ≤ s.size + 1 ∧ fr ≤ j ∧ out.length ≤ 4 ∧ (∀ x ∈ out, x.size ≤ 9223372036854775807) ∧ wr.ownsRow w.heap.size 9 1 o out.length (out.map Value.string) ∧ stepsF s = stepsGo s (s.size + 1 - j) fr j out ∧ Below w.heap.size w wr) (fun _ _ i _ => s.size + 1 - (intOf i).toNat)
  case atStart => exact ⟨0, 0, [], rfl, rfl, Nat.zero_le _, Nat.le_refl _, by simp, by simp, World.ownsRow_nil _ _ _ _, rfl, Below.refl _ _⟩
  case round =>
    obtain ⟨j, fr, out, rfl, rfl, hj, hfr, hol, hos, hown, hst, hbl⟩ := hrel
    obtain ⟨oa, ocap, rfl⟩ := own_shape hown
    have HO := Hold.mk hown
    have HS := Hold.mk hst
    have HB := Hold.mk hbl
    have HOS := Hold.mk hos
    clear hown hst hbl hos
    by_cases hlt : j ≤ s.size
    · by_cases hc : j < s.size ∧ s.data.toList[j]? ≠ some 46
      · have HC := Hold.mk hc
        obtain ⟨hc1, hc2⟩ := hc
        rw [byte_at hc1] at hc2
        have hb : ((s[j].toNat : Int) != 46) = true := byte_bne (k := 46) (fun (e : s[j] = 46) => hc2 (by rw [e]))
        clear hc2
        go_wp2_with fail
        exact ⟨⟨j + 1, fr, out, by go_num, rfl, by omega, by omega, hol, HOS.out, HO.out, by rw [HS.out]; exact go_on hlt HC.out, HB.out⟩, by simp [intOf]; omega⟩
      · have HB46 := Hold.mk hc
        have hside : (j = s.size ∧ ¬ j < s.size) ∨ ∃ h : j < s.size, s[j] = 46 := by
          by_cases h : j < s.size
          · right; refine ⟨h, ?_⟩; by_cases e : s[j] = 46; exact e; exact absurd ⟨h, by rw [byte_at h]; simpa using e⟩ hc
          · left; exact ⟨by omega, h⟩
        clear hc
        have hfr2 : (fr : Int) ≤ j := by omega
        by_cases h1 : j = fr
        · have b1 : ((j : Int) == (fr : Int)) = true := by rw [h1]; simp
          have H1 := Hold.mk h1
          clear h1
          rcases hside with ⟨rfl, hx⟩ | ⟨hx, hy⟩
          · go_wp2_with fail
            go_ret2
            exact steps_no (by rw [HS.out]; exact go_bad (Nat.le_refl _) HB46.out (.inl H1.out)) HB.out
          · have hb : ((s[j].toNat : Int) != 46) = false := byte_beq hy
            clear hy
            go_wp2_with fail
            go_ret2
            exact steps_no (by rw [HS.out]; exact go_bad hlt HB46.out (.inl H1.out)) HB.out
        have b1 : ((j : Int) == (fr : Int)) = false := by rw [beq_eq_false_iff_ne]; omega
        have H1 := Hold.mk h1
        clear h1
        by_cases h2 : 60 < j - fr
        · have b2 : 60 < (j : Int) - fr := by omega
          have H2 := Hold.mk h2
          clear h2
          rcases hside with ⟨rfl, hx⟩ | ⟨hx, hy⟩
          · go_wp2_with fail
            go_ret2
            exact steps_no (by rw [HS.out]; exact go_bad (Nat.le_refl _) HB46.out (.inr (.inl H2.out))) HB.out
          · have hb : ((s[j].toNat : Int) != 46) = false := byte_beq hy
            clear hy
            go_wp2_with fail
            go_ret2
            exact steps_no (by rw [HS.out]; exact go_bad hlt HB46.out (.inr (.inl H2.out))) HB.out
        have b2 : ¬ 60 < (j : Int) - fr := by omega
        have H2 := Hold.mk h2
        clear h2
        by_cases h3 : out.length = 4
        · have b3 : (((out.length : Nat) : Int) == 4) = true := by rw [h3]; rfl
          have H3 := Hold.mk h3
          clear h3
          rcases hside with ⟨rfl, hx⟩ | ⟨hx, hy⟩
          · go_wp2_with fail
            go_ret2
            exact steps_no (by rw [HS.out]; exact go_bad (Nat.le_refl _) HB46.out (.inr (.inr (.inl H3.out)))) HB.out
          · have hb : ((s[j].toNat : Int) != 46) = false := byte_beq hy
            clear hy
            go_wp2_with fail
            go_ret2
            exact steps_no (by rw [HS.out]; exact go_bad hlt HB46.out (.inr (.inr (.inl H3.out)))) HB.out
        have b3 : (((out.length : Nat) : Int) == 4) = false := by rw [beq_eq_false_iff_ne]; omega
        have hol3 : out.length ≤ 3 := by omega
        have H3 := Hold.mk h3
        clear h3
        have hsl := fun wx => run_slice_string (P := Tryz.prog) wx 9 s .i64 .i64 (fr : Int) (j : Int) Tryz.underlying9 (by omega) hfr2 (by omega)
        rw [Int.toNat_natCast, Int.toNat_natCast] at hsl
        have hsz : (s.extract fr j).size ≤ 60 := by rw [ByteArray.size_extract]; have := H2.out; omega
        have HV := Hold.mk (validF_any (s.extract fr j) wr (by omega) (HT.out.below HB.out))
        have HX : Hold (∀ v, Lib.validD (s.extract fr j).data.toList = v → True) := ⟨fun _ _ => trivial⟩
        cases hv : Lib.validD (s.extract fr j).data.toList with
        | false =>
          rw [hv] at HV
          have H4 := Hold.mk hv
          clear hv HX
          rcases hside with ⟨rfl, hx⟩ | ⟨hx, hy⟩
          · go_wp2_with fail
            refine HV.out.mono ?_
            rintro e w2 ⟨rfl, hb2⟩
            replace HB := Hold.mk (HB.out.trans (hb2.mono HB.out.size))
            clear hb2
            go_wp2_with fail
            go_ret2
            exact steps_no (by rw [HS.out]; exact go_bad (Nat.le_refl _) HB46.out (.inr (.inr (.inr H4.out)))) HB.out
          · have hb : ((s[j].toNat : Int) != 46) = false := byte_beq hy
            clear hy
            go_wp2_with fail
            refine HV.out.mono ?_
            rintro e w2 ⟨rfl, hb2⟩
            replace HB := Hold.mk (HB.out.trans (hb2.mono HB.out.size))
            clear hb2
            go_wp2_with fail
            go_ret2
            exact steps_no (by rw [HS.out]; exact go_bad hlt HB46.out (.inr (.inr (.inr H4.out)))) HB.out
        | true =>
          rw [hv] at HV
          have H4 : Hold (¬ (j = fr ∨ 60 < j - fr ∨ out.length = 4 ∨ Lib.validD (s.extract fr j).data.toList = false)) := ⟨by rw [hv]; rintro (h | h | h | h); exact H1.out h; exact H2.out h; exact H3.out h; cases h⟩
          clear hv HX
          rcases hside with ⟨rfl, hx⟩ | ⟨hx, hy⟩
          · go_wp2_with fail
            refine HV.out.mono ?_
            rintro e w2 ⟨rfl, hb2⟩
            have hg : wr.grownBy w2 none := ⟨hb2.os, hb2.tape, hb2.output, hb2.size, fun k hk _ => hb2.block k hk⟩
            have hown2 := HO.out.kept hg (by cases oa with | none => exact .inl rfl | some x => exact .inr (by simp [Value.ownBlock]))
            replace HB := Hold.mk (HB.out.trans (hb2.mono HB.out.size))
            have hbs := HB.out.size
            clear hb2 hg
            go_wp2_with (at_builtin; refine wpList_append_own _ rfl _ _ 55 rfl w.heap.size 9 i0 (.string ⟨#[]⟩) 1 16 Tryz.underlying55 hi hz0 hz1 hz2 rfl (by decide) _ _ _ rfl (hown2.alloc _) ⟨w2.heap.size, 0, none⟩ 1 1 [.string (s.extract fr s.size)] rfl rfl ?c01 ?c02 ?c03 ?c04 ?c05 ?_)
            case c01 =>
              intro q u hq
              match q, hq with
              | 0, hq => simp at hq; subst hq; simp [Addr.add]
            case c02 => intro u hu; simp at hu; subst hu; rfl
            case c03 => unfold maxLen; omega
            case c04 => omega
            case c05 => simp; omega
            intro v' w3 hown3 hgrow3 _
            have HO3 := Hold.mk hown3
            have HB3 := Hold.mk ((HB.out.alloc hbs _).grown hgrow3 (by simp; omega) (fun q hq => (hown2.lt q hq).1))
            clear hown3 hgrow3 hown2
            go_wp2_with fail
            exact ⟨⟨s.size + 1, s.size + 1, out ++ [s.extract fr s.size], by go_num, by go_num, by omega, by omega, by simp <;> omega, sizes_snoc HOS.out hsz, by simpa using HO3.out, by rw [HS.out]; exact go_add (Nat.le_refl _) HB46.out H4.out, HB3.out⟩, by simp [intOf] <;> omega⟩
          · have hb : ((s[j].toNat : Int) != 46) = false := byte_beq hy
            clear hy
            go_wp2_with fail
            refine HV.out.mono ?_
            rintro e w2 ⟨rfl, hb2⟩
            have hg : wr.grownBy w2 none := ⟨hb2.os, hb2.tape, hb2.output, hb2.size, fun k hk _ => hb2.block k hk⟩
            have hown2 := HO.out.kept hg (by cases oa with | none => exact .inl rfl | some x => exact .inr (by simp [Value.ownBlock]))
            replace HB := Hold.mk (HB.out.trans (hb2.mono HB.out.size))
            have hbs := HB.out.size
            clear hb2 hg
            go_wp2_with (at_builtin; refine wpList_append_own _ rfl _ _ 55 rfl w.heap.size 9 i0 (.string ⟨#[]⟩) 1 16 Tryz.underlying55 hi hz0 hz1 hz2 rfl (by decide) _ _ _ rfl (hown2.alloc _) ⟨w2.heap.size, 0, none⟩ 1 1 [.string (s.extract fr j)] rfl rfl ?c11 ?c12 ?c13 ?c14 ?c15 ?_)
            case c11 =>
              intro q u hq
              match q, hq with
              | 0, hq => simp at hq; subst hq; simp [Addr.add]
            case c12 => intro u hu; simp at hu; subst hu; rfl
            case c13 => unfold maxLen; omega
            case c14 => omega
            case c15 => simp; omega
            intro v' w3 hown3 hgrow3 _
            have HO3 := Hold.mk hown3
            have HB3 := Hold.mk ((HB.out.alloc hbs _).grown hgrow3 (by simp; omega) (fun q hq => (hown2.lt q hq).1))
            clear hown3 hgrow3 hown2
            go_wp2_with fail
            exact ⟨⟨j + 1, j + 1, out ++ [s.extract fr j], by go_num, by go_num, by omega, by omega, by simp <;> omega, sizes_snoc HOS.out hsz, by simpa using HO3.out, by rw [HS.out]; exact go_add hlt HB46.out H4.out, HB3.out⟩, by simp [intOf] <;> omega⟩
    · go_wp2_with fail
      go_ret2
      exact steps_yes (by rw [HS.out]; exact go_end hlt) (strs_of_own HO.out (by omega) HOS.out) (capOk_own HO.out) HB.out
end Go.Proofs.YticlnijkfclgcaaGreatDoor

namespace Go.Proofs.YticlnijkfclgcaaGreatDoor
open Go.RowKit

theorem drop_at {s : ByteArray} {j : Nat} (h : j < s.size) : s.data.toList.drop j = s[j] :: s.data.toList.drop (j + 1) := by
  rw [List.drop_eq_getElem_cons (by rw [size_list]; exact h)]
  congr 1
end Go.Proofs.YticlnijkfclgcaaGreatDoor

namespace Go.Proofs.YticlnijkfclgcaaGreatDoor
open Go.RowKit

/-- the cells below B -/
def cfU (B : Nat) (w : World) : CF := fun b o => if b < B then w.cell? ⟨b, o, none⟩ else none
theorem cfU_keep {B : Nat} {w w' : World} (hb : Below B w w') : CLe (cfU B w) (cf w') := fun b o u h => by
  unfold cfU at h; split at h
  · rename_i hB; unfold cf; rw [hb.cell (p := ⟨b, o, none⟩) hB]; exact h
  · cases h
/-- five stores into one box -/
abbrev set5 (w : World) (k : Nat) (c0 c1 c2 c3 c4 : Value) : World := ((((w.setCell ⟨k, 0, none⟩ c0).setCell ⟨k, 1, none⟩ c1).setCell ⟨k, 2, none⟩ c2).setCell ⟨k, 3, none⟩ c3).setCell ⟨k, 4, none⟩ c4
theorem set_self {w : World} {k o : Nat} {cs : Array Value} {t : TypeId} {fr : Nat × Nat} {c : Value} (h : w.heap[k]? = some (.cells cs t fr)) : (w.setCell ⟨k, o, none⟩ c).heap[k]? = some (.cells (cs.set! o c) t fr) := by
  simp [World.setCell, Array.getElem?_modify, h]
theorem set5_self {w : World} {k : Nat} {a0 a1 a2 a3 a4 c0 c1 c2 c3 c4 : Value} {t : TypeId} {fr : Nat × Nat} (h : w.heap[k]? = some (.cells #[a0, a1, a2, a3, a4] t fr)) : (set5 w k c0 c1 c2 c3 c4).heap[k]? = some (.cells #[c0, c1, c2, c3, c4] t fr) := by
  have := set_self (o := 4) (c := c4) (set_self (o := 3) (c := c3) (set_self (o := 2) (c := c2) (set_self (o := 1) (c := c1) (set_self (o := 0) (c := c0) h))))
  simpa using this
theorem set5_other {w : World} {k j : Nat} {c0 c1 c2 c3 c4 : Value} (h : j ≠ k) : (set5 w k c0 c1 c2 c3 c4).heap[j]? = w.heap[j]? := by
  rw [Below.heap_setCell _ _ _ _ h, Below.heap_setCell _ _ _ _ h, Below.heap_setCell _ _ _ _ h, Below.heap_setCell _ _ _ _ h, Below.heap_setCell _ _ _ _ h]
theorem set5_below {w a : World} {B k : Nat} {c0 c1 c2 c3 c4 : Value} (hb : Below B a w) (hB : B ≤ k) : Below B a (set5 w k c0 c1 c2 c3 c4) :=
  ((((hb.setCell (p := ⟨k, 0, none⟩) hB _).setCell (p := ⟨k, 1, none⟩) hB _).setCell (p := ⟨k, 2, none⟩) hB _).setCell (p := ⟨k, 3, none⟩) hB _).setCell (p := ⟨k, 4, none⟩) hB _
theorem free_box {w : World} {k : Nat} {cs : Array Value} {t : TypeId} (h : w.heap[k]? = some (.cells cs t (0, 0))) (o : Nat) : w.frozen? ⟨k, o, none⟩ = false := by simp [World.frozen?, h]
theorem set5_cells {w : World} {k : Nat} {c0 c1 c2 c3 c4 : Value} {b o : Nat} (h : b ≠ k) : (set5 w k c0 c1 c2 c3 c4).cell? ⟨b, o, none⟩ = w.cell? ⟨b, o, none⟩ := World.cell?_of_block (set5_other h)
/-- where Get stands: at the value u, the j-th step next -/
structure GetAt (c : CF) (v : JV) (p : ByteArray) (l : List ByteArray) (sv : Value) (w wr : World) (j : Nat) (u : JV) (box : Array Value) : Prop where
  eq : getJ v p = walkF (l.drop j) u
  formed : ∃ d, formedF d u = true
  at_ : JAt c u (.agg box)
  two : Two w wr box #[.int .i64 0, .int .i64 0, .string ⟨#[]⟩, .slice none 0 0, .slice none 0 0]
  strs : StrsAt (cfA (w.heap.size + 2) wr) sv l
theorem GetAt.next {c : CF} {v u : JV} {p : ByteArray} {l : List ByteArray} {sv : Value} {w wr w' : World} {j : Nat} {box : Array Value} (h : GetAt c v p l sv w wr j u box) (hb : Below wr.heap.size wr w') : GetAt c v p l sv w w' j u box :=
  ⟨h.eq, h.formed, h.at_, h.two.next hb, h.strs.mono fun b o x hx => by
    unfold cfA at hx ⊢; split at hx
    · rename_i hB; rw [if_pos hB]; exact cle_below hb b o x hx
    · cases hx⟩
theorem GetAt.put {c : CF} {v u u' : JV} {p : ByteArray} {l : List ByteArray} {sv : Value} {w wr : World} {j : Nat} {a0 a1 a2 a3 a4 c0 c1 c2 c3 c4 : Value} (h : GetAt c v p l sv w wr j u #[a0, a1, a2, a3, a4]) (he : walkF (l.drop j) u = walkF (l.drop (j + 1)) u') (hf : ∃ d, formedF d u' = true)
    (hj : JAt c u' (.agg #[c0, c1, c2, c3, c4])) : GetAt c v p l sv w (set5 wr w.heap.size c0 c1 c2 c3 c4) (j + 1) u' #[c0, c1, c2, c3, c4] :=
  ⟨h.eq.trans he, hf, hj, ⟨set5_below h.two.bel (Nat.le_refl _), set5_self h.two.one, by rw [set5_other (by omega)]; exact h.two.two⟩, h.strs.mono fun b o x hx => by
    unfold cfA at hx ⊢; split at hx
    · rename_i hB; rw [if_pos hB, set5_cells (by omega)]; exact hx
    · cases hx⟩
end Go.Proofs.YticlnijkfclgcaaGreatDoor
