/- Valid and text of the reference. -/
import Derived.Test.YtfllnlmanopfaaaDoorJD
import Derived.Test.YtfllnlmanopfaaaDoorJU
import Derived.Lib.Strings
namespace Go.Proofs.YtfllnlmanopfaaaDoor
open Go.RowKit

theorem size_list (s : ByteArray) : s.data.toList.length = s.size := by simp

set_option maxHeartbeats 1000000 in
theorem broken_any (s : ByteArray) (w : World) (hs : s.size ≤ 1000000) :
    Calls Tryd.prog 125 #[.string s] w fun e w' => e = .returned (.bool (!Lib.validD s.data.toList)) ∧ Below w.heap.size w w' := by
  go_enter Tryd.func125, Tryd.ntmps125
  go_wp2_with fail
  go_loopw [3] (fun _ wr => ∃ pos : Nat, pos ≤ s.size ∧ wr = w.iter s pos ∧ Lib.validD (s.data.toList.drop pos) = Lib.validD s.data.toList) (fun _ wr => s.size - wr.iterPos w.heap.size)
  case atStart => exact ⟨0, Nat.zero_le _, rfl, rfl⟩
  case round =>
    obtain ⟨pos, hpos, rfl, hv⟩ := hrel
    have HV := Lib.hid hv; clear hv
    by_cases hlt : pos < s.size
    · have hne : s.data.toList.drop pos ≠ [] := by
        intro e; have := congrArg List.length e; rw [List.length_drop, size_list] at this; simp at this; omega
      have hd := Lib.decodeL_drop s pos
      have hst := Lib.validD_step _ hne
      have hnx : ∀ ty, (Instr.next (.pointer (some ⟨w.heap.size, 0, none⟩)) true ty).run Tryd.prog (w.iter s pos) = _ := fun ty => run_next_any (P := Tryd.prog) w s pos ty hlt
      have hle := Lib.decodeL_le _ hne
      have hw := Lib.decodeL_width (s.data.toList.drop pos)
      have hf := fffd_one _ hne
      rw [hd] at hst hle hw hf
      rw [List.length_drop, size_list] at hle
      rw [List.drop_drop] at hst
      clear hd
      have HST := Lib.hid hst; clear hst
      have HF := Lib.hid hf; clear hf hne
      generalize Utf8.decode s pos = d at hnx HST hle hw HF
      obtain ⟨c, sz⟩ := d
      simp only at hnx hle hw
      by_cases hc : c = 65533
      · subst hc
        have hx3 : (s.extract pos (pos + 3)).toList = (s.data.toList.drop pos).take 3 := by rw [Lib.extract_toList]; congr 1; omega
        by_cases h3 : pos + 3 ≤ s.size
        · by_cases hx : (s.extract pos (pos + 3)).toList = [239, 191, 189]
          · have hxb : ((s.extract pos (pos + 3)).toList == [239, 191, 189]) = true := by simpa using hx
            have HS : Hid (sz ≠ 1) := fun e => ((HF.out rfl).1 e) (by rw [← hx3]; exact hx)
            clear hx hx3
            go_wp2_with fail
            go_roundw
            case rel =>
              refine ⟨pos + sz, by omega, rfl, ?_⟩
              rw [← HV.out, HST.out, if_neg (fun e => HS.out e.2)]
            case measure => simp; omega
          · have hxb : ((s.extract pos (pos + 3)).toList == [239, 191, 189]) = false := by simpa using hx
            have HS : Hid (sz = 1) := (HF.out rfl).2 (by rw [← hx3]; exact hx)
            clear hx hx3
            go_wp2_with fail
            go_ret
            refine ⟨?_, (Below.refl _ _).alloc (Nat.le_refl _) _⟩
            rw [← HV.out, HST.out, if_pos (by exact ⟨by simp, HS.out⟩)]; rfl
        · have HS : Hid (sz = 1) := (HF.out rfl).2 (fun e => by
            have := congrArg List.length e
            rw [List.length_take, List.length_drop, size_list] at this
            simp at this; omega)
          clear hx3
          go_wp2_with fail
          go_ret
          refine ⟨?_, (Below.refl _ _).alloc (Nat.le_refl _) _⟩
          rw [← HV.out, HST.out, if_pos (by exact ⟨by simp, HS.out⟩)]; rfl
      · have hcb : ((c : Int) == 65533) = false := by simp; omega
        have HC := Lib.hid hc; clear hc
        go_wp2_with fail
        go_roundw
        case rel =>
          refine ⟨pos + sz, by omega, rfl, ?_⟩
          rw [← HV.out, HST.out, if_neg (fun e => HC.out e.1)]
        case measure => simp; omega
    · have hnx : ∀ ty, (Instr.next (.pointer (some ⟨w.heap.size, 0, none⟩)) true ty).run Tryd.prog (w.iter s pos) = _ := fun ty => run_next_end (P := Tryd.prog) w s pos ty hlt
      go_wp2_with fail
      go_ret
      refine ⟨?_, (Below.refl _ _).alloc (Nat.le_refl _) _⟩
      rw [← HV.out, List.drop_of_length_le (by rw [size_list]; omega)]; rfl

/-- the runes of a text and back: just itself, if it is valid -/
theorem runes_same (s : ByteArray) (hv : Lib.validD s.data.toList = true) : runesBytes (runesI s.size s.data.toList) = s := by
  have := runesBytes_list (runesI s.size s.data.toList)
  rw [runes_back s.size _ (by rw [size_list]; omega) hv] at this
  exact ByteArray.ext (Array.toList_inj.1 this)

set_option maxHeartbeats 1000000 in
theorem Valid_any (s : ByteArray) (w : World) (hs : s.size ≤ 1000000) :
    Calls Tryd.prog 87 #[.string s] w fun e w' => e = .returned (.bool (Lib.validD s.data.toList)) ∧ Below w.heap.size w w' := by
  have hrl := runesI_len s.size s.data.toList
  have hru := runesFrom_eq s s.size 0 #[]
  simp only [List.drop_zero, Array.empty_append] at hru
  have h1 := run_runes_of_string (P := Tryd.prog) w 9 141 21 s Tryd.underlying9 Tryd.underlying141 Tryd.underlying21 (by rw [hru]; simp; omega)
  rw [hru] at h1
  have hsm := runes_same s
  have HR := Lib.hid hsm; clear hsm hru
  generalize runesI s.size s.data.toList = rs at h1 HR hrl
  simp only [List.size_toArray, List.length_map] at h1
  generalize hcap : grownCap w rs.length 0 21 = cap at h1
  clear hcap
  have hcl : ∀ j, j < rs.length → (w.drew.alloc (.cells ((rs.map (Value.int .i32)).toArray ++ Array.replicate (cap - rs.length) (.int .i32 0)) 21)).cell? ((⟨w.heap.size, 0, none⟩ : Addr).add j) = some (.int .i32 (rs.getD j 0)) := by
    intro j hj
    have ha : (⟨w.heap.size, 0, none⟩ : Addr).add j = ⟨w.heap.size, j, none⟩ := by unfold Addr.add; split <;> simp_all
    have hb : (w.drew.alloc (.cells ((rs.map (Value.int .i32)).toArray ++ Array.replicate (cap - rs.length) (.int .i32 0)) 21)).heap[w.heap.size]? = some (.cells ((rs.map (Value.int .i32)).toArray ++ Array.replicate (cap - rs.length) (.int .i32 0)) 21) := heap_alloc_new w.drew _
    rw [ha]
    simp only [World.cell?, hb]
    simp [Array.getElem?_append, hj, List.getD]
  have h2 := run_convert_runes (P := Tryd.prog) (w.drew.alloc (.cells ((rs.map (Value.int .i32)).toArray ++ Array.replicate (cap - rs.length) (.int .i32 0)) 21)) 141 9 21 ⟨w.heap.size, 0, none⟩ rs.length cap rs (Nat.le_refl _) Tryd.underlying141 Tryd.underlying21 Tryd.underlying9 hcl
  rw [List.take_length] at h2
  have hbl : Below w.heap.size w (w.drew.alloc (.cells ((rs.map (Value.int .i32)).toArray ++ Array.replicate (cap - rs.length) (.int .i32 0)) 21)) := (Below.refl _ w).drew.alloc (Nat.le_refl _) _
  clear hcl
  generalize (w.drew.alloc (.cells ((rs.map (Value.int .i32)).toArray ++ Array.replicate (cap - rs.length) (.int .i32 0)) 21)) = w1 at h1 h2 hbl
  have HB := Lib.hid (broken_any s w1 hs)
  cases hv : Lib.validD s.data.toList with
  | true =>
    rw [hv] at HB
    rw [HR.out hv] at h2
    clear HR hv
    have heq : (s.toList == s.toList) = true := by simp
    go_enter Tryd.func87, Tryd.ntmps87
    go_wp2_with fail
    refine HB.out.mono ?_
    rintro e w2 ⟨rfl, hb2⟩
    go_wp2_with fail
    go_ret
    exact ⟨rfl, hbl.trans (hb2.mono hbl.size)⟩
  | false =>
    rw [hv] at HB
    clear HR hv
    by_cases heq0 : (runesBytes rs).toList = s.toList
    · have heq : ((runesBytes rs).toList == s.toList) = true := by simpa using heq0
      clear heq0
      go_enter Tryd.func87, Tryd.ntmps87
      go_wp2_with fail
      refine HB.out.mono ?_
      rintro e w2 ⟨rfl, hb2⟩
      go_wp2_with fail
      go_ret
      exact ⟨rfl, hbl.trans (hb2.mono hbl.size)⟩
    · have heq : ((runesBytes rs).toList == s.toList) = false := by simpa using heq0
      clear heq0
      go_enter Tryd.func87, Tryd.ntmps87
      go_wp2_with fail
      go_ret
      exact ⟨rfl, hbl⟩

set_option maxHeartbeats 1000000 in
theorem rtext_any (s : ByteArray) (w : World) (hs : s.size ≤ 9223372036854775807) :
    Calls Tryd.prog 116 #[.string s] w fun e w' => e = .returned (.bool (textF s)) ∧ Below w.heap.size w w' := by
  unfold textF
  by_cases h : s.size ≤ 60
  · rw [decide_eq_true h, Bool.true_and]
    have CV := Lib.hid (Valid_any s w (by omega))
    generalize Lib.validD s.data.toList = V at CV ⊢
    go_enter Tryd.func116, Tryd.ntmps116
    go_wp2_with fail
    refine CV.out.mono ?_
    rintro e w1 ⟨rfl, hb1⟩
    go_wp2_with fail
    go_ret
    exact ⟨rfl, hb1⟩
  · rw [decide_eq_false h, Bool.false_and]
    go_enter Tryd.func116, Tryd.ntmps116
    go_wp2_with fail
    go_ret
    exact ⟨rfl, Below.refl _ _⟩

end Go.Proofs.YtfllnlmanopfaaaDoor
