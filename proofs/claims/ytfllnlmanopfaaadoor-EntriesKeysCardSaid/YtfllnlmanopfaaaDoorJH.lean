/- formed of the program, whole. -/
import Derived.Test.YtfllnlmanopfaaaDoorJG
namespace Go.Proofs.YtfllnlmanopfaaaDoor
open Go.RowKit

theorem rises_at : ∀ {l : List ByteArray}, (∀ (i : Nat) a b, l[i]? = some a → l[i + 1]? = some b → strLt a b = true) → rises l = true
  | [], _ => rfl
  | [_], _ => rfl
  | a :: b :: l, h => by
    rw [rises, h 0 a b rfl rfl, Bool.true_and]
    exact rises_at fun i x y hx hy => h (i + 1) x y hx hy
theorem rises_not : ∀ {l : List ByteArray} {i : Nat} {a b : ByteArray}, l[i]? = some a → l[i + 1]? = some b → strLt a b = false → rises l = false
  | [], i, a, b, h, _, _ => by simp at h
  | [_], i, a, b, _, h, _ => by simp at h
  | x :: y :: l, 0, a, b, h1, h2, h3 => by
    simp at h1 h2; subst h1 h2; rw [rises, h3, Bool.false_and]
  | x :: y :: l, i + 1, a, b, h1, h2, h3 => by
    rw [rises, rises_not (l := y :: l) (i := i) (by simpa using h1) (by simpa using h2) h3, Bool.and_false]

/-- so far all names are texts and rise -/
def NamesTo (nm : List ByteArray) (j : Nat) : Prop := ∀ (q : Nat) s, q < j → nm[q]? = some s → textF s = true ∧ ∀ p a, q = p + 1 → nm[p]? = some a → strLt a s = true
theorem NamesTo.all {nm : List ByteArray} (h : NamesTo nm nm.length) : nm.all textF = true ∧ rises nm = true := by
  refine ⟨all_true fun i s hi hs => (h i s hi hs).1, rises_at fun i a b ha hb => ?_⟩
  exact (h (i + 1) b (List.getElem?_eq_some_iff.1 hb).1 hb).2 i a rfl ha

set_option maxHeartbeats 4000000 in
theorem formed_node (k : Int) (hk : k = 5 ∨ k = 6) (t : ByteArray) (nm : List ByteArray) (it : List JV) (na : Option Addr) (ncap : Nat) (ia : Option Addr) (icap : Nat) (l : Nat) (w : World) (hl : l ≤ 1000) (hs : t.size ≤ 9223372036854775807) (hT : Tabs w) (ht : t.toList = []) (htx : textF t = true)
    (hnm : StrsAt (cf w) (.slice na nm.length ncap) nm) (hit : ItemsAt (cf w) (.slice ia it.length icap) it) (H : FormedAt l) :
    Calls Tryd.prog 50 #[.agg #[.int .i64 k, .int .i64 0, .string t, .slice na nm.length ncap, .slice ia it.length icap], .int .i64 ((l : Int) + 1)] w fun e w' => e = .returned (.bool (bodyOk k nm it.length && it.all (formedF l))) ∧ Below w.heap.size w w' := by
  have hl1 : ((l : Int) + 1 == 0) = false := by simp; omega
  have HX := Lib.hid (text_two w k 0 t na nm.length ncap ia it.length icap ((l : Int) + 1) hs hT)
  rw [htx] at HX
  clear htx
  have HT := Lib.hid hT; clear hT
  have HI := Lib.hid hit; clear hit
  have HH := Lib.hid H; clear H
  obtain ⟨na', ncap', e, hnl, hnel⟩ := hnm
  cases e
  have HS := Lib.hid hnel; clear hnel
  rcases hk with rfl | rfl
  · have hbo : bodyOk 5 nm it.length = (decide (it.length ≤ 24) && decide (nm.length = 0) && nm.all textF && rises nm) := by unfold bodyOk; simp
    rw [hbo]; clear hbo
    by_cases h24 : it.length ≤ 24
    · by_cases hnw : nm.length = 0
      · have hnb : (((nm.length : Nat) : Int) != 0) = false := by rw [hnw]; rfl
        rw [decide_eq_true h24, decide_eq_true hnw, Bool.true_and, Bool.true_and]
        clear hnw
        go_enter Tryd.func50, Tryd.ntmps50
        go_wp2_with fail
        refine HX.out.mono ?_
        rintro e w1 ⟨rfl, hb1⟩
        obtain ⟨y0, y1, y2, y3, y4, y5⟩ := two_cells hb1
        have HB := Lib.hid hb1
        clear HX hb1
        go_wp2_with fail
        go_loopw [79] (fun i wr => ∃ j : Nat, i = .int .i64 j ∧ j ≤ nm.length ∧ NamesTo nm j ∧ Below w1.heap.size w1 wr) (fun i _ => nm.length - (intOf i).toNat)
        case atStart => exact ⟨0, rfl, Nat.zero_le _, fun q s h => by omega, Below.refl _ _⟩
        case round =>
          obtain ⟨j, rfl, hj, hall, hbl⟩ := hrel
          have HA := Lib.hid hall; clear hall
          have hlt1 : w.heap.size + 1 < w1.heap.size := by have := HB.out.size; simp at this; omega
          have q0 := cle_below hbl _ _ _ y0
          have q3 := cle_below hbl _ _ _ y3
          have q4 := cle_below hbl _ _ _ y4
          have q5 := cle_below hbl _ _ _ y5
          unfold cf at q0 q3 q4 q5
          have hbw : Below w.heap.size w wr := (two_then HB.out).trans (hbl.mono (two_then HB.out).size)
          clear y0 y1 y2 y3 y4 y5
          by_cases hlt : j < nm.length
          · obtain ⟨s, hs2⟩ : ∃ s, nm[j]? = some s := ⟨nm[j], List.getElem?_eq_getElem hlt⟩
            obtain ⟨hsz, b, off, rfl, hcell⟩ := HS.out j s hs2
            have z0 := cle_below hbw _ _ _ hcell
            unfold cf at z0
            have HSE := Lib.hid hs2
            have HXT := Lib.hid (text_any s wr hsz (HT.out.below hbw))
            clear hcell hs2 hsz
            cases hts : textF s with
            | false =>
              rw [hts] at HXT
              have HF := Lib.hid (all_false HSE.out hts); clear hts
              go_wp2_with fail
              refine HXT.out.mono ?_
              rintro e w2 ⟨rfl, hb2⟩
              have hb3 := hbw.trans (hb2.mono hbw.size)
              clear hb2 HXT
              go_wp2_with fail
              go_ret
              exact ⟨ret_b (by rw [HF.out]; rfl), hb3⟩
            | true =>
              rw [hts] at HXT
              have HTS := Lib.hid hts; clear hts
              by_cases hj0 : j ≤ 0
              · go_wp2_with fail
                refine HXT.out.mono ?_
                rintro e w2 ⟨rfl, hb2⟩
                have hb3 := hbl.trans (hb2.mono hbl.size)
                clear hb2 HXT
                go_wp2_with fail
                go_roundw
                case rel =>
                  refine ⟨j + 1, by go_num, hlt, fun q s' hq hs' => ?_, hb3⟩
                  obtain rfl : q = j := by omega
                  rw [HSE.out] at hs'; cases hs'
                  exact ⟨HTS.out, fun p a h => by omega⟩
                case measure => simp [intOf]; omega
              · obtain ⟨s0, hs0⟩ : ∃ s, nm[j - 1]? = some s := ⟨nm[j - 1], List.getElem?_eq_getElem (by omega)⟩
                obtain ⟨_, b', off', hbo, hcell0⟩ := HS.out (j - 1) s0 hs0
                cases hbo
                have z1 := cle_below hbw _ _ _ hcell0
                unfold cf at z1
                have HS0 := Lib.hid hs0
                clear hcell0 hs0
                have HSE2 : Hid (nm[j - 1 + 1]? = some s) := by rw [show j - 1 + 1 = j from by omega]; exact HSE.out
                cases hlts : strLt s0 s with
                | true =>
                  have hlt2 : Op.bytesLess s0.toList s.toList = true := hlts
                  have HLT := Lib.hid hlts; clear hlts
                  go_wp2_with fail
                  refine HXT.out.mono ?_
                  rintro e w2 ⟨rfl, hb2⟩
                  have hb3 := hbl.trans (hb2.mono hbl.size)
                  have r3 := cle_below hb2 _ _ _ q3
                  have r0 := cle_below hb2 _ _ _ z1
                  unfold cf at r3 r0
                  clear hb2 HXT
                  go_wp2_with fail
                  go_roundw
                  case rel =>
                    refine ⟨j + 1, by go_num, hlt, fun q s' hq hs' => ?_, hb3⟩
                    by_cases e : q = j
                    · subst e; rw [HSE.out] at hs'; cases hs'
                      refine ⟨HTS.out, fun p a hp ha => ?_⟩
                      obtain rfl : p = q - 1 := by omega
                      rw [HS0.out] at ha; cases ha; exact HLT.out
                    · exact HA.out q s' (by omega) hs'
                  case measure => simp [intOf]; omega
                | false =>
                  have hlt2 : Op.bytesLess s0.toList s.toList = false := hlts
                  have HF := Lib.hid (rises_not HS0.out HSE2.out hlts); clear hlts
                  go_wp2_with fail
                  refine HXT.out.mono ?_
                  rintro e w2 ⟨rfl, hb2⟩
                  have hb3 := hbw.trans (hb2.mono hbw.size)
                  have r3 := cle_below hb2 _ _ _ q3
                  have r0 := cle_below hb2 _ _ _ z1
                  unfold cf at r3 r0
                  clear hb2 HXT
                  go_wp2_with fail
                  go_ret
                  exact ⟨ret_b (by rw [HF.out, Bool.and_false]; rfl), hb3⟩
          · obtain rfl : j = nm.length := by omega
            have HAA := Lib.hid HA.out.all
            clear HA
            have HCT := Lib.hid (contains_any l hl HH.out _ it (w.heap.size + 1) wr (HI.out.mono (cle_below hbw)) (HT.out.below hbw) q5)
            clear HI HS
            go_wp2_with fail
            refine HCT.out.mono ?_
            rintro e w2 ⟨rfl, hb2⟩
            have hb3 := hbw.trans (hb2.mono hbw.size)
            clear hb2 HCT
            go_wp2_with fail
            go_ret
            exact ⟨ret_b (by rw [HAA.out.1, HAA.out.2]; simp), hb3⟩
      · have hnb : (((nm.length : Nat) : Int) != 0) = true := by simp only [bne_iff_ne, ne_eq]; omega
        rw [decide_eq_false hnw, Bool.and_false, Bool.false_and, Bool.false_and, Bool.false_and]
        clear hnw HI HS HH
        go_enter Tryd.func50, Tryd.ntmps50
        go_wp2_with fail
        refine HX.out.mono ?_
        rintro e w1 ⟨rfl, hb1⟩
        obtain ⟨y0, y1, y2, y3, y4, y5⟩ := two_cells hb1
        have hb2 := two_then hb1
        clear HX hb1
        go_wp2_with fail
        go_ret
        exact ⟨rfl, hb2⟩
    · rw [decide_eq_false h24, Bool.false_and, Bool.false_and, Bool.false_and, Bool.false_and]
      clear HI HS HH
      go_enter Tryd.func50, Tryd.ntmps50
      go_wp2_with fail
      refine HX.out.mono ?_
      rintro e w1 ⟨rfl, hb1⟩
      obtain ⟨y0, y1, y2, y3, y4, y5⟩ := two_cells hb1
      have hb2 := two_then hb1
      clear HX hb1
      go_wp2_with fail
      go_ret
      exact ⟨rfl, hb2⟩
  · have hbo : bodyOk 6 nm it.length = (decide (it.length ≤ 24) && decide (nm.length = it.length) && nm.all textF && rises nm) := by unfold bodyOk; simp
    rw [hbo]; clear hbo
    by_cases h24 : it.length ≤ 24
    · by_cases hnw : nm.length = it.length
      · have hnb : (((nm.length : Nat) : Int) != ((it.length : Nat) : Int)) = false := by rw [hnw]; simp
        rw [decide_eq_true h24, decide_eq_true hnw, Bool.true_and, Bool.true_and]
        clear hnw
        go_enter Tryd.func50, Tryd.ntmps50
        go_wp2_with fail
        refine HX.out.mono ?_
        rintro e w1 ⟨rfl, hb1⟩
        obtain ⟨y0, y1, y2, y3, y4, y5⟩ := two_cells hb1
        have HB := Lib.hid hb1
        clear HX hb1
        go_wp2_with fail
        go_loopw [79] (fun i wr => ∃ j : Nat, i = .int .i64 j ∧ j ≤ nm.length ∧ NamesTo nm j ∧ Below w1.heap.size w1 wr) (fun i _ => nm.length - (intOf i).toNat)
        case atStart => exact ⟨0, rfl, Nat.zero_le _, fun q s h => by omega, Below.refl _ _⟩
        case round =>
          obtain ⟨j, rfl, hj, hall, hbl⟩ := hrel
          have HA := Lib.hid hall; clear hall
          have hlt1 : w.heap.size + 1 < w1.heap.size := by have := HB.out.size; simp at this; omega
          have q0 := cle_below hbl _ _ _ y0
          have q3 := cle_below hbl _ _ _ y3
          have q4 := cle_below hbl _ _ _ y4
          have q5 := cle_below hbl _ _ _ y5
          unfold cf at q0 q3 q4 q5
          have hbw : Below w.heap.size w wr := (two_then HB.out).trans (hbl.mono (two_then HB.out).size)
          clear y0 y1 y2 y3 y4 y5
          by_cases hlt : j < nm.length
          · obtain ⟨s, hs2⟩ : ∃ s, nm[j]? = some s := ⟨nm[j], List.getElem?_eq_getElem hlt⟩
            obtain ⟨hsz, b, off, rfl, hcell⟩ := HS.out j s hs2
            have z0 := cle_below hbw _ _ _ hcell
            unfold cf at z0
            have HSE := Lib.hid hs2
            have HXT := Lib.hid (text_any s wr hsz (HT.out.below hbw))
            clear hcell hs2 hsz
            cases hts : textF s with
            | false =>
              rw [hts] at HXT
              have HF := Lib.hid (all_false HSE.out hts); clear hts
              go_wp2_with fail
              refine HXT.out.mono ?_
              rintro e w2 ⟨rfl, hb2⟩
              have hb3 := hbw.trans (hb2.mono hbw.size)
              clear hb2 HXT
              go_wp2_with fail
              go_ret
              exact ⟨ret_b (by rw [HF.out]; rfl), hb3⟩
            | true =>
              rw [hts] at HXT
              have HTS := Lib.hid hts; clear hts
              by_cases hj0 : j ≤ 0
              · go_wp2_with fail
                refine HXT.out.mono ?_
                rintro e w2 ⟨rfl, hb2⟩
                have hb3 := hbl.trans (hb2.mono hbl.size)
                clear hb2 HXT
                go_wp2_with fail
                go_roundw
                case rel =>
                  refine ⟨j + 1, by go_num, hlt, fun q s' hq hs' => ?_, hb3⟩
                  obtain rfl : q = j := by omega
                  rw [HSE.out] at hs'; cases hs'
                  exact ⟨HTS.out, fun p a h => by omega⟩
                case measure => simp [intOf]; omega
              · obtain ⟨s0, hs0⟩ : ∃ s, nm[j - 1]? = some s := ⟨nm[j - 1], List.getElem?_eq_getElem (by omega)⟩
                obtain ⟨_, b', off', hbo, hcell0⟩ := HS.out (j - 1) s0 hs0
                cases hbo
                have z1 := cle_below hbw _ _ _ hcell0
                unfold cf at z1
                have HS0 := Lib.hid hs0
                clear hcell0 hs0
                have HSE2 : Hid (nm[j - 1 + 1]? = some s) := by rw [show j - 1 + 1 = j from by omega]; exact HSE.out
                cases hlts : strLt s0 s with
                | true =>
                  have hlt2 : Op.bytesLess s0.toList s.toList = true := hlts
                  have HLT := Lib.hid hlts; clear hlts
                  go_wp2_with fail
                  refine HXT.out.mono ?_
                  rintro e w2 ⟨rfl, hb2⟩
                  have hb3 := hbl.trans (hb2.mono hbl.size)
                  have r3 := cle_below hb2 _ _ _ q3
                  have r0 := cle_below hb2 _ _ _ z1
                  unfold cf at r3 r0
                  clear hb2 HXT
                  go_wp2_with fail
                  go_roundw
                  case rel =>
                    refine ⟨j + 1, by go_num, hlt, fun q s' hq hs' => ?_, hb3⟩
                    by_cases e : q = j
                    · subst e; rw [HSE.out] at hs'; cases hs'
                      refine ⟨HTS.out, fun p a hp ha => ?_⟩
                      obtain rfl : p = q - 1 := by omega
                      rw [HS0.out] at ha; cases ha; exact HLT.out
                    · exact HA.out q s' (by omega) hs'
                  case measure => simp [intOf]; omega
                | false =>
                  have hlt2 : Op.bytesLess s0.toList s.toList = false := hlts
                  have HF := Lib.hid (rises_not HS0.out HSE2.out hlts); clear hlts
                  go_wp2_with fail
                  refine HXT.out.mono ?_
                  rintro e w2 ⟨rfl, hb2⟩
                  have hb3 := hbw.trans (hb2.mono hbw.size)
                  have r3 := cle_below hb2 _ _ _ q3
                  have r0 := cle_below hb2 _ _ _ z1
                  unfold cf at r3 r0
                  clear hb2 HXT
                  go_wp2_with fail
                  go_ret
                  exact ⟨ret_b (by rw [HF.out, Bool.and_false]; rfl), hb3⟩
          · obtain rfl : j = nm.length := by omega
            have HAA := Lib.hid HA.out.all
            clear HA
            have HCT := Lib.hid (contains_any l hl HH.out _ it (w.heap.size + 1) wr (HI.out.mono (cle_below hbw)) (HT.out.below hbw) q5)
            clear HI HS
            go_wp2_with fail
            refine HCT.out.mono ?_
            rintro e w2 ⟨rfl, hb2⟩
            have hb3 := hbw.trans (hb2.mono hbw.size)
            clear hb2 HCT
            go_wp2_with fail
            go_ret
            exact ⟨ret_b (by rw [HAA.out.1, HAA.out.2]; simp), hb3⟩
      · have hnb : (((nm.length : Nat) : Int) != ((it.length : Nat) : Int)) = true := by simp only [bne_iff_ne, ne_eq]; omega
        rw [decide_eq_false hnw, Bool.and_false, Bool.false_and, Bool.false_and, Bool.false_and]
        clear hnw HI HS HH
        go_enter Tryd.func50, Tryd.ntmps50
        go_wp2_with fail
        refine HX.out.mono ?_
        rintro e w1 ⟨rfl, hb1⟩
        obtain ⟨y0, y1, y2, y3, y4, y5⟩ := two_cells hb1
        have hb2 := two_then hb1
        clear HX hb1
        go_wp2_with fail
        go_ret
        exact ⟨rfl, hb2⟩
    · rw [decide_eq_false h24, Bool.false_and, Bool.false_and, Bool.false_and, Bool.false_and]
      clear HI HS HH
      go_enter Tryd.func50, Tryd.ntmps50
      go_wp2_with fail
      refine HX.out.mono ?_
      rintro e w1 ⟨rfl, hb1⟩
      obtain ⟨y0, y1, y2, y3, y4, y5⟩ := two_cells hb1
      have hb2 := two_then hb1
      clear HX hb1
      go_wp2_with fail
      go_ret
      exact ⟨rfl, hb2⟩

theorem formed_all : ∀ l, l ≤ 1000 → FormedAt l
  | 0, _ => fun v x w hx _ => (formed_zero v x w hx).mono fun e w' h => h
  | l + 1, hl => by
    have ih := formed_all l (by omega)
    intro v x w hx hT
    obtain ⟨k, n, t, nm, it, na, ncap, ia, icap, rfl, rfl, _, _, hts, hnm, hit⟩ := hx.open
    have e1 : ((l + 1 : Nat) : Int) = (l : Int) + 1 := by omega
    rw [e1]
    by_cases hh : headOk k n t
    · by_cases hk : k < 5
      · refine (formed_leaf k n t na nm.length ncap ia it.length icap l w (by omega) hts hT hh hk).mono fun e w' ⟨he, hb⟩ => ⟨?_, hb⟩
        rw [he, formedF, decide_eq_true hh, if_pos hk, Bool.true_and]
      · have h2 := hh
        obtain ⟨h0, h6, hn, ht, htx⟩ := hh
        obtain rfl : n = 0 := by rcases hn with rfl | hn; · omega
                                 · exact hn
        have ht : t.toList = [] := by rcases ht with rfl | ht; · omega
                                      · exact ht
        refine (formed_node k (by omega) t nm it na ncap ia icap l w (by omega) hts hT ht htx hnm hit ih).mono fun e w' ⟨he, hb⟩ => ⟨?_, hb⟩
        rw [he, formedF, decide_eq_true h2, if_neg hk, Bool.true_and]
    · refine (formed_bad k n t na nm.length ncap ia it.length icap l w (by omega) hts hT hh).mono fun e w' ⟨he, hb⟩ => ⟨?_, hb⟩
      rw [he, formedF, decide_eq_false hh, Bool.false_and]

set_option maxHeartbeats 1000000 in
theorem Formed_any (v : JV) (x : Value) (w : World) (hx : JAt (cf w) v x) (hT : Tabs w) :
    Calls Tryd.prog 17 #[x] w fun e w' => e = .returned (.bool (formedF 6 v)) ∧ Below w.heap.size w w' := by
  obtain ⟨k, n, t, nm, it, na, ncap, ia, icap, rfl, rfl, _⟩ := hx.open
  have HX := Lib.hid (formed_all 6 (by omega) _ _ (w.alloc (.cells #[.int .i64 k, .int .i64 n, .string t, .slice na nm.length ncap, .slice ia it.length icap] 25)) (hx.mono (cle_alloc _ _)) (hT.alloc _))
  clear hx hT
  generalize formedF 6 (JV.mk k n t nm it) = r at HX ⊢
  go_enter Tryd.func17, Tryd.ntmps17
  go_wp2_with fail
  refine HX.out.mono ?_
  rintro e w1 ⟨rfl, hb1⟩
  have hb2 := ((Boxed.refl w (.cells #[.int .i64 k, .int .i64 n, .string t, .slice na nm.length ncap, .slice ia it.length icap] 25)).next hb1).below
  clear HX hb1
  go_wp2_with fail
  go_ret
  exact ⟨rfl, hb2⟩

end Go.Proofs.YtfllnlmanopfaaaDoor
