/- Plans: few and awake of the law. -/
import Derived.Test.YtcmfanfkcbjeoaaGreatDoorHN
import Derived.Test.YtcmfanfkcbjeoaaGreatDoorEF
namespace Go.Proofs.YtcmfanfkcbjeoaaGreatDoor
open Go.RowKit

def emptyP : JV := .mk 6 0 ⟨#[]⟩ [] []
abbrev emptyPV : Value := .agg #[.int .i64 6, .int .i64 0, .string ⟨#[]⟩, .slice none 0 0, .slice none 0 0]
theorem emptyP_at (c : CF) : JAt c emptyP emptyPV := JAt.shut (by kernel_rfl) (by kernel_rfl) (by simp [ByteArray.size]) ⟨none, 0, rfl, by simp, fun i s h => by simp at h⟩ ⟨none, 0, rfl, by simp, fun i s h => by simp at h⟩
theorem emptyP_text : textF ⟨#[]⟩ = true := by unfold textF; simp [ByteArray.size, Lib.validD, Lib.validGoD]
theorem emptyP_formed : formedF 6 emptyP = true := by
  have h2 : headOk 6 0 ⟨#[]⟩ := ⟨by omega, by omega, .inr rfl, .inr (by kernel_rfl), emptyP_text⟩
  unfold emptyP
  rw [formedF, decide_eq_true h2, if_neg (by decide)]; rfl
theorem emptyP_check : checkF emptyP = 0 := by
  have h1 : countF 6 emptyP = some 0 := by unfold emptyP; rw [countF, if_pos (show (JV.mk 6 0 ⟨#[]⟩ [] []).kind = 6 from rfl)]; rfl
  unfold checkF; rw [if_pos emptyP_formed, h1]; rfl
theorem emptyP_make : makeE emptyP [] = 0 := by unfold makeE; rw [if_pos emptyP_check]; rfl

set_option maxHeartbeats 4000000 in
set_option maxRecDepth 100000 in
theorem awake18_any (w : World) (hT : Tabs w) : Calls Tryz.prog 9 #[] w fun e w' => e = .returned (.bool true) ∧ Below w.heap.size w w' := by
  have HX : Hold (Calls Tryz.prog 11 #[emptyPV, .slice none 0 0] w fun e w' => ∃ fv tv, e = .returned (.tuple #[.agg #[.int .i64 (-1), fv, tv], .int .i64 0]) ∧ BRow w.heap.size w' fv [] ∧ BRow w.heap.size w' tv [] ∧ Below w.heap.size w w') := ⟨(Make_any emptyP emptyPV [] (.slice none 0 0) w (emptyP_at _) (SAt.none _ _ _) (fun x hx => by simp at hx) hT).mono fun e w' ⟨fv, tv, he, h1, h2, h3⟩ => ⟨fv, tv, by rw [he, emptyP_make, if_pos rfl]; rfl, by rw [emptyP_make, if_pos rfl] at h1; exact h1, by rw [emptyP_make, if_pos rfl] at h2; exact h2, h3⟩⟩
  clear hT
  go_enter Tryz.func9, Tryz.ntmps9
  go_wp2_with fail
  refine HX.out.mono ?_
  rintro e w1 ⟨fv, tv, rfl, hf, ht, hb1⟩
  obtain ⟨fa, fcap, rfl, _⟩ := hf.shape
  obtain ⟨ta, tcap, rfl, _⟩ := ht.shape
  have HB : Hold (∀ o, Below w.heap.size w (w1.alloc o)) := ⟨fun o => hb1.alloc hb1.size o⟩
  clear hb1 HX hf ht
  go_wp2_with fail
  go_ret
  exact ⟨rfl, HB.out _⟩

/-- what the law looks at -/
def few18 (f : JV) (l : List IX) : Bool := (l.take 10).all fewI && decide (l.length ≤ 10) && fewF f
theorem few18_no {f : JV} {l : List IX} {j : Nat} {x : IX} (h : l[j]? = some x) (hj : j < 10) (hx : fewI x = false) : few18 f l = false := by
  have : (l.take 10).all fewI = false := by
    rw [← Bool.not_eq_true, List.all_eq_true]
    intro h2
    have := h2 x (List.mem_of_getElem? (i := j) (by rw [List.getElem?_take, if_pos hj]; exact h))
    rw [hx] at this; cases this
  unfold few18; rw [this]; rfl
theorem few18_yes {f : JV} {l : List IX} {j : Nat} (hall : ∀ (q : Nat) x, q < j → l[q]? = some x → fewI x = true) (hj : l.length ≤ j ∨ 10 ≤ j) : few18 f l = (decide (l.length ≤ 10) && fewF f) := by
  have : (l.take 10).all fewI = true := by
    rw [List.all_eq_true]
    intro x hx
    obtain ⟨q, hq, e⟩ := List.getElem_of_mem hx
    rw [List.length_take] at hq
    rw [List.getElem_take] at e
    exact hall q x (by omega) (by rw [← e]; exact List.getElem?_eq_getElem (by omega))
  unfold few18; rw [this, Bool.true_and]
theorem few18_small {f : JV} {l : List IX} (h : few18 f l = true) : l.length ≤ 10 ∧ (∀ x ∈ l, x.fields.length ≤ 10 ∧ ∀ p ∈ x.fields, p.1.size ≤ 1000000) ∧ fewF f = true := by
  unfold few18 at h
  rw [Bool.and_eq_true, Bool.and_eq_true] at h
  have hl := of_decide_eq_true h.1.2
  refine ⟨hl, fun x hx => ?_, h.2⟩
  rw [List.take_of_length_le hl] at h
  have := List.all_eq_true.1 h.1.1 x hx
  exact ⟨fewI_len this, fewI_small this⟩
/-- one element of a slice, cut out -/
theorem SAt.sub1 {α : Type} {n : Nat} {R : Rep α} {c : CF} {b off cap : Nat} {xs : List α} (h : SAt n R c (.slice (some ⟨b, off, Option.none⟩) xs.length cap) xs) {j : Nat} {x : α} (hx : xs[j]? = some x) : SAt n R c (.slice (some ⟨b, off + j * n, Option.none⟩) 1 (cap - j)) [x] := by
  obtain ⟨a, cap2, e, h1, h2, h3⟩ := h
  cases e
  obtain ⟨hj, _⟩ := List.getElem?_eq_some_iff.1 hx
  refine ⟨_, _, rfl, by simp; omega, by omega, fun i y hy => ?_⟩
  match i, hy with
  | 0, hy =>
    cases hy
    obtain ⟨b2, off2, d, e, hd, hc, hr⟩ := h3 j x hx
    cases e
    exact ⟨b, off + j * n, d, rfl, hd, fun t u hu => by rw [Nat.zero_mul, Nat.add_zero]; exact hc t u hu, hr⟩
  | i + 1, hy => simp at hy

set_option maxRecDepth 100000 in
set_option maxHeartbeats 8000000 in
theorem few18_any (f : JV) (fx : Value) (l : List IX) (lv : Value) (w : World) (hfx : JAt (cf w) f fx) (hl : SAt 3 RX (cf w) lv l) :
    Calls Tryz.prog 10 #[fx, lv] w fun e w' => e = .returned (.bool (few18 f l)) ∧ Below w.heap.size w w' := by
  have HFX := Hold.mk hfx
  have HLV := Hold.mk hl
  obtain ⟨k, n, t, nm, it, na, ncap, ia, icap, hfe, rfl, _⟩ := id hfx.open
  clear hfe
  obtain ⟨la, lcap, rfl, hle, hcap, hel⟩ := hl
  have HB := Hold.mk (Boxed.refl w (.cells #[.int .i64 k, .int .i64 n, .string t, .slice na nm.length ncap, .slice ia it.length icap] 25))
  have HE := Hold.mk hel
  clear hfx hel
  go_enter Tryz.func10, Tryz.ntmps10
  go_wp2_with fail
  go_loopw [5] (fun i wr => ∃ j : Nat, i = .int .i64 j ∧ j ≤ l.length ∧ j ≤ 10 ∧ (∀ (q : Nat) x, q < j → l[q]? = some x → fewI x = true) ∧ Boxed w wr (.cells #[.int .i64 k, .int .i64 n, .string t, .slice na nm.length ncap, .slice ia it.length icap] 25)) (fun i _ => l.length - (intOf i).toNat)
  case atStart => exact ⟨0, rfl, Nat.zero_le _, Nat.zero_le _, fun _ _ h => by omega, HB.out⟩
  case round =>
    obtain ⟨j, rfl, hj, hj10, hall, hbx⟩ := hrel
    clear HB
    have HB := Hold.mk hbx
    have HALL := Hold.mk hall
    clear hbx hall
    by_cases hlt : j < l.length
    · by_cases h10 : j < 10
      · obtain ⟨x, hx⟩ : ∃ x, l[j]? = some x := ⟨l[j], List.getElem?_eq_getElem hlt⟩
        obtain ⟨b, off, d, rfl, hd, hcc, hxi⟩ := HE.out j x hx
        obtain ⟨xa, xcap, rfl⟩ := hxi.open
        have hcl := cle_below HB.out.below
        have z1 := hcl _ _ _ (hcc 1 _ rfl)
        unfold cf at z1
        have HXE := Hold.mk hx
        have HS1 := Hold.mk ((HLV.out.mono RX_mono hcl).sub1 hx)
        clear hx hd hcc hxi hcl
        by_cases hf10 : x.fields.length ≤ 10
        · have hfb : ¬ (10 : Int) < (x.fields.length : Int) := by omega
          have HF10 := Hold.mk hf10
          have HPL := Hold.mk (fun v (h : SAt 3 RX (cf wr) v [x]) => plain18_any [x] v wr h (fun y hy => by rw [List.mem_singleton] at hy; subst hy; have := HF10.out; omega) (by simp))
          clear hf10
          go_wp2_with fail
          refine (HPL.out _ HS1.out).mono ?_
          rintro e w2 ⟨y, rfl, hy, hb2⟩
          replace HB := Hold.mk (HB.out.next hb2)
          obtain ⟨ya, ycap, rfl, hy1, hy2, hye⟩ := hy
          obtain ⟨yb, yoff, d, rfl, hd, hcc, hxi⟩ := hye 0 x rfl
          obtain ⟨xa2, xcap2, rfl⟩ := hxi.open
          have u0 := hcc 0 _ rfl
          have u1 := hcc 1 _ rfl
          have u2 := hcc 2 _ rfl
          unfold cf at u0 u1 u2
          rw [Nat.zero_mul, Nat.add_zero] at u0 u1 u2
          have HFW := Hold.mk (rFewI_any x (.agg #[.string x.name, .slice xa2 x.fields.length xcap2, .bool x.uniq]) w2 hxi HF10.out)
          clear hb2 hye hd hcc hxi z1
          go_wp2_with fail
          refine HFW.out.mono ?_
          rintro e w3 ⟨rfl, hb3⟩
          replace HB := Hold.mk (HB.out.next hb3)
          clear hb3 u0 u1 u2 HFW
          cases hsh : shortI x with
          | false =>
            have HR : Hold (few18 f l = false) := ⟨few18_no HXE.out h10 (by unfold fewI; rw [hsh]; simp)⟩
            clear hsh
            go_wp2_with fail
            go_ret
            exact ⟨by rw [HR.out]; rfl, HB.out.below⟩
          | true =>
            have HA2 : Hold (∀ (q : Nat) x, q < j + 1 → l[q]? = some x → fewI x = true) := ⟨fun q y hq hy => by
              by_cases e : q = j
              · subst e; rw [HXE.out] at hy; cases hy
                unfold fewI
                rw [hsh, decide_eq_true HF10.out]; rfl
              · exact HALL.out q y (by omega) hy⟩
            clear hsh
            go_wp2_with fail
            exact ⟨⟨j + 1, by go_num, hlt, h10, HA2.out, HB.out⟩, by simp [intOf]; omega⟩
        · have hfb : (10 : Int) < (x.fields.length : Int) := by omega
          have HR : Hold (few18 f l = false) := ⟨few18_no HXE.out h10 (by unfold fewI; rw [decide_eq_false hf10]; rfl)⟩
          clear hf10
          go_wp2_with fail
          go_ret
          exact ⟨by rw [HR.out]; rfl, HB.out.below⟩
      · have h10b : ¬ (j : Int) < 10 := by omega
        have HR : Hold (few18 f l = false) := ⟨by rw [few18_yes HALL.out (.inr (by omega)), decide_eq_false (by omega)]; rfl⟩
        have hlb : ¬ (l.length : Int) ≤ 10 := by omega
        go_wp2_with fail
        go_ret
        exact ⟨by rw [HR.out]; rfl, HB.out.below⟩
    · have hr := few18_yes (f := f) HALL.out (.inl (by omega : l.length ≤ j))
      by_cases hll : l.length ≤ 10
      · have HR : Hold (few18 f l = fewF f) := ⟨by rw [hr, decide_eq_true hll, Bool.true_and]⟩
        have hlb : (l.length : Int) ≤ 10 := by omega
        have HFW := Hold.mk (few_any (HFX.out.mono (cle_below HB.out.below)) _ (CLe.refl _))
        obtain ⟨y0, y1, y2, y3, y4⟩ := cells_five HB.out.blk
        clear hr
        go_wp2_with fail
        refine HFW.out.mono ?_
        rintro e w3 ⟨rfl, hb3⟩
        replace HB := Hold.mk (HB.out.next hb3)
        clear hb3 y0 y1 y2 y3 y4
        go_wp2_with fail
        go_ret
        exact ⟨by rw [HR.out]; rfl, HB.out.below⟩
      · have HR : Hold (few18 f l = false) := ⟨by rw [hr, decide_eq_false hll]; rfl⟩
        have hlb : ¬ (l.length : Int) ≤ 10 := by omega
        clear hr
        go_wp2_with fail
        go_ret
        exact ⟨by rw [HR.out]; rfl, HB.out.below⟩

end Go.Proofs.YtcmfanfkcbjeoaaGreatDoor
