/- Indexes: how they lie in memory; Formed of the program. -/
import Derived.Test.YticlnijkfclgcaaGreatDoorZ24
import Derived.Test.YticlnijkfclgcaaGreatDoorZ25
namespace Go.Proofs.YticlnijkfclgcaaGreatDoor
open Go.RowKit

abbrev Fd := ByteArray × Bool
/-- cells hold fields -/
def FieldsAt (c : CF) (v : Value) (l : List Fd) : Prop := ∃ a cap, v = .slice a l.length cap ∧ l.length ≤ cap ∧ cap ≤ 9223372036854775807 ∧ ∀ (i : Nat) p, l[i]? = some p → p.1.size ≤ 9223372036854775807 ∧ ∃ b off, a = some ⟨b, off, none⟩ ∧ c b (off + i * 2) = some (.string p.1) ∧ c b (off + i * 2 + 1) = some (.bool p.2)
/-- an index -/
structure IX where
  name : ByteArray
  fields : List Fd
  uniq : Bool
def IAt (c : CF) (x : IX) (v : Value) : Prop := x.name.size ≤ 9223372036854775807 ∧ ∃ fv, v = .agg #[.string x.name, fv, .bool x.uniq] ∧ FieldsAt c fv x.fields
theorem FieldsAt.mono {c c' : CF} {v : Value} {l : List Fd} (h : FieldsAt c v l) (hc : CLe c c') : FieldsAt c' v l := by
  obtain ⟨a, cap, e, h1, h2, h3⟩ := h
  refine ⟨a, cap, e, h1, h2, fun i p hp => ?_⟩
  obtain ⟨h4, b, off, h5, h6, h7⟩ := h3 i p hp
  exact ⟨h4, b, off, h5, hc _ _ _ h6, hc _ _ _ h7⟩
theorem IAt.mono {c c' : CF} {v : Value} {x : IX} (h : IAt c x v) (hc : CLe c c') : IAt c' x v := by
  obtain ⟨h1, fv, e, h2⟩ := h
  exact ⟨h1, fv, e, h2.mono hc⟩
theorem FieldsAt.take {c : CF} {a : Option Addr} {cap n : Nat} {l : List Fd} (h : FieldsAt c (.slice a l.length cap) l) (hn : n ≤ l.length) : FieldsAt c (.slice a n cap) (l.take n) := by
  obtain ⟨a', cap', e, h1, h2, h3⟩ := h
  cases e
  refine ⟨a, cap, by rw [List.length_take, Nat.min_eq_left hn], by rw [List.length_take]; omega, h2, fun i p hp => h3 i p ?_⟩
  rw [List.getElem?_take] at hp
  split at hp
  · exact hp
  · cases hp
theorem cells_three {w : World} {k : Nat} {c0 c1 c2 : Value} {t : TypeId} {fr : Nat × Nat} (h : w.heap[k]? = some (.cells #[c0, c1, c2] t fr)) :
    w.cell? ⟨k, 0, none⟩ = some c0 ∧ w.cell? ⟨k, 1, none⟩ = some c1 ∧ w.cell? ⟨k, 2, none⟩ = some c2 := by
  refine ⟨?_, ?_, ?_⟩ <;> simp [World.cell?, h]
theorem cells_two {w : World} {k : Nat} {c0 c1 : Value} {t : TypeId} {fr : Nat × Nat} (h : w.heap[k]? = some (.cells #[c0, c1] t fr)) :
    w.cell? ⟨k, 0, none⟩ = some c0 ∧ w.cell? ⟨k, 1, none⟩ = some c1 := by
  refine ⟨?_, ?_⟩ <;> simp [World.cell?, h]
/-- a closure that captures one pointer and asks p of a field -/
def AsksF (F : FuncId) (cp : Value) (p : Fd → Bool) (l : List Fd) (w : World) : Prop := ∀ x ∈ l, ∀ (wr : World), Below w.heap.size w wr →
  Calls Tryz.prog F #[.agg #[.string x.1, .bool x.2], cp] wr fun e w' => e = .returned (.bool (p x)) ∧ Below wr.heap.size wr w'
set_option maxHeartbeats 2000000 in
theorem fieldsIdx_any (F : FuncId) (hF : ∀ args w, (callFunc F args).run Tryz.prog w = .ok (.enter F args) w) (cp : Addr) (p : Fd → Bool) (iv : Value) (it : List Fd) (w : World) (hi : FieldsAt (cf w) iv it) (H : AsksF F (.pointer (some cp)) p it w) :
    Calls Tryz.prog 117 #[iv, .func (.func F) #[] #[.pointer (some cp)]] w (IdxAny (it.any p) w) := by
  obtain ⟨a, cap, rfl, hlen, hcap, hel⟩ := hi
  have HE := Hold.mk hel
  have HH := Hold.mk H
  clear hel H
  go_enter Tryz.func117, Tryz.ntmps117
  go_wp2_with fail
  go_loopw [8] (fun i wr => ∃ j : Nat, i = .int .i64 j ∧ j ≤ it.length ∧ (∀ (q : Nat) x, q < j → it[q]? = some x → p x = false) ∧ Below w.heap.size w wr) (fun i _ => it.length - (intOf i).toNat)
  case atStart => exact ⟨0, rfl, Nat.zero_le _, fun q x h => by omega, Below.refl _ _⟩
  case round =>
    obtain ⟨j, rfl, hj, hall, hbl⟩ := hrel
    have HA := Hold.mk hall
    have HB := Hold.mk hbl
    clear hall hbl
    by_cases hlt : j < it.length
    · obtain ⟨x, hx⟩ : ∃ x, it[j]? = some x := ⟨it[j], List.getElem?_eq_getElem hlt⟩
      obtain ⟨_, b, off, rfl, x0, x1⟩ := HE.out j x hx
      have hcl := cle_below HB.out
      have z0 := hcl _ _ _ x0
      have z1 := hcl _ _ _ x1
      unfold cf at z0 z1
      have HX := Hold.mk (HH.out x (List.mem_of_getElem? hx) wr HB.out)
      have HXE := Hold.mk hx
      clear x0 x1 hcl hx
      cases hfx : p x with
      | false =>
        rw [hfx] at HX
        have HF := Hold.mk hfx
        clear hfx
        go_wp2_with fail
        refine HX.out.mono ?_
        rintro e w3 ⟨rfl, hb3⟩
        replace HB := Hold.mk (HB.out.trans (hb3.mono HB.out.size))
        clear hb3 HX z0 z1
        go_wp2_with fail
        refine ⟨⟨j + 1, by go_num, hlt, fun q s' hq hs' => ?_, HB.out⟩, by simp [intOf]; omega⟩
        by_cases e : q = j
        · subst e; rw [HXE.out] at hs'; cases hs'; exact HF.out
        · exact HA.out q s' (by omega) hs'
      | true =>
        rw [hfx] at HX
        have HF := Hold.mk hfx
        clear hfx
        go_wp2_with fail
        refine HX.out.mono ?_
        rintro e w3 ⟨rfl, hb3⟩
        replace HB := Hold.mk (HB.out.trans (hb3.mono HB.out.size))
        clear hb3 HX z0 z1
        go_wp2_with fail
        go_ret
        exact ⟨(j : Int), rfl, by rw [any_true HXE.out HF.out]; simp, HB.out⟩
    · have HAll : Hold (it.any p = false) := ⟨any_false (fun q x hq => HA.out q x (by omega))⟩
      go_wp2_with fail
      go_ret
      exact ⟨-1, rfl, by rw [HAll.out]; rfl, HB.out⟩
set_option maxHeartbeats 2000000 in
theorem fieldsAny_any (F : FuncId) (hF : ∀ args w, (callFunc F args).run Tryz.prog w = .ok (.enter F args) w) (cp : Addr) (p : Fd → Bool) (iv : Value) (it : List Fd) (w : World) (hi : FieldsAt (cf w) iv it) (H : AsksF F (.pointer (some cp)) p it w) :
    Calls Tryz.prog 95 #[iv, .func (.func F) #[] #[.pointer (some cp)]] w fun e w' => e = .returned (.bool (it.any p)) ∧ Below w.heap.size w w' := by
  have HX := Hold.mk (fieldsIdx_any F hF cp p iv it w hi H)
  clear hi H
  go_enter Tryz.func95, Tryz.ntmps95
  go_wp2_with fail
  refine HX.out.mono ?_
  rintro e w1 ⟨r, rfl, hr, hb1⟩
  have HR := Hold.mk hr
  have HB := Hold.mk hb1
  clear hr hb1 HX
  go_wp2_with fail
  go_ret
  exact ⟨ret_b HR.out, HB.out⟩
def sameS (s : ByteArray) (x : Fd) : Bool := x.1.toList == s.toList
set_option maxHeartbeats 2000000 in
theorem formedI1_any (s : ByteArray) (d : Bool) (x : Fd) (k : Nat) (w : World) (hc : w.heap[k]? = some (.cells #[.string s, .bool d] 112 (0, 0))) :
    Calls Tryz.prog 96 #[.agg #[.string x.1, .bool x.2], .pointer (some ⟨k, 0, none⟩)] w fun e w' => e = .returned (.bool (sameS s x)) ∧ Below w.heap.size w w' := by
  have hlt := heap_lt hc
  obtain ⟨y0, y1⟩ := cells_two hc
  have HB := Hold.mk (Boxed.refl w (.cells #[.string x.1, .bool x.2] 112))
  obtain ⟨b, hb⟩ : ∃ b, sameS s x = b := ⟨_, rfl⟩
  have e1 : (x.1.toList == s.toList) = b := hb
  rw [hb]
  obtain ⟨t, u⟩ := x
  simp only at e1 ⊢
  clear hc hb
  go_enter Tryz.func96, Tryz.ntmps96
  go_wp2_with fail
  go_ret
  exact ⟨rfl, HB.out.below⟩
theorem formedI1_enters (args : Array Value) (w : World) : (callFunc 96 args).run Tryz.prog w = .ok (.enter 96 args) w := enters_of Tryz.func96 (by kernel_rfl) rfl args w
/-- a path of an index -/
def pathOk (s : ByteArray) : Bool := (stepsF s).isSome && simpleF s
/-- the fields from here on are good -/
def goodF (all : List Fd) : Nat → List Fd → Bool
  | _, [] => true
  | j, f :: l => pathOk f.1 && !(all.take j).any (sameS f.1) && goodF all (j + 1) l
/-- a formed index -/
def formI (x : IX) : Bool := nameF x.name && decide (1 ≤ x.fields.length ∧ x.fields.length ≤ 3) && goodF x.fields 0 x.fields
theorem good_step {all : List Fd} {j : Nat} {f : Fd} (hf : all[j]? = some f) : goodF all j (all.drop j) = (pathOk f.1 && !(all.take j).any (sameS f.1) && goodF all (j + 1) (all.drop (j + 1))) := by
  obtain ⟨h1, e1⟩ := List.getElem?_eq_some_iff.1 hf
  rw [List.drop_eq_getElem_cons h1, e1, goodF]
theorem path_parts (s : ByteArray) : pathOk s = ((stepsF s).isSome && decide (s.size ≤ 24) && plainS s) := by
  unfold pathOk simpleF plainS
  cases (stepsF s).isSome <;> simp [Bool.and_comm]
set_option maxRecDepth 100000 in
set_option maxHeartbeats 8000000 in
theorem FormedI_any (x : IX) (v : Value) (w : World) (hx : IAt (cf w) x v) (hsm : ∀ f ∈ x.fields, f.1.size ≤ 1000000) (hT : Tabs w) :
    Calls Tryz.prog 68 #[v] w fun e w' => e = .returned (.bool (formI x)) ∧ Below w.heap.size w w' := by
  obtain ⟨hnm, fv, rfl, a, cap, rfl, hlen, hcap, hel⟩ := hx
  have HB := Hold.mk (Boxed.refl w (.cells #[.string x.name, .slice a x.fields.length cap, .bool x.uniq] 81))
  have HFA : Hold (FieldsAt (cf w) (.slice a x.fields.length cap) x.fields) := ⟨⟨a, cap, rfl, hlen, hcap, hel⟩⟩
  have HE := Hold.mk hel
  have HS := Hold.mk hsm
  have HT := Hold.mk hT
  have HX := Hold.mk (fun w => Name_any x.name w hnm)
  have HF0 : Hold (formI x = (nameF x.name && decide (1 ≤ x.fields.length ∧ x.fields.length ≤ 3) && goodF x.fields 0 x.fields)) := ⟨rfl⟩
  obtain ⟨nm, l, u⟩ := x
  simp only at *
  clear hel hsm hT
  go_enter Tryz.func68, Tryz.ntmps68
  go_wp2_with fail
  refine (HX.out _).mono ?_
  rintro e w1 ⟨rfl, hb1⟩
  replace HB := Hold.mk (HB.out.next hb1)
  clear hb1 HX
  cases hn : nameF nm with
  | false =>
    have HR : Hold (formI ⟨nm, l, u⟩ = false) := ⟨by rw [HF0.out, hn]; rfl⟩
    clear hn
    go_wp2_with fail
    go_ret
    exact ⟨by rw [HR.out]; rfl, HB.out.below⟩
  | true =>
    have HN := Hold.mk hn
    clear hn
    obtain ⟨y0, y1, y2⟩ := cells_three HB.out.blk
    by_cases h1 : 1 ≤ l.length
    · by_cases h3 : l.length ≤ 3
      · replace HF0 : Hold (formI ⟨nm, l, u⟩ = goodF l 0 (l.drop 0)) := ⟨by rw [HF0.out, HN.out, decide_eq_true (show 1 ≤ l.length ∧ l.length ≤ 3 from ⟨h1, h3⟩)]; rfl⟩
        go_wp2_with fail
        clear y0 y1 y2
        go_loopw [26] (fun i wr => ∃ j : Nat, i = .int .i64 j ∧ j ≤ l.length ∧ formI ⟨nm, l, u⟩ = goodF l j (l.drop j) ∧ Boxed w wr _) (fun i _ => l.length - (intOf i).toNat)
        case atStart => exact ⟨0, rfl, Nat.zero_le _, HF0.out, HB.out⟩
        case round =>
          obtain ⟨j, rfl, hj, hst, hbx⟩ := hrel
          clear HB
          have HST := Hold.mk hst
          have HB := Hold.mk hbx
          clear hst hbx HF0
          by_cases hlt : j < l.length
          · obtain ⟨f, hf⟩ : ∃ f, l[j]? = some f := ⟨l[j], List.getElem?_eq_getElem hlt⟩
            obtain ⟨hfs, b, off, rfl, x0, x1⟩ := HE.out j f hf
            have hcl := cle_below HB.out.below
            have z0 := hcl _ _ _ x0
            have z1 := hcl _ _ _ x1
            unfold cf at z0 z1
            have HSM := Hold.mk (HS.out f (List.mem_of_getElem? hf))
            replace HST := Hold.mk (HST.out.trans (good_step hf))
            clear x0 x1 hcl hf
            obtain ⟨s, dn⟩ := f
            simp only at *
            have HA := Hold.mk ((Below.refl wr.heap.size wr).alloc (Nat.le_refl _) (.cells #[.string s, .bool dn] 112))
            have HK : Hold ((wr.alloc (.cells #[.string s, .bool dn] 112)).heap[wr.heap.size]? = some (.cells #[.string s, .bool dn] 112 (0, 0))) := ⟨heap_alloc_new wr _⟩
            replace HB := Hold.mk (HB.out.next HA.out)
            go_wp2_with fail
            refine (Steps_any s _ HSM.out (HT.out.below HB.out.below)).mono ?_
            rintro e w2 ⟨hsp, hb2⟩
            replace HB := Hold.mk (HB.out.next hb2)
            replace HK := Hold.mk (kept HK.out hb2)
            clear hb2 HA z0 z1
            cases hl : stepsF s with
            | none =>
              rw [hl] at hsp
              simp only at hsp
              subst hsp
              have HR : Hold (formI ⟨nm, l, u⟩ = false) := ⟨by rw [HST.out, path_parts, hl]; rfl⟩
              clear hl
              go_wp2_with fail
              go_ret
              exact ⟨by rw [HR.out]; rfl, HB.out.below⟩
            | some ls =>
              rw [hl] at hsp
              simp only at hsp
              obtain ⟨sv, rfl, hsv⟩ := hsp
              replace HST : Hold (formI ⟨nm, l, u⟩ = (decide (s.size ≤ 24) && plainS s && !(l.take j).any (sameS s) && goodF l (j + 1) (l.drop (j + 1)))) := ⟨by rw [HST.out, path_parts, hl]; simp [Bool.and_assoc]⟩
              clear hl hsv
              obtain ⟨k0, k1⟩ := cells_two HK.out
              by_cases h24 : s.size ≤ 24
              · replace HST : Hold (formI ⟨nm, l, u⟩ = (plainS s && !(l.take j).any (sameS s) && goodF l (j + 1) (l.drop (j + 1)))) := ⟨by rw [HST.out, decide_eq_true h24, Bool.true_and]⟩
                go_wp2_with fail
                refine (plain_s s _).mono ?_
                rintro e w3 ⟨rfl, hb3⟩
                replace HB := Hold.mk (HB.out.next hb3)
                replace HK := Hold.mk (kept HK.out hb3)
                clear hb3 k0 k1
                cases hp : plainS s with
                | false =>
                  have HR : Hold (formI ⟨nm, l, u⟩ = false) := ⟨by rw [HST.out, hp]; rfl⟩
                  clear hp
                  go_wp2_with fail
                  go_ret
                  exact ⟨by rw [HR.out]; rfl, HB.out.below⟩
                | true =>
                  replace HST : Hold (formI ⟨nm, l, u⟩ = (!(l.take j).any (sameS s) && goodF l (j + 1) (l.drop (j + 1)))) := ⟨by rw [HST.out, hp, Bool.true_and]⟩
                  clear hp
                  obtain ⟨y0, y1, y2⟩ := cells_three HB.out.blk
                  have HC := Hold.mk (fieldsAny_any 96 formedI1_enters ⟨wr.heap.size, 0, none⟩ (sameS s) _ (l.take j) w3 ((HFA.out.mono (cle_below HB.out.below)).take hj) (fun x _ wr' hb' => formedI1_any s dn x wr.heap.size wr' (kept HK.out hb')))
                  have hjc : j ≤ cap := by omega
                  go_wp2_with fail
                  refine HC.out.mono ?_
                  rintro e w4 ⟨rfl, hb4⟩
                  replace HB := Hold.mk (HB.out.next hb4)
                  clear hb4 y0 y1 y2 HK HC
                  cases ha : (l.take j).any (sameS s) with
                  | true =>
                    have HR : Hold (formI ⟨nm, l, u⟩ = false) := ⟨by rw [HST.out, ha]; rfl⟩
                    clear ha
                    go_wp2_with fail
                    go_ret
                    exact ⟨by rw [HR.out]; rfl, HB.out.below⟩
                  | false =>
                    have HR : Hold (formI ⟨nm, l, u⟩ = goodF l (j + 1) (l.drop (j + 1))) := ⟨by rw [HST.out, ha]; rfl⟩
                    clear ha
                    go_wp2_with fail
                    exact ⟨⟨j + 1, by go_num, hlt, HR.out, HB.out⟩, by simp [intOf]; omega⟩
              · have HR : Hold (formI ⟨nm, l, u⟩ = false) := ⟨by rw [HST.out, decide_eq_false h24]; rfl⟩
                go_wp2_with fail
                go_ret
                exact ⟨by rw [HR.out]; rfl, HB.out.below⟩
          · have HR : Hold (formI ⟨nm, l, u⟩ = true) := ⟨by rw [HST.out, List.drop_eq_nil_of_le (by omega)]; rfl⟩
            go_wp2_with fail
            go_ret
            exact ⟨by rw [HR.out]; rfl, HB.out.below⟩
      · have HR : Hold (formI ⟨nm, l, u⟩ = false) := ⟨by rw [HF0.out, HN.out, decide_eq_false (fun h : 1 ≤ l.length ∧ l.length ≤ 3 => h3 h.2)]; rfl⟩
        go_wp2_with fail
        go_ret
        exact ⟨by rw [HR.out]; rfl, HB.out.below⟩
    · have HR : Hold (formI ⟨nm, l, u⟩ = false) := ⟨by rw [HF0.out, HN.out, decide_eq_false (fun h : 1 ≤ l.length ∧ l.length ≤ 3 => h1 h.1)]; rfl⟩
      go_wp2_with fail
      go_ret
      exact ⟨by rw [HR.out]; rfl, HB.out.below⟩
end Go.Proofs.YticlnijkfclgcaaGreatDoor
