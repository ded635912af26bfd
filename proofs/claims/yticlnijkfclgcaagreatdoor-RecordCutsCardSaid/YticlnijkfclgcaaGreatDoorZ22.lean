/- Writes: what a formed write is; One of both. Writes: the order of writes; lists that are formed, of both. Writes: lists that are formed, of both. (printed by genXWC.py) Writes: writes as the reference has them; few, awake; WritesForm walked. -/
import Derived.Test.YticlnijkfclgcaaGreatDoorZ20
namespace Go.Proofs.YticlnijkfclgcaaGreatDoor
open Go.Shelf Go.RowKit

/-- a document's text -/
def dtextF (t : ByteArray) : Bool := decide ((readF t.data.toList).2 = 0) && decide ((readF t.data.toList).1.kind = 6) && decide (printS (readF t.data.toList).1 = t)
/-- a write -/
structure WR where
  sp : Int
  id : ByteArray
  gone : Bool
  text : ByteArray
def wtextF (gone : Bool) (t : ByteArray) : Bool := match gone with
  | true => decide (t.size = 0)
  | false => dtextF t
def oneF (x : WR) : Bool := decide (1 ≤ x.sp) && decide (x.sp ≤ 200) && idF x.id && decide (x.text.size ≤ 240) && wtextF x.gone x.text
/-- a write as a value -/
def WR.cells (x : WR) : Array Value := #[.int .i64 x.sp, .string x.id, .bool x.gone, .string x.text]
theorem cells4W {w : World} {k : Nat} {c0 c1 c2 c3 : Value} {t : TypeId} (h : w.heap[k]? = some (.cells #[c0, c1, c2, c3] t (0, 0))) :
    w.cell? ⟨k, 0, none⟩ = some c0 ∧ w.cell? ⟨k, 1, none⟩ = some c1 ∧ w.cell? ⟨k, 2, none⟩ = some c2 ∧ w.cell? ⟨k, 3, none⟩ = some c3 := by
  simp [World.cell?, h]
theorem read_formed {l : List UInt8} (h : (readF l).2 = 0) : formedF 6 (readF l).1 = true := by
  unfold readF at h ⊢
  repeat' split
  all_goals simp_all
theorem empty_textW (t : ByteArray) : decide (t.size = 0) = t.toList.isEmpty := by
  rw [ByteArray.toList_eq, ← size_list]
  cases t.data.toList <;> rfl
theorem goodId_any (s : ByteArray) (w : World) (hs : s.size ≤ 1000000) (hT : Tabs w) :
    Calls Tryz.prog 32 #[.string s] w fun e w' => e = .returned (.bool (idF s)) ∧ Below w.heap.size w w' := by
  have HV := Hold.mk (validW s w hs hT)
  clear hT
  by_cases h1 : 1 ≤ s.size
  · by_cases h2 : s.size ≤ 16
    · have HR : Hold (idF s = Lib.validD s.data.toList) := ⟨by unfold idF; simp [h1, h2]⟩
      have k1 : (1 : Int) ≤ (s.size : Int) := by omega
      have k2 : (s.size : Int) ≤ 16 := by omega
      clear h1 h2
      go_enter Tryz.func32, Tryz.ntmps32
      go_wp2_with fail
      refine HV.out.mono ?_
      rintro e w2 ⟨rfl, hb2⟩
      go_wp2_with fail
      go_ret
      exact ⟨by rw [HR.out] <;> rfl, hb2⟩
    · have HR : Hold (idF s = false) := ⟨by unfold idF; simp [h2]⟩
      have k1 : (1 : Int) ≤ (s.size : Int) := by omega
      have k2 : ¬ (s.size : Int) ≤ 16 := by omega
      clear h1 h2
      go_enter Tryz.func32, Tryz.ntmps32
      go_wp2_with fail
      go_ret
      exact ⟨by rw [HR.out] <;> rfl, Below.refl _ _⟩
  · have HR : Hold (idF s = false) := ⟨by unfold idF; simp [h1]⟩
    have k1 : ¬ (1 : Int) ≤ (s.size : Int) := by omega
    clear h1
    go_enter Tryz.func32, Tryz.ntmps32
    go_wp2_with fail
    go_ret
    exact ⟨by rw [HR.out] <;> rfl, Below.refl _ _⟩
set_option maxHeartbeats 16000000 in
set_option maxRecDepth 100000 in
theorem One_any (x : WR) (w : World) (hid : x.id.size ≤ 1000000) (htx : x.text.size ≤ 1000000) (hT : Tabs w) (hP : Pow w.heap.size w) (hE : Errs w.heap.size w) :
    Calls Tryz.prog 21 #[.agg x.cells] w fun e w' => e = .returned (.bool (oneF x)) ∧ Below w.heap.size w w' := by
  obtain ⟨sp, id, gone, text⟩ := x
  unfold WR.cells
  simp only at hid htx ⊢
  obtain ⟨W, hW⟩ : ∃ W, W = w.alloc (.cells #[.int .i64 sp, .string id, .bool gone, .string text] 37) := ⟨_, rfl⟩
  have hb : Below w.heap.size w W := by rw [hW]; exact (Below.refl _ w).alloc (Nat.le_refl _) _
  have HX : Hold (W.heap[w.heap.size]? = some (.cells #[.int .i64 sp, .string id, .bool gone, .string text] 37 (0, 0))) := ⟨by rw [hW]; exact heap_alloc_new w _⟩
  have HB := Hold.mk hb
  have HT := Hold.mk (hT.below hb)
  have HP := Hold.mk (Pow.below hP hb)
  have HE := Hold.mk (errs_after hE hb)
  have HG := Hold.mk (goodId_any id W hid HT.out)
  have HOF : Hold (oneF ⟨sp, id, gone, text⟩ = (decide (1 ≤ sp) && decide (sp ≤ 200) && idF id && decide (text.size ≤ 240) && wtextF gone text)) := ⟨rfl⟩
  generalize oneF ⟨sp, id, gone, text⟩ = r at HOF ⊢
  clear hb hT hP hE
  go_enter Tryz.func21, Tryz.ntmps21
  go_upto_region 1 with (fail)
  rw [← hW]
  clear hW
  obtain ⟨y0, y1, y2, y3⟩ := cells4W HX.out
  by_cases h1 : sp < 1
  · have HR : Hold (r = false) := ⟨by rw [HOF.out, decide_eq_false (show ¬ 1 ≤ sp by omega)]; rfl⟩
    have HBF := HB.out
    clear HB HX HT HP HE HG
    go_wp2_with fail
    go_ret
    exact ⟨by rw [HR.out] <;> rfl, HBF⟩
  by_cases h2 : 200 < sp
  · have HR : Hold (r = false) := ⟨by rw [HOF.out, decide_eq_false (show ¬ sp ≤ 200 by omega)]; simp⟩
    have HBF := HB.out
    clear HB HX HT HP HE HG
    go_wp2_with fail
    go_ret
    exact ⟨by rw [HR.out] <;> rfl, HBF⟩
  go_wp2_with fail
  clear y0 y1 y2 y3
  refine HG.out.mono ?_
  rintro e w2 ⟨rfl, hb2⟩
  replace HB := Hold.mk (HB.out.trans (hb2.mono HB.out.size))
  replace HX := Hold.mk (keptR HX.out hb2)
  replace HT := Hold.mk (HT.out.below hb2)
  replace HP := Hold.mk (Pow.below HP.out hb2)
  replace HE := Hold.mk (errs_after HE.out hb2)
  clear hb2 HG
  obtain ⟨y0, y1, y2, y3⟩ := cells4W HX.out
  rw [decide_eq_true (show 1 ≤ sp by omega), decide_eq_true (show sp ≤ 200 by omega)] at HOF
  clear h1 h2
  generalize idF id = g at HOF ⊢
  cases g with
  | false =>
    have HR : Hold (r = false) := ⟨by rw [HOF.out]; rfl⟩
    have HBF := HB.out
    clear HB HX HT HP HE
    go_wp2_with fail
    go_ret
    exact ⟨by rw [HR.out] <;> rfl, HBF⟩
  | true =>
  by_cases h3 : 240 < text.size
  · have HR : Hold (r = false) := ⟨by rw [HOF.out, decide_eq_false (show ¬ text.size ≤ 240 by omega)]; rfl⟩
    have k3 : (240 : Int) < (text.size : Int) := by omega
    have HBF := HB.out
    clear HB HX HT HP HE
    go_wp2_with fail
    go_ret
    exact ⟨by rw [HR.out] <;> rfl, HBF⟩
  have k3 : ¬ (240 : Int) < (text.size : Int) := by omega
  rw [decide_eq_true (show text.size ≤ 240 by omega)] at HOF
  cases gone with
  | true =>
    have HR : Hold (r = text.toList.isEmpty) := ⟨by rw [HOF.out, ← empty_textW]; rfl⟩
    have HBF := HB.out
    clear HB HX HT HP HE HOF
    go_wp2_with fail
    go_ret
    exact ⟨by rw [HR.out] <;> rfl, HBF⟩
  | false =>
  have HR : Hold (r = dtextF text) := ⟨by rw [HOF.out]; rfl⟩
  have HRD := Hold.mk (Read_any text w2 htx HT.out HE.out)
  clear HOF HE h3
  go_wp2_with fail
  clear y0 y1 y2 y3
  refine HRD.out.mono ?_
  rintro e w3 ⟨hb3, x, rfl, hj⟩
  obtain ⟨xk, xn, xt, nm, it, na, ncap, ia, icap, hv, rfl, _⟩ := hj.open
  obtain ⟨v, hve⟩ : ∃ v, v = (readF text.data.toList).1 := ⟨_, rfl⟩
  obtain ⟨er, her⟩ : ∃ er, er = (readF text.data.toList).2 := ⟨_, rfl⟩
  have HD : Hold (dtextF text = (decide (er = 0) && decide (v.kind = 6) && decide (printS v = text))) := ⟨by rw [hve, her]; rfl⟩
  rw [← hve] at hj hv
  rw [← her]
  have HK : Hold (v.kind = xk) := ⟨by rw [hv]; rfl⟩
  obtain ⟨W4, hW4⟩ : ∃ W4, W4 = w3.alloc (.cells #[.int .i64 xk, .int .i64 xn, .string xt, .slice na nm.length ncap, .slice ia it.length icap] 58) := ⟨_, rfl⟩
  have hb4 : Below w3.heap.size w3 W4 := by rw [hW4]; exact (Below.refl _ w3).alloc (Nat.le_refl _) _
  have HX4 : Hold (W4.heap[w3.heap.size]? = some (.cells #[.int .i64 xk, .int .i64 xn, .string xt, .slice na nm.length ncap, .slice ia it.length icap] 58 (0, 0))) := ⟨by rw [hW4]; exact heap_alloc_new w3 _⟩
  have HJ4 := Hold.mk (((hj.mono (cfF_cf _ _)).mono (cle_below hb4)))
  have hb34 := hb3.trans (hb4.mono hb3.size)
  replace HB := Hold.mk (HB.out.trans (hb34.mono HB.out.size))
  replace HX := Hold.mk (keptR HX.out hb34)
  have HPR := Hold.mk (Print_any v _ W4 HJ4.out (HT.out.below hb34) (Pow.below HP.out hb34))
  clear hb3 hb4 hb34 hj hve her hv HRD HT HP HJ4
  go_upto_region 6 with (fail)
  rw [← hW4]
  clear hW4
  obtain ⟨y0, y1, y2, y3⟩ := cells4W HX.out
  obtain ⟨z0, z1, z2, z3, z4⟩ := cells5R HX4.out
  go_wp2_with fail
  clear y0 y1 y2 y3 z0 z1 z2 z3 z4
  refine HPR.out.mono ?_
  rintro e w5 ⟨rfl, hb5⟩
  replace HB := Hold.mk (HB.out.trans (hb5.mono HB.out.size))
  replace HX := Hold.mk (keptR HX.out hb5)
  replace HX4 := Hold.mk (keptR HX4.out hb5)
  obtain ⟨y0, y1, y2, y3⟩ := cells4W HX.out
  obtain ⟨z0, z1, z2, z3, z4⟩ := cells5R HX4.out
  rw [HD.out, HK.out] at HR
  clear hb5 HPR HD HK HX HX4
  generalize printS v = pt at HR ⊢
  have HBF := HB.out
  clear HB
  by_cases he : er = 0
  · subst he
    by_cases hk : xk = 6
    · subst hk
      have HR2 : Hold (r = decide (pt = text)) := ⟨by rw [HR.out]; simp⟩
      clear HR
      go_wp2_with fail
      go_ret
      refine ⟨?_, HBF⟩
      rw [HR2.out]
      by_cases hp : pt = text
      · simp [hp]
      · simp [hp, str_ne hp]
    · have HR2 : Hold (r = false) := ⟨by rw [HR.out]; simp [hk]⟩
      have hk2 : (xk == 6) = false := by simpa using hk
      clear HR
      go_wp2_with fail
      go_ret
      exact ⟨by rw [HR2.out] <;> rfl, HBF⟩
  · have HR2 : Hold (r = false) := ⟨by rw [HR.out]; simp [he]⟩
    have he2 : (er == 0) = false := by simpa using he
    clear HR
    go_wp2_with fail
    go_ret
    exact ⟨by rw [HR2.out] <;> rfl, HBF⟩
end Go.Proofs.YticlnijkfclgcaaGreatDoor

namespace Go.Proofs.YticlnijkfclgcaaGreatDoor
open Go.Shelf Go.RowKit

/-- a write in cells -/
def RW : Rep WR := fun _ x d => d = x.cells.toList ∧ x.id.size ≤ 9223372036854775807 ∧ x.text.size ≤ 9223372036854775807 ∧ (Lit.int .i64 x.sp).wf = true
theorem RW_mono : Mono RW := fun _ _ _ _ _ h => h
def cmpW (a b : WR) : Int := orI (cmpI a.sp b.sp) (cmpS a.id b.id)
def ltW (a b : WR) : Bool := decide (a.sp < b.sp) || (decide (a.sp = b.sp) && strLt a.id b.id)
theorem cmpW_lt (a b : WR) : cmpW a b < 0 ↔ ltW a b = true := by
  unfold cmpW ltW orI cmpI cmpS
  by_cases h1 : a.sp < b.sp
  · simp [h1]
  · by_cases h2 : b.sp < a.sp
    · have h3 : ¬ a.sp = b.sp := by omega
      simp [h1, h2, h3]
    · have h3 : a.sp = b.sp := by omega
      cases hs : strLt a.id b.id with
      | true => simp [h3]
      | false =>
        by_cases h4 : a.id = b.id
        · simp [h3, h4]
        · simp [h3, h4]
theorem two_cellsW (w : World) (a b : Int) (t : TypeId) : ∀ (i : Nat) x, [a, b][i]? = some x → (w.alloc (.cells #[.int .i64 a, .int .i64 b] t)).cell? ⟨w.heap.size, i, none⟩ = some (.int .i64 x) := by
  intro i x hx
  match i, hx with
  | 0, hx => simp at hx; subst hx; simp
  | 1, hx => simp at hx; subst hx; simp
set_option maxRecDepth 100000 in
set_option maxHeartbeats 8000000 in
theorem wcompare_any (a b : WR) (w : World) :
    Calls Tryz.prog 22 #[.agg a.cells, .agg b.cells] w fun e w' => e = .returned (.int .i64 (cmpW a b)) ∧ Below w.heap.size w w' := by
  obtain ⟨s, i, g, t⟩ := a
  obtain ⟨s2, i2, g2, t2⟩ := b
  unfold WR.cells
  have HEQ : Hold (cmpW ⟨s, i, g, t⟩ ⟨s2, i2, g2, t2⟩ = orL [cmpI s s2, cmpS i i2]) := ⟨by
    have : ∀ z : Int, orI z 0 = z := fun z => by unfold orI; split <;> simp_all
    simp [cmpW, orL, this]⟩
  simp only
  have H2 := Hold.mk (TwoB.refl w #[.int .i64 s, .string i, .bool g, .string t] #[.int .i64 s2, .string i2, .bool g2, .string t2] 37 37)
  go_enter Tryz.func22, Tryz.ntmps22
  go_wp2_with fail
  obtain ⟨w1, hw1⟩ : ∃ w1, w1 = ((w.alloc (.cells #[.int .i64 s, .string i, .bool g, .string t] 37)).alloc (.cells #[.int .i64 s2, .string i2, .bool g2, .string t2] 37)) := ⟨_, rfl⟩
  rw [← hw1] at H2 ⊢
  clear hw1
  obtain ⟨y0, y1, y2, y3⟩ := cells4W H2.out.one
  obtain ⟨z0, z1, z2, z3⟩ := cells4W H2.out.two
  refine wp_region_still_tail 10 (by kernel_rfl) (by kernel_rfl) ?_
  simp only [List.take_succ_cons, List.take_zero, List.drop_succ_cons, List.drop_zero]
  repeat (first | still_step | still_call (compare_int _ _ _) | still_call (compare_str _ _ _))
  refine wpStill_nil ?_
  go_wp2_with fail
  refine (or_any [cmpI s s2, cmpS i i2] w1.heap.size _ (by simp) (by exact two_cellsW w1 _ _ _)).mono ?_
  rintro e w2 ⟨rfl, rfl⟩
  replace H2 := Hold.mk (H2.out.next (((Below.refl _ w1).alloc (Nat.le_refl _) (.cells #[.int .i64 (cmpI s s2), .int .i64 (cmpS i i2)] 3)).drew))
  clear y0 y1 y2 y3 z0 z1 z2 z3
  have HBF := H2.out.bel
  clear H2
  go_wp2_with fail
  go_ret
  exact ⟨by rw [HEQ.out] <;> rfl, HBF⟩
/-- formed up to j -/
def FormedTo (l : List WR) (j : Nat) : Prop := (∀ (i : Nat) x, i < j → l[i]? = some x → oneF x = true) ∧ (∀ (i : Nat) a b, i + 1 < j → l[i]? = some a → l[i + 1]? = some b → ltW a b = true)
open Classical in
noncomputable def formedW (l : List WR) : Bool := decide (FormedTo l l.length ∧ l.length ≤ 12)
theorem FormedTo.zero (l : List WR) : FormedTo l 0 := ⟨fun i x h => by omega, fun i a b h => by omega⟩
theorem FormedTo.next {l : List WR} {j : Nat} {x : WR} (h : FormedTo l j) (hx : l[j]? = some x) (h1 : oneF x = true) (h2 : ∀ a k, j = k + 1 → l[k]? = some a → ltW a x = true) : FormedTo l (j + 1) := by
  refine ⟨fun i y hi hy => ?_, fun i a b hi ha hb => ?_⟩
  · by_cases e : i = j
    · subst e; rw [hx] at hy; cases hy; exact h1
    · exact h.1 i y (by omega) hy
  · by_cases e : i + 1 = j
    · rw [e, hx] at hb; cases hb; exact h2 a i e.symm ha
    · exact h.2 i a b (by omega) ha hb
open Classical in
theorem formedW_bad1 {l : List WR} {j : Nat} {x : WR} (hx : l[j]? = some x) (h1 : oneF x = false) : formedW l = false := by
  unfold formedW
  refine decide_eq_false fun h => ?_
  have := h.1.1 j x (List.getElem?_eq_some_iff.1 hx).1 hx
  rw [h1] at this; cases this
open Classical in
theorem formedW_bad2 {l : List WR} {j : Nat} {a x : WR} (ha : l[j]? = some a) (hx : l[j + 1]? = some x) (h1 : ltW a x = false) : formedW l = false := by
  unfold formedW
  refine decide_eq_false fun h => ?_
  have := h.1.2 j a x (List.getElem?_eq_some_iff.1 hx).1 ha hx
  rw [h1] at this; cases this
open Classical in
theorem formedW_end {l : List WR} (h : FormedTo l l.length) : formedW l = decide (l.length ≤ 12) := by
  unfold formedW
  by_cases h2 : l.length ≤ 12
  · simp [h, h2]
  · simp [h2]
end Go.Proofs.YticlnijkfclgcaaGreatDoor

namespace Go.Proofs.YticlnijkfclgcaaGreatDoor
open Go.Shelf Go.RowKit

set_option maxRecDepth 100000 in
set_option maxHeartbeats 16000000 in
theorem wFormed_any (l : List WR) (lv : Value) (w : World) (hl : SAt 4 RW (cf w) lv l) (hsm : ∀ x ∈ l, x.id.size ≤ 1000000 ∧ x.text.size ≤ 1000000) (hT : Tabs w) (hP : Pow w.heap.size w) (hE : Errs w.heap.size w) :
    Calls Tryz.prog 17 #[lv] w fun e w' => e = .returned (.bool (formedW l)) ∧ Below w.heap.size w w' := by
  obtain ⟨la, lcap, rfl, hle, hcap, hel⟩ := hl
  have hle2 : l.length ≤ 9223372036854775807 := by omega
  have HE := Hold.mk hel
  have HS := Hold.mk hsm
  have HT := Hold.mk hT
  have HP := Hold.mk hP
  have HER := Hold.mk hE
  clear hT hP hE
  clear hel hsm
  go_enter Tryz.func17, Tryz.ntmps17
  go_wp2_with fail
  go_loopw [7] (fun i wr => ∃ j : Nat, i = .int .i64 j ∧ j ≤ l.length ∧ FormedTo l j ∧ Below w.heap.size w wr) (fun i _ => l.length - (intOf i).toNat)
  case atStart => exact ⟨0, rfl, Nat.zero_le _, FormedTo.zero l, Below.refl _ _⟩
  case round =>
    obtain ⟨j, rfl, hj, hto, hb⟩ := hrel
    have HB := Hold.mk hb
    have HTO := Hold.mk hto
    clear hb hto
    by_cases hlt : j < l.length
    · obtain ⟨x, hx⟩ : ∃ x, l[j]? = some x := ⟨l[j], List.getElem?_eq_getElem hlt⟩
      obtain ⟨b, off, d, rfl, hd, hc, hxi⟩ := HE.out j x hx
      obtain ⟨rfl, _, _, _⟩ := hxi
      have HSX := Hold.mk (HS.out x (List.mem_of_getElem? hx))
      have HX := Hold.mk hx
      obtain ⟨s, i, g, t⟩ := x
      have hcl := cle_below HB.out
      have z0 := hcl _ _ _ (hc 0 _ rfl)
      have z1 := hcl _ _ _ (hc 1 _ rfl)
      have z2 := hcl _ _ _ (hc 2 _ rfl)
      have z3 := hcl _ _ _ (hc 3 _ rfl)
      unfold cf at z0 z1 z2 z3
      rw [Nat.add_zero] at z0
      simp only at HSX
      clear hx hd hc hcl
      obtain ⟨W2, hW2⟩ : ∃ W2, W2 = wr.alloc (.cells #[.int .i64 s, .string i, .bool g, .string t] 37) := ⟨_, rfl⟩
      have hb2 : Below wr.heap.size wr W2 := by rw [hW2]; exact (Below.refl _ wr).alloc (Nat.le_refl _) _
      have HY : Hold (W2.heap[wr.heap.size]? = some (.cells #[.int .i64 s, .string i, .bool g, .string t] 37 (0, 0))) := ⟨by rw [hW2]; exact heap_alloc_new wr _⟩
      have HB2 := Hold.mk (HB.out.trans (hb2.mono HB.out.size))
      have HC1 : Hold (∀ e : Grow W2, Calls Tryz.prog 21 #[.agg #[.int .i64 s, .string i, .bool g, .string t]] e.val fun r w' => r = .returned (.bool (oneF ⟨s, i, g, t⟩)) ∧ Below e.val.heap.size e.val w') := ⟨fun e => One_any ⟨s, i, g, t⟩ e.val HSX.out.1 HSX.out.2 (HT.out.below (HB2.out.trans (e.property.mono HB2.out.size))) (Pow.below HP.out (HB2.out.trans (e.property.mono HB2.out.size))) (errs_after HER.out (HB2.out.trans (e.property.mono HB2.out.size)))⟩
      obtain ⟨on, hon⟩ : ∃ on, on = oneF ⟨s, i, g, t⟩ := ⟨_, rfl⟩
      rw [← hon] at HC1
      have HON := Hold.mk hon
      clear hon
      have HC1 := Hold.mk (Calls.grow HC1.out)
      cases on with
      | false =>
        have HR : Hold (formedW l = false) := ⟨formedW_bad1 HX.out HON.out.symm⟩
        go_upto_region 4 with (fail)
        rw [← hW2]
        clear hW2
        obtain ⟨y0, y1, y2, y3⟩ := cells4W HY.out
        replace y0 := Grow.cell y0
        replace y1 := Grow.cell y1
        replace y2 := Grow.cell y2
        replace y3 := Grow.cell y3
        refine wp_region_grow (by kernel_rfl) (by kernel_rfl) ?_
        repeat (go_big_quiet_step (exact HC1.out _))
        refine wpQuiet_nil ?_
        rintro ⟨w3, hb3⟩
        have HBF := HB2.out.trans (hb3.mono HB2.out.size)
        simp only
        clear hb3
        go_wp2_with fail
        go_ret
        exact ⟨by rw [HR.out] <;> rfl, HBF⟩
      | true =>
        cases j with
        | zero =>
          simp only [Nat.zero_mul, Nat.add_zero] at z0 z1 z2 z3
          have HN : Hold (FormedTo l 1) := ⟨HTO.out.next HX.out HON.out.symm (fun a k h => by omega)⟩
          go_upto_region 4 with (fail)
          rw [← hW2]
          clear hW2
          obtain ⟨y0, y1, y2, y3⟩ := cells4W HY.out
          replace y0 := Grow.cell y0
          replace y1 := Grow.cell y1
          replace y2 := Grow.cell y2
          replace y3 := Grow.cell y3
          refine wp_region_grow (by kernel_rfl) (by kernel_rfl) ?_
          repeat (go_big_quiet_step (exact HC1.out _))
          refine wpQuiet_nil ?_
          rintro ⟨w3, hb3⟩
          have HBF := Hold.mk (HB2.out.trans (hb3.mono HB2.out.size))
          simp only
          clear hb3
          go_wp2_with fail
          exact ⟨⟨1, by go_num, hlt, HN.out, HBF.out⟩, by simp [intOf]; omega⟩
        | succ k =>
          obtain ⟨a, ha⟩ : ∃ a, l[k]? = some a := ⟨l[k], List.getElem?_eq_getElem (by omega)⟩
          obtain ⟨b2, off2, d, e2, hd, hc, hxi⟩ := HE.out k a ha
          cases e2
          obtain ⟨rfl, _, _, _⟩ := hxi
          have HA := Hold.mk ha
          obtain ⟨s3, i3, g3, t3⟩ := a
          have hcl := cle_below HB2.out
          have v0 := hcl _ _ _ (hc 0 _ rfl)
          have v1 := hcl _ _ _ (hc 1 _ rfl)
          have v2 := hcl _ _ _ (hc 2 _ rfl)
          have v3 := hcl _ _ _ (hc 3 _ rfl)
          unfold cf at v0 v1 v2 v3
          rw [Nat.add_zero] at v0
          replace v0 := Grow.cell v0
          replace v1 := Grow.cell v1
          replace v2 := Grow.cell v2
          replace v3 := Grow.cell v3
          clear ha hd hc hcl
          have HC2 : Hold (∀ e : Grow W2, Calls Tryz.prog 22 #[.agg #[.int .i64 s3, .string i3, .bool g3, .string t3], .agg #[.int .i64 s, .string i, .bool g, .string t]] e.val fun r w' => r = .returned (.int .i64 (cmpW ⟨s3, i3, g3, t3⟩ ⟨s, i, g, t⟩)) ∧ Below e.val.heap.size e.val w') := ⟨fun e => wcompare_any ⟨s3, i3, g3, t3⟩ ⟨s, i, g, t⟩ e.val⟩
          have HLW := Hold.mk (cmpW_lt ⟨s3, i3, g3, t3⟩ ⟨s, i, g, t⟩)
          have HN : Hold (ltW ⟨s3, i3, g3, t3⟩ ⟨s, i, g, t⟩ = true → FormedTo l (k + 1 + 1)) := ⟨fun h => HTO.out.next HX.out HON.out.symm (fun a q h1 h2 => by
            obtain rfl : q = k := by omega
            rw [HA.out] at h2; cases h2; exact h)⟩
          have HR : Hold (ltW ⟨s3, i3, g3, t3⟩ ⟨s, i, g, t⟩ = false → formedW l = false) := ⟨fun h => formedW_bad2 HA.out HX.out h⟩
          generalize cmpW ⟨s3, i3, g3, t3⟩ ⟨s, i, g, t⟩ = c at HC2 HLW
          generalize ltW ⟨s3, i3, g3, t3⟩ ⟨s, i, g, t⟩ = lt at HC2 HLW HN HR
          replace HC2 := Hold.mk (Calls.grow HC2.out)
          go_upto_region 4 with (fail)
          rw [← hW2]
          clear hW2
          obtain ⟨y0, y1, y2, y3⟩ := cells4W HY.out
          replace y0 := Grow.cell y0
          replace y1 := Grow.cell y1
          replace y2 := Grow.cell y2
          replace y3 := Grow.cell y3
          cases lt with
          | true =>
            have HN2 := Hold.mk (HN.out rfl)
            have hcz : c < 0 := HLW.out.2 rfl
            clear HN HR HLW
            refine wp_region_grow (by kernel_rfl) (by kernel_rfl) ?_
            repeat (go_big_quiet_step (first | exact HC1.out _ | exact HC2.out _))
            refine wpQuiet_nil ?_
            rintro ⟨w3, hb3⟩
            have HBF := Hold.mk (HB2.out.trans (hb3.mono HB2.out.size))
            simp only
            clear hb3
            go_wp2_with fail
            exact ⟨⟨k + 1 + 1, by go_num, hlt, HN2.out, HBF.out⟩, by simp [intOf]; omega⟩
          | false =>
            have HR2 := Hold.mk (HR.out rfl)
            have hcz : ¬ c < 0 := fun h => by have := HLW.out.1 h; cases this
            clear HN HR HLW
            refine wp_region_grow (by kernel_rfl) (by kernel_rfl) ?_
            repeat (go_big_quiet_step (first | exact HC1.out _ | exact HC2.out _))
            refine wpQuiet_nil ?_
            rintro ⟨w3, hb3⟩
            have HBF := HB2.out.trans (hb3.mono HB2.out.size)
            simp only
            clear hb3
            go_wp2_with fail
            go_ret
            exact ⟨by rw [HR2.out] <;> rfl, HBF⟩
    · obtain rfl : j = l.length := by omega
      have HR := Hold.mk (formedW_end HTO.out)
      have HBF := HB.out
      go_wp2_with fail
      go_ret
      refine ⟨?_, HBF⟩
      rw [HR.out]
      by_cases h12 : l.length ≤ 12
      · simp [h12]; try omega
      · simp [h12]; try omega
end Go.Proofs.YticlnijkfclgcaaGreatDoor

namespace Go.Proofs.YticlnijkfclgcaaGreatDoor
open Go.Shelf Go.RowKit

/-- small writes -/
def smallW (l : List WR) : Prop := ∀ x ∈ l, x.id.size ≤ 1000 ∧ x.text.size ≤ 2000
set_option maxRecDepth 100000 in
set_option maxHeartbeats 8000000 in
theorem wrFew_any (l : List WR) (lv : Value) (w : World) (hl : SAt 4 RW (cf w) lv l) (h30 : l.length ≤ 30) :
    Calls Tryz.prog 8 #[lv] w (FewPostW (smallW l) w) := by
  obtain ⟨la, lcap, rfl, hle, hcap, hel⟩ := hl
  have HE := Hold.mk hel
  clear hel
  go_enter Tryz.func8, Tryz.ntmps8
  go_wp2_with fail
  go_loopw [3] (fun i wr => ∃ (j : Nat), i = .int .i64 j ∧ j ≤ l.length ∧ (∀ (q : Nat) x, q < j → l[q]? = some x → x.id.size ≤ 1000 ∧ x.text.size ≤ 2000) ∧ Below w.heap.size w wr) (fun i _ => l.length - (intOf i).toNat)
  case atStart => exact ⟨0, rfl, Nat.zero_le _, (fun q x h => by omega), Below.refl _ _⟩
  case round =>
    obtain ⟨j, rfl, hj, hall, hbx⟩ := hrel
    have HB := Hold.mk hbx
    have HALL := Hold.mk hall
    clear hbx hall
    have h40 : (j : Int) < 40 := by omega
    by_cases hlt : j < l.length
    · obtain ⟨x, hx⟩ : ∃ x, l[j]? = some x := ⟨l[j], List.getElem?_eq_getElem hlt⟩
      obtain ⟨b, off, d, rfl, hd, hc, hxi⟩ := HE.out j x hx
      obtain ⟨rfl, hs1, hs2, _⟩ := hxi
      have HX := Hold.mk hx
      have hcl := cle_below HB.out
      have z1 := hcl _ _ _ (hc 1 _ rfl)
      have z3 := hcl _ _ _ (hc 3 _ rfl)
      unfold cf at z1 z3
      have HBF := Hold.mk HB.out
      clear hx hd hc hcl
      by_cases h1 : 1000 < x.id.size
      · have k1 : (1000 : Int) < (x.id.size : Int) := by omega
        go_wp2_with fail
        go_ret
        exact fewW_no HBF.out
      · have k1 : ¬ (1000 : Int) < (x.id.size : Int) := by omega
        by_cases h2 : 2000 < x.text.size
        · have k2 : (2000 : Int) < (x.text.size : Int) := by omega
          go_wp2_with fail
          go_ret
          exact fewW_no HBF.out
        · have k2 : ¬ (2000 : Int) < (x.text.size : Int) := by omega
          have HA2 : Hold (∀ (q : Nat) y, q < j + 1 → l[q]? = some y → y.id.size ≤ 1000 ∧ y.text.size ≤ 2000) := ⟨fun q y hq hy => by
            by_cases e : q = j
            · subst e; rw [HX.out] at hy; cases hy; exact ⟨by omega, by omega⟩
            · exact HALL.out q y (by omega) hy⟩
          clear h1 h2
          go_wp2_with fail
          exact ⟨⟨j + 1, by go_num, hlt, HA2.out, HBF.out⟩, by simp [intOf]; omega⟩
    · obtain rfl : j = l.length := by omega
      have HSM : Hold (smallW l) := ⟨fun x hx => by
        obtain ⟨i, hil, e⟩ := List.getElem_of_mem hx
        exact HALL.out i x hil (by rw [← e]; exact List.getElem?_eq_getElem hil)⟩
      have HBF := HB.out
      go_wp2_with fail
      go_ret
      exact fewW_mk (fun _ => HSM.out) rfl HBF
end Go.Proofs.YticlnijkfclgcaaGreatDoor
