/- text and formed of the program. formed of the program: its head, and values without members. formed of the program: values of kinds below Array. formed of the program: its members, by a closure handed to slices.ContainsFunc; formed whole. formed of the program, whole. What a formed value's text is, and how long it may be. Small things that both printers lean on. -/
import Derived.Test.YticlnijkfclgcaaGreatDoorZ01
import Derived.Test.YticlnijkfclgcaaGreatDoorJLays
import Derived.Lib.ValidU
import Derived.Lib.ItoaNum
import Derived.Lib.ItoaLen
import Derived.IntWalk
namespace Go.Proofs.YticlnijkfclgcaaGreatDoor
open Go.RowKit Go.Lib

def Tabs (w : World) : Prop := Lib.Utf8Tabs (Tryz.laysValid_ren.g 3) (Tryz.laysValid_ren.g 4) w
theorem Tabs.below {w w' : World} (h : Tabs w) (hb : Below w.heap.size w w') : Tabs w' := Utf8Tabs_below h hb
theorem Tabs.alloc {w : World} (h : Tabs w) (o : Obj) : Tabs (w.alloc o) := h.below ((Below.refl _ w).alloc (Nat.le_refl _) o)
/-- a String's Text, a name -/
def textF (s : ByteArray) : Bool := decide (s.size ≤ 60) && Lib.validD s.data.toList
set_option maxHeartbeats 1000000 in
theorem text_any (s : ByteArray) (w : World) (hs : s.size ≤ 9223372036854775807) (hT : Tabs w) :
    Calls Tryz.prog 64 #[.string s] w fun e w' => e = .returned (.bool (textF s)) ∧ Below w.heap.size w w' := by
  have cV : Calls Tryz.prog 23 #[.string s] w _ := Any.utf8_ValidString Tryz.laysValid s w hs hT
  have CV := Lib.hid cV; clear cV
  unfold textF
  generalize Lib.validD s.data.toList = V at CV ⊢
  by_cases h : s.size ≤ 60
  · rw [decide_eq_true h, Bool.true_and]
    go_enter Tryz.func64, Tryz.ntmps64
    go_wp2_with fail
    refine CV.out.mono ?_
    rintro e w1 ⟨rfl, hb1⟩
    go_wp2_with fail
    go_ret
    exact ⟨rfl, hb1⟩
  · rw [decide_eq_false h, Bool.false_and]
    go_enter Tryz.func64, Tryz.ntmps64
    go_wp2_with fail
    go_ret
    exact ⟨rfl, Below.refl _ _⟩
end Go.Proofs.YticlnijkfclgcaaGreatDoor

namespace Go.Proofs.YticlnijkfclgcaaGreatDoor
open Go.RowKit Go.Lib

/-- what is asked of a value itself -/
def headOk (k n : Int) (t : ByteArray) : Prop := 0 ≤ k ∧ k ≤ 6 ∧ (k = 3 ∨ n = 0) ∧ (k = 4 ∨ t.toList = []) ∧ textF t = true
instance (k n : Int) (t : ByteArray) : Decidable (headOk k n t) := by unfold headOk; infer_instance
/-- the two boxes that formed lays -/
abbrev two (w : World) (k n : Int) (t : ByteArray) (na : Option Addr) (nl ncap : Nat) (ia : Option Addr) (il icap : Nat) (l : Int) : World :=
  (w.alloc (.cells #[.int .i64 k, .int .i64 n, .string t, .slice na nl ncap, .slice ia il icap] 58)).alloc (.cells #[.int .i64 l] 3)
theorem two_below (w : World) (k n : Int) (t : ByteArray) (na : Option Addr) (nl ncap : Nat) (ia : Option Addr) (il icap : Nat) (l : Int) : Below w.heap.size w (two w k n t na nl ncap ia il icap l) :=
  ((Below.refl _ w).alloc (Nat.le_refl _) _).alloc (by simp) _
theorem two_then {w w' : World} {k n : Int} {t : ByteArray} {na : Option Addr} {nl ncap : Nat} {ia : Option Addr} {il icap : Nat} {l : Int} (h : Below (two w k n t na nl ncap ia il icap l).heap.size (two w k n t na nl ncap ia il icap l) w') : Below w.heap.size w w' :=
  (two_below w k n t na nl ncap ia il icap l).trans (h.mono (by simp; omega))
set_option maxHeartbeats 1000000 in
theorem formed_zero (v : JV) (x : Value) (w : World) (h : JAt (cf w) v x) :
    Calls Tryz.prog 43 #[x, .int .i64 0] w fun e w' => e = .returned (.bool false) ∧ Below w.heap.size w w' := by
  obtain ⟨k, n, t, nm, it, na, ncap, ia, icap, rfl, rfl, _⟩ := h.open
  clear h
  go_enter Tryz.func43, Tryz.ntmps43
  go_wp2_with fail
  go_ret
  exact ⟨rfl, two_below _ _ _ _ _ _ _ _ _ _ _⟩
theorem text_two (w : World) (k n : Int) (t : ByteArray) (na : Option Addr) (nl ncap : Nat) (ia : Option Addr) (il icap : Nat) (l : Int) (hs : t.size ≤ 9223372036854775807) (hT : Tabs w) :
    Calls Tryz.prog 64 #[.string t] (two w k n t na nl ncap ia il icap l) fun e w' => e = .returned (.bool (textF t)) ∧ Below (two w k n t na nl ncap ia il icap l).heap.size (two w k n t na nl ncap ia il icap l) w' :=
  text_any t _ hs ((hT.alloc _).alloc _)
set_option maxHeartbeats 2000000 in
theorem formed_bad (k n : Int) (t : ByteArray) (na : Option Addr) (nl ncap : Nat) (ia : Option Addr) (il icap : Nat) (l : Nat) (w : World) (hl : l ≤ 1000) (hs : t.size ≤ 9223372036854775807) (hT : Tabs w) (hb : ¬ headOk k n t) :
    Calls Tryz.prog 43 #[.agg #[.int .i64 k, .int .i64 n, .string t, .slice na nl ncap, .slice ia il icap], .int .i64 ((l : Int) + 1)] w fun e w' => e = .returned (.bool false) ∧ Below w.heap.size w w' := by
  have hl1 : ((l : Int) + 1 == 0) = false := by simp; omega
  have HX := Lib.hid (text_two w k n t na nl ncap ia il icap ((l : Int) + 1) hs hT)
  clear hT
  by_cases h0 : 0 ≤ k
  · by_cases h6 : k ≤ 6
    · by_cases hn : n = 0
      · subst hn
        by_cases ht : t.toList = []
        · have htx : textF t = false := by
            cases e : textF t with
            | false => rfl
            | true => exact absurd ⟨h0, h6, .inr rfl, .inr ht, e⟩ hb
          rw [htx] at HX
          clear hb htx
          by_cases h3 : k = 3
          · subst h3
            go_enter Tryz.func43, Tryz.ntmps43
            go_wp2_with (go_at_call 64; refine HX.out.mono ?_; rintro e w1 ⟨rfl, hb1⟩)
            go_ret
            exact ⟨rfl, two_then hb1⟩
          · have h3b : (k != 3) = true := by simpa using h3
            clear h3
            by_cases h4 : k = 4
            · subst h4
              go_enter Tryz.func43, Tryz.ntmps43
              go_wp2_with (go_at_call 64; refine HX.out.mono ?_; rintro e w1 ⟨rfl, hb1⟩)
              go_ret
              exact ⟨rfl, two_then hb1⟩
            · have h4b : (k != 4) = true := by simpa using h4
              clear h4
              go_enter Tryz.func43, Tryz.ntmps43
              go_wp2_with (go_at_call 64; refine HX.out.mono ?_; rintro e w1 ⟨rfl, hb1⟩)
              go_ret
              exact ⟨rfl, two_then hb1⟩
        · by_cases h4 : k = 4
          · subst h4
            have htx : textF t = false := by
              cases e : textF t with
              | false => rfl
              | true => exact absurd ⟨h0, h6, .inr rfl, .inl rfl, e⟩ hb
            rw [htx] at HX
            clear hb htx
            go_enter Tryz.func43, Tryz.ntmps43
            go_wp2_with (go_at_call 64; refine HX.out.mono ?_; rintro e w1 ⟨rfl, hb1⟩)
            go_ret
            exact ⟨rfl, two_then hb1⟩
          · have h4b : (k != 4) = true := by simpa using h4
            clear h4 hb
            by_cases h3 : k = 3
            · subst h3
              go_enter Tryz.func43, Tryz.ntmps43
              go_wp2_with fail
              go_ret
              exact ⟨rfl, two_below _ _ _ _ _ _ _ _ _ _ _⟩
            · have h3b : (k != 3) = true := by simpa using h3
              clear h3
              go_enter Tryz.func43, Tryz.ntmps43
              go_wp2_with fail
              go_ret
              exact ⟨rfl, two_below _ _ _ _ _ _ _ _ _ _ _⟩
      · have hnb : (n != 0) = true := by simpa using hn
        by_cases h3 : k = 3
        · subst h3
          by_cases ht : t.toList = []
          · have htx : textF t = false := by
              cases e : textF t with
              | false => rfl
              | true => exact absurd ⟨h0, h6, .inl rfl, .inr ht, e⟩ hb
            rw [htx] at HX
            clear hb htx
            go_enter Tryz.func43, Tryz.ntmps43
            go_wp2_with (go_at_call 64; refine HX.out.mono ?_; rintro e w1 ⟨rfl, hb1⟩)
            go_ret
            exact ⟨rfl, two_then hb1⟩
          · clear hb
            go_enter Tryz.func43, Tryz.ntmps43
            go_wp2_with fail
            go_ret
            exact ⟨rfl, two_below _ _ _ _ _ _ _ _ _ _ _⟩
        · have h3b : (k != 3) = true := by simpa using h3
          clear h3 hb
          go_enter Tryz.func43, Tryz.ntmps43
          go_wp2_with fail
          go_ret
          exact ⟨rfl, two_below _ _ _ _ _ _ _ _ _ _ _⟩
    · clear hb
      go_enter Tryz.func43, Tryz.ntmps43
      go_wp2_with fail
      go_ret
      exact ⟨rfl, two_below _ _ _ _ _ _ _ _ _ _ _⟩
  · clear hb
    go_enter Tryz.func43, Tryz.ntmps43
    go_wp2_with fail
    go_ret
    exact ⟨rfl, two_below _ _ _ _ _ _ _ _ _ _ _⟩
end Go.Proofs.YticlnijkfclgcaaGreatDoor

namespace Go.Proofs.YticlnijkfclgcaaGreatDoor
open Go.RowKit Go.Lib

/-- the two boxes, read -/
theorem two_cells {w w' : World} {k n : Int} {t : ByteArray} {na : Option Addr} {nl ncap : Nat} {ia : Option Addr} {il icap : Nat} {l : Int} (h : Below (two w k n t na nl ncap ia il icap l).heap.size (two w k n t na nl ncap ia il icap l) w') :
    w'.cell? ⟨w.heap.size, 0, none⟩ = some (.int .i64 k) ∧ w'.cell? ⟨w.heap.size, 1, none⟩ = some (.int .i64 n) ∧ w'.cell? ⟨w.heap.size, 2, none⟩ = some (.string t) ∧ w'.cell? ⟨w.heap.size, 3, none⟩ = some (.slice na nl ncap) ∧
    w'.cell? ⟨w.heap.size, 4, none⟩ = some (.slice ia il icap) ∧ w'.cell? ⟨w.heap.size + 1, 0, none⟩ = some (.int .i64 l) := by
  have e0 : w'.heap[w.heap.size]? = some (.cells #[.int .i64 k, .int .i64 n, .string t, .slice na nl ncap, .slice ia il icap] 58) := by
    rw [h.block _ (by simp; omega)]
    show ((w.alloc _).alloc _).heap[w.heap.size]? = _
    rw [Below.heap_alloc _ _ _ (by simp)]; exact heap_alloc_new w _
  have e1 : w'.heap[w.heap.size + 1]? = some (.cells #[.int .i64 l] 3) := by
    rw [h.block _ (by simp)]
    have := heap_alloc_new (w.alloc (.cells #[.int .i64 k, .int .i64 n, .string t, .slice na nl ncap, .slice ia il icap] 58)) (.cells #[.int .i64 l] 3)
    simpa using this
  simp [World.cell?, e0, e1]
set_option maxHeartbeats 2000000 in
theorem formed_leaf (k n : Int) (t : ByteArray) (na : Option Addr) (nl ncap : Nat) (ia : Option Addr) (il icap : Nat) (l : Nat) (w : World) (hl : l ≤ 1000) (hs : t.size ≤ 9223372036854775807) (hT : Tabs w) (hh : headOk k n t) (hk : k < 5) :
    Calls Tryz.prog 43 #[.agg #[.int .i64 k, .int .i64 n, .string t, .slice na nl ncap, .slice ia il icap], .int .i64 ((l : Int) + 1)] w fun e w' => e = .returned (.bool (decide (il = 0 ∧ nl = 0))) ∧ Below w.heap.size w w' := by
  have hl1 : ((l : Int) + 1 == 0) = false := by simp; omega
  have HX := Lib.hid (text_two w k n t na nl ncap ia il icap ((l : Int) + 1) hs hT)
  obtain ⟨h0, h6, hn, ht, htx⟩ := hh
  rw [htx] at HX
  clear hT htx
  have hcls : (k = 3 ∧ t.toList = []) ∨ (k = 4 ∧ n = 0) ∨ ((k != 3) = true ∧ (k != 4) = true ∧ n = 0 ∧ t.toList = []) := by
    by_cases h3 : k = 3
    · left; subst h3; exact ⟨rfl, by simpa using ht⟩
    · by_cases h4 : k = 4
      · right; left; exact ⟨h4, by simpa [h3] using hn⟩
      · right; right; exact ⟨by simpa using h3, by simpa using h4, by simpa [h3] using hn, by simpa [h4] using ht⟩
  have hres : (il = 0 ∧ nl = 0) ∨ (il = 0 ∧ ((nl : Int) == 0) = false) ∨ ((il : Int) == 0) = false := by
    by_cases a : il = 0
    · by_cases b : nl = 0
      · exact .inl ⟨a, b⟩
      · exact .inr (.inl ⟨a, by simpa using b⟩)
    · exact .inr (.inr (by simpa using a))
  clear hn ht
  rcases hres with ⟨rfl, rfl⟩ | ⟨rfl, hnl⟩ | hil
  · rcases hcls with ⟨rfl, ht⟩ | ⟨rfl, rfl⟩ | ⟨h3, h4, rfl, ht⟩
    all_goals
      go_enter Tryz.func43, Tryz.ntmps43
      go_wp2_with fail
      refine HX.out.mono ?_
      rintro e w1 ⟨rfl, hb1⟩
      have hb2 := two_then hb1
      have y := two_cells hb1
      obtain ⟨y0, y1, y2, y3, y4, y5⟩ := y
      clear HX hb1
      go_wp2_with fail
      go_ret
      exact ⟨rfl, hb2⟩
  · have hr : decide ((0 : Nat) = 0 ∧ nl = 0) = false := by simp at hnl ⊢; omega
    have HR := Lib.hid hr; clear hr
    rcases hcls with ⟨rfl, ht⟩ | ⟨rfl, rfl⟩ | ⟨h3, h4, rfl, ht⟩
    all_goals
      go_enter Tryz.func43, Tryz.ntmps43
      go_wp2_with fail
      refine HX.out.mono ?_
      rintro e w1 ⟨rfl, hb1⟩
      have hb2 := two_then hb1
      have y := two_cells hb1
      obtain ⟨y0, y1, y2, y3, y4, y5⟩ := y
      clear HX hb1
      go_wp2_with fail
      go_ret
      exact ⟨by rw [HR.out]; rfl, hb2⟩
  · have hr : decide (il = 0 ∧ nl = 0) = false := by simp at hil ⊢; omega
    have HR := Lib.hid hr; clear hr
    rcases hcls with ⟨rfl, ht⟩ | ⟨rfl, rfl⟩ | ⟨h3, h4, rfl, ht⟩
    all_goals
      go_enter Tryz.func43, Tryz.ntmps43
      go_wp2_with fail
      refine HX.out.mono ?_
      rintro e w1 ⟨rfl, hb1⟩
      have hb2 := two_then hb1
      have y := two_cells hb1
      obtain ⟨y0, y1, y2, y3, y4, y5⟩ := y
      clear HX hb1
      go_wp2_with fail
      go_ret
      exact ⟨by rw [HR.out]; rfl, hb2⟩
end Go.Proofs.YticlnijkfclgcaaGreatDoor

namespace Go.Proofs.YticlnijkfclgcaaGreatDoor
open Go.RowKit

/-- one text is ahead of another, byte by byte -/
def strLt (a b : ByteArray) : Bool := Op.bytesLess a.toList b.toList
/-- names rise, byte by byte -/
def rises : List ByteArray → Bool
  | a :: b :: l => strLt a b && rises (b :: l)
  | _ => true
/-- members of an Array or Object, but for the items -/
def bodyOk (k : Int) (nm : List ByteArray) (il : Nat) : Bool :=
  decide (il ≤ 24) && decide (nm.length = if k = 6 then il else 0) && nm.all textF && rises nm
/-- formed, going down so far -/
def formedF : Nat → JV → Bool
  | 0, _ => false
  | l + 1, .mk k n t nm it => decide (headOk k n t) && if k < 5 then decide (it.length = 0 ∧ nm.length = 0) else bodyOk k nm it.length && it.all (formedF l)
/-- what formed is known to answer, going down l -/
def FormedAt (l : Nat) : Prop := ∀ (v : JV) (x : Value) (w : World), JAt (cf w) v x → Tabs w →
  Calls Tryz.prog 43 #[x, .int .i64 (l : Int)] w fun e w' => e = .returned (.bool (formedF l v)) ∧ Below w.heap.size w w'
set_option maxHeartbeats 1000000 in
theorem formed1_any (l : Nat) (hl : l ≤ 1000) (H : FormedAt l) (v : JV) (x : Value) (lb : Nat) (w : World) (hx : JAt (cf w) v x) (hT : Tabs w) (hc : w.cell? ⟨lb, 0, none⟩ = some (.int .i64 ((l : Int) + 1))) :
    Calls Tryz.prog 66 #[x, .pointer (some ⟨lb, 0, none⟩)] w fun e w' => e = .returned (.bool (!formedF l v)) ∧ Below w.heap.size w w' := by
  obtain ⟨k, n, t, nm, it, na, ncap, ia, icap, rfl, rfl, _⟩ := hx.open
  have HX := Lib.hid (H _ _ (w.alloc (.cells #[.int .i64 k, .int .i64 n, .string t, .slice na nm.length ncap, .slice ia it.length icap] 58)) (hx.mono (cle_alloc _ _)) (hT.alloc _))
  have hlt := lt_of_cell hc
  clear hx hT H
  generalize formedF l (JV.mk k n t nm it) = r at HX ⊢
  go_enter Tryz.func66, Tryz.ntmps66
  go_wp2_with fail
  refine HX.out.mono ?_
  rintro e w1 ⟨rfl, hb1⟩
  have hb2 := ((Boxed.refl w (.cells #[.int .i64 k, .int .i64 n, .string t, .slice na nm.length ncap, .slice ia it.length icap] 58)).next hb1).below
  clear HX hb1
  go_wp2_with fail
  go_ret
  exact ⟨rfl, hb2⟩
theorem all_false {α : Type} {l : List α} {p : α → Bool} {i : Nat} {x : α} (hx : l[i]? = some x) (h : p x = false) : l.all p = false := by
  rw [← Bool.not_eq_true, List.all_eq_true]
  intro hh
  rw [hh x (List.mem_of_getElem? hx)] at h; cases h
theorem all_true {α : Type} {l : List α} {p : α → Bool} (h : ∀ (i : Nat) x, i < l.length → l[i]? = some x → p x = true) : l.all p = true := by
  rw [List.all_eq_true]
  intro x hx
  obtain ⟨i, hil, e⟩ := List.getElem_of_mem hx
  exact h i x hil (by rw [← e]; exact List.getElem?_eq_getElem hil)
def IdxPost (l : Nat) (it : List JV) (w : World) (e : Ending) (w' : World) : Prop := ∃ r : Int, e = .returned (.int .i64 r) ∧ decide (0 ≤ r) = !(it.all (formedF l)) ∧ Below w.heap.size w w'
set_option maxHeartbeats 1000000 in
theorem idx_any (l : Nat) (hl : l ≤ 1000) (H : FormedAt l) (iv : Value) (it : List JV) (lb : Nat) (w : World) (hi : ItemsAt (cf w) iv it) (hT : Tabs w) (hc : w.cell? ⟨lb, 0, none⟩ = some (.int .i64 ((l : Int) + 1))) :
    Calls Tryz.prog 92 #[iv, .func (.func 66) #[] #[.pointer (some ⟨lb, 0, none⟩)]] w (IdxPost l it w) := by
  obtain ⟨a, cap, rfl, hlen, hel⟩ := hi
  have HE := Lib.hid hel; clear hel
  have HT := Lib.hid hT; clear hT
  have hlt := lt_of_cell hc
  have HH := Lib.hid H; clear H
  go_enter Tryz.func92, Tryz.ntmps92
  go_wp2_with fail
  go_loopw [8] (fun i wr => ∃ j : Nat, i = .int .i64 j ∧ j ≤ it.length ∧ (∀ (q : Nat) x, q < j → it[q]? = some x → formedF l x = true) ∧ Below w.heap.size w wr) (fun i _ => it.length - (intOf i).toNat)
  case atStart => exact ⟨0, rfl, Nat.zero_le _, fun q x h => by omega, Below.refl _ _⟩
  case round =>
    obtain ⟨j, rfl, hj, hall, hbl⟩ := hrel
    have HA := Lib.hid hall; clear hall
    by_cases hjl : j < it.length
    · obtain ⟨x, hx⟩ : ∃ x, it[j]? = some x := ⟨it[j], List.getElem?_eq_getElem hjl⟩
      obtain ⟨b, off, k2, n2, t2, nm2, it2, na2, ncap2, ia2, icap2, rfl, hxe, x0, x1, x2, x3, x4, hxj⟩ := HE.out j x hx
      have y := cle_below hbl
      have z0 := y _ _ _ x0
      have z1 := y _ _ _ x1
      have z2 := y _ _ _ x2
      have z3 := y _ _ _ x3
      have z4 := y _ _ _ x4
      have z5 := y lb 0 _ hc
      unfold cf at z0 z1 z2 z3 z4 z5
      have HX := Lib.hid (formed1_any l hl HH.out x _ lb wr (hxj.mono y) (HT.out.below hbl) z5)
      have HXE := Lib.hid hx
      clear x0 x1 x2 x3 x4 y hx hxe hxj z5
      cases hfx : formedF l x with
      | true =>
        rw [hfx] at HX
        have HFX := Lib.hid hfx; clear hfx
        go_wp2_with fail
        refine HX.out.mono ?_
        rintro e w3 ⟨rfl, hb3⟩
        have hb4 := hbl.trans (hb3.mono hbl.size)
        clear hb3 HX
        go_wp2_with fail
        go_roundw
        case rel =>
          refine ⟨j + 1, by go_num, hjl, fun q s' hq hs' => ?_, hb4⟩
          by_cases e : q = j
          · subst e; rw [HXE.out] at hs'; cases hs'; exact HFX.out
          · exact HA.out q s' (by omega) hs'
        case measure => simp [intOf]; omega
      | false =>
        rw [hfx] at HX
        have HFX := Lib.hid hfx; clear hfx
        go_wp2_with fail
        refine HX.out.mono ?_
        rintro e w3 ⟨rfl, hb3⟩
        have hb4 := hbl.trans (hb3.mono hbl.size)
        clear hb3 HX
        go_wp2_with fail
        go_ret
        refine ⟨(j : Int), rfl, ?_, hb4⟩
        rw [all_false HXE.out HFX.out]; simp
    · have HAll : Hid (it.all (formedF l) = true) := all_true (fun q x hq => HA.out q x (by omega))
      go_wp2_with fail
      go_ret
      refine ⟨-1, rfl, ?_, hbl⟩
      rw [HAll.out]; rfl
theorem ret_b {a b : Bool} (h : a = b) : Ending.returned (.bool a) = .returned (.bool b) := by rw [h]
set_option maxHeartbeats 1000000 in
theorem contains_any (l : Nat) (hl : l ≤ 1000) (H : FormedAt l) (iv : Value) (it : List JV) (lb : Nat) (w : World) (hi : ItemsAt (cf w) iv it) (hT : Tabs w) (hc : w.cell? ⟨lb, 0, none⟩ = some (.int .i64 ((l : Int) + 1))) :
    Calls Tryz.prog 65 #[iv, .func (.func 66) #[] #[.pointer (some ⟨lb, 0, none⟩)]] w fun e w' => e = .returned (.bool (!(it.all (formedF l)))) ∧ Below w.heap.size w w' := by
  have HX := Lib.hid (idx_any l hl H iv it lb w hi hT hc)
  clear hi hT hc H
  go_enter Tryz.func65, Tryz.ntmps65
  go_wp2_with fail
  refine HX.out.mono ?_
  rintro e w1 ⟨r, rfl, hr, hb1⟩
  have HR := Lib.hid hr
  clear hr HX
  go_wp2_with fail
  go_ret
  exact ⟨ret_b HR.out, hb1⟩
end Go.Proofs.YticlnijkfclgcaaGreatDoor

namespace Go.Proofs.YticlnijkfclgcaaGreatDoor
open Go.RowKit

theorem rises_at : ∀ {l : List ByteArray}, (∀ (i : Nat) a b, l[i]? = some a → l[i + 1]? = some b → strLt a b = true) → rises l = true
  | [], _ => rfl
  | [_], _ => rfl
  | a :: b :: l, h => by
    rw [rises, h 0 a b rfl rfl, Bool.true_and]
    exact rises_at fun i x y hx hy => h (i + 1) x y hx hy
theorem rises_not : ∀ {l : List ByteArray} {i : Nat} {a b : ByteArray}, l[i]? = some a → l[i + 1]? = some b → strLt a b = false → rises l = false
  | [], i, a, b, h, _, _ => by simp at h
  | [_], i, a, b, _, h, _ => by simp at h
  | x :: y :: l, 0, a, b, h1, h2, h3 => by
    simp at h1 h2; subst h1 h2; rw [rises, h3, Bool.false_and]
  | x :: y :: l, i + 1, a, b, h1, h2, h3 => by
    rw [rises, rises_not (l := y :: l) (i := i) (by simpa using h1) (by simpa using h2) h3, Bool.and_false]
/-- so far all names are texts and rise -/
def NamesTo (nm : List ByteArray) (j : Nat) : Prop := ∀ (q : Nat) s, q < j → nm[q]? = some s → textF s = true ∧ ∀ p a, q = p + 1 → nm[p]? = some a → strLt a s = true
theorem NamesTo.all {nm : List ByteArray} (h : NamesTo nm nm.length) : nm.all textF = true ∧ rises nm = true := by
  refine ⟨all_true fun i s hi hs => (h i s hi hs).1, rises_at fun i a b ha hb => ?_⟩
  exact (h (i + 1) b (List.getElem?_eq_some_iff.1 hb).1 hb).2 i a rfl ha
set_option maxHeartbeats 4000000 in
theorem formed_node (k : Int) (hk : k = 5 ∨ k = 6) (t : ByteArray) (nm : List ByteArray) (it : List JV) (na : Option Addr) (ncap : Nat) (ia : Option Addr) (icap : Nat) (l : Nat) (w : World) (hl : l ≤ 1000) (hs : t.size ≤ 9223372036854775807) (hT : Tabs w) (ht : t.toList = []) (htx : textF t = true)
    (hnm : StrsAt (cf w) (.slice na nm.length ncap) nm) (hit : ItemsAt (cf w) (.slice ia it.length icap) it) (H : FormedAt l) :
    Calls Tryz.prog 43 #[.agg #[.int .i64 k, .int .i64 0, .string t, .slice na nm.length ncap, .slice ia it.length icap], .int .i64 ((l : Int) + 1)] w fun e w' => e = .returned (.bool (bodyOk k nm it.length && it.all (formedF l))) ∧ Below w.heap.size w w' := by
  have hl1 : ((l : Int) + 1 == 0) = false := by simp; omega
  have HX := Lib.hid (text_two w k 0 t na nm.length ncap ia it.length icap ((l : Int) + 1) hs hT)
  rw [htx] at HX
  clear htx
  have HT := Lib.hid hT; clear hT
  have HI := Lib.hid hit; clear hit
  have HH := Lib.hid H; clear H
  obtain ⟨na', ncap', e, hnl, hnel⟩ := hnm
  cases e
  have HS := Lib.hid hnel; clear hnel
  rcases hk with rfl | rfl
  · have hbo : bodyOk 5 nm it.length = (decide (it.length ≤ 24) && decide (nm.length = 0) && nm.all textF && rises nm) := by unfold bodyOk; simp
    rw [hbo]; clear hbo
    by_cases h24 : it.length ≤ 24
    · by_cases hnw : nm.length = 0
      · have hnb : (((nm.length : Nat) : Int) != 0) = false := by rw [hnw]; rfl
        rw [decide_eq_true h24, decide_eq_true hnw, Bool.true_and, Bool.true_and]
        clear hnw
        go_enter Tryz.func43, Tryz.ntmps43
        go_wp2_with fail
        refine HX.out.mono ?_
        rintro e w1 ⟨rfl, hb1⟩
        obtain ⟨y0, y1, y2, y3, y4, y5⟩ := two_cells hb1
        have HB := Lib.hid hb1
        clear HX hb1
        go_wp2_with fail
        go_loopw [79] (fun i wr => ∃ j : Nat, i = .int .i64 j ∧ j ≤ nm.length ∧ NamesTo nm j ∧ Below w1.heap.size w1 wr) (fun i _ => nm.length - (intOf i).toNat)
        case atStart => exact ⟨0, rfl, Nat.zero_le _, fun q s h => by omega, Below.refl _ _⟩
        case round =>
          obtain ⟨j, rfl, hj, hall, hbl⟩ := hrel
          have HA := Lib.hid hall; clear hall
          have hlt1 : w.heap.size + 1 < w1.heap.size := by have := HB.out.size; simp at this; omega
          have q0 := cle_below hbl _ _ _ y0
          have q3 := cle_below hbl _ _ _ y3
          have q4 := cle_below hbl _ _ _ y4
          have q5 := cle_below hbl _ _ _ y5
          unfold cf at q0 q3 q4 q5
          have hbw : Below w.heap.size w wr := (two_then HB.out).trans (hbl.mono (two_then HB.out).size)
          clear y0 y1 y2 y3 y4 y5
          by_cases hlt : j < nm.length
          · obtain ⟨s, hs2⟩ : ∃ s, nm[j]? = some s := ⟨nm[j], List.getElem?_eq_getElem hlt⟩
            obtain ⟨hsz, b, off, rfl, hcell⟩ := HS.out j s hs2
            have z0 := cle_below hbw _ _ _ hcell
            unfold cf at z0
            have HSE := Lib.hid hs2
            have HXT := Lib.hid (text_any s wr hsz (HT.out.below hbw))
            clear hcell hs2 hsz
            cases hts : textF s with
            | false =>
              rw [hts] at HXT
              have HF := Lib.hid (all_false HSE.out hts); clear hts
              go_wp2_with fail
              refine HXT.out.mono ?_
              rintro e w2 ⟨rfl, hb2⟩
              have hb3 := hbw.trans (hb2.mono hbw.size)
              clear hb2 HXT
              go_wp2_with fail
              go_ret
              exact ⟨ret_b (by rw [HF.out]; rfl), hb3⟩
            | true =>
              rw [hts] at HXT
              have HTS := Lib.hid hts; clear hts
              by_cases hj0 : j ≤ 0
              · go_wp2_with fail
                refine HXT.out.mono ?_
                rintro e w2 ⟨rfl, hb2⟩
                have hb3 := hbl.trans (hb2.mono hbl.size)
                clear hb2 HXT
                go_wp2_with fail
                go_roundw
                case rel =>
                  refine ⟨j + 1, by go_num, hlt, fun q s' hq hs' => ?_, hb3⟩
                  obtain rfl : q = j := by omega
                  rw [HSE.out] at hs'; cases hs'
                  exact ⟨HTS.out, fun p a h => by omega⟩
                case measure => simp [intOf]; omega
              · obtain ⟨s0, hs0⟩ : ∃ s, nm[j - 1]? = some s := ⟨nm[j - 1], List.getElem?_eq_getElem (by omega)⟩
                obtain ⟨_, b', off', hbo, hcell0⟩ := HS.out (j - 1) s0 hs0
                cases hbo
                have z1 := cle_below hbw _ _ _ hcell0
                unfold cf at z1
                have HS0 := Lib.hid hs0
                clear hcell0 hs0
                have HSE2 : Hid (nm[j - 1 + 1]? = some s) := by rw [show j - 1 + 1 = j from by omega]; exact HSE.out
                cases hlts : strLt s0 s with
                | true =>
                  have hlt2 : Op.bytesLess s0.toList s.toList = true := hlts
                  have HLT := Lib.hid hlts; clear hlts
                  go_wp2_with fail
                  refine HXT.out.mono ?_
                  rintro e w2 ⟨rfl, hb2⟩
                  have hb3 := hbl.trans (hb2.mono hbl.size)
                  have r3 := cle_below hb2 _ _ _ q3
                  have r0 := cle_below hb2 _ _ _ z1
                  unfold cf at r3 r0
                  clear hb2 HXT
                  go_wp2_with fail
                  go_roundw
                  case rel =>
                    refine ⟨j + 1, by go_num, hlt, fun q s' hq hs' => ?_, hb3⟩
                    by_cases e : q = j
                    · subst e; rw [HSE.out] at hs'; cases hs'
                      refine ⟨HTS.out, fun p a hp ha => ?_⟩
                      obtain rfl : p = q - 1 := by omega
                      rw [HS0.out] at ha; cases ha; exact HLT.out
                    · exact HA.out q s' (by omega) hs'
                  case measure => simp [intOf]; omega
                | false =>
                  have hlt2 : Op.bytesLess s0.toList s.toList = false := hlts
                  have HF := Lib.hid (rises_not HS0.out HSE2.out hlts); clear hlts
                  go_wp2_with fail
                  refine HXT.out.mono ?_
                  rintro e w2 ⟨rfl, hb2⟩
                  have hb3 := hbw.trans (hb2.mono hbw.size)
                  have r3 := cle_below hb2 _ _ _ q3
                  have r0 := cle_below hb2 _ _ _ z1
                  unfold cf at r3 r0
                  clear hb2 HXT
                  go_wp2_with fail
                  go_ret
                  exact ⟨ret_b (by rw [HF.out, Bool.and_false]; rfl), hb3⟩
          · obtain rfl : j = nm.length := by omega
            have HAA := Lib.hid HA.out.all
            clear HA
            have HCT := Lib.hid (contains_any l hl HH.out _ it (w.heap.size + 1) wr (HI.out.mono (cle_below hbw)) (HT.out.below hbw) q5)
            clear HI HS
            go_wp2_with fail
            refine HCT.out.mono ?_
            rintro e w2 ⟨rfl, hb2⟩
            have hb3 := hbw.trans (hb2.mono hbw.size)
            clear hb2 HCT
            go_wp2_with fail
            go_ret
            exact ⟨ret_b (by rw [HAA.out.1, HAA.out.2]; simp), hb3⟩
      · have hnb : (((nm.length : Nat) : Int) != 0) = true := by simp only [bne_iff_ne, ne_eq]; omega
        rw [decide_eq_false hnw, Bool.and_false, Bool.false_and, Bool.false_and, Bool.false_and]
        clear hnw HI HS HH
        go_enter Tryz.func43, Tryz.ntmps43
        go_wp2_with fail
        refine HX.out.mono ?_
        rintro e w1 ⟨rfl, hb1⟩
        obtain ⟨y0, y1, y2, y3, y4, y5⟩ := two_cells hb1
        have hb2 := two_then hb1
        clear HX hb1
        go_wp2_with fail
        go_ret
        exact ⟨rfl, hb2⟩
    · rw [decide_eq_false h24, Bool.false_and, Bool.false_and, Bool.false_and, Bool.false_and]
      clear HI HS HH
      go_enter Tryz.func43, Tryz.ntmps43
      go_wp2_with fail
      refine HX.out.mono ?_
      rintro e w1 ⟨rfl, hb1⟩
      obtain ⟨y0, y1, y2, y3, y4, y5⟩ := two_cells hb1
      have hb2 := two_then hb1
      clear HX hb1
      go_wp2_with fail
      go_ret
      exact ⟨rfl, hb2⟩
  · have hbo : bodyOk 6 nm it.length = (decide (it.length ≤ 24) && decide (nm.length = it.length) && nm.all textF && rises nm) := by unfold bodyOk; simp
    rw [hbo]; clear hbo
    by_cases h24 : it.length ≤ 24
    · by_cases hnw : nm.length = it.length
      · have hnb : (((nm.length : Nat) : Int) != ((it.length : Nat) : Int)) = false := by rw [hnw]; simp
        rw [decide_eq_true h24, decide_eq_true hnw, Bool.true_and, Bool.true_and]
        clear hnw
        go_enter Tryz.func43, Tryz.ntmps43
        go_wp2_with fail
        refine HX.out.mono ?_
        rintro e w1 ⟨rfl, hb1⟩
        obtain ⟨y0, y1, y2, y3, y4, y5⟩ := two_cells hb1
        have HB := Lib.hid hb1
        clear HX hb1
        go_wp2_with fail
        go_loopw [79] (fun i wr => ∃ j : Nat, i = .int .i64 j ∧ j ≤ nm.length ∧ NamesTo nm j ∧ Below w1.heap.size w1 wr) (fun i _ => nm.length - (intOf i).toNat)
        case atStart => exact ⟨0, rfl, Nat.zero_le _, fun q s h => by omega, Below.refl _ _⟩
        case round =>
          obtain ⟨j, rfl, hj, hall, hbl⟩ := hrel
          have HA := Lib.hid hall; clear hall
          have hlt1 : w.heap.size + 1 < w1.heap.size := by have := HB.out.size; simp at this; omega
          have q0 := cle_below hbl _ _ _ y0
          have q3 := cle_below hbl _ _ _ y3
          have q4 := cle_below hbl _ _ _ y4
          have q5 := cle_below hbl _ _ _ y5
          unfold cf at q0 q3 q4 q5
          have hbw : Below w.heap.size w wr := (two_then HB.out).trans (hbl.mono (two_then HB.out).size)
          clear y0 y1 y2 y3 y4 y5
          by_cases hlt : j < nm.length
          · obtain ⟨s, hs2⟩ : ∃ s, nm[j]? = some s := ⟨nm[j], List.getElem?_eq_getElem hlt⟩
            obtain ⟨hsz, b, off, rfl, hcell⟩ := HS.out j s hs2
            have z0 := cle_below hbw _ _ _ hcell
            unfold cf at z0
            have HSE := Lib.hid hs2
            have HXT := Lib.hid (text_any s wr hsz (HT.out.below hbw))
            clear hcell hs2 hsz
            cases hts : textF s with
            | false =>
              rw [hts] at HXT
              have HF := Lib.hid (all_false HSE.out hts); clear hts
              go_wp2_with fail
              refine HXT.out.mono ?_
              rintro e w2 ⟨rfl, hb2⟩
              have hb3 := hbw.trans (hb2.mono hbw.size)
              clear hb2 HXT
              go_wp2_with fail
              go_ret
              exact ⟨ret_b (by rw [HF.out]; rfl), hb3⟩
            | true =>
              rw [hts] at HXT
              have HTS := Lib.hid hts; clear hts
              by_cases hj0 : j ≤ 0
              · go_wp2_with fail
                refine HXT.out.mono ?_
                rintro e w2 ⟨rfl, hb2⟩
                have hb3 := hbl.trans (hb2.mono hbl.size)
                clear hb2 HXT
                go_wp2_with fail
                go_roundw
                case rel =>
                  refine ⟨j + 1, by go_num, hlt, fun q s' hq hs' => ?_, hb3⟩
                  obtain rfl : q = j := by omega
                  rw [HSE.out] at hs'; cases hs'
                  exact ⟨HTS.out, fun p a h => by omega⟩
                case measure => simp [intOf]; omega
              · obtain ⟨s0, hs0⟩ : ∃ s, nm[j - 1]? = some s := ⟨nm[j - 1], List.getElem?_eq_getElem (by omega)⟩
                obtain ⟨_, b', off', hbo, hcell0⟩ := HS.out (j - 1) s0 hs0
                cases hbo
                have z1 := cle_below hbw _ _ _ hcell0
                unfold cf at z1
                have HS0 := Lib.hid hs0
                clear hcell0 hs0
                have HSE2 : Hid (nm[j - 1 + 1]? = some s) := by rw [show j - 1 + 1 = j from by omega]; exact HSE.out
                cases hlts : strLt s0 s with
                | true =>
                  have hlt2 : Op.bytesLess s0.toList s.toList = true := hlts
                  have HLT := Lib.hid hlts; clear hlts
                  go_wp2_with fail
                  refine HXT.out.mono ?_
                  rintro e w2 ⟨rfl, hb2⟩
                  have hb3 := hbl.trans (hb2.mono hbl.size)
                  have r3 := cle_below hb2 _ _ _ q3
                  have r0 := cle_below hb2 _ _ _ z1
                  unfold cf at r3 r0
                  clear hb2 HXT
                  go_wp2_with fail
                  go_roundw
                  case rel =>
                    refine ⟨j + 1, by go_num, hlt, fun q s' hq hs' => ?_, hb3⟩
                    by_cases e : q = j
                    · subst e; rw [HSE.out] at hs'; cases hs'
                      refine ⟨HTS.out, fun p a hp ha => ?_⟩
                      obtain rfl : p = q - 1 := by omega
                      rw [HS0.out] at ha; cases ha; exact HLT.out
                    · exact HA.out q s' (by omega) hs'
                  case measure => simp [intOf]; omega
                | false =>
                  have hlt2 : Op.bytesLess s0.toList s.toList = false := hlts
                  have HF := Lib.hid (rises_not HS0.out HSE2.out hlts); clear hlts
                  go_wp2_with fail
                  refine HXT.out.mono ?_
                  rintro e w2 ⟨rfl, hb2⟩
                  have hb3 := hbw.trans (hb2.mono hbw.size)
                  have r3 := cle_below hb2 _ _ _ q3
                  have r0 := cle_below hb2 _ _ _ z1
                  unfold cf at r3 r0
                  clear hb2 HXT
                  go_wp2_with fail
                  go_ret
                  exact ⟨ret_b (by rw [HF.out, Bool.and_false]; rfl), hb3⟩
          · obtain rfl : j = nm.length := by omega
            have HAA := Lib.hid HA.out.all
            clear HA
            have HCT := Lib.hid (contains_any l hl HH.out _ it (w.heap.size + 1) wr (HI.out.mono (cle_below hbw)) (HT.out.below hbw) q5)
            clear HI HS
            go_wp2_with fail
            refine HCT.out.mono ?_
            rintro e w2 ⟨rfl, hb2⟩
            have hb3 := hbw.trans (hb2.mono hbw.size)
            clear hb2 HCT
            go_wp2_with fail
            go_ret
            exact ⟨ret_b (by rw [HAA.out.1, HAA.out.2]; simp), hb3⟩
      · have hnb : (((nm.length : Nat) : Int) != ((it.length : Nat) : Int)) = true := by simp only [bne_iff_ne, ne_eq]; omega
        rw [decide_eq_false hnw, Bool.and_false, Bool.false_and, Bool.false_and, Bool.false_and]
        clear hnw HI HS HH
        go_enter Tryz.func43, Tryz.ntmps43
        go_wp2_with fail
        refine HX.out.mono ?_
        rintro e w1 ⟨rfl, hb1⟩
        obtain ⟨y0, y1, y2, y3, y4, y5⟩ := two_cells hb1
        have hb2 := two_then hb1
        clear HX hb1
        go_wp2_with fail
        go_ret
        exact ⟨rfl, hb2⟩
    · rw [decide_eq_false h24, Bool.false_and, Bool.false_and, Bool.false_and, Bool.false_and]
      clear HI HS HH
      go_enter Tryz.func43, Tryz.ntmps43
      go_wp2_with fail
      refine HX.out.mono ?_
      rintro e w1 ⟨rfl, hb1⟩
      obtain ⟨y0, y1, y2, y3, y4, y5⟩ := two_cells hb1
      have hb2 := two_then hb1
      clear HX hb1
      go_wp2_with fail
      go_ret
      exact ⟨rfl, hb2⟩
theorem formed_all : ∀ l, l ≤ 1000 → FormedAt l
  | 0, _ => fun v x w hx _ => (formed_zero v x w hx).mono fun e w' h => h
  | l + 1, hl => by
    have ih := formed_all l (by omega)
    intro v x w hx hT
    obtain ⟨k, n, t, nm, it, na, ncap, ia, icap, rfl, rfl, _, _, hts, hnm, hit⟩ := hx.open
    have e1 : ((l + 1 : Nat) : Int) = (l : Int) + 1 := by omega
    rw [e1]
    by_cases hh : headOk k n t
    · by_cases hk : k < 5
      · refine (formed_leaf k n t na nm.length ncap ia it.length icap l w (by omega) hts hT hh hk).mono fun e w' ⟨he, hb⟩ => ⟨?_, hb⟩
        rw [he, formedF, decide_eq_true hh, if_pos hk, Bool.true_and]
      · have h2 := hh
        obtain ⟨h0, h6, hn, ht, htx⟩ := hh
        obtain rfl : n = 0 := by rcases hn with rfl | hn; · omega
                                 · exact hn
        have ht : t.toList = [] := by rcases ht with rfl | ht; · omega
                                      · exact ht
        refine (formed_node k (by omega) t nm it na ncap ia icap l w (by omega) hts hT ht htx hnm hit ih).mono fun e w' ⟨he, hb⟩ => ⟨?_, hb⟩
        rw [he, formedF, decide_eq_true h2, if_neg hk, Bool.true_and]
    · refine (formed_bad k n t na nm.length ncap ia it.length icap l w (by omega) hts hT hh).mono fun e w' ⟨he, hb⟩ => ⟨?_, hb⟩
      rw [he, formedF, decide_eq_false hh, Bool.false_and]
set_option maxHeartbeats 1000000 in
theorem Formed_any (v : JV) (x : Value) (w : World) (hx : JAt (cf w) v x) (hT : Tabs w) :
    Calls Tryz.prog 26 #[x] w fun e w' => e = .returned (.bool (formedF 6 v)) ∧ Below w.heap.size w w' := by
  obtain ⟨k, n, t, nm, it, na, ncap, ia, icap, rfl, rfl, _⟩ := hx.open
  have HX := Lib.hid (formed_all 6 (by omega) _ _ (w.alloc (.cells #[.int .i64 k, .int .i64 n, .string t, .slice na nm.length ncap, .slice ia it.length icap] 58)) (hx.mono (cle_alloc _ _)) (hT.alloc _))
  clear hx hT
  generalize formedF 6 (JV.mk k n t nm it) = r at HX ⊢
  go_enter Tryz.func26, Tryz.ntmps26
  go_wp2_with fail
  refine HX.out.mono ?_
  rintro e w1 ⟨rfl, hb1⟩
  have hb2 := ((Boxed.refl w (.cells #[.int .i64 k, .int .i64 n, .string t, .slice na nm.length ncap, .slice ia it.length icap] 58)).next hb1).below
  clear HX hb1
  go_wp2_with fail
  go_ret
  exact ⟨rfl, hb2⟩
end Go.Proofs.YticlnijkfclgcaaGreatDoor

namespace Go.Proofs.YticlnijkfclgcaaGreatDoor
open Go.RowKit

def hexD (n : Nat) : UInt8 := if n < 10 then (48 + n).toUInt8 else (87 + n).toUInt8
/-- a byte within quotes -/
def escF (c : UInt8) : List UInt8 :=
  if c = 34 then [92, 34] else if c = 92 then [92, 92] else if c = 8 then [92, 98] else if c = 9 then [92, 116] else if c = 10 then [92, 110] else if c = 12 then [92, 102] else if c = 13 then [92, 114]
  else if c.toNat < 32 then [92, 117, 48, 48, hexD (c.toNat / 16), hexD (c.toNat % 16)] else [c]
def quotedF (s : List UInt8) : List UInt8 := 34 :: (s.flatMap escF ++ [34])
theorem escF_len (c : UInt8) : (escF c).length ≤ 6 := by
  unfold escF; repeat' split
  all_goals simp
theorem flatMap_len {l : List UInt8} : (l.flatMap escF).length ≤ 6 * l.length := by
  induction l with
  | nil => simp
  | cons c l ih => rw [List.flatMap_cons, List.length_append, List.length_cons]; have := escF_len c; omega
theorem size_list (s : ByteArray) : s.data.toList.length = s.size := rfl
theorem quotedF_len {s : ByteArray} : (quotedF s.data.toList).length ≤ 6 * s.size + 2 := by
  have := @flatMap_len s.data.toList
  rw [size_list] at this
  rw [quotedF, List.length_cons, List.length_append, List.length_singleton]; omega
/-- the words of the three kinds without anything -/
def wordF (k : Int) : List UInt8 := if k = 0 then [110, 117, 108, 108] else if k = 1 then [102, 97, 108, 115, 101] else [116, 114, 117, 101]
/-- a member's head: the comma, the name -/
def headF (k : Int) (nm : List ByteArray) (j : Nat) : List UInt8 :=
  (if j = 0 then [] else [44]) ++ (if k = 6 then quotedF (nm.getD j ⟨#[]⟩).data.toList ++ [58] else [])
/-- the first j members -/
def partF (f : JV → List UInt8) (k : Int) (nm : List ByteArray) (it : List JV) : Nat → List UInt8
  | 0 => []
  | j + 1 => partF f k nm it j ++ (headF k nm j ++ ((it[j]?).map f).getD [])
/-- a value's text, going down so far -/
def showF : Nat → JV → List UInt8
  | 0, _ => []
  | d + 1, .mk k n t nm it =>
    if k = 3 then Lib.itoa n else if k = 4 then quotedF t.data.toList
    else if k = 5 then [91] ++ partF (showF d) 5 nm it it.length ++ [93]
    else if k = 6 then [123] ++ partF (showF d) 6 nm it it.length ++ [125] else wordF k
/-- how long a text may be -/
def lenB : Nat → Nat
  | 0 => 0
  | d + 1 => 400 + 24 * (lenB d + 400)
theorem formed_head {d : Nat} {k n : Int} {t : ByteArray} {nm : List ByteArray} {it : List JV} (h : formedF (d + 1) (.mk k n t nm it) = true) : headOk k n t := by
  rw [formedF, Bool.and_eq_true] at h
  exact of_decide_eq_true h.1
theorem formed_body {d : Nat} {k n : Int} {t : ByteArray} {nm : List ByteArray} {it : List JV} (h : formedF (d + 1) (.mk k n t nm it) = true) (hk : ¬ k < 5) :
    it.length ≤ 24 ∧ nm.length = (if k = 6 then it.length else 0) ∧ (∀ s ∈ nm, textF s = true) ∧ (∀ x ∈ it, formedF d x = true) ∧ rises nm = true := by
  rw [formedF, Bool.and_eq_true, if_neg hk, Bool.and_eq_true] at h
  obtain ⟨_, hb, hi⟩ := h
  unfold bodyOk at hb
  simp only [Bool.and_eq_true, decide_eq_true_eq, List.all_eq_true] at hb hi
  exact ⟨hb.1.1.1, hb.1.1.2, hb.1.2, hi, hb.2⟩
theorem text_size {s : ByteArray} (h : textF s = true) : s.size ≤ 60 := by
  unfold textF at h
  rw [Bool.and_eq_true] at h
  exact of_decide_eq_true h.1
theorem headF_len {k : Int} {nm : List ByteArray} {j : Nat} (hn : ∀ s ∈ nm, textF s = true) : (headF k nm j).length ≤ 400 := by
  have h1 : (quotedF (nm.getD j ⟨#[]⟩).data.toList).length ≤ 362 := by
    have h2 : (nm.getD j ⟨#[]⟩).size ≤ 60 := by
      rw [List.getD_eq_getElem?_getD]
      cases e : nm[j]? with
      | none => simp [ByteArray.size]
      | some s => exact text_size (hn s (List.mem_of_getElem? e))
    have := @quotedF_len (nm.getD j ⟨#[]⟩)
    omega
  unfold headF
  rw [List.length_append]
  have a1 : (if j = 0 then ([] : List UInt8) else [44]).length ≤ 1 := by split <;> simp
  have a2 : (if k = 6 then quotedF (nm.getD j ⟨#[]⟩).data.toList ++ [58] else []).length ≤ 363 := by
    split
    · rw [List.length_append, List.length_singleton]; omega
    · exact Nat.zero_le _
  omega
theorem partF_len {f : JV → List UInt8} {k : Int} {nm : List ByteArray} {it : List JV} {L : Nat} (hn : ∀ s ∈ nm, textF s = true) (hf : ∀ x ∈ it, (f x).length ≤ L) : ∀ j : Nat, (partF f k nm it j).length ≤ j * (L + 400)
  | 0 => by simp [partF]
  | j + 1 => by
    have ih := partF_len (k := k) hn hf j
    have h1 := @headF_len k nm j hn
    have h2 : (((it[j]?).map f).getD []).length ≤ L := by
      cases e : it[j]? with
      | none => simp
      | some x => exact hf x (List.mem_of_getElem? e)
    rw [partF, List.length_append, List.length_append, Nat.add_mul, Nat.one_mul]
    omega
theorem wf_i64 {n : Int} (h : (Lit.int .i64 n).wf = true) : -9223372036854775808 ≤ n ∧ n ≤ 9223372036854775807 := by
  simp [Lit.wf] at h
  exact ⟨by have := h.1; rw [show IntKind.i64.min = -9223372036854775808 by kernel_rfl] at this; exact this, h.2⟩
theorem JAt.item {c : CF} {it : List JV} {v : Value} (h : ItemsAt c v it) {x : JV} (hx : x ∈ it) : ∃ y, JAt c x y := by
  obtain ⟨a, cap, _, _, hi⟩ := h
  obtain ⟨i, hi2⟩ := List.getElem?_of_mem hx
  obtain ⟨b, off, k, n, t, nm, it2, na, ncap, ia, icap, _, _, _, _, _, _, _, h8⟩ := hi i x hi2
  exact ⟨_, h8⟩
theorem wordF_len (k : Int) : (wordF k).length ≤ 5 := by unfold wordF; repeat' split
                                                         all_goals simp
theorem showF_len : ∀ (d : Nat) (v : JV) (c : CF) (x : Value), JAt c v x → formedF d v = true → (showF d v).length ≤ lenB d
  | 0, _, _, _, _, _ => by simp [showF]
  | d + 1, v, c, x, hv, hf => by
    obtain ⟨k, n, t, nm, it, na, ncap, ia, icap, rfl, rfl, _, hn, _, _, hit⟩ := hv.open
    have h1 := formed_head hf
    have h2 := wf_i64 hn
    have ht := text_size h1.2.2.2.2
    have hL : ∀ j : Nat, j ≤ 24 → j * (lenB d + 400) ≤ 24 * (lenB d + 400) := fun j hj => Nat.mul_le_mul_right _ hj
    have hp : ¬ k < 5 → ∀ q : Int, (partF (showF d) q nm it it.length).length ≤ 24 * (lenB d + 400) := fun hk q => by
      obtain ⟨h24, _, hnm, hfi, _⟩ := formed_body hf hk
      refine Nat.le_trans (partF_len hnm (fun x hx => ?_) it.length) (hL _ h24)
      obtain ⟨y, hy⟩ := JAt.item hit hx
      exact showF_len d x c y hy (hfi x hx)
    rw [showF, lenB]
    by_cases h3 : k = 3
    · rw [if_pos h3]; have := Lib.itoa_length_le n h2.1 h2.2; omega
    rw [if_neg h3]
    by_cases h4 : k = 4
    · rw [if_pos h4]; have := @quotedF_len t; omega
    rw [if_neg h4]
    by_cases h5 : k = 5
    · rw [if_pos h5]; have := hp (by omega) 5; simp; omega
    rw [if_neg h5]
    by_cases h6 : k = 6
    · rw [if_pos h6]; have := hp (by omega) 6; simp; omega
    rw [if_neg h6]
    have := wordF_len k
    omega
end Go.Proofs.YticlnijkfclgcaaGreatDoor

namespace Go.Proofs.YticlnijkfclgcaaGreatDoor
open Go.RowKit

/-- a fact kept from the walk, and from whatever unfolds -/
structure Hold (p : Prop) : Prop where
  out : p
/-- a list of bytes as a string -/
def ba (l : List UInt8) : ByteArray := ⟨l.toArray⟩
theorem ba_size (l : List UInt8) : (ba l).size = l.length := rfl
theorem byte_ne {c k : UInt8} (h : c ≠ k) : ((c.toNat : Int) == (k.toNat : Int)) = false := by
  rw [beq_eq_false_iff_ne]
  intro e
  exact h (UInt8.toNat_inj.1 (by omega))
theorem escF_else {c : UInt8} (n34 : c ≠ 34) (n92 : c ≠ 92) (n8 : c ≠ 8) (n9 : c ≠ 9) (n10 : c ≠ 10) (n12 : c ≠ 12) (n13 : c ≠ 13) :
    escF c = if c.toNat < 32 then [92, 117, 48, 48, hexD (c.toNat / 16), hexD (c.toNat % 16)] else [c] := by
  simp [escF, n34, n92, n8, n9, n10, n12, n13]
theorem hex_cut {q : Nat} (h : q < 16) : (⟨#[48, 49, 50, 51, 52, 53, 54, 55, 56, 57, 97, 98, 99, 100, 101, 102]⟩ : ByteArray).extract q (q + 1) = ⟨#[hexD q]⟩ := by
  have : ∀ q : Fin 16, (⟨#[48, 49, 50, 51, 52, 53, 54, 55, 56, 57, 97, 98, 99, 100, 101, 102]⟩ : ByteArray).extract q.val (q.val + 1) = ⟨#[hexD q.val]⟩ := by decide +kernel
  exact this ⟨q, h⟩
theorem run_hex {q : Nat} (h : q < 16) (w : World) : (Instr.slice 9 (.string ⟨#[48, 49, 50, 51, 52, 53, 54, 55, 56, 57, 97, 98, 99, 100, 101, 102]⟩) (some (.int .u8 (q : Int))) (some (.int .u8 ((q : Int) + 1))) none).run Tryz.prog w = .ok (.string ⟨#[hexD q]⟩) w := by
  rw [run_slice_string w 9 _ .u8 .u8 _ _ Tryz.underlying9 (by omega) (by omega) (by simp [ByteArray.size]; omega), ← hex_cut h]
  congr 3
theorem wrap_div (c : UInt8) : IntKind.u8.wrap ((c.toNat : Int) / 16) = ((c.toNat / 16 : Nat) : Int) := by
  have := c.toNat_lt
  rw [show ((c.toNat : Int) / 16) = ((c.toNat / 16 : Nat) : Int) by omega]
  simp [IntKind.wrap, IntKind.bits]; omega
theorem tmod_byte (c : UInt8) : (c.toNat : Int).tmod 16 = ((c.toNat % 16 : Nat) : Int) := by
  rw [Int.tmod_eq_emod_of_nonneg (by omega)]; omega
theorem wrap_add (q : Nat) (h : q < 255) : IntKind.u8.wrap ((q : Int) + 1) = (q : Int) + 1 := by
  simp [IntKind.wrap, IntKind.bits, IntKind.signed]; omega
theorem low_data (q r : Nat) : ((⟨#[92, 117, 48, 48]⟩ : ByteArray) ++ (⟨#[hexD q]⟩ : ByteArray) ++ (⟨#[hexD r]⟩ : ByteArray)).data.toList = [92, 117, 48, 48, hexD q, hexD r] := by
  simp [ByteArray.data_append]
end Go.Proofs.YticlnijkfclgcaaGreatDoor
