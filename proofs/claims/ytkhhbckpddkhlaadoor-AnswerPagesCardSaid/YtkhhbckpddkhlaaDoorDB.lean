/- Documents: an id and a value; as the reference has them; whether one is formed; Same of the reference at one list. -/
import Derived.Test.YtkhhbckpddkhlaaDoorFE
import Derived.Test.YtkhhbckpddkhlaaDoorJK
import Derived.Test.YtkhhbckpddkhlaaDoorSA
import Derived.Test.YtkhhbckpddkhlaaDoorOW
namespace Go.Proofs.YtkhhbckpddkhlaaDoor
open Go.Shelf Go.RowKit

/-- an id -/
def idF (s : ByteArray) : Bool := decide (1 ≤ s.size) && decide (s.size ≤ 16) && Lib.validD s.data.toList
theorem validW (s : ByteArray) (w : World) (hs : s.size ≤ 1000000) (hT : Tabs w) :
    Calls Tryd.prog 30 #[.string s] w fun e w' => e = .returned (.bool (Lib.validD s.data.toList)) ∧ Below w.heap.size w w' :=
  Any.utf8_ValidString Tryd.laysValid s w (by omega) hT
structure TwoB (w wr : World) (a b : Array Value) (s t : TypeId) : Prop where
  bel : Below w.heap.size w wr
  one : wr.heap[w.heap.size]? = some (.cells a s (0, 0))
  two : wr.heap[w.heap.size + 1]? = some (.cells b t (0, 0))
theorem TwoB.refl (w : World) (a b : Array Value) (s t : TypeId) : TwoB w ((w.alloc (.cells a s)).alloc (.cells b t)) a b s t := by
  have h1 : Below w.heap.size w (w.alloc (.cells a s)) := (Below.refl _ w).alloc (Nat.le_refl _) _
  have h2 : Below (w.alloc (.cells a s)).heap.size (w.alloc (.cells a s)) ((w.alloc (.cells a s)).alloc (.cells b t)) := (Below.refl _ _).alloc (Nat.le_refl _) _
  refine ⟨h1.trans (h2.mono h1.size), kept (heap_alloc_new w _) h2, ?_⟩
  have := heap_alloc_new (w.alloc (.cells a s)) (.cells b t)
  simpa using this
theorem TwoB.next {w wr w' : World} {a b : Array Value} {s t : TypeId} (h : TwoB w wr a b s t) (hb : Below wr.heap.size wr w') : TwoB w w' a b s t :=
  ⟨h.bel.trans (hb.mono h.bel.size), kept h.one hb, kept h.two hb⟩
theorem take_nextW {α : Type} {l : List α} {j : Nat} {x : α} (h : l[j]? = some x) : l.take (j + 1) = l.take j ++ [x] := by
  rw [List.take_add_one, h]; rfl

/-- it is told whether P holds; yes only if it does -/
def FewPostW (P : Prop) (w : World) (e : Ending) (w' : World) : Prop := ∃ b, e = .returned (.bool b) ∧ (b = true → P) ∧ Below w.heap.size w w'
theorem fewW_no {P : Prop} {w w' : World} (h : Below w.heap.size w w') : FewPostW P w (.returned (.bool false)) w' := ⟨false, rfl, (fun h => by cases h), h⟩
theorem fewW_mk {P : Prop} {w w' : World} {b c : Bool} (hb : b = true → P) (hc : c = b) (h : Below w.heap.size w w') : FewPostW P w (.returned (.bool c)) w' := ⟨b, by rw [hc], hb, h⟩
/-- a document -/
structure DR where
  id : ByteArray
  v : JV
/-- its six cells -/
def RD : Rep DR := fun c x d => ∃ k n t na nl ncap ia il icap, d = [.string x.id, .int .i64 k, .int .i64 n, .string t, .slice na nl ncap, .slice ia il icap] ∧ x.id.size ≤ 9223372036854775807 ∧ x.v.kind = k ∧ JAt c x.v (.agg #[.int .i64 k, .int .i64 n, .string t, .slice na nl ncap, .slice ia il icap])
theorem RD_mono : Mono RD := fun _ _ _ _ hc ⟨k, n, t, na, nl, ncap, ia, il, icap, e, hs, hk, hj⟩ => ⟨k, n, t, na, nl, ncap, ia, il, icap, e, hs, hk, hj.mono hc⟩
theorem RD_one : ∀ (c : CF) (x : DR) (d : List Value), RD c x d → ∀ u ∈ d, u.oneCell' = true := fun c x d ⟨k, n, t, na, nl, ncap, ia, il, icap, e, _⟩ u hu => by
  subst e
  simp at hu
  rcases hu with rfl | rfl | rfl | rfl | rfl | rfl <;> simp [Value.oneCell']
theorem infoDr : (Tryd.prog.info? 55).map (fun i => (i.zero, i.size, i.bytes)) = some (some (.agg #[.string ⟨#[]⟩, .int .i64 0, .int .i64 0, .string ⟨#[]⟩, .slice none 0 0, .slice none 0 0]), 6, 96) := by kernel_rfl
theorem infoDp : (Tryd.prog.info? 33).map (fun i => (i.zero, i.size, i.bytes)) = some (some (.agg #[.string ⟨#[]⟩, .int .i64 0, .int .i64 0, .string ⟨#[]⟩, .slice none 0 0, .slice none 0 0]), 6, 96) := by kernel_rfl
theorem cells6D {w : World} {k : Nat} {c0 c1 c2 c3 c4 c5 : Value} {t : TypeId} (h : w.heap[k]? = some (.cells #[c0, c1, c2, c3, c4, c5] t (0, 0))) :
    w.cell? ⟨k, 0, none⟩ = some c0 ∧ w.cell? ⟨k, 1, none⟩ = some c1 ∧ w.cell? ⟨k, 2, none⟩ = some c2 ∧ w.cell? ⟨k, 3, none⟩ = some c3 ∧ w.cell? ⟨k, 4, none⟩ = some c4 ∧ w.cell? ⟨k, 5, none⟩ = some c5 := by
  simp [World.cell?, h]
/-- a formed document -/
def docF (x : DR) : Bool := idF x.id && decide (x.v.kind = 6) && formedF 6 x.v

/-- small documents -/
def smallD (l : List DR) : Prop := ∀ x ∈ l, x.id.size ≤ 1000
set_option maxRecDepth 100000 in
set_option maxHeartbeats 8000000 in
theorem dSame_eq (l : List DR) (lv mv : Value) (w : World) (hl : SAt 6 RD (cf w) lv l) (hm : SAt 6 RD (cf w) mv l) :
    Calls Tryd.prog 9 #[lv, mv] w fun e w' => e = .returned (.bool true) ∧ Below w.heap.size w w' := by
  obtain ⟨la, lcap, rfl, hle, hcap, hel⟩ := hl
  obtain ⟨ma, mcap, rfl, hle2, hcap2, hem⟩ := hm
  have hle3 : l.length ≤ 9223372036854775807 := by omega
  have HE := Hold.mk hel
  have HM := Hold.mk hem
  clear hel hem
  go_enter Tryd.func9, Tryd.ntmps9
  go_wp2_with fail
  go_loopw [5] (fun i' wr => ∃ j : Nat, i' = .int .i64 j ∧ j ≤ l.length ∧ Below w.heap.size w wr) (fun i' _ => l.length - (intOf i').toNat)
  case atStart => exact ⟨0, rfl, Nat.zero_le _, Below.refl _ _⟩
  case round =>
    obtain ⟨j, rfl, hj, hbl⟩ := hrel
    have HB := Hold.mk hbl
    clear hbl
    by_cases hlt : j < l.length
    · obtain ⟨y, hy⟩ : ∃ y, l[j]? = some y := ⟨l[j], List.getElem?_eq_getElem hlt⟩
      obtain ⟨b, off, d, rfl, hd, hc, hyi⟩ := HE.out j y hy
      obtain ⟨b2, off2, d2, rfl, hd2, hc2, hyi2⟩ := HM.out j y hy
      obtain ⟨k, n, t, na, nl, ncap, ia, il, icap, rfl, _, hk, hja⟩ := hyi
      obtain ⟨k2, n2, t2, na2, nl2, ncap2, ia2, il2, icap2, rfl, _, hk2, hjb⟩ := hyi2
      have hcl := cle_below HB.out
      have z0 := Grow.cell (hcl _ _ _ (by have := hc 0 _ rfl; rw [Nat.add_zero] at this; exact this))
      have z1 := Grow.cell (hcl _ _ _ (hc 1 _ rfl))
      have z2 := Grow.cell (hcl _ _ _ (hc 2 _ rfl))
      have z3 := Grow.cell (hcl _ _ _ (hc 3 _ rfl))
      have z4 := Grow.cell (hcl _ _ _ (hc 4 _ rfl))
      have z5 := Grow.cell (hcl _ _ _ (hc 5 _ rfl))
      have v0 := Grow.cell (hcl _ _ _ (by have := hc2 0 _ rfl; rw [Nat.add_zero] at this; exact this))
      have v1 := Grow.cell (hcl _ _ _ (hc2 1 _ rfl))
      have v2 := Grow.cell (hcl _ _ _ (hc2 2 _ rfl))
      have v3 := Grow.cell (hcl _ _ _ (hc2 3 _ rfl))
      have v4 := Grow.cell (hcl _ _ _ (hc2 4 _ rfl))
      have v5 := Grow.cell (hcl _ _ _ (hc2 5 _ rfl))
      have HJA := Hold.mk (hja.mono hcl)
      have HJB := Hold.mk (hjb.mono hcl)
      have HC := Hold.mk (Calls.grow (fun e : Grow wr => rSame_any y.v y.v _ _ e.val (HJA.out.mono (cle_below e.property)) (HJB.out.mono (cle_below e.property))))
      rw [sameB_true rfl] at HC
      clear hy hd hc hd2 hc2 hcl hja hjb hk hk2
      go_upto_region 6 with (fail)
      refine wp_region_grow (by kernel_rfl) (by kernel_rfl) ?_
      repeat (go_big_quiet_step (exact HC.out _))
      refine wpQuiet_nil ?_
      rintro ⟨w3, hb3⟩
      have HBF := Hold.mk (HB.out.trans (hb3.mono HB.out.size))
      simp only
      clear hb3
      go_wp2_with fail
      exact ⟨⟨j + 1, by go_num, hlt, HBF.out⟩, by simp [intOf]; omega⟩
    · obtain rfl : j = l.length := by omega
      have HBF := HB.out
      go_wp2_with fail
      go_ret
      exact ⟨rfl, HBF⟩


end Go.Proofs.YtkhhbckpddkhlaaDoor
