import Derived.Test.YtafilaiinbggoaaGreatQS32
import Derived.Test.YtafilaiinbggoaaGreatQS41
namespace Go.Proofs.YtafilaiinbggoaaGreat
open Go.RowKit Go.Maps
abbrev VerE := Nat × Bool × Bts
def RVer (c0 : CF) : Rep VerE := fun _ x d => ∃ v, d = [.int .u64 (x.1 : Int), .bool x.2.1, v] /\ YAt c0 v x.2.2
theorem RVer_mono (c0 : CF) : Mono (RVer c0) := fun _ _ _ _ _ h => h
def upTo (t : Nat) (x : VerE) : Bool := decide (x.1 <= t)
def findV (t : Nat) (l : List VerE) : Int := match l.findIdx? (upTo t) with
 | some i => (i : Int)
 | none => -1
theorem findV_at {t : Nat} {l : List VerE} {j : Nat} {x : VerE} (hx : l[j]? = some x) (hp : upTo t x = true) (hall : ∀ (q : Nat) y, q < j -> l[q]? = some y -> upTo t y = false) : findV t l = (j : Int) := by
 obtain ⟨hj, e⟩ := List.getElem?_eq_some_iff.1 hx
 have h : l.findIdx? (upTo t) = some j := by
  rw [List.findIdx?_eq_some_iff_getElem]
  refine ⟨hj, by rw [e]; exact hp, fun q hq => ?_⟩
  rw [hall q l[q] hq (List.getElem?_eq_getElem (by omega))]; simp
 unfold findV; rw [h]
theorem findV_none {t : Nat} {l : List VerE} (hall : ∀ (q : Nat) y, q < l.length -> l[q]? = some y -> upTo t y = false) : findV t l = -1 := by
 have h : l.findIdx? (upTo t) = none := by
  rw [List.findIdx?_eq_none_iff]
  intro x hx
  obtain ⟨q, hq, e⟩ := List.getElem_of_mem hx
  exact hall q x hq (by rw [<- e]; exact List.getElem?_eq_getElem hq)
 unfold findV; rw [h]
def seenL (l : List VerE) (t : Nat) : Option Bts := match l.find? (upTo t) with
 | some x => if x.2.1 = true then none else some x.2.2
 | none => none
theorem find_cases (l : List VerE) (t : Nat) : (findV t l = -1 /\ seenL l t = none) \/ ∃ (j : Nat) (x : VerE), findV t l = (j : Int) /\ l[j]? = some x /\ seenL l t = if x.2.1 = true then none else some x.2.2 := by
 unfold findV seenL
 cases h : l.findIdx? (upTo t) with
 | none =>
  refine .inl ⟨rfl, ?_⟩
  have : l.find? (upTo t) = none := by
   rw [List.find?_eq_none]
   rw [List.findIdx?_eq_none_iff] at h
   intro x hx
   rw [h x hx]
   simp
  rw [this]
 | some j =>
  obtain ⟨hj, hp, hall⟩ := List.findIdx?_eq_some_iff_getElem.1 h
  refine .inr ⟨j, l[j], rfl, List.getElem?_eq_getElem hj, ?_⟩
  have : l.find? (upTo t) = some l[j] := by
   rw [List.find?_eq_some_iff_getElem]
   exact ⟨hp, j, hj, rfl, fun q hq => by have := hall q hq; simpa using this⟩
  rw [this]
set_option maxHeartbeats 1000000 in
set_option maxRecDepth 100000 in
theorem see_closure {x : VerE} {v : Value} {q t : Nat} {w : World} (hq : w.cell? ⟨q, 0, none⟩ = some (.int .u64 (t : Int))) :
  Calls Tryz.prog 66 #[.agg #[.int .u64 (x.1 : Int), .bool x.2.1, v], .pointer (some ⟨q, 0, none⟩)] w fun e w' => e = .returned (.bool (upTo t x)) /\ Below w.heap.size w w' := by
 obtain ⟨r, hr⟩ : ∃ r, r = w.heap.size := ⟨_, rfl⟩
 obtain ⟨w1, hw1⟩ : ∃ w1, w1 = w.alloc (.cells #[.int .u64 (x.1 : Int), .bool x.2.1, v] 118) := ⟨_, rfl⟩
 have hb1 : Below w.heap.size w w1 := by rw [hw1]; exact (Below.refl _ w).alloc (Nat.le_refl _) _
 have hbx : w1.heap[r]? = some (.cells #[.int .u64 (x.1 : Int), .bool x.2.1, v] 118 (0, 0)) := by rw [hw1, hr]; exact heap_alloc_new w _
 have x0 : w1.cell? ⟨r, 0, none⟩ = some (.int .u64 (x.1 : Int)) := by simp [World.cell?, hbx]
 have x1 : w1.cell? ⟨q, 0, none⟩ = some (.int .u64 (t : Int)) := cle_below hb1 _ _ _ (show cf w q 0 = _ from hq)
 have HB := HoldT.mk hb1
 have HW := HoldT.mk (And.intro hr hw1)
 have HD := HoldT.mk (show decide (x.1 <= t) = upTo t x from rfl)
 clear hr hw1 hb1 hbx hq
 generalize x.1 = n at *
 go_enter Tryz.func66, Tryz.ntmps66
 go_upto_region 1 with (fail)
 rw [<- HW.out.1, <- HW.out.2]
 clear HW
 go_wp2_with fail
 go_ret
 exact ⟨by rw [<- HD.out]; rfl, HB.out⟩
set_option maxRecDepth 100000 in
set_option maxHeartbeats 4000000 in
theorem idxV_any {c0 : CF} {q t : Nat} {lv : Value} {l : List VerE} {w : World} (hl : SAt 3 (RVer c0) (cf w) lv l) (hq : w.cell? ⟨q, 0, none⟩ = some (.int .u64 (t : Int))) (hn : l.length <= 100000) :
  Calls Tryz.prog 65 #[lv, .func (.func 66) #[] #[.pointer (some ⟨q, 0, none⟩)]] w fun e w' => e = .returned (.int .i64 (findV t l)) /\ Below w.heap.size w w' := by
 obtain ⟨a, cap, rfl, hlen, hcap, hel⟩ := hl
 obtain ⟨n, hnn⟩ : ∃ n, n = l.length := ⟨_, rfl⟩
 rw [<- hnn] at hlen hn |-
 have HE := HoldT.mk (And.intro hel (And.intro hq hnn))
 have hF : ∀ args w, (callFunc 66 args).run Tryz.prog w = .ok (.enter 66 args) w := fun args w => by kernel_rfl
 clear hel hq hnn hlen hcap
 go_enter Tryz.func65, Tryz.ntmps65
 go_wp2_with fail
 go_loopw [5, 8] (fun s5 i wr => ∃ j : Nat, i = .int .i64 j /\ j <= n /\ HoldT (∀ (q : Nat) x, q < j -> l[q]? = some x -> upTo t x = false) /\ HoldT (Below w.heap.size w wr)) (fun _ i _ => n - (intOf i).toNat)
 case atStart => exact ⟨0, rfl, Nat.zero_le _, ⟨fun q x h => by omega⟩, ⟨Below.refl _ _⟩⟩
 case round =>
  obtain ⟨j, rfl, hj, HA, HB⟩ := hrel
  by_cases hlt : j < n
  ·obtain ⟨x, hx⟩ : ∃ x, l[j]? = some x := ⟨l[j]'(by rw [<- HE.out.2.2]; exact hlt), List.getElem?_eq_getElem _⟩
   obtain ⟨b, off, d, rfl, hd, hcc, hxr⟩ := HE.out.1 j x hx
   obtain ⟨v, rfl, _⟩ := hxr
   have hcl := cle_below HB.out
   have z0 := hcl _ _ _ (hcc 0 _ rfl)
   have z1 := hcl _ _ _ (hcc 1 _ rfl)
   have z2 := hcl _ _ _ (hcc 2 _ rfl)
   unfold cf at z0 z1 z2
   rw [Nat.add_zero] at z0
   have HX := HoldT.mk (see_closure (x := x) (v := v) (q := q) (t := t) (w := wr) (hcl _ _ _ (show cf w q 0 = _ from HE.out.2.1)))
   obtain ⟨tm, gn, bs⟩ := x
   simp only at z0 z1 z2 HX
   have HXE := HoldT.mk hx
   have b1 : (j : Int) < (n : Int) := by omega
   clear hcc hd hcl hx
   generalize hfx : upTo t (tm, gn, bs) = fx at HX
   have HF := HoldT.mk hfx
   clear hfx
   cases fx with
   | false =>
    go_wp2_with fail
    refine HX.out.mono ?_
    rintro e w3 ⟨rfl, hb3⟩
    replace HB := HoldT.mk (HB.out.trans (hb3.mono HB.out.size))
    clear hb3 HX z0 z1 z2
    have HA2 : HoldT (∀ (q : Nat) x, q < j + 1 -> l[q]? = some x -> upTo t x = false) := ⟨fun q s' hq hs' => by
     by_cases e : q = j
     ·subst e; rw [HXE.out] at hs'; cases hs'; exact HF.out
     ·exact HA.out q s' (by omega) hs'⟩
    go_wp2_with fail
    exact ⟨⟨j + 1, by go_num, hlt, HA2, HB⟩, by simp [intOf]; omega⟩
   | true =>
    go_wp2_with fail
    refine HX.out.mono ?_
    rintro e w3 ⟨rfl, hb3⟩
    replace HB := HoldT.mk (HB.out.trans (hb3.mono HB.out.size))
    clear hb3 HX z0 z1 z2
    have HR := HoldT.mk (findV_at HXE.out HF.out HA.out)
    go_wp2_with fail
    go_ret
    exact ⟨by rw [HR.out]; rfl, HB.out⟩
  ·obtain rfl : j = n := by omega
   have HR := HoldT.mk (findV_none (t := t) (l := l) (fun q x hq => HA.out q x (by rw [HE.out.2.2]; exact hq)))
   have b1 : ¬ (j : Int) < (j : Int) := by omega
   go_wp2_with fail
   go_ret
   exact ⟨by rw [HR.out]; rfl, HB.out⟩
set_option maxRecDepth 100000 in
set_option maxHeartbeats 4000000 in
theorem see_first {c0 : CF} {t : Nat} {lv : Value} {l : List VerE} {w : World} (hl : SAt 3 (RVer c0) (cf w) lv l) (hn : l.length <= 100000) :
  Calls Tryz.prog 41 #[lv, .int .u64 (t : Int)] w fun e w' => e = .returned (.int .i64 (if findV t l < 0 then (l.length : Int) else findV t l)) /\ Below w.heap.size w w' := by
 obtain ⟨a, cap, rfl⟩ := hl.form
 obtain ⟨n, hnn⟩ : ∃ n, n = l.length := ⟨_, rfl⟩
 rw [<- hnn] at hl |-
 obtain ⟨q, hq⟩ : ∃ q, q = w.heap.size := ⟨_, rfl⟩
 obtain ⟨w1, hw1⟩ : ∃ w1, w1 = w.alloc (.cells #[.int .u64 (t : Int)] 30) := ⟨_, rfl⟩
 have hb1 : Below w.heap.size w w1 := by rw [hw1]; exact (Below.refl _ w).alloc (Nat.le_refl _) _
 have hbx : w1.heap[q]? = some (.cells #[.int .u64 (t : Int)] 30 (0, 0)) := by rw [hw1, hq]; exact heap_alloc_new w _
 have HX := HoldT.mk (idxV_any (q := q) (t := t) (hl.mono (RVer_mono c0) (cle_below hb1)) (by simp [World.cell?, hbx]) hn)
 have HB := HoldT.mk hb1
 have HW := HoldT.mk (And.intro hq hw1)
 clear hl hnn hq hw1 hb1 hbx
 obtain ⟨f, hf⟩ : ∃ f, f = findV t l := ⟨_, rfl⟩
 rw [<- hf] at HX |-
 clear hf
 go_enter Tryz.func41, Tryz.ntmps41
 go_upto_region 1 with (fail)
 rw [<- HW.out.1, <- HW.out.2]
 clear HW
 go_wp2_with fail
 refine HX.out.mono ?_
 rintro e w2 ⟨rfl, hb2⟩
 have HB2 := HoldT.mk (HB.out.trans (hb2.mono HB.out.size))
 clear hb2 HX
 by_cases hf : f < 0
 ·have b1 : decide (f < 0) = true := decide_eq_true hf
  go_wp2_with fail
  go_ret
  exact ⟨by first | rfl | (rw [if_pos hf]; rfl), HB2.out⟩
 ·have b1 : decide (f < 0) = false := decide_eq_false hf
  go_wp2_with fail
  go_ret
  exact ⟨by first | rfl | (rw [if_neg (by omega)]; rfl), HB2.out⟩
def AtV (r : Option Bts) (w : World) (e : Ending) (w' : World) : Prop := ∃ (va : Option Addr) (vl vc : Nat), e = .returned (.tuple #[.slice va vl vc, .bool r.isSome]) /\ (∀ b, r = some b -> YAt (cfU w') (.slice va vl vc) b) /\ Below w.heap.size w w'
set_option maxRecDepth 100000 in
set_option maxHeartbeats 4000000 in
theorem see_At {c0 : CF} {t : Nat} {lv : Value} {l : List VerE} {w : World} (hl : SAt 3 (RVer c0) (cf w) lv l) (hc : CLe c0 (cf w)) (hn : l.length <= 100000) (hv : ∀ x ∈ l, x.2.2.length <= 1000) :
  Calls Tryz.prog 23 #[lv, .int .u64 (t : Int)] w (AtV (seenL l t) w) := by
 obtain ⟨a, cap, rfl⟩ := hl.form
 have HF := HoldT.mk (see_first (t := t) hl hn)
 have hel := hl
 obtain ⟨_, _, e9, _, _, hel⟩ := hel
 simp only [Value.slice.injEq] at e9
 obtain ⟨rfl, _, rfl⟩ := e9
 rcases find_cases l t with ⟨h1, h2⟩ | ⟨j, x, h1, hx, h2⟩
 ·rw [h1, if_pos (by decide)] at HF
  rw [h2]
  clear h1 h2 hel hl hc hv
  obtain ⟨n, hnn⟩ : ∃ n, n = l.length := ⟨_, rfl⟩
  rw [<- hnn] at HF |-
  clear hnn hn
  go_enter Tryz.func23, Tryz.ntmps23
  go_wp2_with fail
  refine HF.out.mono ?_
  rintro e w2 ⟨rfl, hb2⟩
  have HE := HoldT.mk (show AtV none w (.returned (.tuple #[.slice none 0 0, .bool false])) w2 from ⟨_, _, _, rfl, fun b e => (by cases e), hb2⟩)
  clear hb2 HF
  go_wp2_with fail
  refine bodyPost_ret (v := .tuple #[.slice none 0 0, .bool false]) (by simp [results, Tryz.results23, go_sem]) rfl ?_
  exact HE.out
 ·rw [h1, if_neg (by omega)] at HF
  rw [h2]
  obtain ⟨b, off, d, rfl, hd, hcc, hxr⟩ := hel j x hx
  obtain ⟨v, rfl, hy⟩ := hxr
  obtain ⟨va, vc, rfl⟩ := hy.form
  have hjl := (List.getElem?_eq_some_iff.1 hx).1
  have hvl := hv x (List.mem_of_getElem? hx)
  obtain ⟨n, hnn⟩ : ∃ n, n = l.length := ⟨_, rfl⟩
  rw [<- hnn] at HF hjl |-
  obtain ⟨tm, gn, bs⟩ := x
  simp only at hcc hy hvl |-
  have z0 := hcc 0 _ rfl
  have z1 := hcc 1 _ rfl
  have z2 := hcc 2 _ rfl
  have HZ := HoldT.mk (And.intro hy (And.intro hc (And.intro z1 z2)))
  have b1 : ¬ (j : Int) = (n : Int) := by omega
  have b2 : (j : Int) < (n : Int) := by omega
  obtain ⟨vl, hvl2⟩ : ∃ vl, vl = bs.length := ⟨_, rfl⟩
  have HV := HoldT.mk (And.intro hvl hvl2)
  clear h1 h2 hel hl hc hv hx hd hcc z0 z1 z2 hnn hn hvl hvl2 hy
  cases gn with
  | true =>
   rw [if_pos rfl]
   go_enter Tryz.func23, Tryz.ntmps23
   go_wp2_with fail
   refine HF.out.mono ?_
   rintro e w2 ⟨rfl, hb2⟩
   have hcl := cle_below hb2
   have y1 := hcl _ _ _ HZ.out.2.2.1
   have y2 := hcl _ _ _ HZ.out.2.2.2
   unfold cf at y1 y2
   rw [<- HV.out.2] at y2
   have HCL := HoldT.mk (cloneY_any bs (.slice va bs.length vc) (cf w2) w2 (fun _ _ _ h => h) ((HZ.out.1.mono RY_mono HZ.out.2.1).mono RY_mono hcl) (by have := HV.out.1; omega))
   rw [<- HV.out.2] at HCL
   have HB2 := HoldT.mk hb2
   clear hb2 hcl HF
   have HE := HoldT.mk (show AtV none w (.returned (.tuple #[.slice none 0 0, .bool false])) w2 from ⟨_, _, _, rfl, fun b e => (by cases e), HB2.out⟩)
   go_wp2_with fail
   refine bodyPost_ret (v := .tuple #[.slice none 0 0, .bool false]) (by simp [results, Tryz.results23, go_sem]) rfl ?_
   exact HE.out
  | false =>
   rw [if_neg (by decide)]
   go_enter Tryz.func23, Tryz.ntmps23
   go_wp2_with fail
   refine HF.out.mono ?_
   rintro e w2 ⟨rfl, hb2⟩
   have hcl := cle_below hb2
   have y1 := hcl _ _ _ HZ.out.2.2.1
   have y2 := hcl _ _ _ HZ.out.2.2.2
   unfold cf at y1 y2
   rw [<- HV.out.2] at y2
   have HCL := HoldT.mk (cloneY_any bs (.slice va bs.length vc) (cf w2) w2 (fun _ _ _ h => h) ((HZ.out.1.mono RY_mono HZ.out.2.1).mono RY_mono hcl) (by have := HV.out.1; omega))
   rw [<- HV.out.2] at HCL
   have HB2 := HoldT.mk hb2
   clear hb2 hcl HF
   go_wp2_with fail
   refine HCL.out.mono ?_
   rintro e w3 ⟨sv, cs, rfl, ho, hg, hb3⟩
   have ho2 : OwnS 1 RY 5 w2.heap.size w3 sv bs.length bs cs := ⟨ho, rfl, hg, hb3.size⟩
   obtain ⟨sa, sc, rfl⟩ := ho2.shape
   have HE := HoldT.mk (show AtV (some bs) w (.returned (.tuple #[.slice sa bs.length sc, .bool true])) w3 from ⟨_, _, _, rfl, fun b e => (by cases e; exact ho2.yat), HB2.out.trans (hb3.mono HB2.out.size)⟩)
   rw [<- HV.out.2] at HE |-
   clear ho hg hb3 ho2 HCL
   go_wp2_with fail
   refine bodyPost_ret (v := .tuple #[.slice sa vl sc, .bool true]) (by simp [results, Tryz.results23, go_sem]) rfl ?_
   exact HE.out
end Go.Proofs.YtafilaiinbggoaaGreat
namespace Go.Proofs.YtafilaiinbggoaaGreat
open Go.RowKit Go.Maps
theorem infoVer : (Tryz.prog.info? 118).map (fun i => (i.zero, i.size, i.bytes)) = some (some (.agg #[.int .u64 0, .bool false, .slice none 0 0]), 3, 40) := by kernel_rfl
theorem infoNam : (Tryz.prog.info? 78).map (fun i => (i.zero, i.size, i.bytes)) = some (some (.agg #[.slice none 0 0, .slice none 0 0, .slice none 0 0]), 3, 72) := by kernel_rfl
theorem infoByt : (Tryz.prog.info? 23).map (fun i => (i.zero, i.size, i.bytes)) = some (some (.slice none 0 0), 1, 24) := by kernel_rfl
def RVal1 : Rep Value := fun _ x d => d = [x]
theorem RVal1_mono : Mono RVal1 := fun _ _ _ _ _ h => h
def RNam : Rep (Value × Value × Value) := fun _ x d => d = [x.1, x.2.1, x.2.2]
theorem RNam_mono : Mono RNam := fun _ _ _ _ _ h => h
def goneB : Bts -> Bool
 | [] => false
 | c :: _ => ((c.toNat : Int) == 0)
def verL : List Bts -> List VerE
 | [] => []
 | v :: vs => (vs.length + 1, goneB v, v.drop 1) :: verL vs
theorem verL_len : ∀ vs : List Bts, (verL vs).length = vs.length
 | [] => rfl
 | v :: vs => by
  show (verL vs).length + 1 = vs.length + 1
  rw [verL_len vs]
theorem verL_at : ∀ {vs : List Bts} {j : Nat} {v : Bts}, vs[j]? = some v -> (verL vs)[j]? = some (vs.length - j, goneB v, v.drop 1)
 | [], j, v, h => by cases h
 | u :: vs, 0, v, h => by cases h; rfl
 | u :: vs, j + 1, v, h => by
  show (verL vs)[j]? = _
  rw [verL_at (show vs[j]? = some v from h), List.length_cons, Nat.add_sub_add_right]
theorem stE_at {s : UInt8} {name : Bts} : ∀ {vs : List Bts} {j : Nat} {v : Bts}, vs[j]? = some v -> (stE s name vs)[j]? = some (stampB s name (vs.length - j), v)
 | [], j, v, h => by cases h
 | u :: vs, 0, v, h => by cases h; rfl
 | u :: vs, j + 1, v, h => by
  show (stE s name vs)[j]? = _
  rw [stE_at (show vs[j]? = some v from h), List.length_cons, Nat.add_sub_add_right]
theorem own_type {n : Nat} {α : Type} {R : Rep α} {T : TypeId} {B : Nat} {w : World} {sl : Value} {p : Nat} {xs : List α} {cs : List Value} (h : OwnS n R T B w sl p xs cs) : ∀ g, sl.ownBlock = some g -> ∃ cur, w.heap[g]? = some (.cells cur T (0, 0)) := fun g hg => by
 rcases id h.own.2 with ⟨hv, _⟩ | ⟨g', cap, cur, hv, _, hh, _⟩
 ·rw [hv] at hg; cases hg
 ·rw [hv] at hg
  cases hg
  exact ⟨cur, hh⟩
theorem type_ne {w : World} {a b : Nat} {cs ds : Array Value} {S T : TypeId} (h1 : w.heap[a]? = some (.cells cs S (0, 0))) (h2 : w.heap[b]? = some (.cells ds T (0, 0))) (hne : S ≠ T) : a ≠ b := fun e => by
 rw [e, h2] at h1
 exact hne (by cases h1; rfl)
structure GN (c0 : CF) (B ob : Nat) (name : Bts) (L : List VerE) (m : Nat) (nv vsl ksl : Value) (w0 wr : World) : Prop where
 box : ∃ cur, wr.heap[ob]? = some (.cells cur 78 (0, 0)) /\ cur[0]? = some nv /\ cur[1]? = some vsl /\ cur[2]? = some ksl
 low : B <= ob /\ w0.heap.size = B
 nm : YAt (cfL 0 wr) nv name
 ver : ∃ cs, OwnS 3 (RVer c0) 118 B wr vsl L.length L cs
 keys : ∃ (ks cs : List Value), OwnS 1 RVal1 23 B wr ksl m ks cs
 bel : Below B w0 wr
theorem GN.quiet {c0 : CF} {B ob : Nat} {name : Bts} {L : List VerE} {m : Nat} {nv vsl ksl : Value} {w0 wr w' : World} (h : GN c0 B ob name L m nv vsl ksl w0 wr) (hb : Below wr.heap.size wr w') : GN c0 B ob name L m nv vsl ksl w0 w' := by
 obtain ⟨cur, h1, h2⟩ := h.box
 obtain ⟨cs, h3⟩ := h.ver
 obtain ⟨ks, cs', h4⟩ := h.keys
 exact ⟨⟨cur, kept h1 hb, h2⟩, h.low, h.nm.mono RY_mono (cfL_below hb), ⟨cs, h3.quiet (RVer_mono c0) hb⟩, ⟨ks, cs', h4.quiet RVal1_mono hb⟩, h.bel.trans (hb.mono h3.le)⟩
theorem GN.cells {c0 : CF} {B ob : Nat} {name : Bts} {L : List VerE} {m : Nat} {nv vsl ksl : Value} {w0 wr : World} (h : GN c0 B ob name L m nv vsl ksl w0 wr) : wr.cell? ⟨ob, 0, none⟩ = some nv /\ wr.cell? ⟨ob, 1, none⟩ = some vsl /\ wr.cell? ⟨ob, 2, none⟩ = some ksl /\ (∀ j, wr.frozen? ⟨ob, j, none⟩ = false) /\ ob < wr.heap.size := by
 obtain ⟨cur, h1, h2, h3, h4⟩ := h.box
 exact ⟨by simp [World.cell?, h1, h2], by simp [World.cell?, h1, h3], by simp [World.cell?, h1, h4], fun j => by simp [World.frozen?, h1], heap_lt h1⟩
theorem GN.pushV {c0 : CF} {B ob : Nat} {name : Bts} {L : List VerE} {m : Nat} {nv vsl ksl v2 : Value} {w0 w w' : World} {x : VerE} {cs : List Value} (h : GN c0 B ob name L m nv vsl ksl w0 w) (ho : OwnS 3 (RVer c0) 118 B w' v2 (L.length + 1) (L ++ [x]) cs) (hg : Grew w w' vsl v2) : GN c0 B ob name (L ++ [x]) m nv v2 ksl w0 (w'.setCell ⟨ob, 1, none⟩ v2) /\ w'.heap[ob]? = w.heap[ob]? := by
 obtain ⟨cur, h1, h2, h3, h4⟩ := h.box
 obtain ⟨cv, hv⟩ := h.ver
 obtain ⟨ks, ck, hk⟩ := h.keys
 have n1 : ∀ g, vsl.ownBlock = some g -> ob ≠ g := fun g e => by
  obtain ⟨_, h5⟩ := own_type hv g e
  exact type_ne h1 h5 (by decide)
 have hbx := hg.kept h1 n1
 have n2 : ∀ g, v2.ownBlock = some g -> ob ≠ g := fun g e => by
  obtain ⟨_, h5⟩ := own_type ho g e
  exact type_ne hbx h5 (by decide)
 have hk2 := own_keep (fun _ _ _ _ h => h) hk hg.by_ fun g e e2 => by
  obtain ⟨_, h5⟩ := own_type hk g e
  obtain ⟨_, h6⟩ := own_type hv g e2
  exact type_ne h5 h6 (by decide) rfl
 have hs : w'.grownBy (w'.setCell ⟨ob, 1, none⟩ v2) (some ob) := set6_grown _ _
 have hsz := hv.below hg
 refine ⟨⟨⟨cur.set! 1 v2, set_selfT hbx, ?_, ?_, ?_⟩, h.low, ?_, ⟨cs, ?_⟩, ⟨ks, ck, ?_⟩, ?_⟩, hbx.trans h1.symm⟩
 ·rw [Array.set!_eq_setIfInBounds, Array.getElem?_setIfInBounds_ne (by decide)]; exact h2
 ·have : 1 < cur.size := (Array.getElem?_eq_some_iff.1 h3).1
  rw [Array.set!_eq_setIfInBounds, Array.getElem?_setIfInBounds_self_of_lt this]
 ·rw [Array.set!_eq_setIfInBounds, Array.getElem?_setIfInBounds_ne (by decide)]; exact h4
 ·refine (h.nm.mono RY_mono (cfL_grown hg.by_ fun b e => ⟨Nat.zero_le _, fun ⟨_, _, e2⟩ => ?_⟩)).mono RY_mono (cfL_grown hs fun b e => ⟨Nat.zero_le _, fun ⟨_, _, e2⟩ => ?_⟩)
  ·obtain ⟨_, h6⟩ := own_type hv b e
   rw [h6] at e2; cases e2
  ·cases e
   rw [hbx] at e2; cases e2
 ·have := own_keep (fun _ _ _ _ h => h) ho hs fun g e e2 => n2 g e (Option.some.inj e2)
  rw [List.length_append]
  exact this
 ·exact own_keep (fun _ _ _ _ h => h) hk2 hs fun g e e2 => by
   obtain ⟨_, h5⟩ := own_type hk2 g e
   cases e2
   exact type_ne hbx h5 (by decide) rfl
 ·have h7 := h.bel.trans hsz
  exact h7.grown hs (by have := h7.size; have := h.low.2; omega) fun q e => by cases e; exact h.low.1
theorem GN.pushK {c0 : CF} {B ob : Nat} {name : Bts} {L : List VerE} {m : Nat} {nv vsl ksl v2 : Value} {w0 w w' : World} {xs cs0 cs ys : List Value} (h : GN c0 B ob name L m nv vsl ksl w0 w) (hk : OwnS 1 RVal1 23 B w ksl m xs cs0) (ho : OwnS 1 RVal1 23 B w' v2 (m + 1) ys cs) (hg : Grew w w' ksl v2) : GN c0 B ob name L (m + 1) nv vsl v2 w0 (w'.setCell ⟨ob, 2, none⟩ v2) /\ w'.heap[ob]? = w.heap[ob]? := by
 obtain ⟨cur, h1, h2, h3, h4⟩ := h.box
 obtain ⟨cv, hv⟩ := h.ver
 have n1 : ∀ g, ksl.ownBlock = some g -> ob ≠ g := fun g e => by
  obtain ⟨_, h5⟩ := own_type hk g e
  exact type_ne h1 h5 (by decide)
 have hbx := hg.kept h1 n1
 have n2 : ∀ g, v2.ownBlock = some g -> ob ≠ g := fun g e => by
  obtain ⟨_, h5⟩ := own_type ho g e
  exact type_ne hbx h5 (by decide)
 have hv2 := own_keep (fun _ _ _ _ h => h) hv hg.by_ fun g e e2 => by
  obtain ⟨_, h5⟩ := own_type hv g e
  obtain ⟨_, h6⟩ := own_type hk g e2
  exact type_ne h5 h6 (by decide) rfl
 have hs : w'.grownBy (w'.setCell ⟨ob, 2, none⟩ v2) (some ob) := set6_grown _ _
 have hsz := hk.below hg
 refine ⟨⟨⟨cur.set! 2 v2, set_selfT hbx, ?_, ?_, ?_⟩, h.low, ?_, ⟨cv, ?_⟩, ⟨ys, cs, ?_⟩, ?_⟩, hbx.trans h1.symm⟩
 ·rw [Array.set!_eq_setIfInBounds, Array.getElem?_setIfInBounds_ne (by decide)]; exact h2
 ·rw [Array.set!_eq_setIfInBounds, Array.getElem?_setIfInBounds_ne (by decide)]; exact h3
 ·have : 2 < cur.size := (Array.getElem?_eq_some_iff.1 h4).1
  rw [Array.set!_eq_setIfInBounds, Array.getElem?_setIfInBounds_self_of_lt this]
 ·refine (h.nm.mono RY_mono (cfL_grown hg.by_ fun b e => ⟨Nat.zero_le _, fun ⟨_, _, e2⟩ => ?_⟩)).mono RY_mono (cfL_grown hs fun b e => ⟨Nat.zero_le _, fun ⟨_, _, e2⟩ => ?_⟩)
  ·obtain ⟨_, h6⟩ := own_type hk b e
   rw [h6] at e2; cases e2
  ·cases e
   rw [hbx] at e2; cases e2
 ·exact own_keep (fun _ _ _ _ h => h) hv2 hs fun g e e2 => by
   obtain ⟨_, h5⟩ := own_type hv2 g e
   cases e2
   exact type_ne hbx h5 (by decide) rfl
 ·exact own_keep (fun _ _ _ _ h => h) ho hs fun g e e2 => n2 g e (Option.some.inj e2)
 ·have h7 := h.bel.trans hsz
  exact h7.grown hs (by have := h7.size; have := h.low.2; omega) fun q e => by cases e; exact h.low.1
theorem GN.first {c0 : CF} {B : Nat} {name : Bts} {nv sl : Value} {w0 w w' : World} {cs : List Value} (hB : w0.heap.size = B) (hb : Below B w0 w) (hn : YAt (cfL 0 w) nv name) (ho : OwnS 3 RNam 78 B w' sl 1 [(nv, .slice none 0 0, .slice none 0 0)] cs) (hg : Below w.heap.size w w') : ∃ ob c, sl = .slice (some ⟨ob, 0, none⟩) 1 c /\ GN c0 B ob name [] 0 nv (.slice none 0 0) (.slice none 0 0) w0 w' := by
 have hle := hb.size
 rcases id ho.own.2 with ⟨hv, hn0⟩ | ⟨g, cap, cur, hv, hgB, hh, hle2, hcap, hs, ht⟩
 ·exact absurd ho.len (by rw [List.length_singleton]; omega)
 ·have hd := ho.row.2 0 (nv, .slice none 0 0, .slice none 0 0) rfl
  obtain ⟨d, hd1, hd2, hd3⟩ := hd
  have hd3' : d = [nv, .slice none 0 0, .slice none 0 0] := hd3
  subst hd3'
  have hc : ∀ i u, cs[i]? = some u -> cur[i]? = some u := fun i u e => by
   rw [<- ht] at e
   have h1 := List.getElem?_take_of_lt (l := cur.toList) (i := i) (j := 1 * 3) (by
    have := (List.getElem?_eq_some_iff.1 e).1
    rw [List.length_take] at this
    omega)
   rw [h1] at e
   rw [<- Array.getElem?_toList]
   exact e
  refine ⟨g, cap, hv, ⟨cur, hh, hc 0 _ (by have := hd2 0 _ rfl; simpa using this), hc 1 _ (by have := hd2 1 _ rfl; simpa using this), hc 2 _ (by have := hd2 2 _ rfl; simpa using this)⟩, ⟨hgB, hB⟩, hn.mono RY_mono (cfL_below hg), ⟨[], OwnS.start 3 _ _ ho.le⟩, ⟨[], [], OwnS.start 1 _ _ ho.le⟩, hb.trans (hg.mono (by omega))⟩
def KeepP (P Z : BS) (w : World) (ds : List Nat) : Array Bool -> World -> Prop := fun l w' => (∀ b, P b -> w'.heap[b]? = w.heap[b]?) /\ ((ds.any fun d => !l.getD d true) = true -> ∀ b, Z b -> w'.heap[b]? = w.heap[b]?)
theorem keepP_back {P Z : BS} {w : World} {ds is : List Nat} (h : (is.all fun i => !ds.contains i) = true) : ∀ i ∈ is, ∀ l w', KeepP P Z w ds (l.setIfInBounds i true) w' -> KeepP P Z w ds l w' := fun i hi l w' h2 => ⟨h2.1, fun h3 => h2.2 (by
 have hni : ¬ i ∈ ds := by
  have := List.all_eq_true.1 h i hi
  simpa using this
 rw [List.any_eq_true] at h3 |-
 obtain ⟨d, hd, h4⟩ := h3
 exact ⟨d, hd, by rw [getD_set_ne true (fun e => hni (by rw [e]; exact hd))]; exact h4⟩)⟩
theorem keepP_in {P Z : BS} {w : World} {ds : List Nat} {d : Nat} (hd : d ∈ ds) : ∀ l w', l.getD d true = false -> KeepP P Z w ds l w' -> KeepSC Z w w' := fun l w' h1 h2 => keepSC (h2.2 (List.any_eq_true.2 ⟨d, hd, by rw [h1]; rfl⟩))
theorem keepP_base {P Z : BS} {w : World} {ds : List Nat} : ∀ l w', KeepP P Z w ds l w' -> KeepSC P w w' := fun _ _ h => keepSC h.1
theorem keepP_on {P Z : BS} {w w' : World} {ds : List Nat} {l : Array Bool} (h : ∀ b, P b -> w'.heap[b]? = w.heap[b]?) (k : ∀ b, Z b -> w'.heap[b]? = w.heap[b]?) : KeepP P Z w ds l w' := ⟨h, fun _ => k⟩
theorem keepP_off {P Z : BS} {w w' : World} {ds : List Nat} {l : Array Bool} (h : ∀ b, P b -> w'.heap[b]? = w.heap[b]?) (k : (ds.any fun d => !l.getD d true) = false) : KeepP P Z w ds l w' := ⟨h, fun e => by rw [k] at e; cases e⟩
end Go.Proofs.YtafilaiinbggoaaGreat
