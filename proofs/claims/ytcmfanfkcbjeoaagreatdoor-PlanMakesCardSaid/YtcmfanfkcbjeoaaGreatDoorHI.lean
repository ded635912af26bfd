/- Plans: gather of the program. -/
import Derived.Test.YtcmfanfkcbjeoaaGreatDoorHG
import Derived.Deep.DeepCutAuto
namespace Go.Proofs.YtcmfanfkcbjeoaaGreatDoor
open Go.RowKit

def AskM (c : CF) (B bA : Nat) (l : List AskP) (w : World) : Prop := ∃ nA nI g, nA ≤ l.length ∧ nI ≤ l.length ∧ AskG c B bA l nA nI g w
/-- where gather stands -/
structure GStep (c : CF) (B bA : Nat) (l : List AskP) (w w' : World) : Prop where
  ask : AskM c B bA l w'
  keep : KeepM w w'
  bel : Below B w w'
theorem AskM.le {c : CF} {B bA : Nat} {l : List AskP} {w : World} (h : AskM c B bA l w) : B ≤ w.heap.size := by
  obtain ⟨_, _, g, _, _, h⟩ := h
  have := h.all.lt
  have := h.lo
  omega
theorem AskM.kept {c : CF} {B bA : Nat} {l : List AskP} {w w' : World} (h : AskM c B bA l w) (k : Below w.heap.size w w') : AskM c B bA l w' := by
  obtain ⟨nA, nI, g, h1, h2, h3⟩ := h
  exact ⟨nA, nI, g, h1, h2, h3.kept k⟩
theorem GStep.start {c : CF} {B bA : Nat} {l : List AskP} {w w' : World} (h : AskM c B bA l w) (k : Below w.heap.size w w') : GStep c B bA l w w' := ⟨h.kept k, KeepM.below k, k.mono h.le⟩
theorem GStep.quiet {c : CF} {B bA : Nat} {l : List AskP} {w w' w2 : World} (h : GStep c B bA l w w') (k : Below w'.heap.size w' w2) : GStep c B bA l w w2 := ⟨h.ask.kept k, h.keep.trans (KeepM.below k), h.bel.trans (k.mono h.ask.le)⟩
theorem GStep.next {c : CF} {B bA : Nat} {l m : List AskP} {w w' w2 : World} (h : GStep c B bA l w w') (k : GStep c B bA m w' w2) : GStep c B bA m w w2 := ⟨k.ask, h.keep.trans k.keep, h.bel.trans k.bel⟩
theorem asks_len {α : Type} (F : α → List AskP) (l : List α) (j : Nat) : ((l.take j).flatMap F).length ≤ (l.flatMap F).length := by
  have h : l.flatMap F = (l.take j).flatMap F ++ (l.drop j).flatMap F := by rw [← List.flatMap_append, List.take_append_drop]
  rw [h, List.length_append]; omega
theorem flat_step {α : Type} (F : α → List AskP) {l : List α} {j : Nat} {x : α} (h : l[j]? = some x) : (l.take (j + 1)).flatMap F = (l.take j).flatMap F ++ F x := by
  rw [take_succ h, List.flatMap_append]; simp
/-- what gather is known to do, going down d -/
def GatherAt (d : Nat) : Prop := ∀ (f : JV) (x : Value) (c : CF) (B bA : Nat) (l : List AskP) (w : World), formedF d f = true → JAt c f x → CLe c (cf w) → AskM c B bA l w → l.length + (asksF d f).length ≤ 100000000000 →
  Calls Tryz.prog 96 #[.map (some bA), x] w fun e w' => e = .returned (.tuple #[]) ∧ GStep c B bA (l ++ asksF d f) w w'
theorem eqlSomeA (b : Nat) (w : World) : (binOp .eql 155 (.map (some b)) (.map none)).run Tryz.prog w = .ok (.bool false) w := by kernel_rfl
theorem eqlNilA (w : World) : (binOp .eql 155 (.map none) (.map none)).run Tryz.prog w = .ok (.bool true) w := by kernel_rfl
theorem formed_nm {d : Nat} {k n : Int} {t : ByteArray} {nm : List ByteArray} {it : List JV} (h : formedF (d + 1) (.mk k n t nm it) = true) : nm.length ≤ it.length ∧ (∀ s ∈ nm, s.size ≤ 1000000) ∧ ∀ x ∈ it, formedF d x = true := by
  by_cases h5 : k < 5
  · rw [formedF, if_pos h5, Bool.and_eq_true] at h
    have h1 := of_decide_eq_true h.2
    have e1 := List.length_eq_zero_iff.1 h1.1
    have e2 := List.length_eq_zero_iff.1 h1.2
    subst e1 e2
    simp
  · obtain ⟨_, h2, h3, h4, _⟩ := formed_body h h5
    refine ⟨by rw [h2]; split <;> omega, fun s hs => by have := text_size (h3 s hs); omega, h4⟩

theorem JAt.parts {c : CF} {k n : Int} {t : ByteArray} {nm : List ByteArray} {it : List JV} {na ia : Option Addr} {ncap icap : Nat} {v : JV} (h : JAt c v (.agg #[.int .i64 k, .int .i64 n, .string t, .slice na nm.length ncap, .slice ia it.length icap])) (e : v = .mk k n t nm it) :
    StrsAt c (.slice na nm.length ncap) nm ∧ ItemsAt c (.slice ia it.length icap) it := by
  subst e
  obtain ⟨k', n', t', nm', it', na', nc', ia', ic', e1, e2, _, _, _, h1, h2⟩ := h.open
  cases e1
  simp only [Value.agg.injEq, Array.mk.injEq, List.cons.injEq, Value.slice.injEq, true_and, and_true] at e2
  obtain ⟨⟨rfl, rfl⟩, rfl, rfl⟩ := e2
  exact ⟨h1, h2⟩
theorem item_up {d : Nat} {v : JV} (h : formedF d v = true) {k n : Int} {t : ByteArray} {nm : List ByteArray} {it : List JV} (e : v = .mk k n t nm it) : ∀ u ∈ it, formedF d u = true := fun u hu => by
  subst e
  cases d with
  | zero => simp [formedF] at h
  | succ d => exact formed_mono d u ((formed_nm h).2.2 u hu)
theorem eqlA (o : Option Nat) (w : World) : (binOp .eql 155 (.map o) (.map none)).run Tryz.prog w = .ok (.bool o.isNone) w := by
  cases o
  · exact eqlNilA w
  · exact eqlSomeA _ w
theorem ne_map {w : World} {b q o : Nat} {v : Value} {es : Array MapEntry} {k : Nat} (hb : w.heap[b]? = some (.map es k)) (h : w.cell? ⟨q, o, none⟩ = some v) : q ≠ b := fun e => by
  subst e
  simp [World.cell?, hb] at h
theorem map_take {nm : List ByteArray} {it : List JV} {s : ByteArray} {q : Nat} {r : ByteArray} {u : JV} (h1 : nm[q]? = some r) (h2 : it[q]? = some u) :
    ((nm.zip it).take (q + 1)).map (fun p : ByteArray × JV => (s, p.1, p.2)) = ((nm.zip it).take q).map (fun p : ByteArray × JV => (s, p.1, p.2)) ++ [(s, r, u)] := by
  rw [take_succ (zip_at h1 h2), List.map_append]; rfl

set_option maxRecDepth 100000 in
set_option maxHeartbeats 16000000 in
theorem gather_succ (d : Nat) (IH : GatherAt d) : GatherAt (d + 1) := by
  intro f x c B bA l w hf hx hc hm hlen
  obtain ⟨k, n, t, nm, it, na, ncap, ia, icap, rfl, rfl, _, _, _, hst, hit⟩ := hx.open
  obtain ⟨hnl, hns, hfi⟩ := formed_nm hf
  obtain ⟨na', ncap', e, hnlen, hnel⟩ := hst
  cases e
  obtain ⟨ia', icap', e, hilen, hiel⟩ := hit
  cases e
  obtain ⟨F, hF⟩ : ∃ F : ByteArray × JV → List AskP, F = fun p => asksC (asksF d) p.1 p.2 := ⟨_, rfl⟩
  have hA : asksF (d + 1) (.mk k n t nm it) = (nm.zip it).flatMap F := by rw [hF]; rfl
  rw [hA] at hlen ⊢
  obtain ⟨W0, hW0⟩ : ∃ W0, W0 = w.alloc (.cells #[.int .i64 k, .int .i64 n, .string t, .slice na nm.length ncap, .slice ia it.length icap] 25) := ⟨_, rfl⟩
  have hb0 : Below w.heap.size w W0 := by rw [hW0]; exact (Below.refl _ w).alloc (Nat.le_refl _) _
  have hbox : W0.heap[w.heap.size]? = some (.cells #[.int .i64 k, .int .i64 n, .string t, .slice na nm.length ncap, .slice ia it.length icap] 25 (0, 0)) := by rw [hW0]; exact heap_alloc_new w _
  have HM := Hold.mk (show GStep c B bA l w W0 from GStep.start hm hb0)
  have HM0 := Hold.mk (show GStep c B bA (l ++ ((nm.zip it).take 0).flatMap F) W0 W0 from GStep.start (by simpa using HM.out.ask) (Below.refl _ _))
  have HC0 := Hold.mk (hc.trans HM.out.keep.cle)
  have HBX := Hold.mk hbox
  have HNE := Hold.mk hnel
  have HIE := Hold.mk hiel
  have HNS := Hold.mk hns
  have HFI := Hold.mk hfi
  have HFF := Hold.mk hF
  have HLEN := Hold.mk hlen
  have HIH := Hold.mk IH
  obtain ⟨y0, y1, y2, y3, y4⟩ := cells_five hbox
  clear hb0 hnel hiel hns hfi hF hlen IH hf hx hc hm hA hbox
  go_enter Tryz.func96, Tryz.ntmps96
  go_upto_region 1 with (fail)
  rw [← hW0]
  clear hW0
  go_wp2_with fail
  clear y0 y1 y2 y3 y4
  go_loopw [15] (fun i wr => ∃ j : Nat, i = .int .i64 j ∧ j ≤ nm.length ∧ GStep c B bA (l ++ ((nm.zip it).take j).flatMap F) W0 wr) (fun i _ => nm.length - (intOf i).toNat)
  case atStart => exact ⟨0, rfl, Nat.zero_le _, HM0.out⟩
  case round =>
    obtain ⟨j, rfl, hj, hgs⟩ := hrel
    have HG := Hold.mk hgs
    clear hgs HM0
    by_cases hlt : j < nm.length
    · obtain ⟨s, hs⟩ : ∃ s, nm[j]? = some s := ⟨nm[j], List.getElem?_eq_getElem hlt⟩
      have hlti : j < it.length := by omega
      obtain ⟨v, hv⟩ : ∃ v, it[j]? = some v := ⟨it[j], List.getElem?_eq_getElem hlti⟩
      have HST := Hold.mk (flat_step F (zip_at hs hv))
      have HTL := Hold.mk (asks_len F (nm.zip it) (j + 1))
      obtain ⟨l1, hl1⟩ : ∃ l1, l1 = l ++ ((nm.zip it).take j).flatMap F := ⟨_, rfl⟩
      rw [← hl1] at HG
      have HE1 : Hold (l ++ ((nm.zip it).take (j + 1)).flatMap F = l1 ++ asksC (asksF d) s v) := ⟨by rw [HST.out, HFF.out, ← List.append_assoc, hl1, HFF.out]⟩
      have HL1 : Hold (l1.length + (asksC (asksF d) s v).length ≤ 100000000000) := ⟨by
        have e := congrArg List.length HE1.out
        rw [List.length_append, List.length_append] at e
        have := HTL.out
        have := HLEN.out
        omega⟩
      obtain ⟨hsz, nb, noff, rfl, n0⟩ := HNE.out j s hs
      obtain ⟨ib, ioff, k2, n2, t2, nm2, it2, na2, ncap2, ia2, icap2, rfl, hxe, x0, x1, x2, x3, x4, hxj⟩ := HIE.out j v hv
      have hcl := HC0.out.trans HG.out.keep.cle
      have zn := hcl _ _ _ n0
      have z0 := hcl _ _ _ x0
      have z1 := hcl _ _ _ x1
      have z2 := hcl _ _ _ x2
      have z3 := hcl _ _ _ x3
      have z4 := hcl _ _ _ x4
      unfold cf at zn z0 z1 z2 z3 z4
      obtain ⟨y0, y1, y2, y3, y4⟩ := cells_five (HG.out.keep.cells HBX.out)
      have hs1 := HNS.out s (List.mem_of_getElem? hs)
      have HFV := Hold.mk (HFI.out v (List.mem_of_getElem? hv))
      have HXJ := Hold.mk hxj
      have HXE := Hold.mk hxe
      clear n0 x0 x1 x2 x3 x4 hcl hs hv hxe hxj hl1 HST HTL
      obtain ⟨W1, hW1⟩ : ∃ W1, W1 = wr.alloc (.cells #[.int .i64 k2, .int .i64 n2, .string t2, .slice na2 nm2.length ncap2, .slice ia2 it2.length icap2] 25) := ⟨_, rfl⟩
      have HB1 : Hold (Below wr.heap.size wr W1) := ⟨by rw [hW1]; exact (Below.refl _ wr).alloc (Nat.le_refl _) _⟩
      have HK1 : Hold (W1.heap[wr.heap.size]? = some (.cells #[.int .i64 k2, .int .i64 n2, .string t2, .slice na2 nm2.length ncap2, .slice ia2 it2.length icap2] 25 (0, 0))) := ⟨by rw [hW1]; exact heap_alloc_new wr _⟩
      have HG1 := Hold.mk (HG.out.quiet HB1.out)
      go_upto_region 5 with (fail)
      rw [← hW1]
      clear hW1 y0 y1 y2 y3 y4 z0 z1 z2 z3 z4 zn
      obtain ⟨y0, y1, y2, y3, y4⟩ := cells_five HK1.out
      by_cases hand : s.toList = [36, 97, 110, 100]
      · have HAK : Hold (asksC (asksF d) s v = it2.flatMap (asksF d)) := ⟨by unfold asksC; rw [if_pos (isN_yes hand), HXE.out]; rfl⟩
        have hb : (s.toList == [36, 97, 110, 100]) = true := by rw [hand]; rfl
        obtain ⟨ia', icap', e, hil2, hiel2⟩ := (HXJ.out.parts HXE.out).2
        cases e
        have HI2 := Hold.mk hiel2
        have HIU := Hold.mk (item_up HFV.out HXE.out)
        have HL2 : Hold (l1.length + (it2.flatMap (asksF d)).length ≤ 100000000000) := ⟨by rw [← HAK.out]; exact HL1.out⟩
        have HG20 : Hold (GStep c B bA (l1 ++ (it2.take 0).flatMap (asksF d)) W1 W1) := ⟨GStep.start (by simpa using HG1.out.ask) (Below.refl _ _)⟩
        clear hand hiel2
        go_wp2_with fail
        clear y0 y1 y2 y3 y4
        go_loopw [31] (fun i wq => ∃ q : Nat, i = .int .i64 q ∧ q ≤ it2.length ∧ GStep c B bA (l1 ++ (it2.take q).flatMap (asksF d)) W1 wq) (fun i _ => it2.length - (intOf i).toNat)
        case atStart => exact ⟨0, rfl, Nat.zero_le _, HG20.out⟩
        case round =>
          rename World => wq
          obtain ⟨q, rfl, hq, hg2⟩ := hrel
          have HG2 := Hold.mk hg2
          clear hg2 HG20
          by_cases hlt2 : q < it2.length
          · obtain ⟨u, hu⟩ : ∃ u, it2[q]? = some u := ⟨it2[q], List.getElem?_eq_getElem hlt2⟩
            obtain ⟨ub, uoff, k3, n3, t3, nm3, it3, na3, ncap3, ia3, icap3, rfl, hue, x0, x1, x2, x3, x4, huj⟩ := HI2.out q u hu
            have hcl := HC0.out.trans (HG1.out.keep.trans HG2.out.keep).cle
            have z0 := hcl _ _ _ x0
            have z1 := hcl _ _ _ x1
            have z2 := hcl _ _ _ x2
            have z3 := hcl _ _ _ x3
            have z4 := hcl _ _ _ x4
            unfold cf at z0 z1 z2 z3 z4
            have HST2 := Hold.mk (flat_step (asksF d) hu)
            have hle2 := asks_len (asksF d) it2 (q + 1)
            obtain ⟨l2, hl2⟩ : ∃ l2, l2 = l1 ++ (it2.take q).flatMap (asksF d) := ⟨_, rfl⟩
            rw [← hl2] at HG2
            have HE2 : Hold (l1 ++ (it2.take (q + 1)).flatMap (asksF d) = l2 ++ asksF d u) := ⟨by rw [HST2.out, ← List.append_assoc, hl2]⟩
            have HL3 : Hold (l2.length + (asksF d u).length ≤ 100000000000) := ⟨by
              have e := congrArg List.length HE2.out
              rw [List.length_append, List.length_append] at e
              have := HL2.out
              omega⟩
            obtain ⟨W2, hW2⟩ : ∃ W2, W2 = wq.alloc (.cells #[.int .i64 k3, .int .i64 n3, .string t3, .slice na3 nm3.length ncap3, .slice ia3 it3.length icap3] 25) := ⟨_, rfl⟩
            have HB2 : Hold (Below wq.heap.size wq W2) := ⟨by rw [hW2]; exact (Below.refl _ wq).alloc (Nat.le_refl _) _⟩
            have HG3 := Hold.mk (HG2.out.quiet HB2.out)
            have HX := Hold.mk (HIH.out u _ c B bA l2 W2 (HIU.out u (List.mem_of_getElem? hu)) huj (HC0.out.trans (HG1.out.keep.trans HG3.out.keep).cle) HG3.out.ask HL3.out)
            clear x0 x1 x2 x3 x4 hcl hu hue huj hl2 HST2 hle2
            go_wp2_with fail
            rw [← hW2]
            clear hW2
            refine HX.out.mono ?_
            rintro e w4 ⟨rfl, hg4⟩
            have HG4 := Hold.mk (HG3.out.next hg4)
            clear hg4 HX z0 z1 z2 z3 z4
            go_wp2_with fail
            refine ⟨⟨q + 1, by go_num, hlt2, ?_⟩, by simp [intOf]; omega⟩
            rw [HE2.out]
            exact HG4.out
          · obtain rfl : q = it2.length := by omega
            have HEF : Hold (it2.take it2.length = it2) := ⟨List.take_of_length_le (Nat.le_refl _)⟩
            rw [HEF.out] at HG2
            have HGN := Hold.mk (HG1.out.next HG2.out)
            go_wp2_with fail
            refine ⟨⟨j + 1, by go_num, hlt, ?_⟩, by simp [intOf]; omega⟩
            rw [HE1.out, HAK.out]
            exact HGN.out
      · have HIN : Hold (isN s sAnd = false) := ⟨isN_no hand⟩
        have hb : (s.toList == [36, 97, 110, 100]) = false := by simpa using hand
        have HP := Hold.mk (fun w => hasDollar_any s w hsz)
        clear hand
        cases hsg : signF s with
        | true =>
          rw [hsg] at HP
          have HAK : Hold (asksC (asksF d) s v = []) := ⟨by unfold asksC; rw [if_neg (by rw [HIN.out]; simp), if_pos hsg]⟩
          clear hsg
          go_wp2_with fail
          refine (HP.out _).mono ?_
          rintro e w2 ⟨rfl, hw2⟩
          subst hw2
          clear HP y0 y1 y2 y3 y4
          go_wp2_with fail
          refine ⟨⟨j + 1, by go_num, hlt, ?_⟩, by simp [intOf]; omega⟩
          rw [HE1.out, HAK.out, List.append_nil]
          exact HG1.out
        | false =>
          rw [hsg] at HP
          have HAK : Hold (asksC (asksF d) s v = asksV s v) := ⟨by unfold asksC; rw [if_neg (by rw [HIN.out]; simp), if_neg (by rw [hsg]; simp)]⟩
          rw [HAK.out] at HE1 HL1
          obtain ⟨nA, nI, g, hnA, hnI, hag⟩ := HG1.out.ask
          have hL := hag.look s hs1
          have hQ := eqlA (g s) W1
          have HAG := Hold.mk hag
          have HLE := Hold.mk HG1.out.ask.le
          clear hsg hag HIH
          go_wp2_with fail
          refine (HP.out _).mono ?_
          rintro e w2 ⟨rfl, hw2⟩
          subst hw2
          clear HP y0 y1 y2 y3 y4
          go_upto_if 45 with (fail)
          go_cut [] (fun wx => ∃ (nA' : Nat) (g' : ByteArray → Option Nat) (b : Nat), g' s = some b ∧ nA' ≤ l1.length + 1 ∧ AskG c B bA l1 nA' nI g' wx ∧ KeepM w2 wx ∧ Below B w2 wx)
          case first =>
            cases hgs : g s with
            | some b =>
              have HR : Hold (∃ (nA' : Nat) (g' : ByteArray → Option Nat) (b : Nat), g' s = some b ∧ nA' ≤ l1.length + 1 ∧ AskG c B bA l1 nA' nI g' w2 ∧ KeepM w2 w2 ∧ Below B w2 w2) := ⟨nA, g, b, hgs, by omega, HAG.out, KeepM.refl _, Below.refl _ _⟩
              clear hL hQ hgs
              go_wp2_with fail
              go_meet
              case rel => exact HR.out
            | none =>
              obtain ⟨w3, hrun, ha3, hk3, hb3⟩ := HAG.out.make s hs1 hgs (by have := HL1.out; omega) HLE.out
              have HR : Hold (∃ (nA' : Nat) (g' : ByteArray → Option Nat) (b : Nat), g' s = some b ∧ nA' ≤ l1.length + 1 ∧ AskG c B bA l1 nA' nI g' w3 ∧ KeepM w2 w3 ∧ Below B w2 w3) := ⟨nA + 1, _, w2.heap.size, by simp, by omega, ha3, hk3, hb3⟩
              have hmm := @run_makeMap Tryz.prog
              clear hL hQ hgs ha3 hk3 hb3
              go_wp2_with fail
              go_meet
              case rel => exact HR.out
          case rest =>
            clear hL hQ HAG
            obtain ⟨nA', g', b, hgb, hnA', hag, hkm, hbw⟩ := hcut
            generalize wc = wq at *
            have HGB := Hold.mk hgb
            have HA := Hold.mk hag
            have HKM := Hold.mk hkm
            have HGS := Hold.mk (show ∀ (m : List AskP) (wx : World), AskM c B bA m wx → KeepM wq wx → Below B wq wx → GStep c B bA m W0 wx from fun m wx h1 h2 h3 => ⟨h1, HG1.out.keep.trans (hkm.trans h2), HG1.out.bel.trans (hbw.trans h3)⟩)
            clear hgb hag hkm hbw
            have HBQ : Hold (B ≤ wq.heap.size) := ⟨by have := HA.out.all.lt; have := HA.out.lo; omega⟩
            obtain ⟨y0, y1, y2, y3, y4⟩ := cells_five (HKM.out.cells HK1.out)
            have HSN := Hold.mk (fun w' (h : CLe c (cf w')) => strsAnyP_any _ nm2 w' ((HXJ.out.parts HXE.out).1.mono h))
            have HCQ := Hold.mk (HC0.out.trans (HG1.out.keep.trans HKM.out).cle)
            have HTV : Hold (nm2.any signF = testsF v) := ⟨by rw [HXE.out]; rfl⟩
            go_upto_region 14 with (fail)
            go_cut [9] (fun s9 wx => s9 = .bool (testsF v) ∧ Below wq.heap.size wq wx)
            case first =>
              by_cases h6 : k2 = 6
              · subst h6
                go_wp2_with fail
                refine (HSN.out _ HCQ.out).mono ?_
                rw [HTV.out]
                rintro e w3 ⟨rfl, hb3⟩
                have HB3 := Hold.mk hb3
                clear hb3 y0 y1 y2 y3 y4
                go_wp2_with fail
                go_meet
                case rel => exact ⟨rfl, HB3.out⟩
              · have b6 : (k2 == 6) = false := by simpa using h6
                have HTF : Hold (testsF v = false) := ⟨by
                  unfold testsF
                  rw [formed_names HFV.out (by rw [HXE.out]; exact h6)]; rfl⟩
                clear h6
                go_wp2_with fail
                go_meet
                case rel => exact ⟨by rw [HTF.out], Below.refl _ _⟩
            case rest =>
              obtain ⟨rfl, hbq⟩ := hcut
              generalize wc = wx at *
              replace HA := Hold.mk (HA.out.kept hbq)
              replace HKM := Hold.mk (HKM.out.trans (KeepM.below hbq))
              replace HGS := Hold.mk (show ∀ (m : List AskP) (wy : World), AskM c B bA m wy → KeepM wx wy → Below B wx wy → GStep c B bA m W0 wy from fun m wy h1 h2 h3 => HGS.out m wy h1 ((KeepM.below hbq).trans h2) ((hbq.mono HBQ.out).trans h3))
              replace HBQ : Hold (B ≤ wx.heap.size) := ⟨Nat.le_trans HBQ.out hbq.size⟩
              clear hbq y0 y1 y2 y3 y4 HSN HCQ
              obtain ⟨y0, y1, y2, y3, y4⟩ := cells_five (HKM.out.cells HK1.out)
              obtain ⟨_, hbA, _, _, _, hmb, _⟩ := HA.out.inn s b HGB.out
              have HNB := Hold.mk hbA
              have HMB := Hold.mk hmb.block
              clear hbA hmb
              cases ht : testsF v with
              | false =>
                have HAV : Hold (asksV s v = [(s, bEq, v)]) := ⟨by unfold asksV; rw [if_neg (by rw [ht]; simp)]⟩
                have hL := HA.out.look s hs1
                rw [HGB.out] at hL
                have HX := Hold.mk (add_any HA.out s bEq b HGB.out (by decide) (by have := HL1.out; omega) v _ HXJ.out)
                clear ht
                go_wp2_with fail
                refine HX.out.mono ?_
                rintro e w4 ⟨rfl, ha4, hg4⟩
                have HN : Hold (GStep c B bA (l1 ++ [(s, bEq, v)]) W0 w4) := ⟨HGS.out _ _ ⟨nA', nI + 1, g', by simp; omega, by simp; omega, ha4⟩ (HA.out.keepM HGB.out hg4) ((Below.refl _ _).grown hg4 HBQ.out (fun q e => by cases e; exact (HA.out.inn s b HGB.out).1))⟩
                clear ha4 hg4 HX hL y0 y1 y2 y3 y4
                go_wp2_with fail
                refine ⟨⟨j + 1, by go_num, hlt, ?_⟩, by simp [intOf]; omega⟩
                rw [HE1.out, HAV.out]
                exact HN.out
              | true =>
                have HAV : Hold (asksV s v = (nm2.zip it2).map (fun p : ByteArray × JV => (s, p.1, p.2))) := ⟨by unfold asksV; rw [if_pos ht, HXE.out]; rfl⟩
                obtain ⟨na', nc', e, hnl2, hne2⟩ := (HXJ.out.parts HXE.out).1
                cases e
                obtain ⟨ia', icap', e, hil2, hie2⟩ := (HXJ.out.parts HXE.out).2
                cases e
                have HN2 := Hold.mk hne2
                have HI2 := Hold.mk hie2
                obtain ⟨d', hd', hv6⟩ : ∃ d', formedF (d' + 1) (.mk k2 n2 t2 nm2 it2) = true ∧ True := by
                  have h := HFV.out
                  rw [HXE.out] at h
                  cases d with
                  | zero => simp [formedF] at h
                  | succ d => exact ⟨d, h, trivial⟩
                obtain ⟨hnl3, hns3, _⟩ := formed_nm hd'
                have HNS3 := Hold.mk hns3
                have hpos : 0 < nm2.length := Nat.pos_of_ne_zero (fun e => by
                  have e2 := List.length_eq_zero_iff.1 e
                  have e3 := HTV.out
                  rw [e2, ht] at e3
                  simp at e3)
                have HA0 : Hold (AskG c B bA (l1 ++ ((nm2.zip it2).take 0).map (fun p : ByteArray × JV => (s, p.1, p.2))) nA' nI g' wx) := ⟨by simpa using HA.out⟩
                clear ht hne2 hie2 hd' hv6 hns3
                go_wp2_with fail
                clear y0 y1 y2 y3 y4
                go_loopw [67] (fun i wo => ∃ (q nJ : Nat), i = .int .i64 q ∧ q ≤ nm2.length ∧ nJ ≤ l1.length + q ∧ AskG c B bA (l1 ++ ((nm2.zip it2).take q).map (fun p : ByteArray × JV => (s, p.1, p.2))) nA' nJ g' wo ∧ KeepM wx wo ∧ Below B wx wo) (fun i _ => nm2.length - (intOf i).toNat)
                case atStart => exact ⟨0, nI, rfl, Nat.zero_le _, by omega, HA0.out, KeepM.refl _, Below.refl _ _⟩
                case round =>
                  rename World => wo
                  obtain ⟨q, nJ, rfl, hq, hnJ, ha, hk, hb⟩ := hrel
                  have HAO := Hold.mk ha
                  have HKO := Hold.mk hk
                  have HBO := Hold.mk hb
                  clear ha hk hb HA0
                  by_cases hlt2 : q < nm2.length
                  · obtain ⟨r, hr⟩ : ∃ r, nm2[q]? = some r := ⟨nm2[q], List.getElem?_eq_getElem hlt2⟩
                    have hlt3 : q < it2.length := by omega
                    obtain ⟨u, hu⟩ : ∃ u, it2[q]? = some u := ⟨it2[q], List.getElem?_eq_getElem hlt3⟩
                    obtain ⟨hrs, rb, roff, rfl, r0⟩ := HN2.out q r hr
                    obtain ⟨ub, uoff, k3, n3, t3, nm3, it3, na3, ncap3, ia3, icap3, rfl, hue, x0, x1, x2, x3, x4, huj⟩ := HI2.out q u hu
                    have hcl := HC0.out.trans (HG1.out.keep.trans (HKM.out.trans HKO.out)).cle
                    have zr := hcl _ _ _ r0
                    have z0 := hcl _ _ _ x0
                    have z1 := hcl _ _ _ x1
                    have z2 := hcl _ _ _ x2
                    have z3 := hcl _ _ _ x3
                    have z4 := hcl _ _ _ x4
                    unfold cf at zr z0 z1 z2 z3 z4
                    have hr1 := HNS3.out r (List.mem_of_getElem? hr)
                    obtain ⟨y0, y1, y2, y3, y4⟩ := cells_five ((HKM.out.trans HKO.out).cells HK1.out)
                    obtain ⟨l2, hl2⟩ : ∃ l2, l2 = l1 ++ ((nm2.zip it2).take q).map (fun p : ByteArray × JV => (s, p.1, p.2)) := ⟨_, rfl⟩
                    rw [← hl2] at HAO
                    have HE2 : Hold (l1 ++ ((nm2.zip it2).take (q + 1)).map (fun p : ByteArray × JV => (s, p.1, p.2)) = l2 ++ [(s, r, u)]) := ⟨by rw [map_take hr hu, ← List.append_assoc, hl2]⟩
                    have HQL : Hold (nJ ≤ 100000000000) := ⟨by
                      have h1 := HL1.out
                      rw [HAV.out, List.length_map, List.length_zip, Nat.min_eq_left hnl3] at h1
                      omega⟩
                    obtain ⟨_, _, _, _, _, hmo, _⟩ := HAO.out.inn s b HGB.out
                    obtain ⟨es, kk, hes⟩ := hmo.block
                    have g0 := ButT.cell z0 (ne_map hes z0)
                    have g1 := ButT.cell z1 (ne_map hes z1)
                    have g2 := ButT.cell z2 (ne_map hes z2)
                    have g3 := ButT.cell z3 (ne_map hes z3)
                    have g4 := ButT.cell z4 (ne_map hes z4)
                    have g5 := ButT.cell y4 (ne_map hes y4)
                    have HLK : Hold ((Instr.lookup 152 (.map (some bA)) (.string s) false).run Tryz.prog wo.drew = .ok (.map (some b)) wo.drew) := ⟨by
                      have h1 := HAO.out.drew.look s hs1
                      rw [HGB.out] at h1
                      exact h1⟩
                    have HX := Hold.mk (add_any HAO.out.drew s r b HGB.out hr1 HQL.out u _ huj)
                    have HN : Hold (∀ w4, AskG c B bA (l2 ++ [(s, r, u)]) nA' (nJ + 1) g' w4 → wo.drew.grownBy w4 (some b) → AskG c B bA (l1 ++ ((nm2.zip it2).take (q + 1)).map (fun p : ByteArray × JV => (s, p.1, p.2))) nA' (nJ + 1) g' w4 ∧ KeepM wx w4 ∧ Below B wx w4) := ⟨fun w4 h1 h2 => ⟨by rw [HE2.out]; exact h1, HKO.out.trans ((KeepM.below (Below.refl _ wo).drew).trans (HAO.out.drew.keepM HGB.out h2)), HBO.out.trans ((Below.refl _ wo).drew.grown h2 (by have := HBO.out.size; have := HBQ.out; show B ≤ wo.heap.size; omega) (fun q e => by cases e; exact (HAO.out.inn s b HGB.out).1))⟩⟩
                    clear r0 x0 x1 x2 x3 x4 hcl hr hu hue huj hl2 hes hmo z0 z1 z2 z3 z4
                    go_upto_region 20 with (fail)
                    clear y0 y1 y2 y3 y4 zr
                    refine wp_region_mixC (ButTC b wo) 10 rfl (by kernel_rfl) ?_
                    have HDR : Hold (wo.grownBy wo.drew (some b)) := ⟨grown_below (Below.refl _ wo).drew⟩
                    generalize wo.drew = w1 at HX HN HDR HLK ⊢
                    refine mixl_seg (by kernel_rfl) (fun _ _ d _ _ h => by cases d <;> exact h) [0, 1, 3, 4, 5, 6, 7, 8] [_, _, _, _, _, _, _, _] 2 10 rfl _ _ _ rfl (by kernel_rfl) (butTC HDR.out) ?_
                    repeat (go_big_quiet_step (fail))
                    refine wpQuiet_nil ?_
                    clear g0 g1 g2 g3 g4 g5
                    have hL := HLK.out
                    refine mixl_act (i := 2) rfl (by kernel_rfl) (butTC HDR.out) rfl (fun K hK => ?_)
                    go_wp2_with fail
                    clear hL
                    refine mixl_act (i := 9) rfl (by kernel_rfl) (butTC HDR.out) rfl (fun K hK => ?_)
                    go_wp2_with fail
                    refine HX.out.mono ?_
                    rintro e w4 ⟨rfl, ha4, hg4⟩
                    have HG4 := Hold.mk (grown_trans HDR.out hg4)
                    have HN4 := Hold.mk (HN.out w4 ha4 hg4)
                    clear ha4 hg4 HX HN
                    go_wp2_with fail
                    refine mix_done (by kernel_rfl) (butTC HG4.out) ?_
                    go_wp2_with fail
                    exact ⟨⟨q + 1, nJ + 1, by go_num, hlt2, by omega, HN4.out⟩, by simp [intOf]; omega⟩
                  · obtain rfl : q = nm2.length := by omega
                    have HEF : Hold (((nm2.zip it2).take nm2.length).map (fun p : ByteArray × JV => (s, p.1, p.2)) = asksV s v) := ⟨by rw [HAV.out, List.take_of_length_le (by rw [List.length_zip]; omega)]⟩
                    rw [HEF.out] at HAO
                    have HVL : Hold ((asksV s v).length = nm2.length) := ⟨by rw [HAV.out, List.length_map, List.length_zip, Nat.min_eq_left hnl3]⟩
                    have HN : Hold (GStep c B bA (l1 ++ asksV s v) W0 wo) := ⟨HGS.out _ _ ⟨nA', nJ, g', by rw [List.length_append, HVL.out]; omega, by rw [List.length_append, HVL.out]; exact hnJ, HAO.out⟩ HKO.out HBO.out⟩
                    go_wp2_with fail
                    refine ⟨⟨j + 1, by go_num, hlt, ?_⟩, by simp [intOf]; omega⟩
                    rw [HE1.out]
                    exact HN.out
    · obtain rfl : j = nm.length := by omega
      have HE : Hold (((nm.zip it).take nm.length).flatMap F = (nm.zip it).flatMap F) := ⟨by rw [List.take_of_length_le (by rw [List.length_zip]; omega)]⟩
      rw [HE.out] at HG
      go_wp2_with fail
      (go_end0; exact ⟨rfl, HM.out.next HG.out⟩)

end Go.Proofs.YtcmfanfkcbjeoaaGreatDoor
