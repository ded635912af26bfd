/- Answers: a value's row; clones of names and of items; where a name stands in any row of texts. -/
import Derived.Test.YtkhhbckpddkhlaaDoorAE
import Derived.Test.YtkhhbckpddkhlaaDoorALays
import Derived.Test.YtkhhbckpddkhlaaDoorRI
namespace Go.Proofs.YtkhhbckpddkhlaaDoor
open Go.Shelf Go.RowKit

/-- below B the cells of c, from B on those of w -/
def cfV (c : CF) (B : Nat) (w : World) : CF := fun b o => if b < B then c b o else w.cell? ⟨b, o, none⟩
theorem cfU_lt {B : Nat} {w : World} {b o : Nat} {v : Value} (h : cfU B w b o = some v) : b < B ∧ w.cell? ⟨b, o, none⟩ = some v := by
  unfold cfU at h
  split at h
  · exact ⟨by assumption, h⟩
  · cases h
theorem cle_cfV {c : CF} {B : Nat} {w w' : World} (hc : CLe c (cfU B w)) : CLe c (cfV c B w') := fun b o v h => by
  unfold cfV; rw [if_pos (cfU_lt (hc _ _ _ h)).1]; exact h
theorem cfV_cf {c : CF} {B : Nat} {w w' : World} (hc : CLe c (cfU B w)) (hb : Below B w w') : CLe (cfV c B w') (cf w') := fun b o v h => by
  unfold cfV at h
  split at h
  · exact cfU_keep hb _ _ _ (hc _ _ _ h)
  · exact h
theorem cfV_next {c : CF} {B : Nat} {w w' : World} (hb : Below w.heap.size w w') : CLe (cfV c B w) (cfV c B w') := fun b o v h => by
  unfold cfV at h ⊢
  split
  · rename_i hb; rw [if_pos hb] at h; exact h
  · rename_i hb2; rw [if_neg hb2] at h; exact cle_below hb _ _ _ h
theorem cfV_below {c : CF} {B : Nat} {w w' : World} (hc : CLe c (cfU B w)) (hb : Below B w w') : CLe (cfV c B w') (cfU w'.heap.size w') := fun b o v h => by
  have := cfV_cf hc hb _ _ _ h
  unfold cf at this
  unfold cfU
  rw [if_pos (lt_of_cell this)]; exact this
theorem cfV_twice {c : CF} {B : Nat} {w w' : World} (hB : B ≤ w.heap.size) (hb : Below w.heap.size w w') : CLe (cfV (cfV c B w) w.heap.size w') (cfV c B w') := fun b o v h => by
  unfold cfV at h ⊢
  by_cases h1 : b < B
  · rw [if_pos h1]; rw [if_pos (by omega), if_pos h1] at h; exact h
  · rw [if_neg h1]
    by_cases h2 : b < w.heap.size
    · rw [if_pos h2, if_neg h1] at h; exact cle_below hb _ _ _ h
    · rw [if_neg h2] at h; exact h
theorem cfA_cfV {c : CF} {B B' : Nat} {w : World} (h : B ≤ B') : CLe (cfA B' w) (cfV c B w) := fun b o v hv => by
  unfold cfA at hv
  split at hv
  · unfold cfV; rw [if_neg (by omega)]; exact hv
  · cases hv

/-- a value's five cells -/
def RV : Rep JV := fun c v d => d.length = 5 ∧ (∀ u ∈ d, u.oneCell' = true) ∧ JAt c v (.agg d.toArray)
theorem RV_mono : Mono RV := fun _ _ _ _ hc ⟨h1, h2, h3⟩ => ⟨h1, h2, h3.mono hc⟩
theorem RV_one : ∀ (c : CF) (x : JV) (d : List Value), RV c x d → ∀ u ∈ d, u.oneCell' = true := fun _ _ _ h => h.2.1
theorem RV.of {c : CF} {v : JV} {x : Value} (h : JAt c v x) : ∃ k n t na nl nc ia il ic, x = .agg #[.int .i64 k, .int .i64 n, .string t, .slice na nl nc, .slice ia il ic] ∧ RV c v [.int .i64 k, .int .i64 n, .string t, .slice na nl nc, .slice ia il ic] := by
  have h2 := h
  obtain ⟨k, n, t, nm, it, na, ncap, ia, icap, _, rfl, _⟩ := h2.open
  exact ⟨k, n, t, na, nm.length, ncap, ia, it.length, icap, rfl, rfl, by simp [Value.oneCell'], h⟩
theorem addr_addA (b off k : Nat) : (⟨b, off, none⟩ : Addr).add k = ⟨b, off + k, none⟩ := by unfold Addr.add; split <;> simp_all
theorem strs_cells {c : CF} {nv : Value} {nm : List ByteArray} (h : StrsAt c nv nm) (h0 : 0 < nm.length) : ∃ b off cap news, nv = .slice (some ⟨b, off, none⟩) nm.length cap ∧ news = nm.map Value.string ∧ news.length = nm.length * 1 ∧ (∀ (j : Nat) u, news[j]? = some u → c b (off + j) = some u) ∧ ∀ u ∈ news, u.oneCell' = true := by
  obtain ⟨a, cap, rfl, hlen, hel⟩ := h
  obtain ⟨_, b, off, rfl, _⟩ := hel 0 nm[0] (List.getElem?_eq_getElem h0)
  refine ⟨b, off, cap, _, rfl, rfl, by simp, fun j u hj => ?_, fun u hu => ?_⟩
  · rw [List.getElem?_map, Option.map_eq_some_iff] at hj
    obtain ⟨s, hs, rfl⟩ := hj
    obtain ⟨_, b2, off2, e, hc⟩ := hel j s hs
    cases e
    exact hc
  · obtain ⟨s, _, rfl⟩ := List.mem_map.1 hu
    rfl
theorem items_cells {c : CF} {iv : Value} {it : List JV} (h : ItemsAt c iv it) (h0 : 0 < it.length) : ∃ b off cap news, iv = .slice (some ⟨b, off, none⟩) it.length cap ∧ GRow 5 RV c it news ∧ news.length = it.length * 5 ∧ (∀ (j : Nat) u, news[j]? = some u → c b (off + j) = some u) ∧ ∀ u ∈ news, u.oneCell' = true := by
  obtain ⟨a, cap, rfl, hlen, hel⟩ := h
  obtain ⟨b, off, _, _, _, _, _, _, _, _, _, rfl, _⟩ := hel 0 it[0] (List.getElem?_eq_getElem h0)
  have H : ∀ j, j ≤ it.length → ∃ news, GRow 5 RV c (it.take j) news ∧ (∀ (t : Nat) u, news[t]? = some u → c b (off + t) = some u) ∧ ∀ u ∈ news, u.oneCell' = true := by
    intro j
    induction j with
    | zero => exact fun _ => ⟨[], by rw [List.take_zero]; exact GRow.nil _ _ _, fun t u h => by simp at h, fun u h => by simp at h⟩
    | succ j ih =>
      intro hj
      obtain ⟨news, h1, h2, h3⟩ := ih (by omega)
      obtain ⟨b2, off2, k, n, t, nm2, it2, na, ncap, ia, icap, e, hx, c0, c1, c2, c3, c4, hj2⟩ := hel j it[j] (List.getElem?_eq_getElem (by omega))
      cases e
      have hnl : news.length = j * 5 := by rw [h1.1, List.length_take, Nat.min_eq_left (by omega)]
      refine ⟨news ++ [.int .i64 k, .int .i64 n, .string t, .slice na nm2.length ncap, .slice ia it2.length icap], ?_, ?_, ?_⟩
      · rw [take_nextW (List.getElem?_eq_getElem (by omega))]
        exact h1.snoc rfl ⟨rfl, by simp [Value.oneCell'], hj2⟩
      · intro t' u hu
        rcases Nat.lt_or_ge t' (j * 5) with hlt | hge
        · rw [List.getElem?_append_left (by omega)] at hu; exact h2 t' u hu
        · rw [List.getElem?_append_right (by omega), hnl] at hu
          have : t' - j * 5 < 5 := by have := (List.getElem?_eq_some_iff.1 hu).1; simpa using this
          match hd : t' - j * 5, this, hu with
          | 0, _, hu => cases hu; rw [show off + t' = off + j * 5 by omega]; exact c0
          | 1, _, hu => cases hu; rw [show off + t' = off + j * 5 + 1 by omega]; exact c1
          | 2, _, hu => cases hu; rw [show off + t' = off + j * 5 + 2 by omega]; exact c2
          | 3, _, hu => cases hu; rw [show off + t' = off + j * 5 + 3 by omega]; exact c3
          | 4, _, hu => cases hu; rw [show off + t' = off + j * 5 + 4 by omega]; exact c4
      · intro u hu
        rcases List.mem_append.1 hu with h | h
        · exact h3 u h
        · simp at h; rcases h with rfl | rfl | rfl | rfl | rfl <;> rfl
  obtain ⟨news, h1, h2, h3⟩ := H it.length (Nat.le_refl _)
  rw [List.take_of_length_le (Nat.le_refl _)] at h1
  exact ⟨b, off, cap, news, rfl, h1, h1.1, h2, h3⟩
/-- an own row's cells, as a slice of values -/
theorem items_row {c d : CF} {B : Nat} {w : World} {T : TypeId} {iv : Value} {it : List JV} {cs : List Value} {p : Nat} (h : w.ownsRow B T 5 iv p cs) (hp : it.length = p) (hr : GRow 5 RV c it cs) (hc : CLe c d) (hw : CLe (cfA B w) d) (hl : it.length ≤ 1000000) : ItemsAt d iv it := by
  subst hp
  rcases id h.2 with ⟨hv, hn⟩ | ⟨g, cap, cur, hv, hb, hg, hle, hcap, hs, ht⟩
  · obtain rfl : it = [] := List.length_eq_zero_iff.1 hn
    subst hv
    exact ⟨none, 0, rfl, by decide, fun i x h => by simp at h⟩
  · refine ⟨some ⟨g, 0, none⟩, cap, hv, by omega, fun i x hx => ?_⟩
    obtain ⟨e, h1, h2, h3, h4, h5⟩ := hr.2 i x hx
    obtain ⟨k, n, t, na, nl, nc, ia, il, ic, e2, h6⟩ := RV.of h5
    have e3 : e = [.int .i64 k, .int .i64 n, .string t, .slice na nl nc, .slice ia il ic] := by
      have := congrArg Array.toList (Value.agg.inj e2)
      simpa using this
    subst e3
    have hx5 := h5
    obtain ⟨k2, n2, t2, nm2, it2, na2, ncap2, ia2, icap2, hxe, e4, _⟩ := hx5.open
    simp only [Value.agg.injEq, Array.mk.injEq, List.cons.injEq, Value.int.injEq, Value.string.injEq, Value.slice.injEq, and_true, true_and] at e4
    obtain ⟨rfl, rfl, rfl, ⟨rfl, rfl, rfl⟩, rfl, rfl, rfl⟩ := e4
    have hcell : ∀ (j : Nat) u, [Value.int .i64 k, .int .i64 n, .string t, .slice na nm2.length nc, .slice ia it2.length ic][j]? = some u → d g (0 + i * 5 + j) = some u := fun j u hu => by
      have hcs := h2 j u hu
      have := h.cells (g := g) (by rw [hv]; rfl) (i * 5 + j) u hcs
      rw [addr_at] at this
      refine hw _ _ _ ?_
      unfold cfA
      rw [if_pos hb, Nat.zero_add]; exact this
    exact ⟨g, 0, k, n, t, nm2, it2, na, nc, ia, ic, rfl, hxe, by simpa using hcell 0 _ rfl, hcell 1 _ rfl, hcell 2 _ rfl, hcell 3 _ rfl, hcell 4 _ rfl, h5.mono hc⟩
/-- a row that a clone made -/
def CloneC (T : TypeId) (n : Nat) (cs : List Value) (p : Nat) (w : World) (e : Ending) (w' : World) : Prop := ∃ sv, e = .returned sv ∧ w'.ownsRow w.heap.size T n sv p cs ∧ Below w.heap.size w w'
def CloneI (c : CF) (it : List JV) (w : World) (e : Ending) (w' : World) : Prop := ∃ cs, GRow 5 RV c it cs ∧ CloneC 25 5 cs it.length w e w'

set_option maxRecDepth 100000 in
set_option maxHeartbeats 8000000 in
theorem cloneN_any (nm : List ByteArray) (nv : Value) (w : World) (hl : StrsAt (cf w) nv nm) (hlen : nm.length ≤ 1000000) :
    Calls Tryd.prog 59 #[nv] w (CloneC 9 1 (nm.map .string) nm.length w) := by
  obtain ⟨i0, hi, hz0, hz1, hz2⟩ := info_parts infoStr
  have HI := Hold.mk (And.intro hi (And.intro hz0 (And.intro hz1 hz2)))
  have q22 : ∀ (w : World) (a : Option Addr) (n c n' c' : Nat), (binOp .eql 22 (.slice a n c) (.slice none n' c')).run Tryd.prog w = .ok (.bool a.isNone) w := fun w a n c n' c' => Lib.run_eql_slice_nil w _ _ a n c n' c' Tryd.underlying22
  clear hi hz0 hz1 hz2
  by_cases h0 : 0 < nm.length
  · obtain ⟨b, off, cap, news, rfl, hg, hgl, hc, ho⟩ := strs_cells hl h0
    have HG := Hold.mk hg
    have HGL := Hold.mk hgl
    have HC := Hold.mk hc
    have H1 := Hold.mk ho
    clear hg hgl hc ho hl
    go_enter Tryd.func59, Tryd.ntmps59
    go_wp2_with (at_builtin; refine wpList_append_own _ rfl _ _ 22 rfl w.heap.size 9 i0 (.string ⟨#[]⟩) 1 16 Tryd.underlying22 HI.out.1 HI.out.2.1 HI.out.2.2.1 HI.out.2.2.2 rfl (by decide) _ _ _ rfl (World.ownsRow_made w #[] 0 (Nat.le_refl _) (Nat.zero_le _) (by simp)) ⟨b, off, none⟩ nm.length cap news rfl ?qc1 ?qc2 ?qc3 ?qc4 ?qc5 ?qc6 ?_)
    case qc1 => exact HGL.out
    case qc2 =>
      intro j u hj
      rw [addr_addA]
      have := HC.out j u hj
      unfold cf at this
      exact Lib.cell?_alloc_some _ this
    case qc3 => exact H1.out
    case qc4 => unfold maxLen; omega
    case qc5 => omega
    case qc6 => simp
    intro v' w1 hown hgrow hnil
    have hb := ((Below.refl _ w).alloc (Nat.le_refl _) (.cells #[] 9)).grown hgrow (by simp) (by intro k hk; simp [Value.ownBlock] at hk; omega)
    have HP : Hold (CloneC 9 1 (nm.map .string) nm.length w (.returned v') w1) := ⟨v', rfl, by simpa [HG.out] using hown, hb⟩
    clear hown hgrow hb
    go_wp2_with fail
    go_ret
    exact HP.out
  · obtain rfl : nm = [] := List.length_eq_zero_iff.1 (by omega)
    obtain ⟨a, cap, rfl, hle, _⟩ := hl
    have HP0 : Hold (CloneC 9 1 (([] : List ByteArray).map .string) 0 w (.returned (.slice none 0 0)) w) := ⟨_, rfl, World.ownsRow_nil _ _ _ _, Below.refl _ _⟩
    cases a with
    | none =>
      go_enter Tryd.func59, Tryd.ntmps59
      go_wp2_with fail
      go_ret
      exact HP0.out
    | some a =>
      go_enter Tryd.func59, Tryd.ntmps59
      go_wp2_with (at_builtin; refine wpList_append_own _ rfl _ _ 22 rfl w.heap.size 9 i0 (.string ⟨#[]⟩) 1 16 Tryd.underlying22 HI.out.1 HI.out.2.1 HI.out.2.2.1 HI.out.2.2.2 rfl (by decide) _ _ _ rfl (World.ownsRow_made w #[] 0 (Nat.le_refl _) (Nat.zero_le _) (by simp)) a 0 cap [] rfl ?qc1 ?qc2 ?qc3 ?qc4 ?qc5 ?qc6 ?_)
      case qc1 => rfl
      case qc2 => intro j u hj; simp at hj
      case qc3 => intro u hu; simp at hu
      case qc4 => unfold maxLen; omega
      case qc5 => omega
      case qc6 => simp
      intro v' w1 hown hgrow hnil
      have hb := ((Below.refl _ w).alloc (Nat.le_refl _) (.cells #[] 9)).grown hgrow (by simp) (by intro k hk; simp [Value.ownBlock] at hk; omega)
      have HP : Hold (CloneC 9 1 (([] : List ByteArray).map .string) 0 w (.returned v') w1) := ⟨v', rfl, by simpa using hown, hb⟩
      clear hown hgrow hb
      go_wp2_with fail
      go_ret
      exact HP.out

set_option maxRecDepth 100000 in
set_option maxHeartbeats 8000000 in
theorem cloneI_any (c : CF) (it : List JV) (iv : Value) (w : World) (hcw : CLe c (cf w)) (hl : ItemsAt c iv it) (hlen : it.length ≤ 1000000) :
    Calls Tryd.prog 60 #[iv] w (CloneI c it w) := by
  obtain ⟨i0, hi, hz0, hz1, hz2⟩ := info_parts infoVal
  have HI := Hold.mk (And.intro hi (And.intro hz0 (And.intro hz1 hz2)))
  have q22 : ∀ (w : World) (a : Option Addr) (n c n' c' : Nat), (binOp .eql 23 (.slice a n c) (.slice none n' c')).run Tryd.prog w = .ok (.bool a.isNone) w := fun w a n c n' c' => Lib.run_eql_slice_nil w _ _ a n c n' c' Tryd.underlying23
  clear hi hz0 hz1 hz2
  by_cases h0 : 0 < it.length
  · obtain ⟨b, off, cap, news, rfl, hg, hgl, hc, ho⟩ := items_cells hl h0
    have HG := Hold.mk hg
    have HGL := Hold.mk hgl
    have HC := Hold.mk hc
    have H1 := Hold.mk ho
    clear hg hgl hc ho hl
    go_enter Tryd.func60, Tryd.ntmps60
    go_wp2_with (at_builtin; refine wpList_append_own _ rfl _ _ 23 rfl w.heap.size 25 i0 (.agg #[.int .i64 0, .int .i64 0, .string ⟨#[]⟩, .slice none 0 0, .slice none 0 0]) 5 80 Tryd.underlying23 HI.out.1 HI.out.2.1 HI.out.2.2.1 HI.out.2.2.2 rfl (by decide) _ _ _ rfl (World.ownsRow_made w #[] 0 (Nat.le_refl _) (Nat.zero_le _) (by simp)) ⟨b, off, none⟩ it.length cap news rfl ?qc1 ?qc2 ?qc3 ?qc4 ?qc5 ?qc6 ?_)
    case qc1 => exact HGL.out
    case qc2 =>
      intro j u hj
      rw [addr_addA]
      have := hcw _ _ _ (HC.out j u hj)
      unfold cf at this
      exact Lib.cell?_alloc_some _ this
    case qc3 => exact H1.out
    case qc4 => unfold maxLen; omega
    case qc5 => omega
    case qc6 => simp
    intro v' w1 hown hgrow hnil
    have hb := ((Below.refl _ w).alloc (Nat.le_refl _) (.cells #[] 25)).grown hgrow (by simp) (by intro k hk; simp [Value.ownBlock] at hk; omega)
    have HP : Hold (CloneI c it w (.returned v') w1) := ⟨news, HG.out, v', rfl, by simpa using hown, hb⟩
    clear hown hgrow hb
    go_wp2_with fail
    go_ret
    exact HP.out
  · obtain rfl : it = [] := List.length_eq_zero_iff.1 (by omega)
    obtain ⟨a, cap, rfl, hle, _⟩ := hl
    have HP0 : Hold (CloneI c [] w (.returned (.slice none 0 0)) w) := ⟨[], GRow.nil _ _ _, _, rfl, World.ownsRow_nil _ _ _ _, Below.refl _ _⟩
    cases a with
    | none =>
      go_enter Tryd.func60, Tryd.ntmps60
      go_wp2_with fail
      go_ret
      exact HP0.out
    | some a =>
      go_enter Tryd.func60, Tryd.ntmps60
      go_wp2_with (at_builtin; refine wpList_append_own _ rfl _ _ 23 rfl w.heap.size 25 i0 (.agg #[.int .i64 0, .int .i64 0, .string ⟨#[]⟩, .slice none 0 0, .slice none 0 0]) 5 80 Tryd.underlying23 HI.out.1 HI.out.2.1 HI.out.2.2.1 HI.out.2.2.2 rfl (by decide) _ _ _ rfl (World.ownsRow_made w #[] 0 (Nat.le_refl _) (Nat.zero_le _) (by simp)) a 0 cap [] rfl ?qc1 ?qc2 ?qc3 ?qc4 ?qc5 ?qc6 ?_)
      case qc1 => rfl
      case qc2 => intro j u hj; simp at hj
      case qc3 => intro u hu; simp at hu
      case qc4 => unfold maxLen; omega
      case qc5 => omega
      case qc6 => simp
      intro v' w1 hown hgrow hnil
      have hb := ((Below.refl _ w).alloc (Nat.le_refl _) (.cells #[] 25)).grown hgrow (by simp) (by intro k hk; simp [Value.ownBlock] at hk; omega)
      have HP : Hold (CloneI c [] w (.returned v') w1) := ⟨[], GRow.nil _ _ _, v', rfl, by simpa using hown, hb⟩
      clear hown hgrow hb
      go_wp2_with fail
      go_ret
      exact HP.out

theorem binS_any {w : World} {nv : Value} {nm : List ByteArray} (h : StrsAt (cf w) nv nm) (hu : upN nm) (hl : nm.length ≤ 1000000) (t : ByteArray) :
    Calls Tryd.prog 58 #[nv, .string t] w fun e w' => e = .returned (.tuple #[.int .i64 (placeN nm t : Nat), .bool (hasN nm t)]) ∧ Below w.heap.size w w' := by
  by_cases h0 : 0 < nm.length
  · obtain ⟨g, off, cap, news, rfl, hn, _, hcc, _⟩ := strs_cells h h0
    obtain ⟨Sx, hSx⟩ : ∃ Sx : Nat → ByteArray, ∀ j, Sx j = (nm[j]?).getD t := ⟨_, fun _ => rfl⟩
    have hS : ∀ (j : Nat) x, nm[j]? = some x → Sx j = x := fun j x hx => by rw [hSx, hx]; rfl
    have hc : ∀ j, j < nm.length → w.cell? ⟨g, off + j, none⟩ = some (.string (Sx j)) := fun j hj => by
      have e : (nm.map Value.string)[j]? = some (.string (Sx j)) := by
        rw [List.getElem?_map, List.getElem?_eq_getElem hj, hS j _ (List.getElem?_eq_getElem hj)]; rfl
      rw [← hn] at e
      exact hcc j _ e
    have hk := Lib.bsGo_spec (fun u => Op.bytesLess (Sx u).toList t.toList) (placeN nm t)
      (fun u hu1 => by
        have hlt : u < nm.length := Nat.lt_of_lt_of_le hu1 (placeN_le nm t)
        have := placeN_lt hu1 (List.getElem?_eq_getElem hlt)
        rw [← hS u _ (List.getElem?_eq_getElem hlt)] at this
        exact this)
      (fun u hu1 => by
        rcases Nat.lt_or_ge u nm.length with hlt | hge
        · have := placeN_ge hu hu1 (List.getElem?_eq_getElem hlt)
          rw [← hS u _ (List.getElem?_eq_getElem hlt)] at this
          exact this
        · have : Sx u = t := by rw [hSx, List.getElem?_eq_none hge]; rfl
          rw [this]; exact strLt_irrefl t)
      nm.length 0 nm.length (by omega) (Nat.zero_le _) (placeN_le nm t)
    refine (Any2.slices_BinarySearch_string Tryd.laysBinA g off nm.length cap Sx t w (by omega) hc).mono ?_
    rintro e w' ⟨rfl, q, rfl⟩
    rw [hk]
    refine ⟨?_, ⟨rfl, rfl, rfl, Nat.le_refl _, fun _ _ => rfl⟩⟩
    have hd : decide (placeN nm t < nm.length ∧ Sx (placeN nm t) = t) = hasN nm t := by
      have e1 : (placeN nm t < nm.length ∧ Sx (placeN nm t) = t) ↔ hasN nm t = true := by
        rw [hasN_iff, placeN_mem hu]
        constructor
        · rintro ⟨a, b⟩
          rw [List.getElem?_eq_getElem a, ← hS _ _ (List.getElem?_eq_getElem a), b]
        · intro a
          exact ⟨(List.getElem?_eq_some_iff.1 a).1, hS _ _ a⟩
      cases hh : hasN nm t with
      | true => exact decide_eq_true (e1.2 hh)
      | false => exact decide_eq_false (fun c => by rw [e1.1 c] at hh; cases hh)
    rw [hd]
  · obtain rfl : nm = [] := List.length_eq_zero_iff.1 (by omega)
    obtain ⟨a, cap, rfl, _⟩ := h
    exact (Any2.slices_BinarySearch_string_empty Tryd.laysBinA a cap t w).mono fun e w' ⟨he, hw⟩ => by subst hw; exact ⟨he, Below.refl _ _⟩

end Go.Proofs.YtkhhbckpddkhlaaDoor
