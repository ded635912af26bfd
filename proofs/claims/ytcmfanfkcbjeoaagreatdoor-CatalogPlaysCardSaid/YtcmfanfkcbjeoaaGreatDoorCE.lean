/- Catalogs: clones of placed indexes and of fields (printed by genXCE.py). -/
import Derived.Test.YtcmfanfkcbjeoaaGreatDoorCD
namespace Go.Proofs.YtcmfanfkcbjeoaaGreatDoor
open Go.Shelf Go.RowKit

/-- a field's two cells -/
def RFd : Rep Fd := fun _ x d => d = [.string x.1, .bool x.2] ∧ x.1.size ≤ 9223372036854775807
theorem RFd_mono : Mono RFd := fun _ _ _ _ _ h => h
theorem RFd_one : ∀ (c : CF) (x : Fd) (d : List Value), RFd c x d → ∀ u ∈ d, u.oneCell' = true := fun _ _ _ h u hu => by rw [h.1] at hu; simp at hu; rcases hu with rfl | rfl <;> rfl
theorem RPX_one : ∀ (c : CF) (x : PX) (d : List Value), RPX c x d → ∀ u ∈ d, u.oneCell' = true := fun _ _ _ h u hu => by
  obtain ⟨a, cap, e, _⟩ := h
  rw [e] at hu; simp at hu; rcases hu with rfl | rfl | rfl | rfl <;> rfl
theorem RCX_one : ∀ (c : CF) (x : CX) (d : List Value), RCX c x d → ∀ u ∈ d, u.oneCell' = true := fun _ _ _ h u hu => by
  obtain ⟨a, cap, e, _⟩ := h
  rw [e] at hu; simp at hu; rcases hu with rfl | rfl | rfl <;> rfl
theorem fieldsAt_sat {c : CF} {v : Value} {l : List Fd} (h : FieldsAt c v l) : SAt 2 RFd c v l := by
  obtain ⟨a, cap, rfl, h1, h2, h3⟩ := h
  refine ⟨a, cap, rfl, h1, h2, fun i x hx => ?_⟩
  obtain ⟨hs, b, off, e, c0, c1⟩ := h3 i x hx
  refine ⟨b, off, _, e, rfl, fun j u hu => ?_, rfl, hs⟩
  match j, hu with
  | 0, hu => cases hu; exact c0
  | 1, hu => cases hu; exact c1
  | j + 2, hu => simp at hu
theorem sat_fieldsAt {c : CF} {v : Value} {l : List Fd} (h : SAt 2 RFd c v l) : FieldsAt c v l := by
  obtain ⟨a, cap, rfl, h1, h2, h3⟩ := h
  refine ⟨a, cap, rfl, h1, h2, fun i x hx => ?_⟩
  obtain ⟨b, off, d, e, hd, hc, rfl, hs⟩ := h3 i x hx
  exact ⟨hs, b, off, e, hc 0 _ rfl, hc 1 _ rfl⟩
/-- what a clone hands back: a row of its own, whose elements lie in memory c as the ones that came in -/
def ClonePost {α : Type} (n : Nat) (R : Rep α) (T : TypeId) (c : CF) (xs : List α) (w : World) (e : Ending) (w' : World) : Prop := ∃ sv cs, e = .returned sv ∧ w'.ownsRow w.heap.size T n sv xs.length cs ∧ GRow n R c xs cs ∧ Below w.heap.size w w'
theorem clone_post {α : Type} {n : Nat} {R : Rep α} {T : TypeId} {c : CF} {xs : List α} {w w' : World} {sv : Value} {cs : List Value} (hown : w'.ownsRow w.heap.size T n sv xs.length cs) (hg : GRow n R c xs cs) (hb : Below w.heap.size w w') : ClonePost n R T c xs w (.returned sv) w' :=
  ⟨sv, cs, rfl, hown, hg, hb⟩

theorem infoPX : (Tryz.prog.info? 102).map (fun i => (i.zero, i.size, i.bytes)) = some (some (.agg #[.string ⟨#[]⟩, .slice none 0 0, .bool false, .int .i64 0]), 4, 56) := by kernel_rfl
set_option maxRecDepth 100000 in
set_option maxHeartbeats 8000000 in
theorem clonePX_any (xs : List PX) (sv : Value) (c : CF) (w : World) (hcl : CLe c (cf w)) (hl : SAt 4 RPX c sv xs) (hlen : xs.length ≤ 1000000) :
    Calls Tryz.prog 115 #[sv] w (ClonePost 4 RPX 102 c xs w) := by
  obtain ⟨i0, hi, hz0, hz1, hz2⟩ := info_parts infoPX
  have HI := Hold.mk (And.intro hi (And.intro hz0 (And.intro hz1 hz2)))
  have HLEN := Hold.mk hlen
  have q22 : ∀ (w : World) (a : Option Addr) (n c n' c' : Nat), (binOp .eql 78 (.slice a n c) (.slice none n' c')).run Tryz.prog w = .ok (.bool a.isNone) w := fun w a n c n' c' => Lib.run_eql_slice_nil w _ _ a n c n' c' Tryz.underlying78
  clear hi hz0 hz1 hz2 hlen
  by_cases h0 : 0 < xs.length
  · obtain ⟨b, off, cap, news, rfl, hg, hc, ho⟩ := sat_cells RPX_one hl h0
    have HG := Hold.mk hg
    have HGL := Hold.mk hg.1
    have HC : Hold (∀ (j : Nat) u, news[j]? = some u → (w.alloc (.cells #[] 102)).cell? (Addr.add ⟨b, off, none⟩ j) = some u) := ⟨fun j u hu => by
      have h := hcl _ _ _ (hc j u hu)
      unfold cf at h
      have e : Addr.add ⟨b, off, none⟩ j = ⟨b, off + j, none⟩ := by unfold Addr.add; split <;> simp_all
      rw [e]; exact Lib.cell?_alloc_some _ h⟩
    have H1 := Hold.mk ho
    clear hg hc ho hl
    go_enter Tryz.func115, Tryz.ntmps115
    go_wp2_with (at_builtin; refine wpList_append_own _ rfl _ _ 78 rfl w.heap.size 102 i0 (.agg #[.string ⟨#[]⟩, .slice none 0 0, .bool false, .int .i64 0]) 4 56 Tryz.underlying78 HI.out.1 HI.out.2.1 HI.out.2.2.1 HI.out.2.2.2 rfl (by decide) _ _ _ rfl (World.ownsRow_made w #[] 0 (Nat.le_refl _) (Nat.zero_le _) (by simp)) ⟨b, off, none⟩ xs.length cap news rfl ?qc1 ?qc2 ?qc3 ?qc4 ?qc5 ?qc6 ?_)
    case qc1 => exact HGL.out
    case qc2 => exact HC.out
    case qc3 => exact H1.out
    case qc4 => have := HLEN.out; unfold maxLen; omega
    case qc5 => have := HLEN.out; omega
    case qc6 => simp
    intro v' w1 hown hgrow hnil
    have hb := ((Below.refl _ w).alloc (Nat.le_refl _) (.cells #[] 102)).grown hgrow (by simp) (by intro k hk; simp [Value.ownBlock] at hk; omega)
    have HP : Hold (ClonePost 4 RPX 102 c xs w (.returned v') w1) := ⟨clone_post (by simpa using hown) HG.out hb⟩
    clear hown hgrow hb
    go_wp2_with fail
    go_ret
    exact HP.out
  · obtain rfl : xs = [] := List.length_eq_zero_iff.1 (by omega)
    obtain ⟨a, cap, rfl, hle, _⟩ := hl
    have HP0 : Hold (ClonePost 4 RPX 102 c ([] : List PX) w (.returned (.slice none 0 0)) w) := ⟨clone_post (World.ownsRow_nil _ _ _ _) (GRow.nil _ _ _) (Below.refl _ _)⟩
    cases a with
    | none =>
      go_enter Tryz.func115, Tryz.ntmps115
      go_wp2_with fail
      go_ret
      exact HP0.out
    | some a =>
      go_enter Tryz.func115, Tryz.ntmps115
      go_wp2_with (at_builtin; refine wpList_append_own _ rfl _ _ 78 rfl w.heap.size 102 i0 (.agg #[.string ⟨#[]⟩, .slice none 0 0, .bool false, .int .i64 0]) 4 56 Tryz.underlying78 HI.out.1 HI.out.2.1 HI.out.2.2.1 HI.out.2.2.2 rfl (by decide) _ _ _ rfl (World.ownsRow_made w #[] 0 (Nat.le_refl _) (Nat.zero_le _) (by simp)) a 0 cap [] rfl ?qc1 ?qc2 ?qc3 ?qc4 ?qc5 ?qc6 ?_)
      case qc1 => rfl
      case qc2 => intro j u hj; simp at hj
      case qc3 => intro u hu; simp at hu
      case qc4 => unfold maxLen; omega
      case qc5 => omega
      case qc6 => simp
      intro v' w1 hown hgrow hnil
      have hb := ((Below.refl _ w).alloc (Nat.le_refl _) (.cells #[] 102)).grown hgrow (by simp) (by intro k hk; simp [Value.ownBlock] at hk; omega)
      have HP : Hold (ClonePost 4 RPX 102 c ([] : List PX) w (.returned v') w1) := ⟨clone_post (by simpa using hown) (GRow.nil _ _ _) hb⟩
      clear hown hgrow hb
      go_wp2_with fail
      go_ret
      exact HP.out

theorem infoFdc : (Tryz.prog.info? 100).map (fun i => (i.zero, i.size, i.bytes)) = some (some (.agg #[.string ⟨#[]⟩, .bool false]), 2, 24) := by kernel_rfl
set_option maxRecDepth 100000 in
set_option maxHeartbeats 8000000 in
theorem cloneFd_any (xs : List Fd) (sv : Value) (c : CF) (w : World) (hcl : CLe c (cf w)) (hl : SAt 2 RFd c sv xs) (hlen : xs.length ≤ 1000000) :
    Calls Tryz.prog 77 #[sv] w (ClonePost 2 RFd 100 c xs w) := by
  obtain ⟨i0, hi, hz0, hz1, hz2⟩ := info_parts infoFdc
  have HI := Hold.mk (And.intro hi (And.intro hz0 (And.intro hz1 hz2)))
  have HLEN := Hold.mk hlen
  have q22 : ∀ (w : World) (a : Option Addr) (n c n' c' : Nat), (binOp .eql 42 (.slice a n c) (.slice none n' c')).run Tryz.prog w = .ok (.bool a.isNone) w := fun w a n c n' c' => Lib.run_eql_slice_nil w _ _ a n c n' c' Tryz.underlying42
  clear hi hz0 hz1 hz2 hlen
  by_cases h0 : 0 < xs.length
  · obtain ⟨b, off, cap, news, rfl, hg, hc, ho⟩ := sat_cells RFd_one hl h0
    have HG := Hold.mk hg
    have HGL := Hold.mk hg.1
    have HC : Hold (∀ (j : Nat) u, news[j]? = some u → (w.alloc (.cells #[] 100)).cell? (Addr.add ⟨b, off, none⟩ j) = some u) := ⟨fun j u hu => by
      have h := hcl _ _ _ (hc j u hu)
      unfold cf at h
      have e : Addr.add ⟨b, off, none⟩ j = ⟨b, off + j, none⟩ := by unfold Addr.add; split <;> simp_all
      rw [e]; exact Lib.cell?_alloc_some _ h⟩
    have H1 := Hold.mk ho
    clear hg hc ho hl
    go_enter Tryz.func77, Tryz.ntmps77
    go_wp2_with (at_builtin; refine wpList_append_own _ rfl _ _ 42 rfl w.heap.size 100 i0 (.agg #[.string ⟨#[]⟩, .bool false]) 2 24 Tryz.underlying42 HI.out.1 HI.out.2.1 HI.out.2.2.1 HI.out.2.2.2 rfl (by decide) _ _ _ rfl (World.ownsRow_made w #[] 0 (Nat.le_refl _) (Nat.zero_le _) (by simp)) ⟨b, off, none⟩ xs.length cap news rfl ?qc1 ?qc2 ?qc3 ?qc4 ?qc5 ?qc6 ?_)
    case qc1 => exact HGL.out
    case qc2 => exact HC.out
    case qc3 => exact H1.out
    case qc4 => have := HLEN.out; unfold maxLen; omega
    case qc5 => have := HLEN.out; omega
    case qc6 => simp
    intro v' w1 hown hgrow hnil
    have hb := ((Below.refl _ w).alloc (Nat.le_refl _) (.cells #[] 100)).grown hgrow (by simp) (by intro k hk; simp [Value.ownBlock] at hk; omega)
    have HP : Hold (ClonePost 2 RFd 100 c xs w (.returned v') w1) := ⟨clone_post (by simpa using hown) HG.out hb⟩
    clear hown hgrow hb
    go_wp2_with fail
    go_ret
    exact HP.out
  · obtain rfl : xs = [] := List.length_eq_zero_iff.1 (by omega)
    obtain ⟨a, cap, rfl, hle, _⟩ := hl
    have HP0 : Hold (ClonePost 2 RFd 100 c ([] : List Fd) w (.returned (.slice none 0 0)) w) := ⟨clone_post (World.ownsRow_nil _ _ _ _) (GRow.nil _ _ _) (Below.refl _ _)⟩
    cases a with
    | none =>
      go_enter Tryz.func77, Tryz.ntmps77
      go_wp2_with fail
      go_ret
      exact HP0.out
    | some a =>
      go_enter Tryz.func77, Tryz.ntmps77
      go_wp2_with (at_builtin; refine wpList_append_own _ rfl _ _ 42 rfl w.heap.size 100 i0 (.agg #[.string ⟨#[]⟩, .bool false]) 2 24 Tryz.underlying42 HI.out.1 HI.out.2.1 HI.out.2.2.1 HI.out.2.2.2 rfl (by decide) _ _ _ rfl (World.ownsRow_made w #[] 0 (Nat.le_refl _) (Nat.zero_le _) (by simp)) a 0 cap [] rfl ?qc1 ?qc2 ?qc3 ?qc4 ?qc5 ?qc6 ?_)
      case qc1 => rfl
      case qc2 => intro j u hj; simp at hj
      case qc3 => intro u hu; simp at hu
      case qc4 => unfold maxLen; omega
      case qc5 => omega
      case qc6 => simp
      intro v' w1 hown hgrow hnil
      have hb := ((Below.refl _ w).alloc (Nat.le_refl _) (.cells #[] 100)).grown hgrow (by simp) (by intro k hk; simp [Value.ownBlock] at hk; omega)
      have HP : Hold (ClonePost 2 RFd 100 c ([] : List Fd) w (.returned v') w1) := ⟨clone_post (by simpa using hown) (GRow.nil _ _ _) hb⟩
      clear hown hgrow hb
      go_wp2_with fail
      go_ret
      exact HP.out

end Go.Proofs.YtcmfanfkcbjeoaaGreatDoor
