/- Catalogs: the least space that none has. -/
import Derived.Test.YtfpphpjobkhalaaGreatDoorZ21
namespace Go.Proofs.YtfpphpjobkhalaaGreatDoor
open Go.RowKit Go.Shelf

/-- the least number from 1 on that is not there -/
structure IsFresh (zs : List Int) (n : Nat) : Prop where
  pos : 1 ≤ n
  not_ : ¬ ((n : Int) ∈ zs)
  all : ∀ m : Nat, 1 ≤ m → m < n → (m : Int) ∈ zs
theorem IsFresh.uniq {zs : List Int} {n m : Nat} (h : IsFresh zs n) (k : IsFresh zs m) : n = m := by
  rcases Nat.lt_trichotomy n m with hl | hl | hl
  · exact absurd (k.all n h.pos hl) h.not_
  · exact hl
  · exact absurd (h.all m k.pos hl) k.not_
theorem fill_le : ∀ (n : Nat) (zs : List Int), (∀ m : Nat, 1 ≤ m → m ≤ n → (m : Int) ∈ zs) → n ≤ zs.length
  | 0, _, _ => Nat.zero_le _
  | n + 1, zs, h => by
    have h1 := h (n + 1) (by omega) (Nat.le_refl _)
    have h2 := fill_le n (zs.erase ((n + 1 : Nat) : Int)) (fun m hm hmn => (List.mem_erase_of_ne (by omega)).2 (h m hm (by omega)))
    have h3 := List.length_erase_of_mem h1
    have h4 := List.length_pos_of_mem h1
    omega
theorem contains_ints (T : TypeId) (B p : Nat) (sl : Value) (zs : List Int) (cs : List Value) (x : Int) (w : World) (h : OwnS 1 RInt T B w sl p zs cs) :
    Calls Tryz.prog (Tryz.laysContI_ren.f 107) #[sl, .int .i64 x] w fun e w' => e = .returned (.bool (zs.contains x)) ∧ w' = w := by
  have e1 := owns_ints h
  have hlen := h.len
  rcases id h.own.2 with ⟨hv, hn⟩ | ⟨g, cap, cur, hv, hb, hg, hle, hcap, hs, ht⟩
  · obtain rfl : zs = [] := List.length_eq_zero_iff.1 (by omega)
    subst hv
    refine (Any.slices_Contains_int_empty Tryz.laysContI none 0 x w).mono ?_
    rintro e w' ⟨rfl, rfl⟩
    exact ⟨by simp, rfl⟩
  · subst hv
    have hc := Any.slices_Contains_int Tryz.laysContI g 0 p cap zs x w (by omega) (by unfold maxLen at hcap; omega) (fun j hj => by
      have := h.own.cells (g := g) rfl j (.int .i64 zs[j]) (by rw [e1, List.getElem?_map, List.getElem?_eq_getElem hj]; rfl)
      rw [addr_at] at this
      rw [Nat.zero_add, this, List.getD_eq_getElem?_getD, List.getElem?_eq_getElem hj]; rfl)
    rw [List.take_of_length_le (by omega)] at hc
    exact hc
set_option maxRecDepth 100000 in
set_option maxHeartbeats 8000000 in
theorem fresh_any (l : List CX) (v : Value) (w : World) (h : CatAt (cf w) l v) (hn : (spacesC l).length ≤ 1000000) :
    Calls Tryz.prog 61 #[v] w fun e w' => ∃ n : Nat, e = .returned (.int .i64 (n : Int)) ∧ IsFresh (spacesC l) n ∧ n ≤ (spacesC l).length + 1 ∧ Below w.heap.size w w' := by
  have HCA := Hold.mk h
  obtain ⟨a, cap, rfl, hs⟩ := h
  have HB := Hold.mk ((Below.refl _ w).alloc (Nat.le_refl _) (.cells #[.slice a l.length cap] 24))
  have HSP := Hold.mk (Spaces_any l (.agg #[.slice a l.length cap]) _ (HCA.out.mono (cle_below HB.out)) hn)
  obtain ⟨zs, hzs⟩ : ∃ zs, zs = spacesC l := ⟨_, rfl⟩
  rw [← hzs] at HSP hn ⊢
  have HN := Hold.mk hn
  clear hs hzs hn HCA
  go_enter Tryz.func61, Tryz.ntmps61
  go_wp2_with fail
  refine HSP.out.mono ?_
  rintro e w1 ⟨sv, p, cs, rfl, hown, hb1⟩
  obtain ⟨sa, scap, rfl⟩ := hown.shape
  have HB1 := Hold.mk (HB.out.trans (hb1.mono HB.out.size))
  have HO := Hold.mk hown
  clear hown hb1 HSP HB
  go_wp2_with fail
  go_loopw [4] (fun i wr => ∃ n : Nat, i = .int .i64 (n : Int) ∧ 1 ≤ n ∧ n ≤ zs.length + 1 ∧ (∀ m : Nat, 1 ≤ m → m < n → (m : Int) ∈ zs) ∧ wr = w1) (fun i _ => zs.length + 2 - (intOf i).toNat)
  case atStart => exact ⟨1, rfl, Nat.le_refl _, by omega, fun m h1 h2 => by omega, rfl⟩
  case round =>
    obtain ⟨n, rfl, hn1, hn2, hall, rfl⟩ := hrel
    have HALL := Hold.mk hall
    have HCN := Hold.mk (contains_ints 3 _ p (.slice sa p scap) zs cs (n : Int) wr HO.out)
    have HN2 := Hold.mk hn2
    clear hall hn2
    cases hc : zs.contains (n : Int) with
    | true =>
      rw [hc] at HCN
      have hmem : (n : Int) ∈ zs := by simpa using hc
      have HA2 : Hold (∀ m : Nat, 1 ≤ m → m < n + 1 → (m : Int) ∈ zs) := ⟨fun m h1 h2 => by
        by_cases e : m = n
        · subst e; exact hmem
        · exact HALL.out m h1 (by omega)⟩
      have HLE : Hold (n ≤ zs.length) := ⟨fill_le n zs (fun m h1 h2 => HA2.out m h1 (by omega))⟩
      clear hc hmem
      go_wp2_with fail
      refine HCN.out.mono ?_
      rintro e w2 ⟨rfl, rfl⟩
      clear HCN
      have hle := HLE.out
      have hcap2 : zs.length ≤ 9223372036854775806 := by have := HN.out; omega
      go_wp2_with fail
      have hn3 : n + 1 ≤ zs.length + 1 := by have := HLE.out; omega
      exact ⟨⟨n + 1, by go_num, Nat.le_add_left 1 n, hn3, HA2.out, trivial⟩, by simp [intOf]; omega⟩
    | false =>
      rw [hc] at HCN
      have HF : Hold (IsFresh zs n) := ⟨⟨hn1, by simpa using hc, HALL.out⟩⟩
      clear hc
      go_wp2_with fail
      refine HCN.out.mono ?_
      rintro e w2 ⟨rfl, rfl⟩
      clear HCN
      go_wp2_with fail
      go_ret
      exact ⟨n, rfl, HF.out, HN2.out, HB1.out⟩
end Go.Proofs.YtfpphpjobkhalaaGreatDoor

/- Catalogs: clones of placed indexes and of fields (printed by genXCE.py). -/
namespace Go.Proofs.YtfpphpjobkhalaaGreatDoor
open Go.Shelf Go.RowKit

/-- a field's two cells -/
def RFd : Rep Fd := fun _ x d => d = [.string x.1, .bool x.2] ∧ x.1.size ≤ 9223372036854775807
theorem RFd_one : ∀ (c : CF) (x : Fd) (d : List Value), RFd c x d → ∀ u ∈ d, u.oneCell' = true := fun _ _ _ h u hu => by rw [h.1] at hu; simp at hu; rcases hu with rfl | rfl <;> rfl
theorem RPX_one : ∀ (c : CF) (x : PX) (d : List Value), RPX c x d → ∀ u ∈ d, u.oneCell' = true := fun _ _ _ h u hu => by
  obtain ⟨a, cap, e, _⟩ := h
  rw [e] at hu; simp at hu; rcases hu with rfl | rfl | rfl | rfl <;> rfl
theorem RCX_one : ∀ (c : CF) (x : CX) (d : List Value), RCX c x d → ∀ u ∈ d, u.oneCell' = true := fun _ _ _ h u hu => by
  obtain ⟨a, cap, e, _⟩ := h
  rw [e] at hu; simp at hu; rcases hu with rfl | rfl | rfl <;> rfl
theorem fieldsAt_sat {c : CF} {v : Value} {l : List Fd} (h : FieldsAt c v l) : SAt 2 RFd c v l := by
  obtain ⟨a, cap, rfl, h1, h2, h3⟩ := h
  refine ⟨a, cap, rfl, h1, h2, fun i x hx => ?_⟩
  obtain ⟨hs, b, off, e, c0, c1⟩ := h3 i x hx
  refine ⟨b, off, _, e, rfl, fun j u hu => ?_, rfl, hs⟩
  match j, hu with
  | 0, hu => cases hu; exact c0
  | 1, hu => cases hu; exact c1
  | j + 2, hu => simp at hu
theorem sat_fieldsAt {c : CF} {v : Value} {l : List Fd} (h : SAt 2 RFd c v l) : FieldsAt c v l := by
  obtain ⟨a, cap, rfl, h1, h2, h3⟩ := h
  refine ⟨a, cap, rfl, h1, h2, fun i x hx => ?_⟩
  obtain ⟨b, off, d, e, hd, hc, rfl, hs⟩ := h3 i x hx
  exact ⟨hs, b, off, e, hc 0 _ rfl, hc 1 _ rfl⟩
/-- what a clone hands back: a row of its own, whose elements lie in memory c as the ones that came in -/
def ClonePost {α : Type} (n : Nat) (R : Rep α) (T : TypeId) (c : CF) (xs : List α) (w : World) (e : Ending) (w' : World) : Prop := ∃ sv cs, e = .returned sv ∧ w'.ownsRow w.heap.size T n sv xs.length cs ∧ GRow n R c xs cs ∧ Below w.heap.size w w'
theorem clone_post {α : Type} {n : Nat} {R : Rep α} {T : TypeId} {c : CF} {xs : List α} {w w' : World} {sv : Value} {cs : List Value} (hown : w'.ownsRow w.heap.size T n sv xs.length cs) (hg : GRow n R c xs cs) (hb : Below w.heap.size w w') : ClonePost n R T c xs w (.returned sv) w' :=
  ⟨sv, cs, rfl, hown, hg, hb⟩
theorem infoPX : (Tryz.prog.info? 69).map (fun i => (i.zero, i.size, i.bytes)) = some (some (.agg #[.string ⟨#[]⟩, .slice none 0 0, .bool false, .int .i64 0]), 4, 56) := by kernel_rfl
set_option maxRecDepth 100000 in
set_option maxHeartbeats 8000000 in
theorem clonePX_any (xs : List PX) (sv : Value) (c : CF) (w : World) (hcl : CLe c (cf w)) (hl : SAt 4 RPX c sv xs) (hlen : xs.length ≤ 1000000) :
    Calls Tryz.prog 95 #[sv] w (ClonePost 4 RPX 69 c xs w) := by
  obtain ⟨i0, hi, hz0, hz1, hz2⟩ := info_parts infoPX
  have HI := Hold.mk (And.intro hi (And.intro hz0 (And.intro hz1 hz2)))
  have HLEN := Hold.mk hlen
  have q22 : ∀ (w : World) (a : Option Addr) (n c n' c' : Nat), (binOp .eql 65 (.slice a n c) (.slice none n' c')).run Tryz.prog w = .ok (.bool a.isNone) w := fun w a n c n' c' => Lib.run_eql_slice_nil w _ _ a n c n' c' Tryz.underlying65
  clear hi hz0 hz1 hz2 hlen
  by_cases h0 : 0 < xs.length
  · obtain ⟨b, off, cap, news, rfl, hg, hc, ho⟩ := sat_cells RPX_one hl h0
    have HG := Hold.mk hg
    have HGL := Hold.mk hg.1
    have HC : Hold (∀ (j : Nat) u, news[j]? = some u → (w.alloc (.cells #[] 69)).cell? (Addr.add ⟨b, off, none⟩ j) = some u) := ⟨fun j u hu => by
      have h := hcl _ _ _ (hc j u hu)
      unfold cf at h
      have e : Addr.add ⟨b, off, none⟩ j = ⟨b, off + j, none⟩ := by unfold Addr.add; split <;> simp_all
      rw [e]; exact Lib.cell?_alloc_some _ h⟩
    have H1 := Hold.mk ho
    clear hg hc ho hl
    go_enter Tryz.func95, Tryz.ntmps95
    go_wp2_with (at_builtin; refine wpList_append_own _ rfl _ _ 65 rfl w.heap.size 69 i0 (.agg #[.string ⟨#[]⟩, .slice none 0 0, .bool false, .int .i64 0]) 4 56 Tryz.underlying65 HI.out.1 HI.out.2.1 HI.out.2.2.1 HI.out.2.2.2 rfl (by decide) _ _ _ rfl (World.ownsRow_made w #[] 0 (Nat.le_refl _) (Nat.zero_le _) (by simp)) ⟨b, off, none⟩ xs.length cap news rfl ?qc1 ?qc2 ?qc3 ?qc4 ?qc5 ?qc6 ?_)
    case qc1 => exact HGL.out
    case qc2 => exact HC.out
    case qc3 => exact H1.out
    case qc4 => have := HLEN.out; unfold maxLen; omega
    case qc5 => have := HLEN.out; omega
    case qc6 => simp
    intro v' w1 hown hgrow hnil
    have hb := ((Below.refl _ w).alloc (Nat.le_refl _) (.cells #[] 69)).grown hgrow (by simp) (by intro k hk; simp [Value.ownBlock] at hk; omega)
    have HP : Hold (ClonePost 4 RPX 69 c xs w (.returned v') w1) := ⟨clone_post (by simpa using hown) HG.out hb⟩
    clear hown hgrow hb
    go_wp2_with fail
    go_ret
    exact HP.out
  · obtain rfl : xs = [] := List.length_eq_zero_iff.1 (by omega)
    obtain ⟨a, cap, rfl, hle, _⟩ := hl
    have HP0 : Hold (ClonePost 4 RPX 69 c ([] : List PX) w (.returned (.slice none 0 0)) w) := ⟨clone_post (World.ownsRow_nil _ _ _ _) (GRow.nil _ _ _) (Below.refl _ _)⟩
    cases a with
    | none =>
      go_enter Tryz.func95, Tryz.ntmps95
      go_wp2_with fail
      go_ret
      exact HP0.out
    | some a =>
      go_enter Tryz.func95, Tryz.ntmps95
      go_wp2_with (at_builtin; refine wpList_append_own _ rfl _ _ 65 rfl w.heap.size 69 i0 (.agg #[.string ⟨#[]⟩, .slice none 0 0, .bool false, .int .i64 0]) 4 56 Tryz.underlying65 HI.out.1 HI.out.2.1 HI.out.2.2.1 HI.out.2.2.2 rfl (by decide) _ _ _ rfl (World.ownsRow_made w #[] 0 (Nat.le_refl _) (Nat.zero_le _) (by simp)) a 0 cap [] rfl ?qc1 ?qc2 ?qc3 ?qc4 ?qc5 ?qc6 ?_)
      case qc1 => rfl
      case qc2 => intro j u hj; simp at hj
      case qc3 => intro u hu; simp at hu
      case qc4 => unfold maxLen; omega
      case qc5 => omega
      case qc6 => simp
      intro v' w1 hown hgrow hnil
      have hb := ((Below.refl _ w).alloc (Nat.le_refl _) (.cells #[] 69)).grown hgrow (by simp) (by intro k hk; simp [Value.ownBlock] at hk; omega)
      have HP : Hold (ClonePost 4 RPX 69 c ([] : List PX) w (.returned v') w1) := ⟨clone_post (by simpa using hown) (GRow.nil _ _ _) hb⟩
      clear hown hgrow hb
      go_wp2_with fail
      go_ret
      exact HP.out
theorem infoFdc : (Tryz.prog.info? 117).map (fun i => (i.zero, i.size, i.bytes)) = some (some (.agg #[.string ⟨#[]⟩, .bool false]), 2, 24) := by kernel_rfl
set_option maxRecDepth 100000 in
set_option maxHeartbeats 8000000 in
theorem cloneFd_any (xs : List Fd) (sv : Value) (c : CF) (w : World) (hcl : CLe c (cf w)) (hl : SAt 2 RFd c sv xs) (hlen : xs.length ≤ 1000000) :
    Calls Tryz.prog 70 #[sv] w (ClonePost 2 RFd 117 c xs w) := by
  obtain ⟨i0, hi, hz0, hz1, hz2⟩ := info_parts infoFdc
  have HI := Hold.mk (And.intro hi (And.intro hz0 (And.intro hz1 hz2)))
  have HLEN := Hold.mk hlen
  have q22 : ∀ (w : World) (a : Option Addr) (n c n' c' : Nat), (binOp .eql 36 (.slice a n c) (.slice none n' c')).run Tryz.prog w = .ok (.bool a.isNone) w := fun w a n c n' c' => Lib.run_eql_slice_nil w _ _ a n c n' c' Tryz.underlying36
  clear hi hz0 hz1 hz2 hlen
  by_cases h0 : 0 < xs.length
  · obtain ⟨b, off, cap, news, rfl, hg, hc, ho⟩ := sat_cells RFd_one hl h0
    have HG := Hold.mk hg
    have HGL := Hold.mk hg.1
    have HC : Hold (∀ (j : Nat) u, news[j]? = some u → (w.alloc (.cells #[] 117)).cell? (Addr.add ⟨b, off, none⟩ j) = some u) := ⟨fun j u hu => by
      have h := hcl _ _ _ (hc j u hu)
      unfold cf at h
      have e : Addr.add ⟨b, off, none⟩ j = ⟨b, off + j, none⟩ := by unfold Addr.add; split <;> simp_all
      rw [e]; exact Lib.cell?_alloc_some _ h⟩
    have H1 := Hold.mk ho
    clear hg hc ho hl
    go_enter Tryz.func70, Tryz.ntmps70
    go_wp2_with (at_builtin; refine wpList_append_own _ rfl _ _ 36 rfl w.heap.size 117 i0 (.agg #[.string ⟨#[]⟩, .bool false]) 2 24 Tryz.underlying36 HI.out.1 HI.out.2.1 HI.out.2.2.1 HI.out.2.2.2 rfl (by decide) _ _ _ rfl (World.ownsRow_made w #[] 0 (Nat.le_refl _) (Nat.zero_le _) (by simp)) ⟨b, off, none⟩ xs.length cap news rfl ?qc1 ?qc2 ?qc3 ?qc4 ?qc5 ?qc6 ?_)
    case qc1 => exact HGL.out
    case qc2 => exact HC.out
    case qc3 => exact H1.out
    case qc4 => have := HLEN.out; unfold maxLen; omega
    case qc5 => have := HLEN.out; omega
    case qc6 => simp
    intro v' w1 hown hgrow hnil
    have hb := ((Below.refl _ w).alloc (Nat.le_refl _) (.cells #[] 117)).grown hgrow (by simp) (by intro k hk; simp [Value.ownBlock] at hk; omega)
    have HP : Hold (ClonePost 2 RFd 117 c xs w (.returned v') w1) := ⟨clone_post (by simpa using hown) HG.out hb⟩
    clear hown hgrow hb
    go_wp2_with fail
    go_ret
    exact HP.out
  · obtain rfl : xs = [] := List.length_eq_zero_iff.1 (by omega)
    obtain ⟨a, cap, rfl, hle, _⟩ := hl
    have HP0 : Hold (ClonePost 2 RFd 117 c ([] : List Fd) w (.returned (.slice none 0 0)) w) := ⟨clone_post (World.ownsRow_nil _ _ _ _) (GRow.nil _ _ _) (Below.refl _ _)⟩
    cases a with
    | none =>
      go_enter Tryz.func70, Tryz.ntmps70
      go_wp2_with fail
      go_ret
      exact HP0.out
    | some a =>
      go_enter Tryz.func70, Tryz.ntmps70
      go_wp2_with (at_builtin; refine wpList_append_own _ rfl _ _ 36 rfl w.heap.size 117 i0 (.agg #[.string ⟨#[]⟩, .bool false]) 2 24 Tryz.underlying36 HI.out.1 HI.out.2.1 HI.out.2.2.1 HI.out.2.2.2 rfl (by decide) _ _ _ rfl (World.ownsRow_made w #[] 0 (Nat.le_refl _) (Nat.zero_le _) (by simp)) a 0 cap [] rfl ?qc1 ?qc2 ?qc3 ?qc4 ?qc5 ?qc6 ?_)
      case qc1 => rfl
      case qc2 => intro j u hj; simp at hj
      case qc3 => intro u hu; simp at hu
      case qc4 => unfold maxLen; omega
      case qc5 => omega
      case qc6 => simp
      intro v' w1 hown hgrow hnil
      have hb := ((Below.refl _ w).alloc (Nat.le_refl _) (.cells #[] 117)).grown hgrow (by simp) (by intro k hk; simp [Value.ownBlock] at hk; omega)
      have HP : Hold (ClonePost 2 RFd 117 c ([] : List Fd) w (.returned v') w1) := ⟨clone_post (by simpa using hown) (GRow.nil _ _ _) hb⟩
      clear hown hgrow hb
      go_wp2_with fail
      go_ret
      exact HP.out
end Go.Proofs.YtfpphpjobkhalaaGreatDoor
