/- Writes: where a write stands; slices.Clone and BinarySearchFunc at writes. -/
import Derived.Test.YtkhhbckpddkhlaaGreatDoorWA
import Derived.Lib.SliceRun
import Derived.Deep.LoopGhost
namespace Go.Proofs.YtkhhbckpddkhlaaGreatDoor
open Go.Shelf Go.RowKit

theorem ltW_trans {a b c : WR} (h : ltW a b = true) (k : ltW b c = true) : ltW a c = true := by
  unfold ltW at *
  simp only [Bool.or_eq_true, Bool.and_eq_true, decide_eq_true_eq] at *
  rcases h with h | ⟨h, h'⟩ <;> rcases k with k | ⟨k, k'⟩
  · exact .inl (by omega)
  · exact .inl (by omega)
  · exact .inl (by omega)
  · exact .inr ⟨by omega, strLt_trans h' k'⟩
theorem ltW_self (a : WR) : ltW a a = false := by
  unfold ltW; simp [strLt_irrefl]
/-- l rises -/
def upW (l : List WR) : Prop := ∀ (i j : Nat) a b, i < j → l[i]? = some a → l[j]? = some b → ltW a b = true
theorem up_of_formed {l : List WR} (h : FormedTo l l.length) : upW l := by
  intro i j a b hij ha hb
  obtain ⟨d, rfl⟩ : ∃ d, j = i + 1 + d := ⟨j - (i + 1), by omega⟩
  clear hij
  induction d generalizing b with
  | zero => exact h.2 i a b (List.getElem?_eq_some_iff.1 hb).1 ha hb
  | succ d ih =>
    have hl := (List.getElem?_eq_some_iff.1 hb).1
    obtain ⟨c, hc⟩ : ∃ c, l[i + 1 + d]? = some c := ⟨_, List.getElem?_eq_getElem (by omega)⟩
    exact ltW_trans (ih c hc) (h.2 (i + 1 + d) c b hl hc hb)
/-- the same document -/
def sameW (a b : WR) : Bool := decide (a.sp = b.sp) && decide (a.id = b.id)
theorem sameW_of {a b : WR} (h : ltW a b = false) (k : ltW b a = false) : sameW a b = true := by
  unfold ltW at h k; unfold sameW
  simp only [Bool.or_eq_false_iff, Bool.and_eq_false_imp, decide_eq_false_iff_not, decide_eq_true_eq] at h k
  have he : a.sp = b.sp := by omega
  have hi : a.id = b.id := by
    by_cases hi : a.id = b.id
    · exact hi
    · have := strLt_total (h.2 he) hi
      rw [k.2 he.symm] at this; cases this
  simp [he, hi]
theorem sameW_lt {a b : WR} (h : sameW a b = true) : ltW a b = false ∧ ltW b a = false := by
  unfold sameW at h; unfold ltW
  simp only [Bool.and_eq_true, decide_eq_true_eq] at h
  rw [h.1, h.2]
  simp [strLt_irrefl]
theorem cmpW_zero (a b : WR) : cmpW a b = 0 ↔ sameW a b = true := by
  unfold cmpW sameW orI
  by_cases h : a.sp = b.sp
  · rw [h, cmpI_self]; simp [cmpS_zero]
  · have : cmpI a.sp b.sp ≠ 0 := fun e => h (cmpI_zero e)
    simp [this, h]

/-- where a write is to stand -/
def placeW (w : WR) : List WR → Nat
  | [] => 0
  | x :: l => if ltW x w = true then placeW w l + 1 else 0
theorem placeW_eq {w : WR} : ∀ {l : List WR} {k : Nat}, k ≤ l.length → (∀ (t : Nat) x, t < k → l[t]? = some x → ltW x w = true) → (∀ x, l[k]? = some x → ltW x w = false) → placeW w l = k
  | [], k, h, _, _ => by simp at h; subst h; rfl
  | x :: l, 0, _, _, h2 => by
    have := h2 x rfl
    simp [placeW, this]
  | x :: l, k + 1, h, h1, h2 => by
    have := h1 0 x (by omega) rfl
    simp only [placeW, this, if_true]
    rw [placeW_eq (l := l) (k := k) (by simpa using h) (fun t y ht hy => h1 (t + 1) y (by omega) (by simpa using hy)) (fun y hy => h2 y (by simpa using hy))]
theorem placeW_le (w : WR) : ∀ l : List WR, placeW w l ≤ l.length
  | [] => Nat.le_refl _
  | x :: l => by
    unfold placeW; split
    · have := placeW_le w l; simp; omega
    · exact Nat.zero_le _
theorem placeW_lt {w : WR} : ∀ {l : List WR} {t : Nat} {x : WR}, t < placeW w l → l[t]? = some x → ltW x w = true
  | [], t, x, h, _ => by simp [placeW] at h
  | y :: l, 0, x, h, hx => by
    unfold placeW at h; split at h
    · rename_i hy; simp at hx; rw [← hx]; exact hy
    · omega
  | y :: l, t + 1, x, h, hx => by
    unfold placeW at h; split at h
    · exact placeW_lt (w := w) (l := l) (t := t) (by omega) (by simpa using hx)
    · omega
theorem placeW_at {w : WR} : ∀ {l : List WR} {x : WR}, l[placeW w l]? = some x → ltW x w = false
  | [], x, h => by simp [placeW] at h
  | y :: l, x, h => by
    unfold placeW at h; split at h
    · exact placeW_at (l := l) (by simpa using h)
    · rename_i hy; simp at h; rw [← h]; simpa using hy
def foundW (w : WR) (l : List WR) : Bool := match l[placeW w l]? with
  | some y => sameW y w
  | none => false
/-- a write put into a list -/
def putWL (w : WR) (l : List WR) : List WR := match foundW w l with
  | true => l.take (placeW w l) ++ w :: l.drop (placeW w l + 1)
  | false => l.take (placeW w l) ++ w :: l.drop (placeW w l)

theorem RW_one : ∀ (c : CF) (x : WR) (d : List Value), RW c x d → ∀ u ∈ d, u.oneCell' = true := fun c x d ⟨e, _⟩ u hu => by
  subst e
  simp [WR.cells] at hu
  rcases hu with rfl | rfl | rfl | rfl <;> simp [Value.oneCell']
theorem infoWp : (Tryz.prog.info? 58).map (fun i => (i.zero, i.size, i.bytes)) = some (some (.agg #[.int .i64 0, .string ⟨#[]⟩, .bool false, .string ⟨#[]⟩]), 4, 48) := by kernel_rfl

theorem addr_addW (b off k : Nat) : (⟨b, off, none⟩ : Addr).add k = ⟨b, off + k, none⟩ := by
  unfold Addr.add; split <;> simp_all
/-- slices.Clone: a row of the call's own -/
def CloneW (l : List WR) (w : World) (e : Ending) (w' : World) : Prop := ∃ sv cs, e = .returned sv ∧ OwnS 4 RW 58 w.heap.size w' sv l.length l cs ∧ Below w.heap.size w w'
theorem cloneW_mk {l : List WR} {w w' : World} {sv : Value} {cs : List Value} (h : OwnS 4 RW 58 w.heap.size w' sv l.length l cs) (hb : Below w.heap.size w w') : CloneW l w (.returned sv) w' := ⟨sv, cs, rfl, h, hb⟩
set_option maxRecDepth 100000 in
set_option maxHeartbeats 8000000 in
theorem wclone_any (l : List WR) (lv : Value) (w : World) (hl : SAt 4 RW (cf w) lv l) (hlen : l.length ≤ 1000000) :
    Calls Tryz.prog 75 #[lv] w (CloneW l w) := by
  obtain ⟨i0, hi, hz0, hz1, hz2⟩ := info_parts infoWp
  have HI := Hold.mk (And.intro hi (And.intro hz0 (And.intro hz1 hz2)))
  have q22 : ∀ (w : World) (a : Option Addr) (n c n' c' : Nat), (binOp .eql 54 (.slice a n c) (.slice none n' c')).run Tryz.prog w = .ok (.bool a.isNone) w := fun w a n c n' c' => Lib.run_eql_slice_nil w _ _ a n c n' c' Tryz.underlying54
  clear hi hz0 hz1 hz2
  by_cases h0 : 0 < l.length
  · obtain ⟨b, off, cap, news, rfl, hg, hc, ho⟩ := sat_cells RW_one hl h0
    have HG := Hold.mk hg
    have HC := Hold.mk hc
    have H1 := Hold.mk ho
    clear hg hc ho hl
    go_enter Tryz.func75, Tryz.ntmps75
    go_wp2_with (at_builtin; refine wpList_append_own _ rfl _ _ 54 rfl w.heap.size 58 i0 (.agg #[.int .i64 0, .string ⟨#[]⟩, .bool false, .string ⟨#[]⟩]) 4 48 Tryz.underlying54 HI.out.1 HI.out.2.1 HI.out.2.2.1 HI.out.2.2.2 rfl (by decide) _ _ _ rfl (World.ownsRow_made w #[] 0 (Nat.le_refl _) (Nat.zero_le _) (by simp)) ⟨b, off, none⟩ l.length cap news rfl ?qc1 ?qc2 ?qc3 ?qc4 ?qc5 ?qc6 ?_)
    case qc1 => exact HG.out.1
    case qc2 =>
      intro j u hj
      rw [addr_addW]
      have := HC.out j u hj
      unfold cf at this
      exact Lib.cell?_alloc_some _ this
    case qc3 => exact H1.out
    case qc4 => unfold maxLen; omega
    case qc5 => omega
    case qc6 => simp
    intro v' w1 hown hgrow hnil
    have hb := ((Below.refl _ w).alloc (Nat.le_refl _) (.cells #[] 58)).grown hgrow (by simp) (by intro k hk; simp [Value.ownBlock] at hk; omega)
    have HP : Hold (CloneW l w (.returned v') w1) := ⟨cloneW_mk ⟨by simpa using hown, rfl, HG.out, hb.size⟩ hb⟩
    clear hown hgrow hb
    go_wp2_with fail
    go_ret
    exact HP.out
  · obtain rfl : l = [] := List.length_eq_zero_iff.1 (by omega)
    obtain ⟨a, cap, rfl, hle, hcap, _⟩ := hl
    have HP0 : Hold (CloneW [] w (.returned (.slice none 0 0)) w) := ⟨cloneW_mk (OwnS.start _ _ _ (Nat.le_refl _)) (Below.refl _ _)⟩
    cases a with
    | none =>
      go_enter Tryz.func75, Tryz.ntmps75
      go_wp2_with fail
      go_ret
      exact HP0.out
    | some a =>
      go_enter Tryz.func75, Tryz.ntmps75
      go_wp2_with (at_builtin; refine wpList_append_own _ rfl _ _ 54 rfl w.heap.size 58 i0 (.agg #[.int .i64 0, .string ⟨#[]⟩, .bool false, .string ⟨#[]⟩]) 4 48 Tryz.underlying54 HI.out.1 HI.out.2.1 HI.out.2.2.1 HI.out.2.2.2 rfl (by decide) _ _ _ rfl (World.ownsRow_made w #[] 0 (Nat.le_refl _) (Nat.zero_le _) (by simp)) a 0 cap [] rfl ?qc1 ?qc2 ?qc3 ?qc4 ?qc5 ?qc6 ?_)
      case qc1 => rfl
      case qc2 => intro j u hj; simp at hj
      case qc3 => intro u hu; simp at hu
      case qc4 => unfold maxLen; omega
      case qc5 => omega
      case qc6 => simp
      intro v' w1 hown hgrow hnil
      have hb := ((Below.refl _ w).alloc (Nat.le_refl _) (.cells #[] 58)).grown hgrow (by simp) (by intro k hk; simp [Value.ownBlock] at hk; omega)
      have HP : Hold (CloneW [] w (.returned v') w1) := ⟨cloneW_mk ⟨by simpa using hown, rfl, GRow.nil _ _ _, hb.size⟩ hb⟩
      clear hown hgrow hb
      go_wp2_with fail
      go_ret
      exact HP.out
/-- i and j close in on a write's place -/
def NearW (l : List WR) (x : WR) (i j : Nat) : Prop := (∀ (t : Nat) y, t < i → l[t]? = some y → ltW y x = true) ∧ (∀ (t : Nat) y, j ≤ t → l[t]? = some y → ltW y x = false)
theorem NearW.lo {l : List WR} {x y : WR} {i j m : Nat} (hu : upW l) (h : NearW l x i j) (hy : l[m]? = some y) (hl : ltW y x = true) : NearW l x (m + 1) j := by
  refine ⟨fun t z ht hz => ?_, h.2⟩
  by_cases e : t = m
  · subst e; rw [hy] at hz; cases hz; exact hl
  · exact ltW_trans (hu t m z y (by omega) hz hy) hl
theorem NearW.hi {l : List WR} {x y : WR} {i j m : Nat} (hu : upW l) (h : NearW l x i j) (hy : l[m]? = some y) (hl : ltW y x = false) : NearW l x i m := by
  refine ⟨h.1, fun t z ht hz => ?_⟩
  by_cases e : t = m
  · subst e; rw [hy] at hz; cases hz; exact hl
  · cases hzx : ltW z x with
    | false => rfl
    | true => rw [ltW_trans (hu m t y z (by omega) hy hz) hzx] at hl; cases hl
theorem NearW.place {l : List WR} {x : WR} {i : Nat} (h : NearW l x i i) (hi : i ≤ l.length) : placeW x l = i :=
  placeW_eq hi h.1 (fun y hy => h.2 i y (Nat.le_refl _) hy)

set_option maxRecDepth 100000 in
set_option maxHeartbeats 8000000 in
theorem wsearch_any (l : List WR) (x : WR) (lv : Value) (w : World) (hl : SAt 4 RW (cf w) lv l) (hu : upW l) (hlen : l.length ≤ 1000000) :
    Calls Tryz.prog 76 #[lv, .agg x.cells, .func (.func 73) #[] #[]] w
      fun e w' => e = .returned (.tuple #[.int .i64 (placeW x l), .bool (foundW x l)]) ∧ Below w.heap.size w w' := by
  obtain ⟨la, lcap, rfl, hle, hcap, hel⟩ := hl
  have HE := Hold.mk hel
  have HU := Hold.mk hu
  obtain ⟨s, i, g, t⟩ := x
  obtain ⟨r1, hr1⟩ : ∃ r1, r1 = placeW ⟨s, i, g, t⟩ l := ⟨_, rfl⟩
  obtain ⟨r2, hr2⟩ : ∃ r2, r2 = foundW ⟨s, i, g, t⟩ l := ⟨_, rfl⟩
  rw [← hr1, ← hr2]
  have HR1 := Hold.mk hr1
  have HR2 := Hold.mk hr2
  unfold WR.cells
  simp only
  obtain ⟨W, hW⟩ : ∃ W, W = w.alloc (.cells #[.int .i64 s, .string i, .bool g, .string t] 58) := ⟨_, rfl⟩
  have hb : Below w.heap.size w W := by rw [hW]; exact (Below.refl _ w).alloc (Nat.le_refl _) _
  have HX : Hold (W.heap[w.heap.size]? = some (.cells #[.int .i64 s, .string i, .bool g, .string t] 58 (0, 0))) := ⟨by rw [hW]; exact heap_alloc_new w _⟩
  have HB := Hold.mk hb
  clear hel hu hr1 hr2 hb
  go_enter Tryz.func76, Tryz.ntmps76
  go_upto_region 1 with (fail)
  rw [← hW]
  clear hW
  go_wp2_with fail
  go_loopg [9, 10] l.length (fun kx s9 s10 wr => ∃ lo hi : Nat, s9 = .int .i64 lo ∧ s10 = .int .i64 hi ∧ lo ≤ hi ∧ hi ≤ l.length ∧ hi - lo ≤ kx ∧ Hold (NearW l ⟨s, i, g, t⟩ lo hi) ∧ Hold (Below w.heap.size w wr) ∧ Hold (wr.heap[w.heap.size]? = some (.cells #[.int .i64 s, .string i, .bool g, .string t] 58 (0, 0))))
  case atStart => exact ⟨0, l.length, rfl, rfl, Nat.zero_le _, Nat.le_refl _, by omega, ⟨fun t y ht => by omega, fun t y ht hy => by have := (List.getElem?_eq_some_iff.1 hy).1; omega⟩, HB, HX⟩
  case round =>
    clear HB HX
    obtain ⟨lo, hi, rfl, rfl, hlh, hin, hg, HN, HB, HX⟩ := hrel
    by_cases hlt : lo < hi
    · obtain ⟨m, hm⟩ : ∃ m, m = (lo + hi) / 2 := ⟨_, rfl⟩
      have hm2 : ((lo : Int) + (hi : Int)) / 2 = (m : Int) := by omega
      have hml : m < l.length := by omega
      have hmlo : lo ≤ m := by omega
      have hmhi : m < hi := by omega
      obtain ⟨y, hy⟩ : ∃ y, l[m]? = some y := ⟨l[m], List.getElem?_eq_getElem hml⟩
      obtain ⟨b, off, d, rfl, hd, hc, hxi⟩ := HE.out m y hy
      obtain ⟨rfl, _, _, _⟩ := hxi
      have HY := Hold.mk hy
      obtain ⟨s2, i2, g2, t2⟩ := y
      have hcl := cle_below HB.out
      have z0 := hcl _ _ _ (hc 0 _ rfl)
      have z1 := hcl _ _ _ (hc 1 _ rfl)
      have z2 := hcl _ _ _ (hc 2 _ rfl)
      have z3 := hcl _ _ _ (hc 3 _ rfl)
      unfold cf at z0 z1 z2 z3
      rw [Nat.add_zero] at z0
      replace z0 := Grow.cell z0
      replace z1 := Grow.cell z1
      replace z2 := Grow.cell z2
      replace z3 := Grow.cell z3
      obtain ⟨y0, y1, y2, y3⟩ := cells4W HX.out
      replace y0 := Grow.cell y0
      replace y1 := Grow.cell y1
      replace y2 := Grow.cell y2
      replace y3 := Grow.cell y3
      clear hy hd hc hcl hm
      have HC : Hold (∀ e : Grow wr, Calls Tryz.prog 73 #[.agg #[.int .i64 s2, .string i2, .bool g2, .string t2], .agg #[.int .i64 s, .string i, .bool g, .string t]] e.val fun r w' => r = .returned (.int .i64 (cmpW ⟨s2, i2, g2, t2⟩ ⟨s, i, g, t⟩)) ∧ Below e.val.heap.size e.val w') := ⟨fun e => wcompare_any ⟨s2, i2, g2, t2⟩ ⟨s, i, g, t⟩ e.val⟩
      have HLW := Hold.mk (cmpW_lt ⟨s2, i2, g2, t2⟩ ⟨s, i, g, t⟩)
      generalize cmpW ⟨s2, i2, g2, t2⟩ ⟨s, i, g, t⟩ = c at HC HLW
      replace HC := Hold.mk (Calls.grow HC.out)
      go_upto_region 5 with (fail)
      cases hlw : ltW ⟨s2, i2, g2, t2⟩ ⟨s, i, g, t⟩ with
      | true =>
        have hcz : c < 0 := HLW.out.2 hlw
        have HN2 := Hold.mk (HN.out.lo HU.out HY.out hlw)
        clear hlw
        refine wp_region_grow (by kernel_rfl) (by kernel_rfl) ?_
        repeat (go_big_quiet_step (exact HC.out _))
        refine wpQuiet_nil ?_
        rintro ⟨w3, hb3⟩
        replace HB := Hold.mk (HB.out.trans (hb3.mono HB.out.size))
        replace HX := Hold.mk (keptR HX.out hb3)
        simp only
        clear hb3 z0 z1 z2 z3 y0 y1 y2 y3
        go_wp2_with fail
        go_roundg (hi - (m + 1))
        case measure => omega
        case rel => exact ⟨m + 1, hi, by go_num, rfl, by omega, hin, Nat.le_refl _, HN2, HB, HX⟩
      | false =>
        have hcz : ¬ c < 0 := fun h => by have := HLW.out.1 h; rw [hlw] at this; cases this
        have HN2 := Hold.mk (HN.out.hi HU.out HY.out hlw)
        clear hlw
        refine wp_region_grow (by kernel_rfl) (by kernel_rfl) ?_
        repeat (go_big_quiet_step (exact HC.out _))
        refine wpQuiet_nil ?_
        rintro ⟨w3, hb3⟩
        replace HB := Hold.mk (HB.out.trans (hb3.mono HB.out.size))
        replace HX := Hold.mk (keptR HX.out hb3)
        simp only
        clear hb3 z0 z1 z2 z3 y0 y1 y2 y3
        go_wp2_with fail
        go_roundg (m - lo)
        case measure => omega
        case rel => exact ⟨lo, m, rfl, rfl, by omega, by omega, Nat.le_refl _, HN2, HB, HX⟩
    · obtain rfl : hi = lo := by omega
      have hpl := HN.out.place hin
      have hR1 : Hold (r1 = hi) := ⟨by rw [HR1.out, hpl]⟩
      have HF : Hold (r2 = (match l[hi]? with | some y => sameW y ⟨s, i, g, t⟩ | none => false)) := ⟨by rw [HR2.out]; unfold foundW; rw [hpl]⟩
      clear hpl
      by_cases hlt2 : hi < l.length
      · obtain ⟨y, hy⟩ : ∃ y, l[hi]? = some y := ⟨l[hi], List.getElem?_eq_getElem hlt2⟩
        obtain ⟨b, off, d, rfl, hd, hc, hxi⟩ := HE.out hi y hy
        obtain ⟨rfl, _, _, _⟩ := hxi
        obtain ⟨s2, i2, g2, t2⟩ := y
        have hcl := cle_below HB.out
        have z0 := hcl _ _ _ (hc 0 _ rfl)
        have z1 := hcl _ _ _ (hc 1 _ rfl)
        have z2 := hcl _ _ _ (hc 2 _ rfl)
        have z3 := hcl _ _ _ (hc 3 _ rfl)
        unfold cf at z0 z1 z2 z3
        rw [Nat.add_zero] at z0
        replace z0 := Grow.cell z0
        replace z1 := Grow.cell z1
        replace z2 := Grow.cell z2
        replace z3 := Grow.cell z3
        obtain ⟨y0, y1, y2, y3⟩ := cells4W HX.out
        replace y0 := Grow.cell y0
        replace y1 := Grow.cell y1
        replace y2 := Grow.cell y2
        replace y3 := Grow.cell y3
        have HC : Hold (∀ e : Grow wr, Calls Tryz.prog 73 #[.agg #[.int .i64 s2, .string i2, .bool g2, .string t2], .agg #[.int .i64 s, .string i, .bool g, .string t]] e.val fun r w' => r = .returned (.int .i64 (cmpW ⟨s2, i2, g2, t2⟩ ⟨s, i, g, t⟩)) ∧ Below e.val.heap.size e.val w') := ⟨fun e => wcompare_any ⟨s2, i2, g2, t2⟩ ⟨s, i, g, t⟩ e.val⟩
        have HZ : Hold (r2 = (cmpW ⟨s2, i2, g2, t2⟩ ⟨s, i, g, t⟩ == 0)) := ⟨by
          rw [HF.out, hy]
          show sameW _ _ = _
          rw [Bool.eq_iff_iff, beq_iff_eq, cmpW_zero]⟩
        generalize cmpW ⟨s2, i2, g2, t2⟩ ⟨s, i, g, t⟩ = c at HC HZ
        replace HC := Hold.mk (Calls.grow HC.out)
        clear hy hd hc hcl
        go_upto_region 8 with (fail)
        refine wp_region_grow (by kernel_rfl) (by kernel_rfl) ?_
        repeat (go_big_quiet_step (exact HC.out _))
        refine wpQuiet_nil ?_
        rintro ⟨w3, hb3⟩
        have HBF := HB.out.trans (hb3.mono HB.out.size)
        simp only
        clear hb3 z0 z1 z2 z3 y0 y1 y2 y3
        go_wp2_with fail
        go_ret2
        exact ⟨by rw [hR1.out, HZ.out] <;> rfl, HBF⟩
      · have HZ : Hold (r2 = false) := ⟨by rw [HF.out, List.getElem?_eq_none (by omega)]⟩
        have HBF := HB.out
        go_upto_region 8 with (fail)
        refine wp_region_grow (by kernel_rfl) (by kernel_rfl) ?_
        repeat (go_big_quiet_step (fail))
        refine wpQuiet_nil ?_
        rintro ⟨w3, hb3⟩
        have HBF := HB.out.trans (hb3.mono HB.out.size)
        simp only
        clear hb3
        go_wp2_with fail
        go_ret2
        exact ⟨by rw [hR1.out, HZ.out] <;> rfl, HBF⟩

end Go.Proofs.YtkhhbckpddkhlaaGreatDoor
