/- Writes: where a write stands; slices.Clone and BinarySearchFunc at writes. slices.Insert of one write at a row of writes that the call owns. (printed by genIns.py) Writes: Put of the program. Writes: Put of the reference. (printed by genXWH.py) -/
import Derived.Test.YtkhhbckpddkhlaaGreatDoorWA
import Derived.Lib.SliceRun
import Derived.Deep.LoopGhost
import Derived.Test.YtkhhbckpddkhlaaGreatDoorRI
namespace Go.Proofs.YtkhhbckpddkhlaaGreatDoor
open Go.Shelf Go.RowKit

theorem ltW_trans {a b c : WR} (h : ltW a b = true) (k : ltW b c = true) : ltW a c = true := by
  unfold ltW at *
  simp only [Bool.or_eq_true, Bool.and_eq_true, decide_eq_true_eq] at *
  rcases h with h | ⟨h, h'⟩ <;> rcases k with k | ⟨k, k'⟩
  · exact .inl (by omega)
  · exact .inl (by omega)
  · exact .inl (by omega)
  · exact .inr ⟨by omega, strLt_trans h' k'⟩
theorem ltW_self (a : WR) : ltW a a = false := by
  unfold ltW; simp [strLt_irrefl]
/-- l rises -/
def upW (l : List WR) : Prop := ∀ (i j : Nat) a b, i < j → l[i]? = some a → l[j]? = some b → ltW a b = true
theorem up_of_formed {l : List WR} (h : FormedTo l l.length) : upW l := by
  intro i j a b hij ha hb
  obtain ⟨d, rfl⟩ : ∃ d, j = i + 1 + d := ⟨j - (i + 1), by omega⟩
  clear hij
  induction d generalizing b with
  | zero => exact h.2 i a b (List.getElem?_eq_some_iff.1 hb).1 ha hb
  | succ d ih =>
    have hl := (List.getElem?_eq_some_iff.1 hb).1
    obtain ⟨c, hc⟩ : ∃ c, l[i + 1 + d]? = some c := ⟨_, List.getElem?_eq_getElem (by omega)⟩
    exact ltW_trans (ih c hc) (h.2 (i + 1 + d) c b hl hc hb)
/-- the same document -/
def sameW (a b : WR) : Bool := decide (a.sp = b.sp) && decide (a.id = b.id)
theorem sameW_of {a b : WR} (h : ltW a b = false) (k : ltW b a = false) : sameW a b = true := by
  unfold ltW at h k; unfold sameW
  simp only [Bool.or_eq_false_iff, Bool.and_eq_false_imp, decide_eq_false_iff_not, decide_eq_true_eq] at h k
  have he : a.sp = b.sp := by omega
  have hi : a.id = b.id := by
    by_cases hi : a.id = b.id
    · exact hi
    · have := strLt_total (h.2 he) hi
      rw [k.2 he.symm] at this; cases this
  simp [he, hi]
theorem sameW_lt {a b : WR} (h : sameW a b = true) : ltW a b = false ∧ ltW b a = false := by
  unfold sameW at h; unfold ltW
  simp only [Bool.and_eq_true, decide_eq_true_eq] at h
  rw [h.1, h.2]
  simp [strLt_irrefl]
theorem cmpW_zero (a b : WR) : cmpW a b = 0 ↔ sameW a b = true := by
  unfold cmpW sameW orI
  by_cases h : a.sp = b.sp
  · rw [h, cmpI_self]; simp [cmpS_zero]
  · have : cmpI a.sp b.sp ≠ 0 := fun e => h (cmpI_zero e)
    simp [this, h]

/-- where a write is to stand -/
def placeW (w : WR) : List WR → Nat
  | [] => 0
  | x :: l => if ltW x w = true then placeW w l + 1 else 0
theorem placeW_eq {w : WR} : ∀ {l : List WR} {k : Nat}, k ≤ l.length → (∀ (t : Nat) x, t < k → l[t]? = some x → ltW x w = true) → (∀ x, l[k]? = some x → ltW x w = false) → placeW w l = k
  | [], k, h, _, _ => by simp at h; subst h; rfl
  | x :: l, 0, _, _, h2 => by
    have := h2 x rfl
    simp [placeW, this]
  | x :: l, k + 1, h, h1, h2 => by
    have := h1 0 x (by omega) rfl
    simp only [placeW, this, if_true]
    rw [placeW_eq (l := l) (k := k) (by simpa using h) (fun t y ht hy => h1 (t + 1) y (by omega) (by simpa using hy)) (fun y hy => h2 y (by simpa using hy))]
theorem placeW_le (w : WR) : ∀ l : List WR, placeW w l ≤ l.length
  | [] => Nat.le_refl _
  | x :: l => by
    unfold placeW; split
    · have := placeW_le w l; simp; omega
    · exact Nat.zero_le _
theorem placeW_lt {w : WR} : ∀ {l : List WR} {t : Nat} {x : WR}, t < placeW w l → l[t]? = some x → ltW x w = true
  | [], t, x, h, _ => by simp [placeW] at h
  | y :: l, 0, x, h, hx => by
    unfold placeW at h; split at h
    · rename_i hy; simp at hx; rw [← hx]; exact hy
    · omega
  | y :: l, t + 1, x, h, hx => by
    unfold placeW at h; split at h
    · exact placeW_lt (w := w) (l := l) (t := t) (by omega) (by simpa using hx)
    · omega
theorem placeW_at {w : WR} : ∀ {l : List WR} {x : WR}, l[placeW w l]? = some x → ltW x w = false
  | [], x, h => by simp [placeW] at h
  | y :: l, x, h => by
    unfold placeW at h; split at h
    · exact placeW_at (l := l) (by simpa using h)
    · rename_i hy; simp at h; rw [← h]; simpa using hy
def foundW (w : WR) (l : List WR) : Bool := match l[placeW w l]? with
  | some y => sameW y w
  | none => false
/-- a write put into a list -/
def putWL (w : WR) (l : List WR) : List WR := match foundW w l with
  | true => l.take (placeW w l) ++ w :: l.drop (placeW w l + 1)
  | false => l.take (placeW w l) ++ w :: l.drop (placeW w l)

theorem RW_one : ∀ (c : CF) (x : WR) (d : List Value), RW c x d → ∀ u ∈ d, u.oneCell' = true := fun c x d ⟨e, _⟩ u hu => by
  subst e
  simp [WR.cells] at hu
  rcases hu with rfl | rfl | rfl | rfl <;> simp [Value.oneCell']
theorem infoWp : (Tryz.prog.info? 58).map (fun i => (i.zero, i.size, i.bytes)) = some (some (.agg #[.int .i64 0, .string ⟨#[]⟩, .bool false, .string ⟨#[]⟩]), 4, 48) := by kernel_rfl

theorem addr_addW (b off k : Nat) : (⟨b, off, none⟩ : Addr).add k = ⟨b, off + k, none⟩ := by
  unfold Addr.add; split <;> simp_all
/-- slices.Clone: a row of the call's own -/
def CloneW (l : List WR) (w : World) (e : Ending) (w' : World) : Prop := ∃ sv cs, e = .returned sv ∧ OwnS 4 RW 58 w.heap.size w' sv l.length l cs ∧ Below w.heap.size w w'
theorem cloneW_mk {l : List WR} {w w' : World} {sv : Value} {cs : List Value} (h : OwnS 4 RW 58 w.heap.size w' sv l.length l cs) (hb : Below w.heap.size w w') : CloneW l w (.returned sv) w' := ⟨sv, cs, rfl, h, hb⟩
set_option maxRecDepth 100000 in
set_option maxHeartbeats 8000000 in
theorem wclone_any (l : List WR) (lv : Value) (w : World) (hl : SAt 4 RW (cf w) lv l) (hlen : l.length ≤ 1000000) :
    Calls Tryz.prog 75 #[lv] w (CloneW l w) := by
  obtain ⟨i0, hi, hz0, hz1, hz2⟩ := info_parts infoWp
  have HI := Hold.mk (And.intro hi (And.intro hz0 (And.intro hz1 hz2)))
  have q22 : ∀ (w : World) (a : Option Addr) (n c n' c' : Nat), (binOp .eql 54 (.slice a n c) (.slice none n' c')).run Tryz.prog w = .ok (.bool a.isNone) w := fun w a n c n' c' => Lib.run_eql_slice_nil w _ _ a n c n' c' Tryz.underlying54
  clear hi hz0 hz1 hz2
  by_cases h0 : 0 < l.length
  · obtain ⟨b, off, cap, news, rfl, hg, hc, ho⟩ := sat_cells RW_one hl h0
    have HG := Hold.mk hg
    have HC := Hold.mk hc
    have H1 := Hold.mk ho
    clear hg hc ho hl
    go_enter Tryz.func75, Tryz.ntmps75
    go_wp2_with (at_builtin; refine wpList_append_own _ rfl _ _ 54 rfl w.heap.size 58 i0 (.agg #[.int .i64 0, .string ⟨#[]⟩, .bool false, .string ⟨#[]⟩]) 4 48 Tryz.underlying54 HI.out.1 HI.out.2.1 HI.out.2.2.1 HI.out.2.2.2 rfl (by decide) _ _ _ rfl (World.ownsRow_made w #[] 0 (Nat.le_refl _) (Nat.zero_le _) (by simp)) ⟨b, off, none⟩ l.length cap news rfl ?qc1 ?qc2 ?qc3 ?qc4 ?qc5 ?qc6 ?_)
    case qc1 => exact HG.out.1
    case qc2 =>
      intro j u hj
      rw [addr_addW]
      have := HC.out j u hj
      unfold cf at this
      exact Lib.cell?_alloc_some _ this
    case qc3 => exact H1.out
    case qc4 => unfold maxLen; omega
    case qc5 => omega
    case qc6 => simp
    intro v' w1 hown hgrow hnil
    have hb := ((Below.refl _ w).alloc (Nat.le_refl _) (.cells #[] 58)).grown hgrow (by simp) (by intro k hk; simp [Value.ownBlock] at hk; omega)
    have HP : Hold (CloneW l w (.returned v') w1) := ⟨cloneW_mk ⟨by simpa using hown, rfl, HG.out, hb.size⟩ hb⟩
    clear hown hgrow hb
    go_wp2_with fail
    go_ret
    exact HP.out
  · obtain rfl : l = [] := List.length_eq_zero_iff.1 (by omega)
    obtain ⟨a, cap, rfl, hle, hcap, _⟩ := hl
    have HP0 : Hold (CloneW [] w (.returned (.slice none 0 0)) w) := ⟨cloneW_mk (OwnS.start _ _ _ (Nat.le_refl _)) (Below.refl _ _)⟩
    cases a with
    | none =>
      go_enter Tryz.func75, Tryz.ntmps75
      go_wp2_with fail
      go_ret
      exact HP0.out
    | some a =>
      go_enter Tryz.func75, Tryz.ntmps75
      go_wp2_with (at_builtin; refine wpList_append_own _ rfl _ _ 54 rfl w.heap.size 58 i0 (.agg #[.int .i64 0, .string ⟨#[]⟩, .bool false, .string ⟨#[]⟩]) 4 48 Tryz.underlying54 HI.out.1 HI.out.2.1 HI.out.2.2.1 HI.out.2.2.2 rfl (by decide) _ _ _ rfl (World.ownsRow_made w #[] 0 (Nat.le_refl _) (Nat.zero_le _) (by simp)) a 0 cap [] rfl ?qc1 ?qc2 ?qc3 ?qc4 ?qc5 ?qc6 ?_)
      case qc1 => rfl
      case qc2 => intro j u hj; simp at hj
      case qc3 => intro u hu; simp at hu
      case qc4 => unfold maxLen; omega
      case qc5 => omega
      case qc6 => simp
      intro v' w1 hown hgrow hnil
      have hb := ((Below.refl _ w).alloc (Nat.le_refl _) (.cells #[] 58)).grown hgrow (by simp) (by intro k hk; simp [Value.ownBlock] at hk; omega)
      have HP : Hold (CloneW [] w (.returned v') w1) := ⟨cloneW_mk ⟨by simpa using hown, rfl, GRow.nil _ _ _, hb.size⟩ hb⟩
      clear hown hgrow hb
      go_wp2_with fail
      go_ret
      exact HP.out
/-- i and j close in on a write's place -/
def NearW (l : List WR) (x : WR) (i j : Nat) : Prop := (∀ (t : Nat) y, t < i → l[t]? = some y → ltW y x = true) ∧ (∀ (t : Nat) y, j ≤ t → l[t]? = some y → ltW y x = false)
theorem NearW.lo {l : List WR} {x y : WR} {i j m : Nat} (hu : upW l) (h : NearW l x i j) (hy : l[m]? = some y) (hl : ltW y x = true) : NearW l x (m + 1) j := by
  refine ⟨fun t z ht hz => ?_, h.2⟩
  by_cases e : t = m
  · subst e; rw [hy] at hz; cases hz; exact hl
  · exact ltW_trans (hu t m z y (by omega) hz hy) hl
theorem NearW.hi {l : List WR} {x y : WR} {i j m : Nat} (hu : upW l) (h : NearW l x i j) (hy : l[m]? = some y) (hl : ltW y x = false) : NearW l x i m := by
  refine ⟨h.1, fun t z ht hz => ?_⟩
  by_cases e : t = m
  · subst e; rw [hy] at hz; cases hz; exact hl
  · cases hzx : ltW z x with
    | false => rfl
    | true => rw [ltW_trans (hu m t y z (by omega) hy hz) hzx] at hl; cases hl
theorem NearW.place {l : List WR} {x : WR} {i : Nat} (h : NearW l x i i) (hi : i ≤ l.length) : placeW x l = i :=
  placeW_eq hi h.1 (fun y hy => h.2 i y (Nat.le_refl _) hy)

set_option maxRecDepth 100000 in
set_option maxHeartbeats 8000000 in
theorem wsearch_any (l : List WR) (x : WR) (lv : Value) (w : World) (hl : SAt 4 RW (cf w) lv l) (hu : upW l) (hlen : l.length ≤ 1000000) :
    Calls Tryz.prog 76 #[lv, .agg x.cells, .func (.func 73) #[] #[]] w
      fun e w' => e = .returned (.tuple #[.int .i64 (placeW x l), .bool (foundW x l)]) ∧ Below w.heap.size w w' := by
  obtain ⟨la, lcap, rfl, hle, hcap, hel⟩ := hl
  have HE := Hold.mk hel
  have HU := Hold.mk hu
  obtain ⟨s, i, g, t⟩ := x
  obtain ⟨r1, hr1⟩ : ∃ r1, r1 = placeW ⟨s, i, g, t⟩ l := ⟨_, rfl⟩
  obtain ⟨r2, hr2⟩ : ∃ r2, r2 = foundW ⟨s, i, g, t⟩ l := ⟨_, rfl⟩
  rw [← hr1, ← hr2]
  have HR1 := Hold.mk hr1
  have HR2 := Hold.mk hr2
  unfold WR.cells
  simp only
  obtain ⟨W, hW⟩ : ∃ W, W = w.alloc (.cells #[.int .i64 s, .string i, .bool g, .string t] 58) := ⟨_, rfl⟩
  have hb : Below w.heap.size w W := by rw [hW]; exact (Below.refl _ w).alloc (Nat.le_refl _) _
  have HX : Hold (W.heap[w.heap.size]? = some (.cells #[.int .i64 s, .string i, .bool g, .string t] 58 (0, 0))) := ⟨by rw [hW]; exact heap_alloc_new w _⟩
  have HB := Hold.mk hb
  clear hel hu hr1 hr2 hb
  go_enter Tryz.func76, Tryz.ntmps76
  go_upto_region 1 with (fail)
  rw [← hW]
  clear hW
  go_wp2_with fail
  go_loopg [9, 10] l.length (fun kx s9 s10 wr => ∃ lo hi : Nat, s9 = .int .i64 lo ∧ s10 = .int .i64 hi ∧ lo ≤ hi ∧ hi ≤ l.length ∧ hi - lo ≤ kx ∧ Hold (NearW l ⟨s, i, g, t⟩ lo hi) ∧ Hold (Below w.heap.size w wr) ∧ Hold (wr.heap[w.heap.size]? = some (.cells #[.int .i64 s, .string i, .bool g, .string t] 58 (0, 0))))
  case atStart => exact ⟨0, l.length, rfl, rfl, Nat.zero_le _, Nat.le_refl _, by omega, ⟨fun t y ht => by omega, fun t y ht hy => by have := (List.getElem?_eq_some_iff.1 hy).1; omega⟩, HB, HX⟩
  case round =>
    clear HB HX
    obtain ⟨lo, hi, rfl, rfl, hlh, hin, hg, HN, HB, HX⟩ := hrel
    by_cases hlt : lo < hi
    · obtain ⟨m, hm⟩ : ∃ m, m = (lo + hi) / 2 := ⟨_, rfl⟩
      have hm2 : ((lo : Int) + (hi : Int)) / 2 = (m : Int) := by omega
      have hml : m < l.length := by omega
      have hmlo : lo ≤ m := by omega
      have hmhi : m < hi := by omega
      obtain ⟨y, hy⟩ : ∃ y, l[m]? = some y := ⟨l[m], List.getElem?_eq_getElem hml⟩
      obtain ⟨b, off, d, rfl, hd, hc, hxi⟩ := HE.out m y hy
      obtain ⟨rfl, _, _, _⟩ := hxi
      have HY := Hold.mk hy
      obtain ⟨s2, i2, g2, t2⟩ := y
      have hcl := cle_below HB.out
      have z0 := hcl _ _ _ (hc 0 _ rfl)
      have z1 := hcl _ _ _ (hc 1 _ rfl)
      have z2 := hcl _ _ _ (hc 2 _ rfl)
      have z3 := hcl _ _ _ (hc 3 _ rfl)
      unfold cf at z0 z1 z2 z3
      rw [Nat.add_zero] at z0
      replace z0 := Grow.cell z0
      replace z1 := Grow.cell z1
      replace z2 := Grow.cell z2
      replace z3 := Grow.cell z3
      obtain ⟨y0, y1, y2, y3⟩ := cells4W HX.out
      replace y0 := Grow.cell y0
      replace y1 := Grow.cell y1
      replace y2 := Grow.cell y2
      replace y3 := Grow.cell y3
      clear hy hd hc hcl hm
      have HC : Hold (∀ e : Grow wr, Calls Tryz.prog 73 #[.agg #[.int .i64 s2, .string i2, .bool g2, .string t2], .agg #[.int .i64 s, .string i, .bool g, .string t]] e.val fun r w' => r = .returned (.int .i64 (cmpW ⟨s2, i2, g2, t2⟩ ⟨s, i, g, t⟩)) ∧ Below e.val.heap.size e.val w') := ⟨fun e => wcompare_any ⟨s2, i2, g2, t2⟩ ⟨s, i, g, t⟩ e.val⟩
      have HLW := Hold.mk (cmpW_lt ⟨s2, i2, g2, t2⟩ ⟨s, i, g, t⟩)
      generalize cmpW ⟨s2, i2, g2, t2⟩ ⟨s, i, g, t⟩ = c at HC HLW
      replace HC := Hold.mk (Calls.grow HC.out)
      go_upto_region 5 with (fail)
      cases hlw : ltW ⟨s2, i2, g2, t2⟩ ⟨s, i, g, t⟩ with
      | true =>
        have hcz : c < 0 := HLW.out.2 hlw
        have HN2 := Hold.mk (HN.out.lo HU.out HY.out hlw)
        clear hlw
        refine wp_region_grow (by kernel_rfl) (by kernel_rfl) ?_
        repeat (go_big_quiet_step (exact HC.out _))
        refine wpQuiet_nil ?_
        rintro ⟨w3, hb3⟩
        replace HB := Hold.mk (HB.out.trans (hb3.mono HB.out.size))
        replace HX := Hold.mk (keptR HX.out hb3)
        simp only
        clear hb3 z0 z1 z2 z3 y0 y1 y2 y3
        go_wp2_with fail
        go_roundg (hi - (m + 1))
        case measure => omega
        case rel => exact ⟨m + 1, hi, by go_num, rfl, by omega, hin, Nat.le_refl _, HN2, HB, HX⟩
      | false =>
        have hcz : ¬ c < 0 := fun h => by have := HLW.out.1 h; rw [hlw] at this; cases this
        have HN2 := Hold.mk (HN.out.hi HU.out HY.out hlw)
        clear hlw
        refine wp_region_grow (by kernel_rfl) (by kernel_rfl) ?_
        repeat (go_big_quiet_step (exact HC.out _))
        refine wpQuiet_nil ?_
        rintro ⟨w3, hb3⟩
        replace HB := Hold.mk (HB.out.trans (hb3.mono HB.out.size))
        replace HX := Hold.mk (keptR HX.out hb3)
        simp only
        clear hb3 z0 z1 z2 z3 y0 y1 y2 y3
        go_wp2_with fail
        go_roundg (m - lo)
        case measure => omega
        case rel => exact ⟨lo, m, rfl, rfl, by omega, by omega, Nat.le_refl _, HN2, HB, HX⟩
    · obtain rfl : hi = lo := by omega
      have hpl := HN.out.place hin
      have hR1 : Hold (r1 = hi) := ⟨by rw [HR1.out, hpl]⟩
      have HF : Hold (r2 = (match l[hi]? with | some y => sameW y ⟨s, i, g, t⟩ | none => false)) := ⟨by rw [HR2.out]; unfold foundW; rw [hpl]⟩
      clear hpl
      by_cases hlt2 : hi < l.length
      · obtain ⟨y, hy⟩ : ∃ y, l[hi]? = some y := ⟨l[hi], List.getElem?_eq_getElem hlt2⟩
        obtain ⟨b, off, d, rfl, hd, hc, hxi⟩ := HE.out hi y hy
        obtain ⟨rfl, _, _, _⟩ := hxi
        obtain ⟨s2, i2, g2, t2⟩ := y
        have hcl := cle_below HB.out
        have z0 := hcl _ _ _ (hc 0 _ rfl)
        have z1 := hcl _ _ _ (hc 1 _ rfl)
        have z2 := hcl _ _ _ (hc 2 _ rfl)
        have z3 := hcl _ _ _ (hc 3 _ rfl)
        unfold cf at z0 z1 z2 z3
        rw [Nat.add_zero] at z0
        replace z0 := Grow.cell z0
        replace z1 := Grow.cell z1
        replace z2 := Grow.cell z2
        replace z3 := Grow.cell z3
        obtain ⟨y0, y1, y2, y3⟩ := cells4W HX.out
        replace y0 := Grow.cell y0
        replace y1 := Grow.cell y1
        replace y2 := Grow.cell y2
        replace y3 := Grow.cell y3
        have HC : Hold (∀ e : Grow wr, Calls Tryz.prog 73 #[.agg #[.int .i64 s2, .string i2, .bool g2, .string t2], .agg #[.int .i64 s, .string i, .bool g, .string t]] e.val fun r w' => r = .returned (.int .i64 (cmpW ⟨s2, i2, g2, t2⟩ ⟨s, i, g, t⟩)) ∧ Below e.val.heap.size e.val w') := ⟨fun e => wcompare_any ⟨s2, i2, g2, t2⟩ ⟨s, i, g, t⟩ e.val⟩
        have HZ : Hold (r2 = (cmpW ⟨s2, i2, g2, t2⟩ ⟨s, i, g, t⟩ == 0)) := ⟨by
          rw [HF.out, hy]
          show sameW _ _ = _
          rw [Bool.eq_iff_iff, beq_iff_eq, cmpW_zero]⟩
        generalize cmpW ⟨s2, i2, g2, t2⟩ ⟨s, i, g, t⟩ = c at HC HZ
        replace HC := Hold.mk (Calls.grow HC.out)
        clear hy hd hc hcl
        go_upto_region 8 with (fail)
        refine wp_region_grow (by kernel_rfl) (by kernel_rfl) ?_
        repeat (go_big_quiet_step (exact HC.out _))
        refine wpQuiet_nil ?_
        rintro ⟨w3, hb3⟩
        have HBF := HB.out.trans (hb3.mono HB.out.size)
        simp only
        clear hb3 z0 z1 z2 z3 y0 y1 y2 y3
        go_wp2_with fail
        go_ret2
        exact ⟨by rw [hR1.out, HZ.out] <;> rfl, HBF⟩
      · have HZ : Hold (r2 = false) := ⟨by rw [HF.out, List.getElem?_eq_none (by omega)]⟩
        have HBF := HB.out
        go_upto_region 8 with (fail)
        refine wp_region_grow (by kernel_rfl) (by kernel_rfl) ?_
        repeat (go_big_quiet_step (fail))
        refine wpQuiet_nil ?_
        rintro ⟨w3, hb3⟩
        have HBF := HB.out.trans (hb3.mono HB.out.size)
        simp only
        clear hb3
        go_wp2_with fail
        go_ret2
        exact ⟨by rw [hR1.out, HZ.out] <;> rfl, HBF⟩

end Go.Proofs.YtkhhbckpddkhlaaGreatDoor

namespace Go.Proofs.YtkhhbckpddkhlaaGreatDoor
open Go.Shelf Go.RowKit

set_option maxHeartbeats 8000000 in
set_option maxRecDepth 100000 in
theorem insWr_end (B : Nat) (w : World) (sl : Value) (p : Nat) (cs : List Value) (hown : w.ownsRow B 58 4 sl p cs) (H : Nat) (d : List Value) (hH : w.heap[H]? = some (.cells d.toArray 58 (0, 0))) (hd : d.length = 4)
    (h1 : ∀ u ∈ d, u.oneCell' = true) (hBw : B ≤ w.heap.size) (hp : p ≤ 1000000) :
    Calls Tryz.prog 77 #[sl, .int .i64 p, .slice (some ⟨H, 0, none⟩) 1 1] w (InsPost 58 4 B w sl p (cs.take (p * 4) ++ d ++ cs.drop (p * 4))) := by
  have hcl := hown.1
  rw [List.take_of_length_le (by omega), List.drop_eq_nil_iff.2 (by omega), List.append_nil]
  obtain ⟨i0, hi, hz0, hz1, hz2⟩ := info_parts (show (Tryz.prog.info? 58).map (fun i => (i.zero, i.size, i.bytes)) = some (some (.agg #[.int .i64 0, .string ⟨#[]⟩, .bool false, .string ⟨#[]⟩]), 4, 48) by kernel_rfl)
  have HOW := Hld.mk hown
  have HI := Hld.mk (And.intro hi (And.intro hz0 (And.intro hz1 hz2)))
  have HN := Hld.mk (World.news_of_block (w := w) hH)
  have H1 := Hld.mk h1
  have HD : Hld (d.length = 1 * 4) := ⟨by omega⟩
  have HCL := Hld.mk hcl
  obtain ⟨ao, cap, hsl, hpc, hcap⟩ : ∃ ao cap, sl = .slice ao p cap ∧ p ≤ cap ∧ cap ≤ 9223372036854775807 := by
    rcases hown.2 with ⟨hv, hn⟩ | ⟨g, cap, cur, hv, _, _, h2, h3, _⟩
    · exact ⟨none, 0, by rw [hv, hn], by omega, by omega⟩
    · exact ⟨_, cap, hv, h2, by unfold maxLen at h3; omega⟩
  clear hown hi hz0 hz1 hz2 hH h1 hd hcl
  subst hsl
  cases ao with
  | none =>
    go_enter Tryz.func77, Tryz.ntmps77
    go_wp2_with (at_builtin; refine wpList_append_lies _ rfl (.tmp 23) (.tmp 24) 54 rfl B 58 i0 (.agg #[.int .i64 0, .string ⟨#[]⟩, .bool false, .string ⟨#[]⟩]) 4 48 Tryz.underlying54 HI.out.1 HI.out.2.1 HI.out.2.2.1 HI.out.2.2.2 rfl (by decide) _ p cs rfl HOW.out ⟨H, 0, none⟩ 1 1 d rfl HD.out HN.out H1.out (by decide) (by unfold maxLen; omega) (by omega) hBw _ rfl ?_)
    all_goals
      intro g cap2 w3 hown hgr hgg _
      have HP := Hld.mk (show InsPost 58 4 B w (.slice none p cap) p (cs ++ d) (.returned (.slice (some ⟨g, 0, none⟩) (p + 1) cap2)) w3 from ⟨_, rfl, hown, hgr, fun q hq => by
        obtain rfl : g = q := by simpa [Value.ownBlock] using hq
        exact hgg.imp id (fun h => by omega)⟩)
      clear hown hgr hgg
      go_wp2_with fail
      go_ret
      exact HP.out
  | some a =>
    obtain ⟨ab, ao, asp⟩ := a
    go_enter Tryz.func77, Tryz.ntmps77
    go_wp2_with (at_builtin; refine wpList_append_lies _ rfl (.tmp 23) (.tmp 24) 54 rfl B 58 i0 (.agg #[.int .i64 0, .string ⟨#[]⟩, .bool false, .string ⟨#[]⟩]) 4 48 Tryz.underlying54 HI.out.1 HI.out.2.1 HI.out.2.2.1 HI.out.2.2.2 rfl (by decide) _ p cs rfl HOW.out ⟨H, 0, none⟩ 1 1 d rfl HD.out HN.out H1.out (by decide) (by unfold maxLen; omega) (by omega) hBw _ rfl ?_)
    all_goals
      intro g cap2 w3 hown hgr hgg _
      have HP := Hld.mk (show InsPost 58 4 B w (.slice (some ⟨ab, ao, asp⟩) p cap) p (cs ++ d) (.returned (.slice (some ⟨g, 0, none⟩) (p + 1) cap2)) w3 from ⟨_, rfl, hown, hgr, fun q hq => by
        obtain rfl : g = q := by simpa [Value.ownBlock] using hq
        exact hgg.imp id (fun h => by omega)⟩)
      clear hown hgr hgg
      go_wp2_with fail
      go_ret
      exact HP.out


set_option maxHeartbeats 8000000 in
set_option maxRecDepth 100000 in
theorem insWr_room (B : Nat) (w : World) (g p cap : Nat) (cur : Array Value) (cs : List Value) (hB : B ≤ g) (hg : w.heap[g]? = some (.cells cur 58 (0, 0))) (hcur : cur.size = cap * 4) (hcs : cur.toList.take (p * 4) = cs) (hcap : cap ≤ 9223372036854775807) (k : Nat) (hk : k < p) (hroom : p + 1 ≤ cap) (H : Nat) (d : List Value) (hH : w.heap[H]? = some (.cells d.toArray 58 (0, 0))) (hd : d.length = 4)
    (h1 : ∀ u ∈ d, u.oneCell' = true) (h1c : ∀ u ∈ cs, u.oneCell' = true) (hne : H ≠ g) :
    Calls Tryz.prog 77 #[.slice (some ⟨g, 0, none⟩) p cap, .int .i64 k, .slice (some ⟨H, 0, none⟩) 1 1] w (InsPost 58 4 B w (.slice (some ⟨g, 0, none⟩) p cap) p (cs.take (k * 4) ++ d ++ cs.drop (k * 4))) := by
  have hsz : (Tryz.prog.info? 58).map (·.size) = some 4 := by kernel_rfl
  have hcl : cs.length = p * 4 := by rw [← hcs, List.length_take, Array.length_toList]; omega
  have hglt : g < w.heap.size := (Array.getElem?_eq_some_iff.1 hg).1
  have hov : ∀ off lb cb, (callFunc 120 #[.slice (some ⟨H, 0, none⟩) 1 1, .slice (some ⟨g, off, none⟩) lb cb]).run Tryz.prog w = .ok (.value (.bool false)) w := fun off lb cb => by
    rw [run_callFunc_extern Tryz.func120 (by kernel_rfl) (by kernel_rfl) (by kernel_rfl) (e := Extern.SlicesOverlaps.overlaps #[54, 54] #[4]) (by kernel_rfl),
      Lib.run_overlaps_apart w 54 4 58 Tryz.underlying54 4 Tryz.sizeOf58 ⟨H, 0, none⟩ ⟨g, off, none⟩ 1 1 lb cb hne 58 58 d.toArray.size cur.size (by simp [World.shape?, hH]) (by simp [World.shape?, hg]) (by omega) (by simp [World.frozen?, hH]) (by simp [World.frozen?, hH])]
    rfl
  obtain ⟨C1, hC1⟩ : ∃ C1 : List Value, C1 = cur.toList.take (k * 4 + 4) ++ cs.drop (k * 4) ++ cur.toList.drop (p * 4 + 4) := ⟨_, rfl⟩
  have hC1l : C1.length = cur.size := by rw [hC1]; simp only [List.length_append, List.length_take, List.length_drop, Array.length_toList]; omega
  obtain ⟨W1, hW1⟩ : ∃ W1, W1 = w.drew.setRow g C1.toArray := ⟨_, rfl⟩
  have hW1g : W1.heap[g]? = some (.cells C1.toArray 58 (0, 0)) := by rw [hW1]; exact setRow_heap w.drew g cur _ _ _ hg
  have hW1H : W1.heap[H]? = some (.cells d.toArray 58 (0, 0)) := by rw [hW1, setRow_other _ _ _ _ hne]; exact hH
  have hcp1 : ∀ ty dc sc, (Builtin.copy_ #[54, 54] ty #[.slice (some ⟨g, (k + 1) * 4, none⟩) (p - k) dc, .slice (some ⟨g, k * 4, none⟩) (p + 1 - k) sc]).run Tryz.prog w.drew = .ok (goInt ((p - k : Nat) : Int)) W1 := fun ty dc sc => by
    rw [show (k + 1) * 4 = k * 4 + 4 from Nat.succ_mul k 4, run_copy_rowN w.drew _ _ ty 58 4 (p - k) g (k * 4 + 4) (p - k) dc ⟨g, k * 4, none⟩ (p + 1 - k) sc cur 58 (cs.drop (k * 4)) Tryz.underlying54 hsz hg (by simp only [Nat.min_def]; split <;> omega) (by rw [List.length_drop, hcl]; omega)
      (fun j v hj => by
        rw [Addr.add_lit]
        rw [List.getElem?_drop, ← hcs, List.getElem?_take] at hj
        split at hj
        · simp only [World.cell?]; rw [show w.drew.heap[g]? = some (.cells cur 58 (0, 0)) from hg]; simpa using hj
        · cases hj)
      (by rw [List.length_drop, hcl]; omega) (fun v hv => h1c v (List.mem_of_mem_drop hv)), hW1, hC1, show k * 4 + 4 + (cs.drop (k * 4)).length = p * 4 + 4 by rw [List.length_drop, hcl]; omega]
  obtain ⟨R2, hR2⟩ : ∃ R2 : List Value, R2 = C1.take (k * 4) ++ d ++ C1.drop (k * 4 + 4) := ⟨_, rfl⟩
  have hcp2 : ∀ (W : World), W.heap = W1.heap → ∀ ty dc, (Builtin.copy_ #[54, 54] ty #[.slice (some ⟨g, k * 4, none⟩) (p + 1 - k) dc, .slice (some ⟨H, 0, none⟩) 1 1]).run Tryz.prog W = .ok (goInt 1) (W.setRow g R2.toArray) := fun W hW ty dc => by
    rw [run_copy_rowN W _ _ ty 58 4 1 g (k * 4) (p + 1 - k) dc ⟨H, 0, none⟩ 1 1 C1.toArray 58 d Tryz.underlying54 hsz (by rw [hW]; exact hW1g) (by simp only [Nat.min_def]; split <;> omega) (by rw [hd])
      (fun j v hj => by
        rw [Addr.add_lit]
        simp only [World.cell?]; rw [hW, hW1H]; simpa using hj)
      (by rw [hd, List.size_toArray, hC1l]; omega) h1, hd, List.toList_toArray, hR2]
    rfl
  have hfin : R2 = cs.take (k * 4) ++ d ++ cs.drop (k * 4) ++ cur.toList.drop (p * 4 + 4) := by
    rw [hR2, hC1]; exact row_shift cur.toList cs d (k * 4) 4 (p * 4) (by omega) hcs (by rw [Array.length_toList]; omega) hd
  have HPOST : ∀ (W : World), W.heap = W1.heap → W.os = w.os → W.tape = w.tape → W.output = w.output → Hld (InsPost 58 4 B w (.slice (some ⟨g, 0, none⟩) p cap) p (cs.take (k * 4) ++ d ++ cs.drop (k * 4)) (.returned (.slice (some ⟨g, 0, none⟩) (p + 1) cap)) (W.setRow g R2.toArray)) := fun W hW ho ht hu => ⟨_, rfl, by
      refine ⟨by simp only [List.length_append, List.length_take, List.length_drop]; omega, .inr ⟨g, cap, _, rfl, hB, setRow_heap W g C1.toArray _ _ _ (by rw [hW]; exact hW1g), hroom, by unfold maxLen; omega, ?_, ?_⟩⟩
      · rw [hfin]; simp only [List.size_toArray, List.length_append, List.length_take, List.length_drop, Array.length_toList]; omega
      · rw [hfin]
        show List.take _ (_ ++ _) = _
        rw [List.take_append_of_le_length (by simp only [List.length_append, List.length_take, List.length_drop]; omega), List.take_of_length_le (by simp only [List.length_append, List.length_take, List.length_drop]; omega)],
    ⟨ho, ht, hu, by rw [setRow_size, hW, hW1, setRow_size]; exact Nat.le_refl _, fun q hq hqn => by
      have hqg : q ≠ g := fun e => hqn (by rw [e]; rfl)
      rw [setRow_other _ _ _ _ hqg, hW, hW1, setRow_other _ _ _ _ hqg]; rfl⟩, fun q hq => .inl hq⟩
  have hin : k ≤ p := by omega
  have hin1 : (k : Int) ≤ (p : Int) + 1 := by omega
  have hpk1 : p + 1 - (k + 1) = p - k := by omega
  have hck : ¬ (cap = k) := by omega
  have hck1 : ¬ (cap = k + 1) := by omega
  have hz2 : ¬ ((k : Int) = (p : Int)) := by omega
  have hb1 : (0 : Int) ≤ (k : Int) + 1 := by omega
  have htn : ((k : Int) + 1).toNat = k + 1 := by omega
  have hw1 : IntKind.i64.wrap ((k : Int) + 1) = (k : Int) + 1 := by rw [IntKind.wrap_i64]; omega
  have HW1 := Hld.mk hW1
  clear hg hH hW1g hW1H hC1 hfin hR2 hW1 hcl hcur hcs hC1l
  go_enter Tryz.func77, Tryz.ntmps77
  go_wp2_with (simp only [hov])
  go_region_law (refine step_copy_runI rfl _ _ 54 54 rfl _ _ (by simp [Act.eval, Act.put]) (by simp [Act.eval, Act.put]) (hcp1 _ _ _) ?_)
  go_wp2_with (at_builtin; refine wpList_copy_runI _ rfl _ _ 54 54 rfl _ _ rfl rfl (hcp2 _ rfl _ _) ?_)
  go_ret
  exact (HPOST _ rfl (by rw [HW1.out]; rfl) (by rw [HW1.out]; rfl) (by rw [HW1.out]; rfl)).out


set_option maxHeartbeats 8000000 in
set_option maxRecDepth 100000 in
theorem insWr_grow (B : Nat) (w : World) (hBw : B ≤ w.heap.size) (g p cap : Nat) (cur : Array Value) (cs : List Value) (hg : w.heap[g]? = some (.cells cur 58 (0, 0))) (hcs : cur.toList.take (p * 4) = cs) (hcl : cs.length = p * 4) (hcap : p ≤ cap) (hp : p ≤ 1000000) (k : Nat) (hk : k < p) (hroom : cap < p + 1) (H : Nat) (d : List Value) (hH : w.heap[H]? = some (.cells d.toArray 58 (0, 0))) (hd : d.length = 4)
    (h1 : ∀ u ∈ d, u.oneCell' = true) (h1c : ∀ u ∈ cs, u.oneCell' = true) :
    Calls Tryz.prog 77 #[.slice (some ⟨g, 0, none⟩) p cap, .int .i64 k, .slice (some ⟨H, 0, none⟩) 1 1] w (InsPost 58 4 B w (.slice (some ⟨g, 0, none⟩) p cap) p (cs.take (k * 4) ++ d ++ cs.drop (k * 4))) := by
  obtain ⟨i0, hi0, hz0, hzs, hzb⟩ := info_parts (show (Tryz.prog.info? 58).map (fun i => (i.zero, i.size, i.bytes)) = some (some (.agg #[.int .i64 0, .string ⟨#[]⟩, .bool false, .string ⟨#[]⟩]), 4, 48) by kernel_rfl)
  have hsz : (Tryz.prog.info? 58).map (·.size) = some 4 := by kernel_rfl
  have hglt : g < w.heap.size := (Array.getElem?_eq_some_iff.1 hg).1
  have hHlt : H < w.heap.size := (Array.getElem?_eq_some_iff.1 hH).1
  have hold : (Builtin.firstCells i0.size k (.slice (some ⟨g, 0, none⟩) k cap)).run Tryz.prog w.drew = .ok (cs.take (k * 4)).toArray w.drew := by
    rw [hzs]
    exact run_firstCells_some w.drew 4 k ⟨g, 0, none⟩ k cap (cs.take (k * 4)) (by rw [List.length_take]; omega) (fun j v hj => by
      rw [Addr.add_lit]
      rw [List.getElem?_take] at hj
      split at hj
      · rw [← hcs, List.getElem?_take] at hj
        split at hj
        · simp only [World.cell?]; rw [show w.drew.heap[g]? = some (.cells cur 58 (0, 0)) from hg]; simpa using hj
        · cases hj
      · cases hj)
  have hkk : (p : Int) + 1 - (k : Int) = ((p + 1 - k : Nat) : Int) := by omega
  have hik : k + (p + 1 - k) = p + 1 := by omega
  obtain ⟨G, hG⟩ : ∃ G, G = grownCap w (p + 1) cap 58 := ⟨_, rfl⟩
  have hGn : p + 1 ≤ G := by rw [hG]; exact grownCap_ge w _ _ _
  have hG63 : G ≤ 9223372036854775807 := by
    have := grownCap_le_maxLen w (p + 1) cap 58 (by unfold maxLen; omega)
    rw [← hG] at this
    unfold maxLen at this
    omega
  obtain ⟨Z, hZ⟩ : ∃ Z : List Value, Z = (Builtin.zeroCells (Value.cells (.agg #[.int .i64 0, .string ⟨#[]⟩, .bool false, .string ⟨#[]⟩])) (p + 1 - k)).toList ++ (Builtin.zeroCells (Value.cells (.agg #[.int .i64 0, .string ⟨#[]⟩, .bool false, .string ⟨#[]⟩])) (G - (p + 1))).toList := ⟨_, rfl⟩
  have hzl : ∀ q, (Builtin.zeroCells (Value.cells (.agg #[.int .i64 0, .string ⟨#[]⟩, .bool false, .string ⟨#[]⟩])) q).toList.length = q * 4 := fun q => by
    have e : (Value.cells (.agg #[.int .i64 0, .string ⟨#[]⟩, .bool false, .string ⟨#[]⟩])).size = 4 := rfl
    simp [Builtin.zeroCells, e]
  have hZl : Z.length = (G - k) * 4 := by rw [hZ, List.length_append, hzl, hzl]; omega
  obtain ⟨ROW, hROW⟩ : ∃ ROW : List Value, ROW = cs.take (k * 4) ++ Z := ⟨_, rfl⟩
  have hROWl : ROW.length = G * 4 := by rw [hROW, List.length_append, hZl, List.length_take]; omega
  obtain ⟨W1, hW1⟩ : ∃ W1, W1 = w.drew.alloc (.cells ROW.toArray 58) := ⟨_, rfl⟩
  have hrz : ∀ ty, (Builtin.append_ #[54, 3] ty #[.slice (some ⟨g, 0, none⟩) k cap, .int .i64 ((p : Int) + 1 - (k : Int))]).run Tryz.prog w = .ok (.slice (some ⟨w.heap.size, 0, none⟩) (p + 1) G) W1 := fun ty => by
    have h := Lib.run_append_grow_zeros w 54 3 ty 58 i0 _ .i64 .i64 Tryz.underlying54 Tryz.underlying3 hi0 hz0 (some ⟨g, 0, none⟩) k cap (cs.take (k * 4)) hold (p + 1 - k) (by omega) (by omega) (by omega) (by omega) (by rw [hzb]; omega) (by rw [hzb, hik]; exact growslice_fits hroom (by omega))
    rw [hik, ← hG] at h
    rw [hkk, h, hW1, hROW, hZ]
    congr 3
    simp
  have hW1g : W1.heap[g]? = some (.cells cur 58 (0, 0)) := by rw [hW1]; exact al_kept hg
  have hW1H : W1.heap[H]? = some (.cells d.toArray 58 (0, 0)) := by rw [hW1]; exact al_kept hH
  have hW1N : W1.heap[w.heap.size]? = some (.cells ROW.toArray 58 (0, 0)) := by rw [hW1]; exact heap_alloc_new w.drew _
  obtain ⟨R1, hR1⟩ : ∃ R1 : List Value, R1 = ROW.take (k * 4) ++ d ++ ROW.drop (k * 4 + 4) := ⟨_, rfl⟩
  have hR1l : R1.length = G * 4 := by rw [hR1]; simp only [List.length_append, List.length_take, List.length_drop]; omega
  obtain ⟨W2, hW2⟩ : ∃ W2, W2 = W1.setRow w.heap.size R1.toArray := ⟨_, rfl⟩
  have hcp1 : ∀ ty dc, (Builtin.copy_ #[54, 54] ty #[.slice (some ⟨w.heap.size, k * 4, none⟩) (p + 1 - k) dc, .slice (some ⟨H, 0, none⟩) 1 1]).run Tryz.prog W1 = .ok (goInt 1) W2 := fun ty dc => by
    rw [run_copy_rowN W1 _ _ ty 58 4 1 w.heap.size (k * 4) (p + 1 - k) dc ⟨H, 0, none⟩ 1 1 ROW.toArray 58 d Tryz.underlying54 hsz hW1N (by simp only [Nat.min_def]; split <;> omega) (by rw [hd])
      (fun j v hj => by
        rw [Addr.add_lit]
        simp only [World.cell?]; rw [hW1H]; simpa using hj)
      (by rw [hd, List.size_toArray, hROWl]; omega) h1, hd, List.toList_toArray, hW2, hR1]
    rfl
  have hgN : g ≠ w.heap.size := by omega
  have hW2g : W2.heap[g]? = some (.cells cur 58 (0, 0)) := by rw [hW2, setRow_other _ _ _ _ hgN]; exact hW1g
  have hW2N : W2.heap[w.heap.size]? = some (.cells R1.toArray 58 (0, 0)) := by rw [hW2]; exact setRow_heap W1 _ _ _ _ _ hW1N
  obtain ⟨R2, hR2⟩ : ∃ R2 : List Value, R2 = R1.take (k * 4 + 4) ++ cs.drop (k * 4) ++ R1.drop (p * 4 + 4) := ⟨_, rfl⟩
  obtain ⟨W3, hW3⟩ : ∃ W3, W3 = W2.drew.setRow w.heap.size R2.toArray := ⟨_, rfl⟩
  have hcp2 : ∀ ty dc sc, (Builtin.copy_ #[54, 54] ty #[.slice (some ⟨w.heap.size, (k + 1) * 4, none⟩) (p - k) dc, .slice (some ⟨g, k * 4, none⟩) (p - k) sc]).run Tryz.prog W2.drew = .ok (goInt ((p - k : Nat) : Int)) W3 := fun ty dc sc => by
    rw [show (k + 1) * 4 = k * 4 + 4 from Nat.succ_mul k 4, run_copy_rowN W2.drew _ _ ty 58 4 (p - k) w.heap.size (k * 4 + 4) (p - k) dc ⟨g, k * 4, none⟩ (p - k) sc R1.toArray 58 (cs.drop (k * 4)) Tryz.underlying54 hsz hW2N (by simp only [Nat.min_def]; split <;> omega) (by rw [List.length_drop, hcl]; omega)
      (fun j v hj => by
        rw [Addr.add_lit]
        rw [List.getElem?_drop, ← hcs, List.getElem?_take] at hj
        split at hj
        · simp only [World.cell?]; rw [show W2.drew.heap[g]? = some (.cells cur 58 (0, 0)) from hW2g]; simpa using hj
        · cases hj)
      (by rw [List.length_drop, hcl, List.size_toArray, hR1l]; omega) (fun v hv => h1c v (List.mem_of_mem_drop hv)), hW3, hR2, List.toList_toArray, show k * 4 + 4 + (cs.drop (k * 4)).length = p * 4 + 4 by rw [List.length_drop, hcl]; omega]
  have hfin : R2 = cs.take (k * 4) ++ d ++ cs.drop (k * 4) ++ Z.drop (p * 4 + 4 - k * 4) := by
    rw [hR2, hR1, hROW]; exact row_new cs d Z (k * 4) 4 (p * 4) (by omega) hcl hd
  have HPOST : Hld (InsPost 58 4 B w (.slice (some ⟨g, 0, none⟩) p cap) p (cs.take (k * 4) ++ d ++ cs.drop (k * 4)) (.returned (.slice (some ⟨w.heap.size, 0, none⟩) (p + 1) G)) W3) := ⟨_, rfl, by
      refine ⟨by simp only [List.length_append, List.length_take, List.length_drop]; omega, .inr ⟨w.heap.size, G, R2.toArray, rfl, hBw, by rw [hW3]; exact setRow_heap W2.drew _ _ _ _ _ hW2N, hGn, by unfold maxLen; omega, ?_, ?_⟩⟩
      · rw [hfin]; simp only [List.size_toArray, List.length_append, List.length_take, List.length_drop]; omega
      · rw [hfin]
        show List.take _ (_ ++ _) = _
        rw [List.take_append_of_le_length (by simp only [List.length_append, List.length_take, List.length_drop]; omega), List.take_of_length_le (by simp only [List.length_append, List.length_take, List.length_drop]; omega)],
    ⟨by rw [hW3, hW2, hW1]; rfl, by rw [hW3, hW2, hW1]; rfl, by rw [hW3, hW2, hW1]; rfl, by rw [hW3, setRow_size]; show _ ≤ W2.heap.size; rw [hW2, setRow_size, hW1]; simp, fun q hq hqn => by
      have hqg : q ≠ w.heap.size := by omega
      rw [hW3, setRow_other _ _ _ _ hqg]
      show W2.heap[q]? = _
      rw [hW2, setRow_other _ _ _ _ hqg, hW1]
      exact Below.heap_alloc w.drew _ q hq⟩, fun q hq => by
        obtain rfl : w.heap.size = q := by simpa [Value.ownBlock] using hq
        exact .inr (Nat.le_refl _)⟩
  have hin : k ≤ p := by omega
  have hin1 : (k : Int) ≤ (p : Int) + 1 := by omega
  have hpk1 : p + 1 - (k + 1) = p - k := by omega
  have hck : ¬ (cap = k) := by omega
  have hGk : ¬ (G = k) := by omega
  have hGk1 : ¬ (G = k + 1) := by omega
  have hz2 : ¬ ((k : Int) = (p : Int)) := by omega
  have hz3 : (cap : Int) < (p : Int) + 1 := by omega
  have hb1 : (0 : Int) ≤ (k : Int) + 1 := by omega
  have htn : ((k : Int) + 1).toNat = k + 1 := by omega
  have hw1 : IntKind.i64.wrap ((k : Int) + 1) = (k : Int) + 1 := by rw [IntKind.wrap_i64]; omega
  clear hg hH hW1g hW1H hW1N hW2g hW2N hfin hR2 hR1 hW1 hW2 hW3 hROW hZ hcl hcs hZl hROWl hR1l hkk hik hG hold hi0 hz0 hzs hzb hzl hsz
  go_enter Tryz.func77, Tryz.ntmps77
  go_wp2_with (first
    | (at_builtin; refine Lib.wpList_append_run _ rfl _ _ _ _ rfl _ _ rfl rfl _ _ (hrz _) ?_)
    | (at_builtin; refine wpList_copy_runI _ rfl _ _ 54 54 rfl _ _ rfl rfl (hcp1 _ _) ?_))
  go_region_law (refine step_copy_runI rfl _ _ 54 54 rfl _ _ (by simp [Act.eval, Act.put]) (by simp [Act.eval, Act.put]) (hcp2 _ _ _) ?_)
  go_wp2_with fail
  go_ret
  exact HPOST.out

theorem insWr_any (B : Nat) (w : World) (sl : Value) (p : Nat) (cs : List Value) (hown : w.ownsRow B 58 4 sl p cs) (k : Nat) (hk : k ≤ p) (H : Nat) (d : List Value) (hH : w.heap[H]? = some (.cells d.toArray 58 (0, 0))) (hd : d.length = 4)
    (h1 : ∀ u ∈ d, u.oneCell' = true) (h1c : ∀ u ∈ cs, u.oneCell' = true) (hBw : B ≤ w.heap.size) (hp : p ≤ 1000000) (hne : sl.ownBlock ≠ some H) :
    Calls Tryz.prog 77 #[sl, .int .i64 k, .slice (some ⟨H, 0, none⟩) 1 1] w (InsPost 58 4 B w sl p (cs.take (k * 4) ++ d ++ cs.drop (k * 4))) := by
  rcases Nat.lt_or_ge k p with h | h
  · have hcl := hown.1
    rcases id hown.2 with ⟨hv, hn⟩ | ⟨g, cap, cur, rfl, hB, hg, h2, h3, h4, h5⟩
    · omega
    · rcases Nat.lt_or_ge cap (p + 1) with hr | hr
      · exact insWr_grow B w hBw g p cap cur cs hg h5 hcl h2 hp k h hr H d hH hd h1 h1c
      · exact insWr_room B w g p cap cur cs hB hg h4 h5 (by unfold maxLen at h3; exact h3) k h hr H d hH hd h1 h1c (fun e => hne (by rw [e]; rfl))
  · obtain rfl : k = p := by omega
    exact insWr_end B w sl k cs hown H d hH hd h1 hBw hp

end Go.Proofs.YtkhhbckpddkhlaaGreatDoor

namespace Go.Proofs.YtkhhbckpddkhlaaGreatDoor
open Go.Shelf Go.RowKit

/-- what Put answers -/
noncomputable def putWE (l : List WR) (x : WR) : Int := match formedW l && oneF x with
  | false => 2
  | true => match foundW x l with
    | true => 0
    | false => if l.length = 12 then 3 else 0
open Classical in
noncomputable def putWR (l : List WR) (x : WR) : List WR := if putWE l x = 0 then putWL x l else []
def PutPost (l : List WR) (x : WR) (w : World) (e : Ending) (w' : World) : Prop := ∃ sv, e = .returned (.tuple #[sv, .int .i64 (putWE l x)]) ∧ SAt 4 RW (cf w') sv (putWR l x) ∧ Below w.heap.size w w'
theorem put_bad {l : List WR} {x : WR} {w w' : World} {n : Int} (h : putWE l x = n) (hn : n ≠ 0) (hb : Below w.heap.size w w') : PutPost l x w (.returned (.tuple #[.slice none 0 0, .int .i64 n])) w' :=
  ⟨_, by rw [h], by unfold putWR; rw [h, if_neg hn]; exact SAt.none _ _ _, hb⟩
theorem put_fine {l : List WR} {x : WR} {w w' : World} {sv : Value} (h : putWE l x = 0) (hs : SAt 4 RW (cf w') sv (putWL x l)) (hb : Below w.heap.size w w') : PutPost l x w (.returned (.tuple #[sv, .int .i64 0])) w' :=
  ⟨_, by rw [h], by unfold putWR; rw [if_pos h]; exact hs, hb⟩
theorem foundW_lt {x : WR} {l : List WR} (h : foundW x l = true) : placeW x l < l.length := by
  rcases Nat.lt_or_ge (placeW x l) l.length with h1 | h1
  · exact h1
  · unfold foundW at h; rw [List.getElem?_eq_none h1] at h; cases h
theorem putWL_set {x : WR} {l : List WR} (h : foundW x l = true) : putWL x l = l.set (placeW x l) x := by
  have hl := foundW_lt h
  unfold putWL; rw [h]
  rw [List.set_eq_take_append_cons_drop, if_pos hl]
theorem putWL_ins {x : WR} {l : List WR} (h : foundW x l = false) : putWL x l = l.take (placeW x l) ++ x :: l.drop (placeW x l) := by
  unfold putWL; rw [h]
theorem putWL_len {x : WR} {l : List WR} : (putWL x l).length = if foundW x l = true then l.length else l.length + 1 := by
  have hp := placeW_le x l
  cases h : foundW x l with
  | true =>
    rw [putWL_set h]; simp
  | false =>
    rw [putWL_ins h]; simp; omega

/-- four cells of a row of one's own are stored -/
def set4W (w : World) (g o : Nat) (x : WR) : World := (((w.setCell ⟨g, o, none⟩ (.int .i64 x.sp)).setCell ⟨g, o + 1, none⟩ (.string x.id)).setCell ⟨g, o + 2, none⟩ (.bool x.gone)).setCell ⟨g, o + 3, none⟩ (.string x.text)
theorem GRow.setW {c : CF} {l : List WR} {cs : List Value} {x : WR} {k : Nat} (h : GRow 4 RW c l cs) (hk : k < l.length) (hx : RW c x x.cells.toList) :
    GRow 4 RW c (l.set k x) ((((cs.set (k * 4) (.int .i64 x.sp)).set (k * 4 + 1) (.string x.id)).set (k * 4 + 2) (.bool x.gone)).set (k * 4 + 3) (.string x.text)) := by
  have hcl := h.1
  refine ⟨by simp [hcl], fun i y hy => ?_⟩
  by_cases e : i = k
  · subst e
    rw [List.getElem?_set_self hk] at hy
    obtain rfl := Option.some.inj hy
    refine ⟨x.cells.toList, rfl, fun j u hu => ?_, hx⟩
    have hj : j < 4 := (List.getElem?_eq_some_iff.1 hu).1
    match j, hj, hu with
    | 0, _, hu => simp [WR.cells] at hu; subst hu; simp [List.getElem?_set]; omega
    | 1, _, hu => simp [WR.cells] at hu; subst hu; simp [List.getElem?_set]; omega
    | 2, _, hu => simp [WR.cells] at hu; subst hu; simp [List.getElem?_set]; omega
    | 3, _, hu => simp [WR.cells] at hu; subst hu; simp [List.getElem?_set]; omega
  · rw [List.getElem?_set_ne (fun h => e h.symm)] at hy
    obtain ⟨d, h1, h2, h3⟩ := h.2 i y hy
    refine ⟨d, h1, fun j u hu => ?_, h3⟩
    have hj : j < 4 := by rw [← h1]; exact (List.getElem?_eq_some_iff.1 hu).1
    rw [List.getElem?_set_ne (by omega), List.getElem?_set_ne (by omega), List.getElem?_set_ne (by omega), List.getElem?_set_ne (by omega)]
    exact h2 j u hu
theorem RW.any {c c' : CF} {x : WR} {d : List Value} (h : RW c x d) : RW c' x d := h
theorem GRow.anyW {c c' : CF} {l : List WR} {cs : List Value} (h : GRow 4 RW c l cs) : GRow 4 RW c' l cs := ⟨h.1, fun i x hx => by
  obtain ⟨d, h1, h2, h3⟩ := h.2 i x hx
  exact ⟨d, h1, h2, h3.any⟩⟩
theorem OwnS.setW {T : TypeId} {B : Nat} {w : World} {g p cap : Nat} {l : List WR} {cs : List Value} {x : WR} {k : Nat} (h : OwnS 4 RW T B w (.slice (some ⟨g, 0, none⟩) p cap) p l cs) (hk : k < p) (hx : ∀ c, RW c x x.cells.toList) :
    (∃ cs', OwnS 4 RW T B (set4W w g (k * 4) x) (.slice (some ⟨g, 0, none⟩) p cap) p (l.set k x) cs') ∧ w.grownBy (set4W w g (k * 4) x) (some g) := by
  have h1 := h.own.stored (k * 4) (.int .i64 x.sp)
  have h2 := h1.1.stored (k * 4 + 1) (.string x.id)
  have h3 := h2.1.stored (k * 4 + 2) (.bool x.gone)
  have h4 := h3.1.stored (k * 4 + 3) (.string x.text)
  have hg : w.grownBy (set4W w g (k * 4) x) (some g) := by
    refine ⟨?_, ?_, ?_, ?_, ?_⟩
    · exact h4.2.os.trans (h3.2.os.trans (h2.2.os.trans h1.2.os))
    · exact h4.2.tape.trans (h3.2.tape.trans (h2.2.tape.trans h1.2.tape))
    · exact h4.2.output.trans (h3.2.output.trans (h2.2.output.trans h1.2.output))
    · exact Nat.le_trans h1.2.size (Nat.le_trans h2.2.size (Nat.le_trans h3.2.size h4.2.size))
    · intro q hq hne
      have s1 := h1.2.size
      have s2 := h2.2.size
      have s3 := h3.2.size
      rw [set4W, h4.2.block q (by omega) hne, h3.2.block q (by omega) hne, h2.2.block q (by omega) hne, h1.2.block q hq hne]
  have hrow : GRow 4 RW (cfN (.slice (some ⟨g, 0, none⟩) p cap) (set4W w g (k * 4) x)) l cs := h.row.anyW
  have hlen : k < l.length := by rw [h.len]; exact hk
  have hle := Nat.le_trans h.le hg.size
  have h41 := h4.1
  have hs : set4W w g (k * 4) x = (((w.setCell ⟨g, k * 4, none⟩ (.int .i64 x.sp)).setCell ⟨g, k * 4 + 1, none⟩ (.string x.id)).setCell ⟨g, k * 4 + 2, none⟩ (.bool x.gone)).setCell ⟨g, k * 4 + 3, none⟩ (.string x.text) := rfl
  rw [← hs] at h41
  have hr := GRow.setW hrow hlen (hx _)
  have hl2 : (l.set k x).length = p := by rw [List.length_set]; exact h.len
  clear hs h1 h2 h3 h4 hrow
  generalize set4W w g (k * 4) x = W at *
  exact ⟨⟨_, ⟨h41, hl2, hr, hle⟩⟩, hg⟩

theorem OwnS.insW {T : TypeId} {B : Nat} {w w' : World} {sl sl' : Value} {p k : Nat} {l : List WR} {cs : List Value} {x : WR} (h : OwnS 4 RW T B w sl p l cs) (hk : k ≤ p) (hx : ∀ c, RW c x x.cells.toList)
    (ho : w'.ownsRow B T 4 sl' (p + 1) (cs.take (k * 4) ++ x.cells.toList ++ cs.drop (k * 4))) (hb : w.heap.size ≤ w'.heap.size) : OwnS 4 RW T B w' sl' (p + 1) (l.take k ++ x :: l.drop k) (cs.take (k * 4) ++ x.cells.toList ++ cs.drop (k * 4)) := by
  have hcl := h.row.1
  have hlen := h.len
  have t1 : GRow 4 RW (cfN sl' w') (l.take k) (cs.take (k * 4)) := by
    refine ⟨by rw [List.length_take, List.length_take, hcl]; omega, fun i y hy => ?_⟩
    rw [List.getElem?_take] at hy
    split at hy
    · rename_i hik
      obtain ⟨d, h1, h2, h3⟩ := h.row.2 i y hy
      refine ⟨d, h1, fun j u hu => ?_, h3.any⟩
      have hj : j < 4 := by rw [← h1]; exact (List.getElem?_eq_some_iff.1 hu).1
      rw [List.getElem?_take, if_pos (by omega)]; exact h2 j u hu
    · cases hy
  have t2 : GRow 4 RW (cfN sl' w') [x] x.cells.toList := by
    have := (GRow.nil 4 RW (cfN sl' w')).snoc (d := x.cells.toList) (x := x) rfl (hx _)
    simpa using this
  have t3 : GRow 4 RW (cfN sl' w') (l.drop k) (cs.drop (k * 4)) := by
    refine ⟨by rw [List.length_drop, List.length_drop, hcl]; omega, fun i y hy => ?_⟩
    rw [List.getElem?_drop] at hy
    obtain ⟨d, h1, h2, h3⟩ := h.row.2 (k + i) y hy
    refine ⟨d, h1, fun j u hu => ?_, h3.any⟩
    rw [List.getElem?_drop, show k * 4 + (i * 4 + j) = (k + i) * 4 + j by omega]; exact h2 j u hu
  refine ⟨ho, by simp; omega, ?_, Nat.le_trans h.le hb⟩
  have := (t1.app t2).app t3
  simpa using this
theorem OwnS.onesW {T : TypeId} {B : Nat} {w : World} {sl : Value} {p : Nat} {l : List WR} {cs : List Value} (h : OwnS 4 RW T B w sl p l cs) : ∀ u ∈ cs, u.oneCell' = true := by
  intro u hu
  obtain ⟨i, hi, rfl⟩ := List.getElem_of_mem hu
  have hcl := h.row.1
  obtain ⟨y, hy⟩ : ∃ y, l[i / 4]? = some y := ⟨_, List.getElem?_eq_getElem (by omega)⟩
  obtain ⟨d, h1, h2, h3⟩ := h.row.2 _ y hy
  have := h2 (i % 4) (d[i % 4]'(by omega)) (List.getElem?_eq_getElem _)
  rw [show i / 4 * 4 + i % 4 = i by omega, List.getElem?_eq_getElem hi] at this
  rw [Option.some.inj this]
  exact RW_one _ _ _ h3 _ (List.getElem_mem _)

theorem put_er {l : List WR} {x : WR} (h : (formedW l && oneF x) = false) : putWE l x = 2 := by unfold putWE; rw [h]
theorem put_found {l : List WR} {x : WR} (h1 : formedW l = true) (h2 : oneF x = true) (h : foundW x l = true) : putWE l x = 0 := by unfold putWE; rw [h1, h2, h]; rfl
theorem put_full {l : List WR} {x : WR} (h1 : formedW l = true) (h2 : oneF x = true) (h : foundW x l = false) (hl : l.length = 12) : putWE l x = 3 := by unfold putWE; rw [h1, h2, h]; simp [hl]
theorem put_room {l : List WR} {x : WR} (h1 : formedW l = true) (h2 : oneF x = true) (h : foundW x l = false) (hl : l.length ≠ 12) : putWE l x = 0 := by unfold putWE; rw [h1, h2, h]; simp [hl]
open Classical in
theorem formedW_up {l : List WR} (h : formedW l = true) : upW l ∧ l.length ≤ 12 := by
  unfold formedW at h
  have := of_decide_eq_true h
  exact ⟨up_of_formed this.1, this.2⟩

set_option maxRecDepth 100000 in
set_option maxHeartbeats 16000000 in
theorem wPut_any (l : List WR) (lv : Value) (x : WR) (w : World) (hl : SAt 4 RW (cf w) lv l) (hsm : ∀ y ∈ l, y.id.size ≤ 1000000 ∧ y.text.size ≤ 1000000) (hxi : x.id.size ≤ 1000000) (hxt : x.text.size ≤ 1000000) (hxs : (Lit.int .i64 x.sp).wf = true) (hT : Tabs w) (hP : Pow w.heap.size w) (hE : Errs w.heap.size w) :
    Calls Tryz.prog 31 #[lv, .agg x.cells] w (PutPost l x w) := by
  have HRX : Hold (∀ c, RW c x x.cells.toList) := ⟨fun c => ⟨rfl, by omega, by omega, hxs⟩⟩
  have HLV := Hold.mk hl
  obtain ⟨la, lcap, rfl, hle, hcap, _⟩ := hl
  obtain ⟨s, i, g, t⟩ := x
  unfold WR.cells at HRX ⊢
  simp only at hxi hxt hxs HRX ⊢
  obtain ⟨W, hW⟩ : ∃ W, W = w.alloc (.cells #[.int .i64 s, .string i, .bool g, .string t] 58) := ⟨_, rfl⟩
  have hb : Below w.heap.size w W := by rw [hW]; exact (Below.refl _ w).alloc (Nat.le_refl _) _
  have HX : Hold (W.heap[w.heap.size]? = some (.cells #[.int .i64 s, .string i, .bool g, .string t] 58 (0, 0))) := ⟨by rw [hW]; exact heap_alloc_new w _⟩
  have HB := Hold.mk hb
  have HF := Hold.mk (wFormed_any l _ W (HLV.out.mono RW_mono (cle_below hb)) hsm (hT.below hb) (Pow.below hP hb) (errs_after hE hb))
  have HT := Hold.mk hT
  have HP := Hold.mk hP
  have HE := Hold.mk hE
  clear hb hT hP hE hsm
  go_enter Tryz.func31, Tryz.ntmps31
  go_upto_region 1 with (fail)
  rw [← hW]
  clear hW
  go_wp2_with fail
  refine HF.out.mono ?_
  rintro e w2 ⟨rfl, hb2⟩
  replace HB := Hold.mk (HB.out.trans (hb2.mono HB.out.size))
  replace HX := Hold.mk (keptR HX.out hb2)
  clear hb2 HF
  obtain ⟨fm, hfm⟩ : ∃ fm, formedW l = fm := ⟨_, rfl⟩
  rw [hfm]
  have HFM := Hold.mk hfm
  clear hfm
  cases fm with
  | false =>
    have HR := Hold.mk (put_er (l := l) (x := ⟨s, i, g, t⟩) (by rw [HFM.out]; rfl))
    have HBF := HB.out
    go_wp2_with fail
    go_ret2
    exact put_bad HR.out (by decide) HBF
  | true =>
  obtain ⟨y0, y1, y2, y3⟩ := cells4W HX.out
  go_wp2_with fail
  clear y0 y1 y2 y3
  refine (One_any ⟨s, i, g, t⟩ w2 hxi hxt (HT.out.below HB.out) (Pow.below HP.out HB.out) (errs_after HE.out HB.out)).mono ?_
  rintro e w3 ⟨rfl, hb3⟩
  replace HB := Hold.mk (HB.out.trans (hb3.mono HB.out.size))
  replace HX := Hold.mk (keptR HX.out hb3)
  clear hb3
  obtain ⟨on, hon⟩ : ∃ on, oneF ⟨s, i, g, t⟩ = on := ⟨_, rfl⟩
  rw [hon]
  have HON := Hold.mk hon
  clear hon
  cases on with
  | false =>
    have HR := Hold.mk (put_er (l := l) (x := ⟨s, i, g, t⟩) (by rw [HFM.out, HON.out]; rfl))
    have HBF := HB.out
    go_wp2_with fail
    go_ret2
    exact put_bad HR.out (by decide) HBF
  | true =>
  obtain ⟨hup, hl12⟩ := formedW_up HFM.out
  have HUP := Hold.mk hup
  clear hup
  have HCL := Hold.mk (wclone_any l _ w3 (HLV.out.mono RW_mono (cle_below HB.out)) (by omega))
  go_wp2_with fail
  refine HCL.out.mono ?_
  rintro e w4 ⟨sv, cs, rfl, ho4, hb4⟩
  obtain ⟨sa, scap, rfl⟩ := ho4.shape
  have HO := Hold.mk ho4
  have HBO := Hold.mk hb4
  replace HB := Hold.mk (HB.out.trans (hb4.mono HB.out.size))
  have hsz : w.heap.size < w3.heap.size := ltR HX.out
  replace HX := Hold.mk (keptR HX.out hb4)
  clear hb4 ho4 HCL
  have HS := Hold.mk (wsearch_any l ⟨s, i, g, t⟩ _ w4 (HO.out.at_ RW_mono) HUP.out (by omega))
  obtain ⟨k, hk⟩ : ∃ k, placeW ⟨s, i, g, t⟩ l = k := ⟨_, rfl⟩
  obtain ⟨fd, hfd⟩ : ∃ fd, foundW ⟨s, i, g, t⟩ l = fd := ⟨_, rfl⟩
  rw [hk, hfd] at HS
  have hkl : k ≤ l.length := by rw [← hk]; exact placeW_le _ _
  have HK := Hold.mk hk
  have HFD := Hold.mk hfd
  clear hk hfd
  obtain ⟨y0, y1, y2, y3⟩ := cells4W HX.out
  go_wp2_with fail
  clear y0 y1 y2 y3
  refine HS.out.mono ?_
  rintro e w5 ⟨rfl, hb5⟩
  replace HB := Hold.mk (HB.out.trans (hb5.mono HB.out.size))
  replace HX := Hold.mk (keptR HX.out hb5)
  replace HO := Hold.mk (HO.out.quiet RW_mono hb5)
  clear hb5 HS HBO
  obtain ⟨y0, y1, y2, y3⟩ := cells4W HX.out
  cases fd with
  | true =>
    have hlt : k < l.length := by rw [← HK.out]; exact foundW_lt HFD.out
    obtain ⟨b, rfl⟩ : ∃ b, sa = some ⟨b, 0, none⟩ := by
      rcases HO.out.own.2 with ⟨hv, hn⟩ | ⟨b, cap, cur, hv, _⟩
      · omega
      · simp at hv; exact ⟨b, hv.1⟩
    have hbw := HO.out.low b rfl
    obtain ⟨⟨cs2, ho6⟩, hg6⟩ := HO.out.setW (x := ⟨s, i, g, t⟩) hlt HRX.out
    have HR := Hold.mk (put_found (x := ⟨s, i, g, t⟩) HFM.out HON.out HFD.out)
    have hbl : Below w.heap.size w (set4W w5 b (k * 4) ⟨s, i, g, t⟩) := HB.out.grown hg6 HB.out.size (fun q hq => by
      obtain rfl := Option.some.inj hq; omega)
    have HPF : Hold (PutPost l ⟨s, i, g, t⟩ w (.returned (.tuple #[.slice (some ⟨b, 0, none⟩) l.length scap, .int .i64 0])) (set4W w5 b (k * 4) ⟨s, i, g, t⟩)) := ⟨put_fine HR.out (by
      rw [putWL_set HFD.out, HK.out]; exact ho6.at_ RW_mono) hbl⟩
    have c0 := HO.out.own.cellAt (k * 4) (by omega)
    have c1 := HO.out.own.cellAt (k * 4 + 1) (by omega)
    have c2 := HO.out.own.cellAt (k * 4 + 2) (by omega)
    have c3 := HO.out.own.cellAt (k * 4 + 3) (by omega)
    have hcl := HO.out.own.1
    rw [List.getElem?_eq_getElem (by omega)] at c0 c1 c2 c3
    have f0 := HO.out.own.frozenAt (k * 4)
    have f1 := HO.out.own.frozenAt (k * 4 + 1)
    have f2 := HO.out.own.frozenAt (k * 4 + 2)
    have f3 := HO.out.own.frozenAt (k * 4 + 3)
    generalize cs[k * 4] = v0 at c0
    generalize cs[k * 4 + 1] = v1 at c1
    generalize cs[k * 4 + 2] = v2 at c2
    generalize cs[k * 4 + 3] = v3 at c3
    clear ho6 hg6 hbl hcl hbw
    unfold set4W at HPF
    simp only at HPF
    go_wp2_with fail
    go_ret2
    exact HPF.out
  | false =>
    by_cases h12 : l.length = 12
    · have HR := Hold.mk (put_full (x := ⟨s, i, g, t⟩) HFM.out HON.out HFD.out h12)
      have k12 : (l.length : Int) = 12 := by omega
      have HBF := HB.out
      go_wp2_with fail
      go_ret2
      exact put_bad HR.out (by decide) HBF
    · have HR := Hold.mk (put_room (x := ⟨s, i, g, t⟩) HFM.out HON.out HFD.out h12)
      have k12 : ¬ (l.length : Int) = 12 := by omega
      have HON6 := HO.out.alloc RW_mono (.cells #[.int .i64 s, .string i, .bool g, .string t] 58)
      have hne : Value.ownBlock (.slice sa l.length scap) ≠ some w5.heap.size := fun e => by have := (HO.out.low _ e).2; omega
      have HIN := Hold.mk (insWr_any _ _ _ _ _ HON6.own k hkl w5.heap.size [.int .i64 s, .string i, .bool g, .string t] (heap_alloc_new w5 _) rfl (by simp [Value.oneCell']) HON6.onesW HON6.le (by omega) hne)
      replace HON6 := Hold.mk HON6
      have HBA := Hold.mk (HB.out.alloc HB.out.size (.cells #[.int .i64 s, .string i, .bool g, .string t] 58))
      clear hne h12
      go_wp2_with fail
      refine HIN.out.mono ?_
      rintro e w7 ⟨sl', rfl, ho7, hg7, hn7⟩
      have ho8 := HON6.out.insW (x := ⟨s, i, g, t⟩) hkl HRX.out ho7 hg7.size
      obtain ⟨da, dcap, rfl⟩ := ho8.shape
      have hbl : Below w.heap.size w w7 := HBA.out.grown hg7 HBA.out.size (fun q hq => by have := (HO.out.low q hq).1; omega)
      have HPF : Hold (PutPost l ⟨s, i, g, t⟩ w (.returned (.tuple #[.slice da (l.length + 1) dcap, .int .i64 0])) w7) := ⟨put_fine HR.out (by
        rw [putWL_ins HFD.out, HK.out]; exact ho8.at_ RW_mono) hbl⟩
      clear ho7 hg7 hn7 ho8 hbl HIN y0 y1 y2 y3
      go_wp2_with fail
      go_ret2
      exact HPF.out

end Go.Proofs.YtkhhbckpddkhlaaGreatDoor

namespace Go.Proofs.YtkhhbckpddkhlaaGreatDoor
open Go.Shelf Go.RowKit

theorem putWL_set2 {x : WR} {l : List WR} (h : foundW x l = true) : putWL x l = l.take (placeW x l) ++ x :: l.drop (placeW x l + 1) := by
  unfold putWL; rw [h]

set_option maxRecDepth 100000 in
set_option maxHeartbeats 16000000 in
theorem wrPut_any (l : List WR) (lv : Value) (x : WR) (w : World) (hl : SAt 4 RW (cf w) lv l) (hsm : ∀ y ∈ l, y.id.size ≤ 1000000 ∧ y.text.size ≤ 20000) (hxi : x.id.size ≤ 1000000) (hxt : x.text.size ≤ 20000) (hxs : (Lit.int .i64 x.sp).wf = true) :
    Calls Tryz.prog 32 #[lv, .agg x.cells] w (PutPost l x w) := by
  have HRX : Hold (∀ c, RW c x x.cells.toList) := ⟨fun c => ⟨rfl, by omega, by omega, hxs⟩⟩
  have HLV := Hold.mk hl
  obtain ⟨la, lcap, rfl, hle, hcap, hel⟩ := hl
  have HE := Hold.mk hel
  obtain ⟨s, i, g, t⟩ := x
  unfold WR.cells at HRX ⊢
  simp only at hxi hxt hxs HRX ⊢
  obtain ⟨W, hW⟩ : ∃ W, W = w.alloc (.cells #[.int .i64 s, .string i, .bool g, .string t] 60) := ⟨_, rfl⟩
  have hb : Below w.heap.size w W := by rw [hW]; exact (Below.refl _ w).alloc (Nat.le_refl _) _
  have HX : Hold (W.heap[w.heap.size]? = some (.cells #[.int .i64 s, .string i, .bool g, .string t] 60 (0, 0))) := ⟨by rw [hW]; exact heap_alloc_new w _⟩
  have HB := Hold.mk hb
  have HF := Hold.mk (wrFormed_any l _ W (HLV.out.mono RW_mono (cle_below hb)) hsm)
  clear hb hsm hel
  go_enter Tryz.func32, Tryz.ntmps32
  go_upto_region 1 with (fail)
  rw [← hW]
  clear hW
  go_wp2_with fail
  refine HF.out.mono ?_
  rintro e w2 ⟨rfl, hb2⟩
  replace HB := Hold.mk (HB.out.trans (hb2.mono HB.out.size))
  replace HX := Hold.mk (keptR HX.out hb2)
  clear hb2 HF
  obtain ⟨fm, hfm⟩ : ∃ fm, formedW l = fm := ⟨_, rfl⟩
  rw [hfm]
  have HFM := Hold.mk hfm
  clear hfm
  cases fm with
  | false =>
    have HR := Hold.mk (put_er (l := l) (x := ⟨s, i, g, t⟩) (by rw [HFM.out]; rfl))
    have HBF := HB.out
    go_wp2_with fail
    go_ret2
    exact put_bad HR.out (by decide) HBF
  | true =>
  obtain ⟨y0, y1, y2, y3⟩ := cells4W HX.out
  go_wp2_with fail
  clear y0 y1 y2 y3
  refine (rOne_any ⟨s, i, g, t⟩ w2 hxi hxt).mono ?_
  rintro e w3 ⟨rfl, hb3⟩
  replace HB := Hold.mk (HB.out.trans (hb3.mono HB.out.size))
  replace HX := Hold.mk (keptR HX.out hb3)
  clear hb3
  obtain ⟨on, hon⟩ : ∃ on, oneF ⟨s, i, g, t⟩ = on := ⟨_, rfl⟩
  rw [hon]
  have HON := Hold.mk hon
  clear hon
  cases on with
  | false =>
    have HR := Hold.mk (put_er (l := l) (x := ⟨s, i, g, t⟩) (by rw [HFM.out, HON.out]; rfl))
    have HBF := HB.out
    go_wp2_with fail
    go_ret2
    exact put_bad HR.out (by decide) HBF
  | true =>
  obtain ⟨hup, hl12⟩ := formedW_up HFM.out
  have HUP := Hold.mk hup
  clear hup
  have HO : Hold (OwnS 4 RW 60 (w.heap.size + 1) w3 (.slice none 0 0) 0 ([] : List WR) []) := ⟨OwnS.start _ _ _ (by have := ltR HX.out; omega)⟩
  go_wp2_with fail
  go_loopw [6, 7] (fun sl i' wr => ∃ (j : Nat) (cs : List Value), i' = .int .i64 j ∧ j ≤ l.length ∧ (∀ (q : Nat) a, q < j → l[q]? = some a → ltW a ⟨s, i, g, t⟩ = true) ∧ OwnS 4 RW 60 (w.heap.size + 1) wr sl j (l.take j) cs ∧ Below w.heap.size w wr ∧ wr.heap[w.heap.size]? = some (.cells #[.int .i64 s, .string i, .bool g, .string t] 60 (0, 0))) (fun _ i' _ => l.length - (intOf i').toNat)
  case atStart => exact ⟨0, [], rfl, Nat.zero_le _, fun q a h => by omega, HO.out, HB.out, HX.out⟩
  case round =>
    obtain ⟨j, cs, rfl, hj, hall, hown, hbl, hbx⟩ := hrel
    clear HO HB HX
    obtain ⟨ks, hks⟩ : ∃ ks, ks = l.take j := ⟨_, rfl⟩
    rw [← hks] at hown
    obtain ⟨ja, jcap, rfl⟩ := hown.shape
    have HO := Hold.mk hown
    have HB := Hold.mk hbl
    have HX := Hold.mk hbx
    have HALL := Hold.mk hall
    have HKS := Hold.mk hks
    clear hown hbl hbx hall hks
    by_cases hlt : j < l.length
    · obtain ⟨y, hy⟩ : ∃ y, l[j]? = some y := ⟨l[j], List.getElem?_eq_getElem hlt⟩
      obtain ⟨b, off, d, rfl, hd, hc, hyi⟩ := HE.out j y hy
      have HRY : Hold (∀ c, RW c y y.cells.toList) := ⟨fun c => ⟨rfl, hyi.2⟩⟩
      obtain ⟨rfl, _, _, _⟩ := hyi
      have HY := Hold.mk hy
      obtain ⟨s2, i2, g2, t2⟩ := y
      unfold WR.cells at HRY
      simp only at HRY
      have HC0 := Hold.mk (hc 0 _ rfl)
      have HC1 := Hold.mk (hc 1 _ rfl)
      have HC2 := Hold.mk (hc 2 _ rfl)
      have HC3 := Hold.mk (hc 3 _ rfl)
      have hcl := cle_below HB.out
      have z0 := hcl _ _ _ HC0.out
      have z1 := hcl _ _ _ HC1.out
      have z2 := hcl _ _ _ HC2.out
      have z3 := hcl _ _ _ HC3.out
      unfold cf at z0 z1 z2 z3
      rw [Nat.add_zero] at z0
      replace z0 := Grow.cell z0
      replace z1 := Grow.cell z1
      replace z2 := Grow.cell z2
      replace z3 := Grow.cell z3
      obtain ⟨y0, y1, y2, y3⟩ := cells4W HX.out
      replace y0 := Grow.cell y0
      replace y1 := Grow.cell y1
      replace y2 := Grow.cell y2
      replace y3 := Grow.cell y3
      clear hy hd hc hcl
      have HC : Hold (∀ e : Grow wr, Calls Tryz.prog 74 #[.agg #[.int .i64 s2, .string i2, .bool g2, .string t2], .agg #[.int .i64 s, .string i, .bool g, .string t]] e.val fun r w' => r = .returned (.bool (ltW ⟨s2, i2, g2, t2⟩ ⟨s, i, g, t⟩)) ∧ Below e.val.heap.size e.val w') := ⟨fun e => rLess_any ⟨s2, i2, g2, t2⟩ ⟨s, i, g, t⟩ e.val⟩
      obtain ⟨lt, hlw⟩ : ∃ lt, ltW ⟨s2, i2, g2, t2⟩ ⟨s, i, g, t⟩ = lt := ⟨_, rfl⟩
      rw [hlw] at HC
      have HLW := Hold.mk hlw
      clear hlw
      replace HC := Hold.mk (Calls.grow HC.out)
      go_upto_region 5 with (fail)
      cases lt with
      | true =>
        have HTK : Hold (l.take (j + 1) = ks ++ [⟨s2, i2, g2, t2⟩]) := ⟨by rw [take_nextW HY.out, ← HKS.out]⟩
        have HA2 : Hold (∀ (q : Nat) a, q < j + 1 → l[q]? = some a → ltW a ⟨s, i, g, t⟩ = true) := ⟨fun q a hq ha => by
          by_cases e : q = j
          · subst e; rw [HY.out] at ha; cases ha; exact HLW.out
          · exact HALL.out q a (by omega) ha⟩
        refine wp_region_grow (by kernel_rfl) (by kernel_rfl) ?_
        repeat (go_big_quiet_step (exact HC.out _))
        refine wpQuiet_nil ?_
        rintro ⟨w5, hb5⟩
        replace HB := Hold.mk (HB.out.trans (hb5.mono HB.out.size))
        replace HX := Hold.mk (keptR HX.out hb5)
        replace HO := Hold.mk (HO.out.quiet RW_mono hb5)
        simp only
        clear hb5 z0 z1 z2 z3 y0 y1 y2 y3 HC
        have hcl := cle_below HB.out
        have z0 := hcl _ _ _ HC0.out
        have z1 := hcl _ _ _ HC1.out
        have z2 := hcl _ _ _ HC2.out
        have z3 := hcl _ _ _ HC3.out
        unfold cf at z0 z1 z2 z3
        rw [Nat.add_zero] at z0
        clear hcl
        go_wp2_with (at_builtin; refine push_new RW_mono rfl _ _ rfl infoWr Tryz.underlying62 rfl (by decide) _ _ _ j _ _ HO.out rfl _ [_, _, _, _] rfl rfl (by simp [Value.oneCell']) (⟨s2, i2, g2, t2⟩ : WR) (HRY.out _) _ rfl rfl (by omega) (by decide) ?_)
        intro sl2 w6 ho6 hg6
        have HN : Hold (OwnS 4 RW 60 (w.heap.size + 1) w6 sl2 (j + 1) (l.take (j + 1)) _) := ⟨by rw [HTK.out]; exact ho6⟩
        have HW := Hold.mk (HB.out.trans ((HO.out.below hg6).mono (by omega)))
        have HX6 := Hold.mk (((HO.out.below hg6).block _ (by omega)).trans HX.out)
        clear ho6 hg6 z0 z1 z2 z3
        go_wp2_with fail
        exact ⟨⟨j + 1, _, by go_num, hlt, HA2.out, HN.out, HW.out, HX6.out⟩, by simp [intOf]; omega⟩
      | false =>
        refine wp_region_grow (by kernel_rfl) (by kernel_rfl) ?_
        repeat (go_big_quiet_step (exact HC.out _))
        refine wpQuiet_nil ?_
        rintro ⟨w5, hb5⟩
        replace HB := Hold.mk (HB.out.trans (hb5.mono HB.out.size))
        replace HX := Hold.mk (keptR HX.out hb5)
        replace HO := Hold.mk (HO.out.quiet RW_mono hb5)
        simp only
        clear hb5 z0 z1 z2 z3 y0 y1 y2 y3 HC
        have HK : Hold (placeW ⟨s, i, g, t⟩ l = j) := ⟨placeW_eq hj HALL.out (fun y hy => by rw [HY.out] at hy; cases hy; exact HLW.out)⟩
        obtain ⟨y0, y1, y2, y3⟩ := cells4W HX.out

        go_wp2_with (at_builtin; refine push_new RW_mono rfl _ _ rfl infoWr Tryz.underlying62 rfl (by decide) _ _ _ j _ _ HO.out rfl _ [_, _, _, _] rfl rfl (by simp [Value.oneCell']) (⟨s, i, g, t⟩ : WR) (HRX.out _) _ rfl rfl (by omega) (by decide) ?_)
        intro sv2 w3 ho3 hg3
        obtain ⟨ka, kcap, rfl⟩ := ho3.shape
        replace HX := Hold.mk ((((HO.out.below hg3).block _ (by omega) : w3.heap[w.heap.size]? = _)).trans HX.out)
        replace HB := Hold.mk (HB.out.trans ((HO.out.below hg3).mono (by omega)))
        replace HO := Hold.mk ho3
        clear ho3 hg3
        clear y0 y1 y2 y3
        obtain ⟨y0, y1, y2, y3⟩ := cells4W HX.out
        replace y0 := Grow.cell y0
        replace y1 := Grow.cell y1
        replace y2 := Grow.cell y2
        replace y3 := Grow.cell y3
        have hcl := cle_below HB.out
        have z0 := hcl _ _ _ HC0.out
        have z1 := hcl _ _ _ HC1.out
        have z2 := hcl _ _ _ HC2.out
        have z3 := hcl _ _ _ HC3.out
        unfold cf at z0 z1 z2 z3
        rw [Nat.add_zero] at z0
        replace z0 := Grow.cell z0
        replace z1 := Grow.cell z1
        replace z2 := Grow.cell z2
        replace z3 := Grow.cell z3
        clear hcl
        have HC : Hold (∀ e : Grow w3, Calls Tryz.prog 74 #[.agg #[.int .i64 s, .string i, .bool g, .string t], .agg #[.int .i64 s2, .string i2, .bool g2, .string t2]] e.val fun r w' => r = .returned (.bool (ltW ⟨s, i, g, t⟩ ⟨s2, i2, g2, t2⟩)) ∧ Below e.val.heap.size e.val w') := ⟨fun e => rLess_any ⟨s, i, g, t⟩ ⟨s2, i2, g2, t2⟩ e.val⟩
        obtain ⟨gt, hgt⟩ : ∃ gt, ltW ⟨s, i, g, t⟩ ⟨s2, i2, g2, t2⟩ = gt := ⟨_, rfl⟩
        rw [hgt] at HC
        have HGT := Hold.mk hgt
        clear hgt
        replace HC := Hold.mk (Calls.grow HC.out)
        have HFQ : Hold (foundW ⟨s, i, g, t⟩ l = sameW ⟨s2, i2, g2, t2⟩ ⟨s, i, g, t⟩) := ⟨by unfold foundW; rw [HK.out, HY.out]⟩
        go_upto_region 9 with (fail)
        cases gt with
        | false =>
          have HFD : Hold (foundW ⟨s, i, g, t⟩ l = true) := ⟨by rw [HFQ.out]; exact sameW_of HLW.out HGT.out⟩
          refine wp_region_grow (by kernel_rfl) (by kernel_rfl) ?_
          repeat (go_big_quiet_step (exact HC.out _))
          refine wpQuiet_nil ?_
          rintro ⟨w5, hb5⟩
          replace HB := Hold.mk (HB.out.trans (hb5.mono HB.out.size))
          replace HO := Hold.mk (HO.out.quiet RW_mono hb5)
          simp only
          clear hb5 z0 z1 z2 z3 y0 y1 y2 y3 HC HX
          obtain ⟨a', hsl0, hsl1⟩ := slice_tail (n := 4) Tryz.underlying62 (by kernel_rfl) infoWr (some ⟨b, off, none⟩) l.length lcap (j + 1) (by omega) (by omega) hcap
          have hsl : ∀ w, (Instr.slice 62 (.slice (some ⟨b, off, none⟩) l.length lcap) (some (.int .i64 ((j : Int) + 1))) none none).run Tryz.prog w = .ok (.slice a' (l.length - (j + 1)) (lcap - (j + 1))) w := hsl0
          have HYS : Hold (SAt 4 RW (cfN (.slice ka (j + 1) kcap) w5) (.slice a' (l.length - (j + 1)) (lcap - (j + 1))) (l.drop (j + 1))) := ⟨hsl1 rfl (HLV.out.mono RW_mono (cle_cfN_old HB.out (fun g hg => by have := (HO.out.low g hg).1; omega)))⟩
          clear hsl0 hsl1
          obtain ⟨ds, hds⟩ : ∃ ds, ds = l.drop (j + 1) := ⟨_, rfl⟩
          rw [← hds] at HYS
          have HDL : Hold (ds.length = l.length - (j + 1)) := ⟨by rw [hds, List.length_drop]⟩
          have HDS := Hold.mk hds
          clear hds
          go_wp2_with (at_builtin; refine push_src RW_mono RW_one rfl _ _ rfl infoWr Tryz.underlying62 rfl (by decide) _ _ _ (j + 1) _ _ HO.out rfl _ ds HYS.out rfl (by have := HDL.out; omega) (by decide) ?_)
          intro sv4 w4 cs4 ho4 hg4
          have hbl : Below w.heap.size w w4 := HB.out.trans ((HO.out.below hg4).mono (by omega))
          have HPL : Hold (putWL ⟨s, i, g, t⟩ l = l.take j ++ ⟨s, i, g, t⟩ :: ds) := ⟨by rw [putWL_set2 HFD.out, HK.out, HDS.out]⟩
          have HLEN : Hold (j + 1 + ds.length = if foundW ⟨s, i, g, t⟩ l = true then l.length else l.length + 1) := ⟨by rw [HDL.out, HFD.out]; first | (simp; done) | (simp; omega)⟩
          rw [HFD.out] at HLEN
          obtain ⟨N, hN⟩ : ∃ N, N = j + 1 + ds.length := ⟨_, rfl⟩
          rw [← hN] at ho4 HLEN
          have HO4 : Hold (SAt 4 RW (cf w4) sv4 (putWL ⟨s, i, g, t⟩ l)) := ⟨by rw [HPL.out, ← HKS.out]; exact ho4.at_ RW_mono⟩
          obtain ⟨ra, rcap, rfl⟩ := ho4.shape
          have HBF := Hold.mk hbl
          clear hN ho4 hg4 hbl hsl HYS
          have hN12 : N ≤ 12 := by have := HLEN.out; simp at this; omega
          have k12 : ¬ (12 : Int) < (N : Int) := by omega
          have HPF : Hold (PutPost l ⟨s, i, g, t⟩ w (.returned (.tuple #[.slice ra N rcap, .int .i64 0])) w4) := ⟨put_fine (put_found HFM.out HON.out HFD.out) HO4.out HBF.out⟩
          go_wp2_with fail
          go_ret2
          exact HPF.out
        | true =>
          have HFD : Hold (foundW ⟨s, i, g, t⟩ l = false) := ⟨by
            rw [HFQ.out]
            cases hs : sameW ⟨s2, i2, g2, t2⟩ ⟨s, i, g, t⟩ with
            | false => rfl
            | true => rw [(sameW_lt hs).2] at HGT; cases HGT.out⟩
          refine wp_region_grow (by kernel_rfl) (by kernel_rfl) ?_
          repeat (go_big_quiet_step (exact HC.out _))
          refine wpQuiet_nil ?_
          rintro ⟨w5, hb5⟩
          replace HB := Hold.mk (HB.out.trans (hb5.mono HB.out.size))
          replace HO := Hold.mk (HO.out.quiet RW_mono hb5)
          simp only
          clear hb5 z0 z1 z2 z3 y0 y1 y2 y3 HC HX
          obtain ⟨a', hsl0, hsl1⟩ := slice_tail (n := 4) Tryz.underlying62 (by kernel_rfl) infoWr (some ⟨b, off, none⟩) l.length lcap (j) (by omega) (by omega) hcap
          have hsl : ∀ w, (Instr.slice 62 (.slice (some ⟨b, off, none⟩) l.length lcap) (some (.int .i64 ((j : Int)))) none none).run Tryz.prog w = .ok (.slice a' (l.length - (j)) (lcap - (j))) w := hsl0
          have HYS : Hold (SAt 4 RW (cfN (.slice ka (j + 1) kcap) w5) (.slice a' (l.length - (j)) (lcap - (j))) (l.drop (j))) := ⟨hsl1 rfl (HLV.out.mono RW_mono (cle_cfN_old HB.out (fun g hg => by have := (HO.out.low g hg).1; omega)))⟩
          clear hsl0 hsl1
          obtain ⟨ds, hds⟩ : ∃ ds, ds = l.drop (j) := ⟨_, rfl⟩
          rw [← hds] at HYS
          have HDL : Hold (ds.length = l.length - (j)) := ⟨by rw [hds, List.length_drop]⟩
          have HDS := Hold.mk hds
          clear hds
          go_wp2_with (at_builtin; refine push_src RW_mono RW_one rfl _ _ rfl infoWr Tryz.underlying62 rfl (by decide) _ _ _ (j + 1) _ _ HO.out rfl _ ds HYS.out rfl (by have := HDL.out; omega) (by decide) ?_)
          intro sv4 w4 cs4 ho4 hg4
          have hbl : Below w.heap.size w w4 := HB.out.trans ((HO.out.below hg4).mono (by omega))
          have HPL : Hold (putWL ⟨s, i, g, t⟩ l = l.take j ++ ⟨s, i, g, t⟩ :: ds) := ⟨by rw [putWL_ins HFD.out, HK.out, HDS.out]⟩
          have HLEN : Hold (j + 1 + ds.length = if foundW ⟨s, i, g, t⟩ l = true then l.length else l.length + 1) := ⟨by rw [HDL.out, HFD.out]; first | (simp; done) | (simp; omega)⟩
          rw [HFD.out] at HLEN
          obtain ⟨N, hN⟩ : ∃ N, N = j + 1 + ds.length := ⟨_, rfl⟩
          rw [← hN] at ho4 HLEN
          have HO4 : Hold (SAt 4 RW (cf w4) sv4 (putWL ⟨s, i, g, t⟩ l)) := ⟨by rw [HPL.out, ← HKS.out]; exact ho4.at_ RW_mono⟩
          obtain ⟨ra, rcap, rfl⟩ := ho4.shape
          have HBF := Hold.mk hbl
          clear hN ho4 hg4 hbl hsl HYS
          have hN13 : N = l.length + 1 := by have := HLEN.out; simpa using this
          by_cases h12 : l.length = 12
          · have k12 : (12 : Int) < (N : Int) := by omega
            have HR := Hold.mk (put_full (x := ⟨s, i, g, t⟩) HFM.out HON.out HFD.out h12)
            clear hN13 h12
            go_wp2_with fail
            go_ret2
            exact put_bad HR.out (by decide) HBF.out
          · have k12 : ¬ (12 : Int) < (N : Int) := by omega
            have HPF : Hold (PutPost l ⟨s, i, g, t⟩ w (.returned (.tuple #[.slice ra N rcap, .int .i64 0])) w4) := ⟨put_fine (put_room HFM.out HON.out HFD.out h12) HO4.out HBF.out⟩
            clear hN13 h12
            go_wp2_with fail
            go_ret2
            exact HPF.out
    · obtain rfl : j = l.length := by omega
      have HK : Hold (placeW ⟨s, i, g, t⟩ l = l.length) := ⟨placeW_eq (Nat.le_refl _) HALL.out (fun y hy => by have := (List.getElem?_eq_some_iff.1 hy).1; omega)⟩
      have HFD : Hold (foundW ⟨s, i, g, t⟩ l = false) := ⟨by unfold foundW; rw [HK.out, List.getElem?_eq_none (Nat.le_refl _)]⟩
      go_upto_region 5 with (fail)
      refine wp_region_grow (by kernel_rfl) (by kernel_rfl) ?_
      repeat (go_big_quiet_step (fail))
      refine wpQuiet_nil ?_
      rintro ⟨w5, hb5⟩
      replace HB := Hold.mk (HB.out.trans (hb5.mono HB.out.size))
      replace HX := Hold.mk (keptR HX.out hb5)
      replace HO := Hold.mk (HO.out.quiet RW_mono hb5)
      simp only
      clear hb5
      obtain ⟨y0, y1, y2, y3⟩ := cells4W HX.out
      go_wp2_with (at_builtin; refine push_new RW_mono rfl _ _ rfl infoWr Tryz.underlying62 rfl (by decide) _ _ _ l.length _ _ HO.out rfl _ [_, _, _, _] rfl rfl (by simp [Value.oneCell']) (⟨s, i, g, t⟩ : WR) (HRX.out _) _ rfl rfl (by omega) (by decide) ?_)
      intro sv2 w3 ho3 hg3
      obtain ⟨ka, kcap, rfl⟩ := ho3.shape
      replace HX := Hold.mk ((((HO.out.below hg3).block _ (by omega) : w3.heap[w.heap.size]? = _)).trans HX.out)
      replace HB := Hold.mk (HB.out.trans ((HO.out.below hg3).mono (by omega)))
      replace HO := Hold.mk ho3
      clear ho3 hg3
      clear y0 y1 y2 y3
      go_upto_region 9 with (fail)
      refine wp_region_grow (by kernel_rfl) (by kernel_rfl) ?_
      repeat (go_big_quiet_step (fail))
      refine wpQuiet_nil ?_
      rintro ⟨w5, hb5⟩
      replace HB := Hold.mk (HB.out.trans (hb5.mono HB.out.size))
      replace HO := Hold.mk (HO.out.quiet RW_mono hb5)
      simp only
      clear hb5 HX
      obtain ⟨a', hsl0, hsl1⟩ := slice_tail (n := 4) Tryz.underlying62 (by kernel_rfl) infoWr la l.length lcap (l.length) (by omega) (by omega) hcap
      have hsl : ∀ w, (Instr.slice 62 (.slice la l.length lcap) (some (.int .i64 (l.length : Int))) none none).run Tryz.prog w = .ok (.slice a' 0 (lcap - l.length)) w := fun w => by have h := hsl0 w; rw [Nat.sub_self] at h; exact h
      have HYS : Hold (SAt 4 RW (cfN (.slice ka (l.length + 1) kcap) w5) (.slice a' 0 (lcap - l.length)) (l.drop l.length)) := ⟨by have h := hsl1 rfl (HLV.out.mono RW_mono (cle_cfN_old (s := .slice ka (l.length + 1) kcap) HB.out (fun g hg => by have := (HO.out.low g hg).1; omega))); rw [Nat.sub_self] at h; exact h⟩
      clear hsl0 hsl1
      obtain ⟨ds, hds⟩ : ∃ ds, ds = l.drop (l.length) := ⟨_, rfl⟩
      rw [← hds] at HYS
      have HDL : Hold (ds.length = l.length - (l.length)) := ⟨by rw [hds, List.length_drop]⟩
      have HDS := Hold.mk hds
      clear hds
      go_wp2_with (at_builtin; refine push_src RW_mono RW_one rfl _ _ rfl infoWr Tryz.underlying62 rfl (by decide) _ _ _ (l.length + 1) _ _ HO.out rfl _ ds HYS.out rfl (by have := HDL.out; omega) (by decide) ?_)
      intro sv4 w4 cs4 ho4 hg4
      have hbl : Below w.heap.size w w4 := HB.out.trans ((HO.out.below hg4).mono (by omega))
      have HPL : Hold (putWL ⟨s, i, g, t⟩ l = l.take l.length ++ ⟨s, i, g, t⟩ :: ds) := ⟨by rw [putWL_ins HFD.out, HK.out, HDS.out]⟩
      have HLEN : Hold (l.length + 1 + ds.length = if foundW ⟨s, i, g, t⟩ l = true then l.length else l.length + 1) := ⟨by rw [HDL.out, HFD.out]; first | (simp; done) | (simp; omega)⟩
      rw [HFD.out] at HLEN
      obtain ⟨N, hN⟩ : ∃ N, N = l.length + 1 + ds.length := ⟨_, rfl⟩
      rw [← hN] at ho4 HLEN
      have HO4 : Hold (SAt 4 RW (cf w4) sv4 (putWL ⟨s, i, g, t⟩ l)) := ⟨by rw [HPL.out, ← HKS.out]; exact ho4.at_ RW_mono⟩
      obtain ⟨ra, rcap, rfl⟩ := ho4.shape
      have HBF := Hold.mk hbl
      clear hN ho4 hg4 hbl hsl HYS
      have hN13 : N = l.length + 1 := by have := HLEN.out; simpa using this
      by_cases h12 : l.length = 12
      · have k12 : (12 : Int) < (N : Int) := by omega
        have HR := Hold.mk (put_full (x := ⟨s, i, g, t⟩) HFM.out HON.out HFD.out h12)
        clear hN13 h12
        go_wp2_with fail
        go_ret2
        exact put_bad HR.out (by decide) HBF.out
      · have k12 : ¬ (12 : Int) < (N : Int) := by omega
        have HPF : Hold (PutPost l ⟨s, i, g, t⟩ w (.returned (.tuple #[.slice ra N rcap, .int .i64 0])) w4) := ⟨put_fine (put_room HFM.out HON.out HFD.out h12) HO4.out HBF.out⟩
        clear hN13 h12
        go_wp2_with fail
        go_ret2
        exact HPF.out

end Go.Proofs.YtkhhbckpddkhlaaGreatDoor
