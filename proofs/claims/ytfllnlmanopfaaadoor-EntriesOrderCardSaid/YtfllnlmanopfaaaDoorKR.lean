/- Keys are ordered as values are, plainly. -/
import Derived.Test.YtfllnlmanopfaaaDoorKJ
namespace Go.Proofs.YtfllnlmanopfaaaDoor

/-- two lists of bytes differ at one place, so, or are alike -/
def DB (p q : List UInt8) (c : Int) : Prop :=
  (c = 0 ∧ p = q) ∨ (∃ pre x y p' q', p = pre ++ x :: p' ∧ q = pre ++ y :: q' ∧ ((x.toNat < y.toNat ∧ c = -1) ∨ (y.toNat < x.toNat ∧ c = 1)))
theorem DB.refl (p : List UInt8) : DB p p 0 := .inl ⟨rfl, rfl⟩
theorem DB.pre {p q : List UInt8} {c : Int} (r : List UInt8) (h : DB p q c) : DB (r ++ p) (r ++ q) c := by
  rcases h with ⟨h1, h2⟩ | ⟨pre, x, y, p', q', h1, h2, h3⟩
  · exact .inl ⟨h1, by rw [h2]⟩
  · exact .inr ⟨r ++ pre, x, y, p', q', by rw [h1, List.append_assoc], by rw [h2, List.append_assoc], h3⟩
theorem DB.app {p q p2 q2 : List UInt8} {c c2 : Int} (h : DB p q c) (k : DB p2 q2 c2) : DB (p ++ p2) (q ++ q2) (orI c c2) := by
  rcases h with ⟨h1, h2⟩ | ⟨pre, x, y, p', q', h1, h2, h3⟩
  · subst h1; subst h2
    unfold orI; rw [if_pos rfl]; exact k.pre p
  · have hc : c ≠ 0 := by rcases h3 with ⟨_, rfl⟩ | ⟨_, rfl⟩ <;> decide
    unfold orI; rw [if_neg hc]
    exact .inr ⟨pre, x, y, p' ++ p2, q' ++ q2, by rw [h1]; simp, by rw [h2]; simp, h3⟩
theorem DB.cons {p q : List UInt8} {c : Int} (a : UInt8) (h : DB p q c) : DB (a :: p) (a :: q) c := h.pre [a]
theorem DB.lt {x y : UInt8} (p q : List UInt8) (h : x.toNat < y.toNat) : DB (x :: p) (y :: q) (-1) := .inr ⟨[], x, y, p, q, rfl, rfl, .inl ⟨h, rfl⟩⟩
theorem DB.gt {x y : UInt8} (p q : List UInt8) (h : y.toNat < x.toNat) : DB (x :: p) (y :: q) 1 := .inr ⟨[], x, y, p, q, rfl, rfl, .inr ⟨h, rfl⟩⟩
theorem lexC_self : ∀ l : List UInt8, lexC l l = 0
  | [] => rfl
  | a :: l => by rw [lexC, if_neg (by omega), if_neg (by omega)]; exact lexC_self l
theorem lexC_pre (r p q : List UInt8) : lexC (r ++ p) (r ++ q) = lexC p q := by
  induction r with
  | nil => rfl
  | cons a r ih => rw [List.cons_append, List.cons_append, lexC, if_neg (by omega), if_neg (by omega), ih]
theorem DB.lex {p q : List UInt8} {c : Int} (h : DB p q c) : lexC p q = c := by
  rcases h with ⟨h1, h2⟩ | ⟨pre, x, y, p', q', h1, h2, h3⟩
  · rw [h1, h2]; exact lexC_self q
  · rw [h1, h2, lexC_pre, lexC]
    rcases h3 with ⟨a, b⟩ | ⟨a, b⟩
    · rw [if_pos a, b]
    · rw [if_neg (by omega), if_pos a, b]
theorem DB.same {p q : List UInt8} {c : Int} (h : DB p q c) : sameY p q = decide (c = 0) := by
  unfold sameY
  rcases h with ⟨h1, h2⟩ | ⟨pre, x, y, p', q', h1, h2, h3⟩
  · rw [decide_eq_true h1, decide_eq_true h2]
  · have hc : c ≠ 0 := by rcases h3 with ⟨_, rfl⟩ | ⟨_, rfl⟩ <;> decide
    rw [decide_eq_false hc, decide_eq_false]
    intro e
    rw [h1, h2] at e
    have e2 := List.append_cancel_left e
    have e3 := (List.cons.inj e2).1
    rw [e3] at h3
    rcases h3 with ⟨a, _⟩ | ⟨a, _⟩ <;> omega
theorem DB.less {p q : List UInt8} {c : Int} (h : DB p q c) : lessY p q = decide (c < 0) := by unfold lessY; rw [h.lex]
theorem notB_val (c : UInt8) : (notB c).toNat = 255 - c.toNat := by
  have := not_val c
  have := c.toNat_lt
  omega
theorem DB.not {p q : List UInt8} {c : Int} (h : DB p q c) : DB (p.map notB) (q.map notB) (-c) := by
  rcases h with ⟨h1, h2⟩ | ⟨pre, x, y, p', q', h1, h2, h3⟩
  · exact .inl ⟨by rw [h1]; rfl, by rw [h2]⟩
  · refine .inr ⟨pre.map notB, notB x, notB y, p'.map notB, q'.map notB, by rw [h1]; simp, by rw [h2]; simp, ?_⟩
    have hx := x.toNat_lt
    have hy := y.toNat_lt
    rw [notB_val, notB_val]
    rcases h3 with ⟨a, b⟩ | ⟨a, b⟩
    · exact .inr ⟨by omega, by rw [b]; rfl⟩
    · exact .inl ⟨by omega, by rw [b]⟩

/-! numbers -/
theorem orI_zero (a : Int) : orI a 0 = a := by unfold orI; split <;> simp_all
theorem zero_orI (a : Int) : orI 0 a = a := by unfold orI; simp
def beN : Nat → Nat → List UInt8
  | 0, _ => []
  | n + 1, x => beN n (x / 256) ++ [x.toUInt8]
theorem be_eq (x : Nat) : be64 x = beN 8 x := by
  simp [beN, be64, Nat.div_div_eq_div_mul]
theorem cmpI_lt {a b : Int} (h : a < b) : cmpI a b = -1 := by unfold cmpI; rw [if_pos h]
theorem cmpI_gt {a b : Int} (h : b < a) : cmpI a b = 1 := by unfold cmpI; rw [if_neg (by omega), if_pos h]
theorem orI_left {a : Int} (b : Int) (h : a ≠ 0) : orI a b = a := by unfold orI; rw [if_neg h]
theorem cmpI_digit (x y : Nat) : cmpI (x : Int) y = orI (cmpI ((x / 256 : Nat) : Int) ((y / 256 : Nat) : Int)) (cmpI ((x % 256 : Nat) : Int) ((y % 256 : Nat) : Int)) := by
  have hx := Nat.div_add_mod x 256
  have hy := Nat.div_add_mod y 256
  have hx2 := Nat.mod_lt x (show 0 < 256 by decide)
  have hy2 := Nat.mod_lt y (show 0 < 256 by decide)
  generalize x / 256 = a at *
  generalize x % 256 = b at *
  generalize y / 256 = c at *
  generalize y % 256 = d at *
  rcases Nat.lt_trichotomy a c with h | h | h
  · rw [cmpI_lt (a := (x : Int)) (by omega), cmpI_lt (a := (a : Int)) (by omega), orI_left _ (by decide)]
  · subst h
    rw [cmpI_self, zero_orI]
    rcases Nat.lt_trichotomy b d with h | h | h
    · rw [cmpI_lt (a := (x : Int)) (by omega), cmpI_lt (a := (b : Int)) (by omega)]
    · have : x = y := by omega
      subst this; subst h; rw [cmpI_self, cmpI_self]
    · rw [cmpI_gt (a := (x : Int)) (by omega), cmpI_gt (a := (b : Int)) (by omega)]
  · rw [cmpI_gt (a := (x : Int)) (by omega), cmpI_gt (a := (a : Int)) (by omega), orI_left _ (by decide)]
theorem beN_D : ∀ (n x y : Nat), x < 256 ^ n → y < 256 ^ n → DB (beN n x) (beN n y) (cmpI (x : Int) (y : Int))
  | 0, x, y, hx, hy => by
    have h1 : x = 0 := by simpa using hx
    have h2 : y = 0 := by simpa using hy
    subst h1; subst h2; exact DB.refl _
  | n + 1, x, y, hx, hy => by
    rw [beN, beN, cmpI_digit]
    rw [Nat.pow_succ] at hx hy
    refine (beN_D n (x / 256) (y / 256) (Nat.div_lt_of_lt_mul (by rw [Nat.mul_comm]; exact hx)) (Nat.div_lt_of_lt_mul (by rw [Nat.mul_comm]; exact hy))).app ?_
    have ex : x.toUInt8.toNat = x % 256 := by simp
    have ey : y.toUInt8.toNat = y % 256 := by simp
    rcases Nat.lt_trichotomy (x % 256) (y % 256) with h | h | h
    · rw [cmpI_lt (by omega)]; exact DB.lt _ _ (by rw [ex, ey]; exact h)
    · rw [h, cmpI_self]
      exact .inl ⟨rfl, by rw [UInt8.toNat_inj.1 (ex.trans (h.trans ey.symm))]⟩
    · rw [cmpI_gt (by omega)]; exact DB.gt _ _ (by rw [ex, ey]; exact h)
theorem be_D (x y : Nat) (hx : x < 18446744073709551616) (hy : y < 18446744073709551616) : DB (be64 x) (be64 y) (cmpI (x : Int) (y : Int)) := by
  rw [be_eq, be_eq]; exact beN_D 8 x y (by simpa using hx) (by simpa using hy)

/-! texts -/
theorem escK_zero : escK 0 = [0, 255] := rfl
theorem escK_other {c : UInt8} (h : c ≠ 0) : escK c = [c] := by unfold escK; rw [if_neg h]
theorem textK_cons (c : UInt8) (l : List UInt8) : textK (c :: l) = escK c ++ textK l := by unfold textK; rw [List.flatMap_cons, List.append_assoc]
theorem ne_zero {c : UInt8} (h : 0 < c.toNat) : c ≠ 0 := by rintro rfl; simp at h
theorem text_D : ∀ s t : List UInt8, DB (textK s) (textK t) (lexC s t)
  | [], [] => by rw [lexC]; exact DB.refl _
  | [], b :: m => by
    rw [lexC, textK_cons]
    by_cases hb : b = 0
    · subst hb; rw [escK_zero]; exact (DB.lt (x := 0) (y := 255) _ _ (by decide)).cons 0
    · rw [escK_other hb]
      refine DB.lt (x := 0) _ _ ?_
      have : b.toNat ≠ 0 := fun e => hb (UInt8.toNat_inj.1 (by simpa using e))
      simp; omega
  | a :: l, [] => by
    rw [lexC, textK_cons]
    by_cases ha : a = 0
    · subst ha; rw [escK_zero]; exact (DB.gt (x := 255) (y := 0) _ _ (by decide)).cons 0
    · rw [escK_other ha]
      refine DB.gt (y := 0) _ _ ?_
      have : a.toNat ≠ 0 := fun e => ha (UInt8.toNat_inj.1 (by simpa using e))
      simp; omega
  | a :: l, b :: m => by
    rw [lexC, textK_cons, textK_cons]
    rcases Nat.lt_trichotomy a.toNat b.toNat with h | h | h
    · rw [if_pos h, escK_other (c := b) (ne_zero (by omega))]
      by_cases ha : a = 0
      · subst ha; rw [escK_zero]; exact DB.lt _ _ h
      · rw [escK_other ha]; exact DB.lt _ _ h
    · have e : a = b := UInt8.toNat_inj.1 h
      subst e
      rw [if_neg (by omega), if_neg (by omega)]
      exact (text_D l m).pre _
    · rw [if_neg (by omega), if_pos h, escK_other (c := a) (ne_zero (by omega))]
      by_cases hb : b = 0
      · subst hb; rw [escK_zero]; exact DB.gt _ _ h
      · rw [escK_other hb]; exact DB.gt _ _ h
theorem textS_D (s t : ByteArray) : DB (textK s.data.toList) (textK t.data.toList) (cmpS s t) := by rw [← lexC_cmp]; exact text_D _ _

/-! values -/
theorem put_head {d : Nat} {x : JV} (h : formedF d x = true) : ∃ c l, putF x = c :: l ∧ 0 < c.toNat := by
  cases d with
  | zero => simp [formedF] at h
  | succ d =>
    obtain ⟨k, n, t, nm, it⟩ := x
    have h1 := formed_head h
    refine ⟨_, _, by rw [putF], ?_⟩
    have := kind_byte h1.1 h1.2.1
    have := h1.1
    omega
theorem name_D (k : Int) (nm nu : List ByteArray) (j : Nat) : DB (nameK k nm j) (nameK k nu j) (if k = 6 then cmpS (nm.getD j ⟨#[]⟩) (nu.getD j ⟨#[]⟩) else 0) := by
  unfold nameK
  split
  · exact (textS_D _ _).cons 1
  · exact DB.refl _
theorem memb_D {f : JV → JV → Int} {k : Int} (hk : k = 5 ∨ k = 6) {nm nu : List ByteArray} : ∀ (it ju : List JV) (j : Nat), (∀ x ∈ it, ∀ y ∈ ju, DB (putF x) (putF y) (f x y)) → (∀ x ∈ it, ∃ c l, putF x = c :: l ∧ 0 < c.toNat) → (∀ x ∈ ju, ∃ c l, putF x = c :: l ∧ 0 < c.toNat) →
    DB (membK k nm j it ++ [0]) (membK k nu j ju ++ [0]) (membC f k it ju (nm.drop j) (nu.drop j))
  | [], [], j, _, _, _ => by rw [membC, membK, membK]; exact DB.refl _
  | [], y :: ju, j, _, _, h2 => by
    rw [membC, membK, membK]
    obtain ⟨c, l, e, hc⟩ := h2 y (by simp)
    unfold nameK
    rcases hk with rfl | rfl
    · rw [if_neg (by decide), e]; exact DB.lt (x := 0) _ _ hc
    · rw [if_pos rfl]; exact DB.lt (x := 0) (y := 1) _ _ (by decide)
  | x :: it, [], j, _, h1, _ => by
    rw [membC, membK, membK]
    obtain ⟨c, l, e, hc⟩ := h1 x (by simp)
    unfold nameK
    rcases hk with rfl | rfl
    · rw [if_neg (by decide), e]; exact DB.gt (y := 0) _ _ hc
    · rw [if_pos rfl]; exact DB.gt (x := 1) (y := 0) _ _ (by decide)
  | x :: it, y :: ju, j, hf, h1, h2 => by
    have ih := memb_D (f := f) (nm := nm) (nu := nu) hk it ju (j + 1) (fun a ha b hb => hf a (by simp [ha]) b (by simp [hb])) (fun a ha => h1 a (by simp [ha])) (fun a ha => h2 a (by simp [ha]))
    have e : ∀ l : List ByteArray, (l.drop j).headD ⟨#[]⟩ = l.getD j ⟨#[]⟩ := fun l => by
      rw [List.headD_eq_head?_getD, List.head?_drop, List.getD_eq_getElem?_getD]
    rw [membC, membK, membK, e, e, List.tail_drop, List.tail_drop, List.append_assoc, List.append_assoc, List.append_assoc, List.append_assoc]
    exact (name_D k nm nu j).app ((hf x (by simp) y (by simp)).app ih)
theorem leaf_empty {d : Nat} {k n : Int} {t : ByteArray} {nm : List ByteArray} {it : List JV} (h : formedF (d + 1) (.mk k n t nm it) = true) (hk : k < 5) : it = [] ∧ nm = [] := by
  rw [formedF, Bool.and_eq_true, if_pos hk] at h
  have := of_decide_eq_true h.2
  exact ⟨List.length_eq_zero_iff.1 this.1, List.length_eq_zero_iff.1 this.2⟩
theorem text_empty {t : ByteArray} (h : t.toList = []) : t = ⟨#[]⟩ := by
  rw [ByteArray.toList_eq] at h
  cases t with
  | mk d => exact congrArg ByteArray.mk (Array.toList_inj.1 h)
theorem put_D : ∀ (d : Nat) (a b : JV) (ca : ∃ c x, JAt c a x) (cb : ∃ c x, JAt c b x), formedF d a = true → formedF d b = true → DB (putF a) (putF b) (cmpF d a b)
  | 0, a, _, _, _, h, _ => by simp [formedF] at h
  | d + 1, .mk k n t nm it, .mk q m u nu ju, ca, cb, ha, hb => by
    have h1 := formed_head ha
    have h2 := formed_head hb
    obtain ⟨cc, x, hx⟩ := ca
    obtain ⟨cd, y, hy⟩ := cb
    obtain ⟨_, _, _, _, _, _, _, _, _, e, _, _, hn, _, _, hit⟩ := hx.open
    cases e
    obtain ⟨_, _, _, _, _, _, _, _, _, e, _, _, hm, _, _, hju⟩ := hy.open
    cases e
    have hn2 := wf_i64 hn
    have hm2 := wf_i64 hm
    rw [putF, putF, cmpF]
    by_cases hkq : k = q
    · subst hkq
      rw [cmpI_self, zero_orI]
      refine DB.cons _ ?_
      by_cases h3 : k = 3
      · subst h3
        obtain ⟨rfl, rfl⟩ := leaf_empty ha (by decide)
        obtain ⟨rfl, rfl⟩ := leaf_empty hb (by decide)
        have e1 := text_empty (h1.2.2.2.1.resolve_left (by decide))
        have e2 := text_empty (h2.2.2.2.1.resolve_left (by decide))
        subst e1; subst e2
        rw [if_pos rfl, if_pos rfl, cmpS_zero.2 rfl, zero_orI, membC, orI_zero]
        have := be_D (n + 9223372036854775808).toNat (m + 9223372036854775808).toNat (by omega) (by omega)
        have e : cmpI n m = cmpI ((n + 9223372036854775808).toNat : Int) ((m + 9223372036854775808).toNat : Int) := by
          unfold cmpI
          rw [Int.toNat_of_nonneg (by omega), Int.toNat_of_nonneg (by omega)]
          rcases Int.lt_trichotomy n m with h | h | h
          · rw [if_pos h, if_pos (by omega)]
          · subst h; simp
          · rw [if_neg (by omega), if_pos h, if_neg (by omega), if_pos (by omega)]
        rw [e]; exact this
      have n0 := h1.2.2.1.resolve_left h3
      have m0 := h2.2.2.1.resolve_left h3
      subst n0; subst m0
      rw [if_neg h3, if_neg h3, cmpI_self, zero_orI]
      by_cases h4 : k = 4
      · subst h4
        obtain ⟨rfl, rfl⟩ := leaf_empty ha (by decide)
        obtain ⟨rfl, rfl⟩ := leaf_empty hb (by decide)
        rw [if_pos rfl, if_pos rfl, membC, orI_zero]
        exact textS_D t u
      have e1 := text_empty (h1.2.2.2.1.resolve_left h4)
      have e2 := text_empty (h2.2.2.2.1.resolve_left h4)
      subst e1; subst e2
      rw [if_neg h4, if_neg h4, cmpS_zero.2 rfl, zero_orI]
      by_cases h5 : k = 5 ∨ k = 6
      · rw [if_pos h5, if_pos h5]
        exact memb_D h5 it ju 0 (fun x hx y hy => put_D d x y (let ⟨z, hz⟩ := JAt.item hit hx; ⟨_, z, hz⟩) (let ⟨z, hz⟩ := JAt.item hju hy; ⟨_, z, hz⟩) (item_formed ha hx) (item_formed hb hy)) (fun x hx => put_head (item_formed ha hx)) (fun x hx => put_head (item_formed hb hx))
      · obtain ⟨rfl, rfl⟩ := leaf_empty ha (by have := h1.2.1; omega)
        obtain ⟨rfl, rfl⟩ := leaf_empty hb (by have := h1.2.1; omega)
        rw [if_neg h5, membC]
        exact DB.refl _
    · have hc : cmpI k q ≠ 0 := fun e => hkq (cmpI_zero e)
      have hb1 := kind_byte h1.1 h1.2.1
      have hb2 := kind_byte h2.1 h2.2.1
      rw [orI_left _ hc]
      generalize (k + 1).toNat.toUInt8 = ck at *
      generalize (q + 1).toNat.toUInt8 = cq at *
      by_cases hlt : k < q
      · rw [cmpI_lt hlt]; exact DB.lt _ _ (by omega)
      · rw [cmpI_gt (by omega)]; exact DB.gt _ _ (by omega)

/-- a field's answer, turned where it falls -/
def dirC (f : Fd) (c : Int) : Int := if f.2 then -c else c
/-- two documents by the fields -/
def fieldsC (a b : JV) : List Fd → Int
  | [] => 0
  | f :: l => orI (dirC f (cmpF 6 (valK a f) (valK b f))) (fieldsC a b l)
theorem part_D {a b : JV} {f : Fd} {c : Int} (h : DB (putF a) (putF b) c) : DB (partK a f.2) (partK b f.2) (dirC f c) := by
  unfold partK dirC
  cases f.2 with
  | true => exact h.not
  | false => exact h
theorem comp_D {a b : JV} : ∀ l : List Fd, (∀ f ∈ l, DB (putF (valK a f)) (putF (valK b f)) (cmpF 6 (valK a f) (valK b f))) → DB (compF (l.map (valK a)) (l.map (·.2))) (compF (l.map (valK b)) (l.map (·.2))) (fieldsC a b l)
  | [], _ => by simp only [List.map_nil, compF, fieldsC]; exact DB.refl _
  | f :: l, h => by
    simp only [List.map_cons, compF, fieldsC]
    exact (part_D (h f (by simp))).app (comp_D l (fun g hg => h g (by simp [hg])))

end Go.Proofs.YtfllnlmanopfaaaDoor
