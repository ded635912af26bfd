/- What is printed is read back. -/
import Derived.Test.YtdhilnnohokoeaaDoorRS
import Derived.Test.YtdhilnnohokoeaaDoorRX
import Derived.Test.YtdhilnnohokoeaaDoorJK
namespace Go.Proofs.YtdhilnnohokoeaaDoor
open Go.Shelf Go.RowKit

theorem low_hex : ∀ a : Fin 32, hexS 0 [48, 48, hexD (a.val / 16), hexD (a.val % 16)] = some a.val := by decide +kernel
theorem low_enc : ∀ a : Fin 32, Lib.encodeRune (a.val : Int) = [UInt8.ofNat a.val] := by decide +kernel
theorem low_read (c : UInt8) (h : c.toNat < 32) (r : List UInt8) : escL ([117, 48, 48, hexD (c.toNat / 16), hexD (c.toNat % 16)] ++ r) = some ([c], r) := by
  have h4 : hex4L (48 :: 48 :: hexD (c.toNat / 16) :: hexD (c.toNat % 16) :: r) = some (c.toNat, r) := by
    unfold hex4L
    rw [if_neg (by simp)]
    show (hexS 0 [48, 48, hexD (c.toNat / 16), hexD (c.toNat % 16)]).map _ = _
    rw [low_hex ⟨c.toNat, h⟩]; rfl
  have he : encL c.toNat = [c] := by
    rw [encL_eq, encode_one _ (by omega), low_enc ⟨c.toNat, h⟩]
    simp
  show (match shortL 117 with
    | some b => some ([b], 48 :: 48 :: hexD (c.toNat / 16) :: hexD (c.toNat % 16) :: r)
    | none => if (117 : UInt8) = 117 then uniL (48 :: 48 :: hexD (c.toNat / 16) :: hexD (c.toNat % 16) :: r) else none) = _
  rw [show shortL 117 = none by decide]
  dsimp only
  rw [if_pos rfl]
  unfold uniL
  rw [h4]
  dsimp only
  rw [if_neg (by omega), if_neg (by omega), he]
theorem esc_kinds (c : UInt8) : (escF c = [c] ∧ ¬ c.toNat < 32 ∧ c ≠ 34 ∧ c ≠ 92) ∨ ∃ e, escF c = 92 :: e ∧ ∀ r, escL (e ++ r) = some ([c], r) := by
  by_cases h1 : c = 34
  · subst h1; exact .inr ⟨[34], rfl, fun r => rfl⟩
  by_cases h2 : c = 92
  · subst h2; exact .inr ⟨[92], rfl, fun r => rfl⟩
  by_cases h3 : c = 8
  · subst h3; exact .inr ⟨[98], rfl, fun r => rfl⟩
  by_cases h4 : c = 9
  · subst h4; exact .inr ⟨[116], rfl, fun r => rfl⟩
  by_cases h5 : c = 10
  · subst h5; exact .inr ⟨[110], rfl, fun r => rfl⟩
  by_cases h6 : c = 12
  · subst h6; exact .inr ⟨[102], rfl, fun r => rfl⟩
  by_cases h7 : c = 13
  · subst h7; exact .inr ⟨[114], rfl, fun r => rfl⟩
  unfold escF
  rw [if_neg h1, if_neg h2, if_neg h3, if_neg h4, if_neg h5, if_neg h6, if_neg h7]
  by_cases h8 : c.toNat < 32
  · rw [if_pos h8]; exact .inr ⟨_, rfl, low_read c h8⟩
  · rw [if_neg h8]; exact .inl ⟨rfl, h8, h1, h2⟩
theorem quo_back : ∀ (t acc r : List UInt8) (n : Nat), (t.flatMap escF ++ 34 :: r).length < n → quoL n (t.flatMap escF ++ 34 :: r) acc = some (acc ++ t, r)
  | [], acc, r, n, h => by
    obtain ⟨n, rfl⟩ : ∃ m, n = m + 1 := ⟨n - 1, by omega⟩
    rw [List.append_nil]; exact quoL_end
  | c :: t, acc, r, n, h => by
    obtain ⟨n, rfl⟩ : ∃ m, n = m + 1 := ⟨n - 1, by omega⟩
    rw [List.flatMap_cons, List.append_assoc] at *
    rw [List.length_append] at h
    rcases esc_kinds c with ⟨e, h32, h34, h92⟩ | ⟨x, e, hx⟩
    · rw [e] at h ⊢
      rw [List.length_singleton] at h
      rw [List.singleton_append, quoL_step h32 h34 h92, quo_back t _ r n (by omega), List.append_assoc]; rfl
    · rw [e] at h ⊢
      rw [List.length_cons] at h
      rw [List.cons_append, quoL_esc (hx _), quo_back t _ r n (by omega), List.append_assoc]; rfl
theorem ba_self (s : ByteArray) : ba s.data.toList = s := (ba_of rfl).symm
theorem str_back (s : ByteArray) (r : List UInt8) : strL (quotedF s.data.toList ++ r) = some (s, r) := by
  unfold quotedF
  rw [List.cons_append, List.append_assoc, strL, if_pos rfl]
  show (quoL _ (List.flatMap escF s.data.toList ++ 34 :: r) []).map _ = _
  rw [quo_back _ _ _ _ (by simp)]
  simp [ba_self]

/-- what is behind a value -/
def NoD (r : List UInt8) : Prop := ∀ c r', r = c :: r' → isD c = false
def Back (f : JV → List UInt8) (P : JV → Prop) : Prop := ∀ v, P v → (∃ c l, f v = c :: l ∧ isB c = false ∧ c ≠ 93 ∧ c ≠ 125) ∧ ∀ r n, NoD r → 2 * (f v ++ r).length + 1 ≤ n → valL n (f v ++ r) = some (v, r)
theorem mems_tail {f : JV → List UInt8} {k : Int} (j : Nat) (nm : List ByteArray) (it : List JV) (e : UInt8) (he : e = 93 ∨ e = 125) (r : List UInt8) : NoD (memsF f k (j + 1) nm it ++ e :: r) ∧ ∃ c l, memsF f k (j + 1) nm it ++ e :: r = c :: l ∧ isB c = false := by
  cases it with
  | nil =>
    rcases he with rfl | rfl
    · exact ⟨fun c r' h => by cases h; decide, _, _, rfl, by decide⟩
    · exact ⟨fun c r' h => by cases h; decide, _, _, rfl, by decide⟩
  | cons x it =>
    rw [memsF, if_neg (Nat.succ_ne_zero j)]
    exact ⟨fun c r' h => by cases h; decide, _, _, rfl, by decide⟩
theorem arr_back {f : JV → List UInt8} {P : JV → Prop} (hf : Back f P) (nm : List ByteArray) : ∀ (it : List JV) (x : JV) (j : Nat) (xs : List JV) (r : List UInt8) (n : Nat), P x → (∀ y ∈ it, P y) → 2 * (f x ++ (memsF f 5 (j + 1) nm it ++ 93 :: r)).length + 2 ≤ n →
    arrL n (f x ++ (memsF f 5 (j + 1) nm it ++ 93 :: r)) xs = some (.mk 5 0 ⟨#[]⟩ [] (xs ++ x :: it), r)
  | [], x, j, xs, r, n, hx, hy, hn => by
    obtain ⟨n, rfl⟩ : ∃ m, n = m + 1 := ⟨n - 1, by omega⟩
    have hv := (hf x hx).2 (memsF f 5 (j + 1) nm [] ++ 93 :: r) n (mems_tail j nm [] 93 (.inl rfl) r).1 (by omega)
    rw [arr_some hv]
    unfold memsF
    rw [List.nil_append, tail_end (fun r' e => by rw [skipL_no (by decide)] at e; cases e), end_some (show skipL (93 :: r) = endK 5 :: r from skipL_no (by decide))]
  | y :: it, x, j, xs, r, n, hx, hy, hn => by
    obtain ⟨n, rfl⟩ : ∃ m, n = m + 1 := ⟨n - 1, by omega⟩
    have hv := (hf x hx).2 (memsF f 5 (j + 1) nm (y :: it) ++ 93 :: r) n (mems_tail j nm (y :: it) 93 (.inl rfl) r).1 (by omega)
    rw [arr_some hv]
    have e : memsF f 5 (j + 1) nm (y :: it) ++ 93 :: r = 44 :: (f y ++ (memsF f 5 (j + 1 + 1) nm.tail it ++ 93 :: r)) := by
      rw [memsF, if_neg (Nat.succ_ne_zero j), if_neg (by decide)]
      simp
    rw [e] at hn ⊢
    have h2 : 0 < (f x).length := by obtain ⟨c, l, e, _⟩ := (hf x hx).1; rw [e]; simp
    rw [List.length_append, List.length_cons] at hn
    rw [tail_on (skipL_no (by decide)), more_next, if_pos rfl, arr_back hf nm.tail it y (j + 1) (xs ++ [x]) r n (hy y (List.mem_cons_self ..)) (fun z hz => hy z (List.mem_cons_of_mem _ hz)) (by omega)]
    simp

/-- names rise: what is read comes last -/
theorem rises_up : ∀ {nm : List ByteArray}, rises nm = true → upN nm
  | [], _ => List.Pairwise.nil
  | [a], _ => List.pairwise_singleton _ _
  | a :: b :: l, h => by
    rw [rises, Bool.and_eq_true] at h
    have ih := rises_up h.2
    refine List.pairwise_cons.2 ⟨fun c hc => ?_, ih⟩
    rcases List.mem_cons.1 hc with rfl | hc
    · exact h.1
    · exact strLt_trans h.1 ((List.pairwise_cons.1 ih).1 c hc)
theorem take_all {α : Type} (p : α → Bool) : ∀ l : List α, (∀ x ∈ l, p x = true) → l.takeWhile p = l
  | [], _ => rfl
  | a :: l, h => by rw [List.takeWhile_cons, if_pos (h a (List.mem_cons_self ..)), take_all p l (fun x hx => h x (List.mem_cons_of_mem _ hx))]
theorem place_last {done rest : List ByteArray} {s : ByteArray} (hu : upN (done ++ s :: rest)) : placeN done s = done.length ∧ hasN done s = false := by
  have hd : ∀ x ∈ done, strLt x s = true := fun x hx => (List.pairwise_append.1 hu).2.2 x hx s (List.mem_cons_self ..)
  constructor
  · unfold placeN
    rw [take_all _ _ hd]
  · cases h : hasN done s with
    | false => rfl
    | true =>
      have := hd s ((hasN_iff done s).1 h)
      rw [strLt_irrefl] at this; cases this
theorem ins_last {α : Type} (l : List α) (x : α) : insA l.length x l = l ++ [x] := by
  unfold insA
  rw [List.take_length, List.drop_length]
theorem obj_back {f : JV → List UInt8} {P : JV → Prop} (hf : Back f P) : ∀ (it : List JV) (nm : List ByteArray) (s : ByteArray) (x : JV) (j : Nat) (dn : List ByteArray) (xs : List JV) (r : List UInt8) (n : Nat), nm.length = it.length → dn.length = xs.length → upN (dn ++ s :: nm) → P x → (∀ y ∈ it, P y) → 2 * (quotedF s.data.toList ++ 58 :: (f x ++ (memsF f 6 (j + 1) nm it ++ 125 :: r))).length + 2 ≤ n →
    objL n (quotedF s.data.toList ++ 58 :: (f x ++ (memsF f 6 (j + 1) nm it ++ 125 :: r))) dn xs = some (.mk 6 0 ⟨#[]⟩ (dn ++ s :: nm) (xs ++ x :: it), r)
  | [], nm, s, x, j, dn, xs, r, n, hnl, hdl, hu, hx, hy, hn => by
    obtain ⟨n, rfl⟩ : ∃ m, n = m + 1 := ⟨n - 1, by omega⟩
    obtain rfl : nm = [] := List.length_eq_zero_iff.1 hnl
    obtain ⟨hp, hh⟩ := place_last hu
    have hs : strL (skipL (quotedF s.data.toList ++ 58 :: (f x ++ (memsF f 6 (j + 1) [] [] ++ 125 :: r)))) = some (s, 58 :: (f x ++ (memsF f 6 (j + 1) [] [] ++ 125 :: r))) := by
      rw [show skipL (quotedF s.data.toList ++ 58 :: (f x ++ (memsF f 6 (j + 1) [] [] ++ 125 :: r))) = quotedF s.data.toList ++ 58 :: (f x ++ (memsF f 6 (j + 1) [] [] ++ 125 :: r)) from skipL_no (by decide), str_back]
    rw [List.length_append, List.length_cons] at hn
    have hv := (hf x hx).2 (memsF f 6 (j + 1) [] [] ++ 125 :: r) n (mems_tail j [] [] 125 (.inr rfl) r).1 (by omega)
    rw [obj_some hs (skipL_no (by decide)) hh hv, hp, ins_last, hdl, ins_last]
    unfold memsF
    rw [List.nil_append, tail_end (fun r' e => by rw [skipL_no (by decide)] at e; cases e), end_some (show skipL (125 :: r) = endK 6 :: r from skipL_no (by decide))]
  | y :: it, nm, s, x, j, dn, xs, r, n, hnl, hdl, hu, hx, hy, hn => by
    obtain ⟨n, rfl⟩ : ∃ m, n = m + 1 := ⟨n - 1, by omega⟩
    obtain ⟨s2, nm, rfl⟩ : ∃ a b, nm = a :: b := by
      cases nm with
      | nil => simp at hnl
      | cons a b => exact ⟨a, b, rfl⟩
    obtain ⟨hp, hh⟩ := place_last hu
    have hs : strL (skipL (quotedF s.data.toList ++ 58 :: (f x ++ (memsF f 6 (j + 1) (s2 :: nm) (y :: it) ++ 125 :: r)))) = some (s, 58 :: (f x ++ (memsF f 6 (j + 1) (s2 :: nm) (y :: it) ++ 125 :: r))) := by
      rw [show skipL (quotedF s.data.toList ++ 58 :: (f x ++ (memsF f 6 (j + 1) (s2 :: nm) (y :: it) ++ 125 :: r))) = quotedF s.data.toList ++ 58 :: (f x ++ (memsF f 6 (j + 1) (s2 :: nm) (y :: it) ++ 125 :: r)) from skipL_no (by decide), str_back]
    rw [List.length_append, List.length_cons] at hn
    have hv := (hf x hx).2 (memsF f 6 (j + 1) (s2 :: nm) (y :: it) ++ 125 :: r) n (mems_tail j (s2 :: nm) (y :: it) 125 (.inr rfl) r).1 (by omega)
    rw [obj_some hs (skipL_no (by decide)) hh hv, hp, ins_last, hdl, ins_last]
    have e : memsF f 6 (j + 1) (s2 :: nm) (y :: it) ++ 125 :: r = 44 :: (quotedF s2.data.toList ++ 58 :: (f y ++ (memsF f 6 (j + 1 + 1) nm it ++ 125 :: r))) := by
      rw [memsF, if_neg (Nat.succ_ne_zero j), if_pos rfl]
      simp
    rw [e] at hn ⊢
    have h2 : 0 < (f x).length := by obtain ⟨c, l, e, _⟩ := (hf x hx).1; rw [e]; simp
    rw [List.length_append, List.length_cons] at hn
    rw [tail_on (skipL_no (by decide)), more_next, if_neg (show ¬ (6 : Int) = 5 by decide), obj_back hf it nm s2 y (j + 1) (dn ++ [s]) (xs ++ [x]) r n (by simpa using hnl) (by simp [hdl]) (by simpa using hu) (hy y (List.mem_cons_self ..)) (fun z hz => hy z (List.mem_cons_of_mem _ hz)) (by omega)]
    simp

/-- a formed value whose numbers are such -/
def Okd (d : Nat) (v : JV) : Prop := formedF d v = true ∧ ∃ c x, JAt c v x
theorem word_back (p r : List UInt8) : wordL p (p ++ r) = some r := by
  unfold wordL
  rw [if_pos (List.isPrefixOf_iff_prefix.2 (List.prefix_append p r)), List.drop_left]
theorem show_back : ∀ d, Back (showF d) (Okd d)
  | 0 => fun v h => by have := h.1; simp [formedF] at this
  | d + 1 => fun v ⟨hf, c, x, hj⟩ => by
    have ih := show_back d
    obtain ⟨k, n, t, nm, it, na, ncap, ia, icap, rfl, rfl, _, hn, _, _, hit⟩ := hj.open
    obtain ⟨h0, h6, h3, h4, _⟩ := formed_head hf
    have hok : ∀ y ∈ it, formedF d y = true → Okd d y := fun y hy hfy => by
      obtain ⟨i, hi⟩ := List.getElem?_of_mem hy
      obtain ⟨_, _, _, _, hall⟩ := hit
      obtain ⟨_, _, _, _, _, _, _, _, _, _, _, _, _, _, _, _, _, _, hjy⟩ := hall i y hi
      exact ⟨hfy, c, _, hjy⟩
    rw [formedF, Bool.and_eq_true] at hf
    have hf2 := hf.2
    have hw := wf_i64 hn
    have hk : k = 0 ∨ k = 1 ∨ k = 2 ∨ k = 3 ∨ k = 4 ∨ k = 5 ∨ k = 6 := by omega
    have hemp : k < 5 → nm = [] ∧ it = [] := fun h => by
      rw [if_pos h] at hf2
      have := of_decide_eq_true hf2
      exact ⟨List.length_eq_zero_iff.1 this.2, List.length_eq_zero_iff.1 this.1⟩
    have hn0 : k ≠ 3 → n = 0 := fun h => h3.resolve_left h
    have ht0 : k ≠ 4 → t = ⟨#[]⟩ := fun h => empty_text (h4.resolve_left h)
    rcases hk with rfl | rfl | rfl | rfl | rfl | rfl | rfl
    · obtain ⟨rfl, rfl⟩ := hemp (by decide)
      obtain rfl := hn0 (by decide)
      obtain rfl := ht0 (by decide)
      refine ⟨⟨110, [117, 108, 108], rfl, by decide, by decide, by decide⟩, fun r m _ hm => ?_⟩
      obtain ⟨m, rfl⟩ : ∃ q, m = q + 1 := ⟨m - 1, by omega⟩
      have hw2 := word_back [110, 117, 108, 108] r
      show valL (m + 1) (110 :: 117 :: 108 :: 108 :: r) = _
      rw [val_word (k := 0) (p := [110, 117, 108, 108]) (c := 110) (r := 117 :: 108 :: 108 :: r) (skipL_no (by decide)) (by simp)]
      rw [show [110, 117, 108, 108] ++ r = 110 :: 117 :: 108 :: 108 :: r from rfl] at hw2
      rw [hw2]; rfl
    · obtain ⟨rfl, rfl⟩ := hemp (by decide)
      obtain rfl := hn0 (by decide)
      obtain rfl := ht0 (by decide)
      refine ⟨⟨102, [97, 108, 115, 101], rfl, by decide, by decide, by decide⟩, fun r m _ hm => ?_⟩
      obtain ⟨m, rfl⟩ : ∃ q, m = q + 1 := ⟨m - 1, by omega⟩
      have hw2 := word_back [102, 97, 108, 115, 101] r
      show valL (m + 1) (102 :: 97 :: 108 :: 115 :: 101 :: r) = _
      rw [val_word (k := 1) (p := [102, 97, 108, 115, 101]) (c := 102) (r := 97 :: 108 :: 115 :: 101 :: r) (skipL_no (by decide)) (by simp)]
      rw [show [102, 97, 108, 115, 101] ++ r = 102 :: 97 :: 108 :: 115 :: 101 :: r from rfl] at hw2
      rw [hw2]; rfl
    · obtain ⟨rfl, rfl⟩ := hemp (by decide)
      obtain rfl := hn0 (by decide)
      obtain rfl := ht0 (by decide)
      refine ⟨⟨116, [114, 117, 101], rfl, by decide, by decide, by decide⟩, fun r m _ hm => ?_⟩
      obtain ⟨m, rfl⟩ : ∃ q, m = q + 1 := ⟨m - 1, by omega⟩
      have hw2 := word_back [116, 114, 117, 101] r
      show valL (m + 1) (116 :: 114 :: 117 :: 101 :: r) = _
      rw [val_word (k := 2) (p := [116, 114, 117, 101]) (c := 116) (r := 114 :: 117 :: 101 :: r) (skipL_no (by decide)) (by simp)]
      rw [show [116, 114, 117, 101] ++ r = 116 :: 114 :: 117 :: 101 :: r from rfl] at hw2
      rw [hw2]; rfl
    · obtain ⟨rfl, rfl⟩ := hemp (by decide)
      obtain rfl := ht0 (by decide)
      have es : showF (d + 1) (.mk 3 n ⟨#[]⟩ [] []) = Lib.itoa n := rfl
      obtain ⟨c0, l0, e0, hc0, hb0⟩ := itoa_first n
      have h57 : c0.toNat ≤ 57 := by
        rcases hc0 with rfl | h
        · decide
        · exact (of_decide_eq_true h).2
      refine ⟨⟨c0, l0, by rw [es, e0], hb0, fun e => by subst e; revert h57; decide, fun e => by subst e; revert h57; decide⟩, fun r m hr hm => ?_⟩
      obtain ⟨m, rfl⟩ : ∃ q, m = q + 1 := ⟨m - 1, by omega⟩
      rw [es, e0, List.cons_append, val_num (skipL_no hb0) hc0, ← List.cons_append, ← e0, num_itoa hw.1 hw.2 hr]
      rfl
    · obtain ⟨rfl, rfl⟩ := hemp (by decide)
      obtain rfl := hn0 (by decide)
      have es : showF (d + 1) (.mk 4 0 t [] []) = quotedF t.data.toList := rfl
      refine ⟨⟨34, t.data.toList.flatMap escF ++ [34], rfl, by decide, by decide, by decide⟩, fun r m _ hm => ?_⟩
      obtain ⟨m, rfl⟩ : ∃ q, m = q + 1 := ⟨m - 1, by omega⟩
      have hsb := str_back t r
      rw [es, show quotedF t.data.toList ++ r = 34 :: (t.data.toList.flatMap escF ++ [34] ++ r) from rfl] at *
      rw [val_str (skipL_no (by decide)), hsb]
      rfl
    · obtain rfl := hn0 (by decide)
      obtain rfl := ht0 (by decide)
      rw [if_neg (by decide), Bool.and_eq_true] at hf2
      have hb := hf2.1
      unfold bodyOk at hb
      simp only [Bool.and_eq_true, decide_eq_true_eq] at hb
      obtain rfl : nm = [] := List.length_eq_zero_iff.1 (by simpa using hb.1.1.2)
      have es : showF (d + 1) (.mk 5 0 ⟨#[]⟩ [] it) = 91 :: (memsF (showF d) 5 0 [] it ++ [93]) := by
        show [91] ++ partF (showF d) 5 [] it it.length ++ [93] = _
        rw [part_all]; rfl
      refine ⟨⟨91, _, es, by decide, by decide, by decide⟩, fun r m hr hm => ?_⟩
      obtain ⟨m, rfl⟩ : ∃ q, m = q + 1 := ⟨m - 1, by omega⟩
      rw [es] at hm ⊢
      rw [List.cons_append, List.append_assoc] at hm ⊢
      rw [val_arr (skipL_no (by decide))]
      cases it with
      | nil => rfl
      | cons y it =>
        have e2 : memsF (showF d) 5 0 [] (y :: it) ++ ([93] ++ r) = showF d y ++ (memsF (showF d) 5 (0 + 1) [] it ++ 93 :: r) := by
          rw [memsF, if_pos rfl, if_neg (by decide)]; simp
        rw [e2] at hm ⊢
        have hy := List.all_eq_true.1 hf2.2 y (List.mem_cons_self ..)
        obtain ⟨⟨c1, l1, e1, hb1, h93, _⟩, _⟩ := ih y (hok y (List.mem_cons_self ..) hy)
        unfold listL
        rw [if_neg (by rw [e1, List.cons_append, skipL_no hb1]; simpa [endK] using h93), if_pos rfl]
        rw [List.length_cons] at hm
        rw [arr_back ih [] it y 0 [] r m (hok y (List.mem_cons_self ..) hy) (fun z hz => hok z (List.mem_cons_of_mem _ hz) (List.all_eq_true.1 hf2.2 z (List.mem_cons_of_mem _ hz))) (by omega)]
        rfl
    · obtain rfl := hn0 (by decide)
      obtain rfl := ht0 (by decide)
      rw [if_neg (by decide), Bool.and_eq_true] at hf2
      have hb := hf2.1
      unfold bodyOk at hb
      simp only [Bool.and_eq_true, decide_eq_true_eq] at hb
      have hnl : nm.length = it.length := by simpa using hb.1.1.2
      have hup := rises_up hb.2
      have es : showF (d + 1) (.mk 6 0 ⟨#[]⟩ nm it) = 123 :: (memsF (showF d) 6 0 nm it ++ [125]) := by
        show [123] ++ partF (showF d) 6 nm it it.length ++ [125] = _
        rw [part_all]; rfl
      refine ⟨⟨123, _, es, by decide, by decide, by decide⟩, fun r m hr hm => ?_⟩
      obtain ⟨m, rfl⟩ : ∃ q, m = q + 1 := ⟨m - 1, by omega⟩
      rw [es] at hm ⊢
      rw [List.cons_append, List.append_assoc] at hm ⊢
      rw [val_obj (skipL_no (by decide))]
      cases it with
      | nil =>
        obtain rfl : nm = [] := List.length_eq_zero_iff.1 hnl
        rfl
      | cons y it =>
        obtain ⟨s, nm, rfl⟩ : ∃ a b, nm = a :: b := by
          cases nm with
          | nil => simp at hnl
          | cons a b => exact ⟨a, b, rfl⟩
        have e2 : memsF (showF d) 6 0 (s :: nm) (y :: it) ++ ([125] ++ r) = quotedF s.data.toList ++ 58 :: (showF d y ++ (memsF (showF d) 6 (0 + 1) nm it ++ 125 :: r)) := by
          rw [memsF, if_pos rfl, if_pos rfl]; simp
        rw [e2] at hm ⊢
        have hy := List.all_eq_true.1 hf2.2 y (List.mem_cons_self ..)
        unfold listL
        rw [if_neg (by rw [show skipL (quotedF s.data.toList ++ 58 :: (showF d y ++ (memsF (showF d) 6 (0 + 1) nm it ++ 125 :: r))) = quotedF s.data.toList ++ 58 :: (showF d y ++ (memsF (showF d) 6 (0 + 1) nm it ++ 125 :: r)) from skipL_no (by decide)]; simp [quotedF, endK]), if_neg (show ¬ (6 : Int) = 5 by decide)]
        rw [List.length_cons] at hm
        rw [obj_back ih it nm s y 0 [] [] r m (by simpa using hnl) rfl hup (hok y (List.mem_cons_self ..) hy) (fun z hz => hok z (List.mem_cons_of_mem _ hz) (List.all_eq_true.1 hf2.2 z (List.mem_cons_of_mem _ hz))) (by omega)]
        rfl

end Go.Proofs.YtdhilnnohokoeaaDoor
