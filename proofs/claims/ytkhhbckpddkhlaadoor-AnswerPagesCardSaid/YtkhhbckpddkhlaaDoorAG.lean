/- Answers, plainly: what Run answers: sorted documents, a page of them. Answers, plainly: any order of the documents, pages, and all of them. -/
import Derived.Test.YtkhhbckpddkhlaaDoorAD
import Derived.Test.YtkhhbckpddkhlaaDoorAE
import Derived.Test.YtkhhbckpddkhlaaDoorFY
namespace Go.Proofs.YtkhhbckpddkhlaaDoor

/-- whether an id is among a list's -/
def seenA (l : List DR) (s : ByteArray) : Bool := l.any fun y => decide (y.id = s)
/-- all documents are formed, and no id comes twice; those of s are seen already -/
def okA : List DR → List DR → Bool
  | _, [] => true
  | s, x :: l => docF x && !seenA s x.id && okA (s ++ [x]) l
theorem okA_next {s l : List DR} {j : Nat} {x : DR} (h : l[j]? = some x) (hs : s = l.take j) : okA s (l.drop j) = (docF x && !seenA (l.take j) x.id && okA (l.take (j + 1)) (l.drop (j + 1))) := by
  obtain ⟨h1, e1⟩ := List.getElem?_eq_some_iff.1 h
  rw [List.drop_eq_getElem_cons h1, e1, okA, hs, take_nextW h]
theorem okA_iff : ∀ (l s : List DR), okA s l = true ↔ (∀ x ∈ l, docF x = true) ∧ (l.Pairwise fun a b => a.id ≠ b.id) ∧ ∀ x ∈ l, ∀ y ∈ s, y.id ≠ x.id
  | [], s => by simp [okA]
  | x :: l, s => by
    rw [okA, Bool.and_eq_true, Bool.and_eq_true, okA_iff l]
    unfold seenA
    constructor
    · rintro ⟨⟨h1, h2⟩, h3, h4, h5⟩
      refine ⟨fun y hy => ?_, List.Pairwise.cons (fun y hy => h5 y hy x (by simp)) h4, fun y hy z hz => ?_⟩
      · rcases List.mem_cons.1 hy with e | hm
        · rw [e]; exact h1
        · exact h3 y hm
      · rcases List.mem_cons.1 hy with e | hm
        · rw [e]; intro e2
          simp at h2
          exact h2 z hz e2
        · exact h5 y hm z (by simp [hz])
    · rintro ⟨h1, h2, h3⟩
      refine ⟨⟨h1 x (by simp), ?_⟩, fun y hy => h1 y (by simp [hy]), (List.pairwise_cons.1 h2).2, fun y hy z hz => ?_⟩
      · simp; intro z hz; exact h3 x (by simp) z hz
      · rcases List.mem_append.1 hz with hz | hz
        · exact h3 y (by simp [hy]) z hz
        · rw [List.mem_singleton.1 hz]; exact (List.pairwise_cons.1 h2).1 y hy
/-- sorted documents, and one more: ahead of the first one that it is less than -/
def withA (l : List OR) (d : DR) : List DR → List DR
  | [] => [d]
  | x :: xs => if docC l d x < 0 then d :: x :: xs else x :: withA l d xs
/-- one document looked at -/
noncomputable def takeA (q : QR) (acc : List DR) (d : DR) : List DR := if HoldsP q.flt d.v = true then withA q.sort d acc else acc
noncomputable def sortA (q : QR) (l : List DR) : List DR := l.foldl (takeA q) []
/-- a page -/
def pageA (q : QR) (l : List DR) : List DR := if q.lim = 0 then l.drop q.skip.toNat else (l.drop q.skip.toNat).take q.lim.toNat
def projA (q : QR) (d : DR) : DR := ⟨d.id, projF q.fields d.v⟩
noncomputable def outA (q : QR) (l : List DR) : List DR := (pageA q (sortA q l)).map (projA q)
/-- the error that Run answers, and the documents -/
def runE (q : QR) (l : List DR) : Int := if qcheckF q ≠ 0 then qcheckF q else if okA [] l = true then 0 else 2
noncomputable def runO (q : QR) (l : List DR) : List DR := if runE q l = 0 then outA q l else []
/-- in order -/
def leA (l : List OR) (a b : DR) : Prop := ¬ docC l b a < 0
theorem leA_trans {l : List OR} {a b c : DR} (h : leA l a b) (k : leA l b c) : leA l a c := by
  unfold leA at *
  have e1 := (good_doc l).anti a b
  have e2 := (good_doc l).anti b c
  have e3 := (good_doc l).anti a c
  have := (good_doc l).trans a b c (by omega) (by omega)
  omega
theorem withA_perm (l : List OR) (d : DR) : ∀ xs, (withA l d xs).Perm (d :: xs)
  | [] => List.Perm.refl _
  | x :: xs => by
    rw [withA]
    split
    · exact List.Perm.refl _
    · exact ((withA_perm l d xs).cons x).trans (List.Perm.swap d x xs)
theorem withA_sorted (l : List OR) (d : DR) : ∀ xs, xs.Pairwise (leA l) → (withA l d xs).Pairwise (leA l)
  | [], _ => List.pairwise_singleton _ _
  | x :: xs, h => by
    rw [withA]
    obtain ⟨h1, h2⟩ := List.pairwise_cons.1 h
    split
    · rename_i hl
      have hdx : leA l d x := by unfold leA; have := (good_doc l).anti d x; omega
      refine List.Pairwise.cons (fun y hy => ?_) h
      rcases List.mem_cons.1 hy with e | hm
      · rw [e]; exact hdx
      · exact leA_trans hdx (h1 y hm)
    · rename_i hl
      refine List.Pairwise.cons (fun y hy => ?_) (withA_sorted l d xs h2)
      rcases List.mem_cons.1 ((withA_perm l d xs).subset hy) with e | hm
      · rw [e]; exact hl
      · exact h1 y hm
theorem foldA_perm (q : QR) : ∀ (l acc : List DR), (l.foldl (takeA q) acc).Perm (acc ++ l.filter fun d => HoldsP q.flt d.v)
  | [], acc => by simp
  | d :: l, acc => by
    rw [List.foldl_cons, List.filter_cons]
    refine (foldA_perm q l _).trans ?_
    unfold takeA
    split
    · refine ((withA_perm q.sort d acc).append_right _).trans ?_
      rw [List.cons_append]
      exact List.perm_middle.symm
    · exact List.Perm.refl _
theorem foldA_sorted (q : QR) : ∀ (l acc : List DR), acc.Pairwise (leA q.sort) → (l.foldl (takeA q) acc).Pairwise (leA q.sort)
  | [], _, h => h
  | d :: l, acc, h => by
    rw [List.foldl_cons]
    refine foldA_sorted q l _ ?_
    unfold takeA
    split
    · exact withA_sorted q.sort d acc h
    · exact h
theorem sortA_perm (q : QR) (l : List DR) : (sortA q l).Perm (l.filter fun d => HoldsP q.flt d.v) := foldA_perm q l []
theorem sortA_sorted (q : QR) (l : List DR) : (sortA q l).Pairwise (leA q.sort) := foldA_sorted q l [] List.Pairwise.nil
theorem docC_ids {l : List OR} {a b : DR} (h : docC l a b = 0) : a.id = b.id := by
  have h2 : cmpS a.id b.id = 0 := by unfold docC orI at h; split at h <;> omega
  exact cmpS_zero.1 h2
theorem ids_one {l : List DR} (h : l.Pairwise fun a b => a.id ≠ b.id) : ∀ {a b : DR}, a ∈ l → b ∈ l → a.id = b.id → a = b := by
  induction l with
  | nil => intro a b ha; simp at ha
  | cons x l ih =>
    intro a b ha hb e
    obtain ⟨h1, h2⟩ := List.pairwise_cons.1 h
    rcases List.mem_cons.1 ha with ha | ha <;> rcases List.mem_cons.1 hb with hb | hb
    · rw [ha, hb]
    · rw [ha] at e; exact absurd e (h1 b hb)
    · rw [hb] at e; exact absurd e.symm (h1 a ha)
    · exact ih h2 ha hb e
theorem le_ids {l : List OR} {a b : DR} (h : leA l a b) (k : leA l b a) : a.id = b.id := by
  unfold leA at *
  have := (good_doc l).anti a b
  exact docC_ids (l := l) (by omega)
/-- there is one sorted list of documents whose ids differ -/
theorem sorted_one {l : List OR} {xs ys : List DR} (hd : xs.Pairwise fun a b => a.id ≠ b.id) (hx : xs.Pairwise (leA l)) (hy : ys.Pairwise (leA l)) (hp : xs.Perm ys) : xs = ys :=
  List.Perm.eq_of_pairwise (le := leA l) (fun _ _ ha hb h k => ids_one hd ha (hp.symm.subset hb) (le_ids h k)) hx hy hp
/-- what a sort of those of which the filter holds leaves is what is laid one by one -/
theorem sorted_is {q : QR} {l r : List DR} (hok : okA [] l = true) (hp : r.Perm (l.filter fun d => HoldsP q.flt d.v)) (hs : r.Pairwise (leA q.sort)) : r = sortA q l := by
  have h1 := ((okA_iff l []).1 hok).2.1
  have h2 : (l.filter fun d => HoldsP q.flt d.v).Pairwise fun a b => a.id ≠ b.id := h1.filter _
  exact sorted_one (h2.perm hp.symm fun h e => h e.symm) hs (sortA_sorted q l) (hp.trans (sortA_perm q l).symm)

end Go.Proofs.YtkhhbckpddkhlaaDoor

namespace Go.Proofs.YtkhhbckpddkhlaaDoor

theorem okA_perm {l m : List DR} (h : l.Perm m) : okA [] l = okA [] m := by
  have H : ∀ {l m : List DR}, l.Perm m → okA [] l = true → okA [] m = true := fun {l m} h e => by
    obtain ⟨h1, h2, _⟩ := (okA_iff l []).1 e
    exact (okA_iff m []).2 ⟨fun x hx => h1 x (h.symm.subset hx), h2.perm h fun h e => h e.symm, fun x _ y hy => by simp at hy⟩
  cases h1 : okA [] l with
  | true => exact (H h h1).symm
  | false =>
    cases h2 : okA [] m with
    | true => rw [H h.symm h2] at h1; exact h1.symm
    | false => rfl
theorem sortA_of_perm {q : QR} {l m : List DR} (h : l.Perm m) (hok : okA [] l = true) : sortA q l = sortA q m :=
  sorted_is (by rw [← okA_perm h]; exact hok) ((sortA_perm q l).trans (h.filter _)) (sortA_sorted q l) |>.trans rfl
theorem run_perm {q : QR} {l m : List DR} (h : l.Perm m) : runE q l = runE q m ∧ runO q l = runO q m := by
  have e : runE q l = runE q m := by unfold runE; rw [okA_perm h]
  refine ⟨e, ?_⟩
  unfold runO
  rw [← e]
  split
  · rename_i h0
    have hok : okA [] l = true := by
      unfold runE at h0
      split at h0
      · rename_i h1; exact absurd h0 h1
      · split at h0
        · assumption
        · cases h0
    unfold outA; rw [sortA_of_perm h hok]
  · rfl
/-- the places in another order -/
theorem places_perm : ∀ n, n < 41 → ∀ b, b < n → n % 7 ≠ 0 → ((List.range n).map fun i => (i * 7 + b) % n).isPerm (List.range n) = true := by decide +kernel
theorem map_getD {α : Type} [Inhabited α] (l : List α) : (List.range l.length).map (fun i => l.getD i default) = l := by
  refine List.ext_getElem (by simp) fun i h1 h2 => ?_
  simp [h2]
/-- the list by places -/
def turnA {α : Type} [Inhabited α] (l : List α) (b : Nat) : List α := (List.range l.length).map fun i => l.getD ((i * 7 + b) % l.length) default
theorem turnA_perm {α : Type} [Inhabited α] (l : List α) (b : Nat) (h0 : 0 < l.length) (hn : l.length < 41) (h7 : l.length % 7 ≠ 0) : (turnA l b).Perm l := by
  have h := List.isPerm_iff.1 (places_perm l.length hn (b % l.length) (Nat.mod_lt _ h0) h7)
  have h2 := h.map fun i => l.getD i default
  rw [map_getD, List.map_map] at h2
  have e : turnA l b = (List.range l.length).map ((fun i => l.getD i default) ∘ fun i => (i * 7 + b % l.length) % l.length) := by
    unfold turnA
    refine List.map_congr_left fun i _ => ?_
    show _ = l.getD ((i * 7 + b % l.length) % l.length) default
    rw [Nat.add_mod (i * 7) (b % l.length), Nat.mod_mod, ← Nat.add_mod]
  rw [e]; exact h2

/-- the query without Skip and Limit; with these -/
def noPage (q : QR) : QR := { q with skip := 0, lim := 0 }
theorem sortA_same {q p : QR} (hf : p.flt = q.flt) (hs : p.sort = q.sort) (l : List DR) : sortA p l = sortA q l := by
  unfold sortA takeA; rw [hf, hs]
theorem qcheck_page {q p : QR} (hf : p.flt = q.flt) (hs : p.sort = q.sort) (hd : p.fields = q.fields) (h : qcheckF q = 0) (h1 : 0 ≤ p.skip ∧ p.skip ≤ 100) (h2 : 0 ≤ p.lim ∧ p.lim ≤ 100) : qcheckF p = 0 := by
  unfold qcheckF at *
  rw [hf, hs, hd]
  split at h
  · rename_i h3; exact absurd h h3
  · rename_i h3
    rw [if_neg h3]
    split at h
    · cases h
    · rename_i h4
      rw [if_neg h4]
      split at h
      · cases h
      · rename_i h5
        rw [if_neg h5, if_neg (by omega), if_neg (by omega)]
theorem runE_zero {q : QR} {l : List DR} (h : runE q l = 0) : qcheckF q = 0 ∧ okA [] l = true := by
  unfold runE at h
  split at h
  · rename_i h1; exact absurd h h1
  · rename_i h1
    split at h
    · exact ⟨by simpa using h1, by assumption⟩
    · cases h
theorem runE_of {q : QR} {l : List DR} (h1 : qcheckF q = 0) (h2 : okA [] l = true) : runE q l = 0 := by
  unfold runE; rw [if_neg (by simpa using h1), if_pos h2]
theorem outA_all {q : QR} (hs : q.skip = 0) (hl : q.lim = 0) (l : List DR) : outA q l = (sortA q l).map (projA q) := by
  unfold outA pageA; rw [hs, if_pos hl]; simp
theorem projA_same {q p : QR} (hd : p.fields = q.fields) : projA p = projA q := by
  funext d; unfold projA; rw [hd]
/-- the beginning and the end of a whole answer -/
theorem pages_law {q : QR} {l : List DR} {k : Nat} (hs : q.skip = 0) (hl : q.lim = 0) (h : runE q l = 0) (hk0 : 0 < k) (hk : k ≤ (runO q l).length) (hk1 : k ≤ 100) :
    runE { q with lim := (k : Int) } l = 0 ∧ runE { q with skip := (k : Int) } l = 0 ∧ (runO { q with lim := (k : Int) } l).length = k ∧ runO { q with lim := (k : Int) } l ++ runO { q with skip := (k : Int) } l = runO q l := by
  obtain ⟨h1, h2⟩ := runE_zero h
  have e1 : runE { q with lim := (k : Int) } l = 0 := runE_of (qcheck_page (q := q) rfl rfl rfl h1 ⟨by show 0 ≤ q.skip; omega, by show q.skip ≤ 100; omega⟩ ⟨by show 0 ≤ (k : Int); omega, by show (k : Int) ≤ 100; omega⟩) h2
  have e2 : runE { q with skip := (k : Int) } l = 0 := runE_of (qcheck_page (q := q) rfl rfl rfl h1 ⟨by show 0 ≤ (k : Int); omega, by show (k : Int) ≤ 100; omega⟩ ⟨by show 0 ≤ q.lim; omega, by show q.lim ≤ 100; omega⟩) h2
  have ea : runO { q with lim := (k : Int) } l = ((sortA q l).take k).map (projA q) := by
    unfold runO
    rw [if_pos e1]
    unfold outA pageA
    rw [if_neg (show ¬ (k : Int) = 0 by omega)]
    rw [sortA_same (q := q) (p := { q with lim := (k : Int) }) rfl rfl, projA_same (q := q) (p := { q with lim := (k : Int) }) rfl]
    simp only [hs, Int.toNat_zero, List.drop_zero, Int.toNat_natCast]
  have eb : runO { q with skip := (k : Int) } l = ((sortA q l).drop k).map (projA q) := by
    unfold runO
    rw [if_pos e2]
    unfold outA pageA
    rw [if_pos (show q.lim = 0 from hl)]
    rw [sortA_same (q := q) (p := { q with skip := (k : Int) }) rfl rfl, projA_same (q := q) (p := { q with skip := (k : Int) }) rfl]
    simp only [Int.toNat_natCast]
  have ec : runO q l = (sortA q l).map (projA q) := by
    unfold runO; rw [if_pos h, outA_all hs hl]
  refine ⟨e1, e2, ?_, ?_⟩
  · rw [ec, List.length_map] at hk
    rw [ea, List.length_map, List.length_take]; omega
  · rw [ea, eb, ec, ← List.map_append, List.take_append_drop]

/-- one document for each id -/
theorem count_one {l : List DR} (h : l.Pairwise fun a b => a.id ≠ b.id) {d : DR} (hd : d ∈ l) : l.countP (fun x => decide (x.id = d.id)) = 1 := by
  induction l with
  | nil => simp at hd
  | cons x l ih =>
    obtain ⟨h1, h2⟩ := List.pairwise_cons.1 h
    rw [List.countP_cons]
    rcases List.mem_cons.1 hd with e | hm
    · subst e
      have : l.countP (fun x => decide (x.id = d.id)) = 0 := by
        rw [List.countP_eq_zero]
        intro y hy; simp; exact fun e => h1 y hy e.symm
      rw [this]; simp
    · rw [ih h2 hm]
      have := h1 d hm
      simp [this]
theorem all_out {q : QR} {l : List DR} (hs : q.skip = 0) (hl : q.lim = 0) (hf : q.fields = []) (h : runE q l = 0) : runO q l = sortA q l := by
  unfold runO
  rw [if_pos h, outA_all hs hl]
  have e : projA q = id := by
    funext d; unfold projA; rw [hf]; rfl
  rw [e, List.map_id]
theorem all_ids {q : QR} {l : List DR} (h : okA [] l = true) : (sortA q l).Pairwise fun a b => a.id ≠ b.id :=
  (((okA_iff l []).1 h).2.1.filter _).perm (sortA_perm q l).symm fun h e => h e.symm
theorem all_len {q : QR} {l : List DR} : (sortA q l).length = l.countP fun d => HoldsP q.flt d.v := by
  rw [(sortA_perm q l).length_eq, List.countP_eq_length_filter]
theorem all_mem {q : QR} {l : List DR} {d : DR} : d ∈ sortA q l ↔ d ∈ l ∧ HoldsP q.flt d.v = true := by
  rw [(sortA_perm q l).mem_iff, List.mem_filter]
/-- two neighbours -/
theorem all_next {q : QR} {l : List DR} (h : okA [] l = true) {i : Nat} {a b : DR} (ha : (sortA q l)[i]? = some a) (hb : (sortA q l)[i + 1]? = some b) : docC q.sort a b < 0 ∧ ¬ docC q.sort b a < 0 := by
  obtain ⟨h1, e1⟩ := List.getElem?_eq_some_iff.1 ha
  obtain ⟨h2, e2⟩ := List.getElem?_eq_some_iff.1 hb
  have hp := List.pairwise_iff_getElem.1 (sortA_sorted q l) i (i + 1) h1 h2 (by omega)
  have hi := List.pairwise_iff_getElem.1 (all_ids (q := q) h) i (i + 1) h1 h2 (by omega)
  rw [e1, e2] at hp hi
  refine ⟨?_, hp⟩
  unfold leA at hp
  have := (good_doc q.sort).anti a b
  have hz : docC q.sort a b ≠ 0 := fun e => hi (docC_ids e)
  omega

end Go.Proofs.YtkhhbckpddkhlaaDoor
