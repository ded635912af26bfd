/- Catalogs: what Parse answers, plainly; what is shown is read as it was. -/
import Derived.Test.YtfpphpjobkhalaaGreatDoorZ32
import Derived.Test.YtfpphpjobkhalaaGreatDoorZ38
namespace Go.Proofs.YtfpphpjobkhalaaGreatDoor
open Go.RowKit

/-- the last collection has a further index -/
def addLast (p : PX) : List CX → List CX
  | [] => []
  | [x] => [⟨x.name, x.sp, x.ixs ++ [p]⟩]
  | x :: y :: l => x :: addLast p (y :: l)
theorem addLast_snoc (p : PX) (x : CX) : ∀ l : List CX, addLast p (l ++ [x]) = l ++ [⟨x.name, x.sp, x.ixs ++ [p]⟩]
  | [] => rfl
  | [y] => rfl
  | y :: z :: l => by
    show y :: addLast p (z :: l ++ [x]) = _
    rw [addLast_snoc p x (z :: l)]; rfl
/-- a row read onto what was read ahead -/
noncomputable def parseR (acc : List CX) (r : JV) : Option (List CX) := match r.items with
  | [a, b] => some (acc ++ [⟨a.text, b.n, []⟩])
  | [_, b, c] => if acc = [] then none else some (addLast ⟨parseX c, b.n⟩ acc)
  | _ => none
noncomputable def parseL : List CX → List JV → Option (List CX)
  | acc, [] => some acc
  | acc, r :: l => match parseR acc r with
    | some acc2 => parseL acc2 l
    | none => none
open Classical in
/-- what Parse answers -/
noncomputable def parseC (v : JV) : List CX × Int := match parseL [] v.items with
  | some c => if formC c = true ∧ v = showC c then (c, 0) else ([], 2)
  | none => ([], 2)
theorem parseL_app : ∀ (l m : List JV) (acc : List CX), parseL acc (l ++ m) = (parseL acc l).bind fun a => parseL a m
  | [], m, acc => rfl
  | r :: l, m, acc => by
    show (match parseR acc r with | some acc2 => parseL acc2 (l ++ m) | none => none) = (match parseR acc r with | some acc2 => parseL acc2 l | none => none).bind fun a => parseL a m
    cases parseR acc r with
    | none => rfl
    | some a => exact parseL_app l m a
theorem parseX_show {x : IX} (h : formI x = true) : parseX (showJ x) = x := by unfold parseX; rw [parse_show h]; rfl
theorem row_two (acc : List CX) (s : ByteArray) (n : Int) : parseR acc (rowJ s n []) = some (acc ++ [⟨s, n, []⟩]) := rfl
theorem row_three (acc : List CX) (x : CX) (s : ByteArray) (p : PX) (h : formI p.ix = true) : parseR (acc ++ [x]) (rowJ s p.sp [showJ p.ix]) = some (acc ++ [⟨x.name, x.sp, x.ixs ++ [p]⟩]) := by
  show (if acc ++ [x] = [] then none else some (addLast ⟨parseX (showJ p.ix), p.sp⟩ (acc ++ [x]))) = _
  rw [if_neg (by simp), parseX_show h, addLast_snoc]
theorem parse_ixs (acc : List CX) (s : ByteArray) (sp : Int) : ∀ (ps : List PX) (ds : List PX), (∀ p ∈ ps, formI p.ix = true) → parseL (acc ++ [⟨s, sp, ds⟩]) (ps.map fun p => rowJ s p.sp [showJ p.ix]) = some (acc ++ [⟨s, sp, ds ++ ps⟩])
  | [], ds, _ => by simp [parseL]
  | p :: ps, ds, h => by
    show (match parseR (acc ++ [⟨s, sp, ds⟩]) (rowJ s p.sp [showJ p.ix]) with | some acc2 => parseL acc2 (ps.map fun p : PX => rowJ s p.sp [showJ p.ix]) | none => none) = _
    rw [row_three acc ⟨s, sp, ds⟩ s p (h p (List.mem_cons_self ..))]
    simp only
    rw [parse_ixs acc s sp ps (ds ++ [p]) (fun q hq => h q (List.mem_cons_of_mem _ hq))]
    simp
theorem parse_rowsX (acc : List CX) (x : CX) (h : ∀ p ∈ x.ixs, formI p.ix = true) : parseL acc (rowsX x) = some (acc ++ [x]) := by
  show (match parseR acc (rowJ x.name x.sp []) with | some acc2 => parseL acc2 (x.ixs.map fun p : PX => rowJ x.name p.sp [showJ p.ix]) | none => none) = _
  rw [row_two]
  simp only
  rw [parse_ixs acc x.name x.sp x.ixs [] h]
  simp
theorem parse_all : ∀ (l acc : List CX), (∀ x ∈ l, ∀ p ∈ x.ixs, formI p.ix = true) → parseL acc (l.flatMap rowsX) = some (acc ++ l)
  | [], acc, _ => by simp [parseL]
  | x :: l, acc, h => by
    rw [List.flatMap_cons, parseL_app, parse_rowsX acc x (h x (List.mem_cons_self ..))]
    simp only [Option.bind_some]
    rw [parse_all l (acc ++ [x]) (fun y hy => h y (List.mem_cons_of_mem _ hy))]
    simp
/-- what is shown is read as it was -/
theorem parse_showC {l : List CX} (h : formC l = true) : parseC (showC l) = (l, 0) := by
  unfold parseC
  have h1 : parseL [] (showC l).items = some l := by
    have := parse_all l [] (fun x hx => (formX_iff.1 ((formC_iff.1 h).2.2.1 x hx)).2.2.2)
    rw [List.nil_append] at this
    exact this
  rw [h1]
  simp only
  rw [if_pos ⟨h, trivial⟩]
theorem int_formed {n : Int} {l : Nat} : formedF (l + 1) (intJ n) = decide (headOk 3 n ⟨#[]⟩) := by
  unfold intJ
  rw [formedF]; simp
/-- what is shown is formed -/
theorem formed_showN (n : Nat) {x : IX} (h : formI x = true) : formedF (n + 3) (showJ x) = true := by
  have hg : goodF x.fields 0 x.fields = true := by unfold formI at h; rw [Bool.and_eq_true, Bool.and_eq_true] at h; exact h.2
  obtain ⟨h1, h2, h3⟩ := form_parts h
  have et := empty_t
  have i0 : formedF (n + 2) (.mk 5 0 ⟨#[]⟩ [] (showItems x)) = true := by
    rw [formedF, decide_eq_true (show headOk 5 0 ⟨#[]⟩ from ⟨by decide, by decide, .inr rfl, .inr (by kernel_rfl), et⟩)]
    have e1 : (showItems x).length = x.fields.length := by unfold showItems; simp
    have e2 : bodyOk 5 [] (showItems x).length = true := by
      unfold bodyOk
      rw [decide_eq_true (show (showItems x).length ≤ 24 by omega)]; rfl
    have e3 : (showItems x).all (formedF (n + 1)) = true := by
      rw [List.all_eq_true]
      intro j hj
      unfold showItems at hj
      obtain ⟨f, hf, rfl⟩ := List.mem_map.1 hj
      refine str_formed (asc_text (fun b hb => ?_) (by have := dash_len f.1 f.2; have := h3 f hf; omega))
      have hp := good_plain _ _ hg f hf
      have hq : ∀ b ∈ f.1.data.toList, b.toNat < 128 := fun b hb => ok_ascii (List.all_eq_true.1 hp b hb)
      cases hd : f.2 with
      | false => rw [hd] at hb; exact hq b hb
      | true =>
        rw [hd, dash_list] at hb
        rcases List.mem_cons.1 hb with rfl | hb
        · decide
        · exact hq b hb
    rw [e2, e3]; rfl
  have i1 : formedF (n + 2) (strJ x.name) = true := by
    unfold nameF at h1
    rw [Bool.and_eq_true] at h1
    have := of_decide_eq_true h1.1
    refine str_formed (asc_text (fun b hb => ?_) (by omega))
    have := of_decide_eq_true (List.all_eq_true.1 h1.2 b hb)
    omega
  have i2 : formedF (n + 2) (kindJ (if x.uniq then 2 else 1)) = true := by
    cases x.uniq
    · show formedF (n + 2) (.mk 1 0 ⟨#[]⟩ [] []) = true
      rw [formedF, decide_eq_true (show headOk 1 0 ⟨#[]⟩ from ⟨by decide, by decide, .inr rfl, .inr (by kernel_rfl), et⟩)]; rfl
    · show formedF (n + 2) (.mk 2 0 ⟨#[]⟩ [] []) = true
      rw [formedF, decide_eq_true (show headOk 2 0 ⟨#[]⟩ from ⟨by decide, by decide, .inr rfl, .inr (by kernel_rfl), et⟩)]; rfl
  have t1 : textF wFields = true := asc_text (by decide) (by decide)
  have t2 : textF wName = true := asc_text (by decide) (by decide)
  have t3 : textF wUnique = true := asc_text (by decide) (by decide)
  have e2 : bodyOk 6 [wFields, wName, wUnique] 3 = true := by
    unfold bodyOk
    have e3 : rises [wFields, wName, wUnique] = true := by kernel_rfl
    simp only [List.all_cons, List.all_nil, t1, t2, t3, e3]
    rfl
  unfold showJ
  rw [formedF, decide_eq_true (show headOk 6 0 ⟨#[]⟩ from ⟨by decide, by decide, .inr rfl, .inr (by kernel_rfl), et⟩)]
  show (true && if (6 : Int) < 5 then _ else bodyOk 6 [wFields, wName, wUnique] 3 && _) = true
  rw [e2]
  simp only [List.all_cons, List.all_nil, i0, i1, i2]
  rfl
theorem name_text {s : ByteArray} (h : nameF s = true) : textF s = true := by
  unfold nameF at h
  rw [Bool.and_eq_true] at h
  have := of_decide_eq_true h.1
  refine asc_text (fun b hb => ?_) (by omega)
  have := of_decide_eq_true (List.all_eq_true.1 h.2 b hb)
  omega
theorem row_formed {n : Nat} {s : ByteArray} {sp : Int} {more : List JV} (hs : textF s = true) (hl : more.length ≤ 22) (hm : ∀ v ∈ more, formedF (n + 1) v = true) : formedF (n + 2) (rowJ s sp more) = true := by
  unfold rowJ
  have et := empty_t
  rw [formedF, decide_eq_true (show headOk 5 0 ⟨#[]⟩ from ⟨by decide, by decide, .inr rfl, .inr (by kernel_rfl), et⟩)]
  have e2 : bodyOk 5 [] (strJ s :: intJ sp :: more).length = true := by
    unfold bodyOk
    rw [decide_eq_true (show (strJ s :: intJ sp :: more).length ≤ 24 by simp; omega)]; rfl
  have e3 : (strJ s :: intJ sp :: more).all (formedF (n + 1)) = true := by
    rw [List.all_eq_true]
    intro j hj
    rcases List.mem_cons.1 hj with rfl | hj
    · exact str_formed hs
    · rcases List.mem_cons.1 hj with rfl | hj
      · rw [int_formed]
        exact decide_eq_true ⟨by decide, by decide, .inl rfl, .inr (by kernel_rfl), et⟩
      · exact hm j hj
  rw [e2, e3]; rfl
theorem rows_len {l : List CX} : (l.flatMap rowsX).length = (spacesC l).length := by
  induction l with
  | nil => rfl
  | cons x l ih =>
    unfold spacesC at ih ⊢
    rw [List.flatMap_cons, List.flatMap_cons, List.length_append, List.length_append, ih]
    simp [rowsX, spacesX]
theorem rowsX_mem {l : List CX} {r : JV} (h : r ∈ l.flatMap rowsX) : ∃ x ∈ l, r = rowJ x.name x.sp [] ∨ ∃ p ∈ x.ixs, r = rowJ x.name p.sp [showJ p.ix] := by
  obtain ⟨x, hx, hr⟩ := List.mem_flatMap.1 h
  refine ⟨x, hx, ?_⟩
  unfold rowsX at hr
  rcases List.mem_cons.1 hr with rfl | hr
  · exact .inl rfl
  · obtain ⟨p, hp, rfl⟩ := List.mem_map.1 hr
    exact .inr ⟨p, hp, rfl⟩
theorem formed_showC {l : List CX} (h : formC l = true) : formedF 6 (showC l) = true := by
  have h1 := formC_iff.1 h
  have hl := spaces_four h
  have et := empty_t
  unfold showC
  rw [formedF, decide_eq_true (show headOk 5 0 ⟨#[]⟩ from ⟨by decide, by decide, .inr rfl, .inr (by kernel_rfl), et⟩)]
  have e2 : bodyOk 5 [] (l.flatMap rowsX).length = true := by
    unfold bodyOk
    rw [decide_eq_true (show (l.flatMap rowsX).length ≤ 24 by rw [rows_len]; omega)]; rfl
  have e3 : (l.flatMap rowsX).all (formedF 5) = true := by
    rw [List.all_eq_true]
    intro r hr
    obtain ⟨x, hx, hr⟩ := rowsX_mem hr
    have hfx := formX_iff.1 (h1.2.2.1 x hx)
    rcases hr with rfl | ⟨p, hp, rfl⟩
    · exact row_formed (n := 3) (name_text hfx.1) (by simp) (fun v hv => by simp at hv)
    · refine row_formed (n := 3) (name_text hfx.1) (by simp) (fun v hv => ?_)
      rw [List.mem_singleton.1 hv]
      exact formed_showN 1 (hfx.2.2.2 p hp)
  rw [e2, e3]; rfl
/-- what is shown may be read -/
theorem showC_parsable {l : List CX} (h : formC l = true) : (∀ r ∈ (showC l).items, ∀ c ∈ r.items, parsable c) ∧ (showC l).items.length ≤ 1000 := by
  have h1 := formC_iff.1 h
  have hl := spaces_four h
  refine ⟨fun r hr c hc => ?_, by show (l.flatMap rowsX).length ≤ 1000; rw [rows_len]; omega⟩
  obtain ⟨x, hx, hr⟩ := rowsX_mem hr
  have hfx := formX_iff.1 (h1.2.2.1 x hx)
  have he : ∀ (s : ByteArray) (n : Int), parsable (strJ s) ∧ parsable (intJ n) := fun s n => ⟨fun i hi => by simp [strJ, JV.items] at hi, fun i hi => by simp [intJ, JV.items] at hi⟩
  rcases hr with rfl | ⟨p, hp, rfl⟩
  · rcases List.mem_cons.1 hc with rfl | hc
    · exact (he _ 0).1
    · rw [List.mem_singleton.1 hc]; exact (he ⟨#[]⟩ _).2
  · rcases List.mem_cons.1 hc with rfl | hc
    · exact (he _ 0).1
    · rcases List.mem_cons.1 hc with rfl | hc
      · exact (he ⟨#[]⟩ _).2
      · rw [List.mem_singleton.1 hc]; exact show_parsable (hfx.2.2.2 p hp)
end Go.Proofs.YtfpphpjobkhalaaGreatDoor
