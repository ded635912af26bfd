/- EntriesShow: what is shown is formed, and read again as it was. -/
import Derived.Test.YtfllnlmanopfaaaDoorEO
namespace Go.Proofs.YtfllnlmanopfaaaDoor
open Go.RowKit

theorem good_plain {all : List Fd} : ∀ (l : List Fd) (j : Nat), goodF all j l = true → ∀ f ∈ l, plainS f.1 = true
  | [], _, _, f, hf => by cases hf
  | g :: l, j, h, f, hf => by
    rw [goodF, Bool.and_eq_true, Bool.and_eq_true] at h
    rcases List.mem_cons.1 hf with rfl | hf
    · have := h.1.1
      unfold pathOk simpleF at this
      rw [Bool.and_eq_true, Bool.and_eq_true] at this
      exact this.2.1
    · exact good_plain l (j + 1) h.2 f hf
theorem dash_list (s : ByteArray) : (dashS s true).data.toList = 45 :: s.data.toList := by
  show (⟨#[45]⟩ ++ s : ByteArray).data.toList = _
  rw [ByteArray.data_append]; simp
theorem cut_dash {s : ByteArray} {d : Bool} (h : plainS s = true) : cutF (dashS s d) = (s, d) := by
  cases d with
  | true =>
    unfold cutF Lib.trimPrefix Lib.hasPrefix
    rw [dash_list]
    simp [List.isPrefixOf]
  | false =>
    show cutF s = _
    refine cut_no (fun h2 => ?_)
    have := List.all_eq_true.1 h 45 (List.mem_of_getElem? h2.2)
    simp [okN] at this
theorem read_show {x : IX} (h : formI x = true) : readI (.mk 5 0 ⟨#[]⟩ [] (showItems x)) (strJ x.name) (kindJ (if x.uniq then 2 else 1)) = x := by
  have hg : goodF x.fields 0 x.fields = true := by unfold formI at h; rw [Bool.and_eq_true, Bool.and_eq_true] at h; exact h.2
  obtain ⟨nm, l, u⟩ := x
  unfold readI
  have e1 : (showItems ⟨nm, l, u⟩).map (fun j => cutF j.text) = l := by
    unfold showItems
    rw [List.map_map]
    have : ∀ f ∈ l, ((fun j => cutF (JV.text j)) ∘ fun f : Fd => strJ (dashS f.1 f.2)) f = id f := fun f hf => cut_dash (good_plain _ _ hg f hf)
    rw [List.map_congr_left this, List.map_id]
  have e2 : decide ((kindJ (if u then 2 else 1)).kind = 2) = u := by cases u <;> rfl
  show IX.mk nm ((showItems ⟨nm, l, u⟩).map fun j => cutF j.text) (decide ((kindJ (if u then 2 else 1)).kind = 2)) = _
  rw [e1, e2]
theorem parse_show {x : IX} (h : formI x = true) : parseF (showJ x) = some x := by
  have e := read_show h
  have := parse_some (v := showJ x) rfl (by rw [e]; exact h) (by rw [e])
  rw [this, e]
theorem asc_text {s : ByteArray} (h : ∀ b ∈ s.data.toList, b.toNat < 128) (hs : s.size ≤ 60) : textF s = true := by
  unfold textF
  have : Lib.validD s.data.toList = true := by
    have h2 := Lib.valid_skip s s.size (fun b hb => h b (List.mem_of_mem_take hb))
    rw [← h2, ByteArray.data_extract]
    simp [Lib.validD_nil]
  rw [this, decide_eq_true hs]; rfl
theorem str_formed {s : ByteArray} {l : Nat} (h : textF s = true) : formedF (l + 1) (strJ s) = true := by
  unfold strJ
  rw [formedF]
  have : headOk 4 0 s := ⟨by decide, by decide, .inr rfl, .inl rfl, h⟩
  rw [decide_eq_true this]; rfl
theorem empty_t : textF ⟨#[]⟩ = true := asc_text (fun b hb => by simp at hb) (by decide)
theorem formed_show {x : IX} (h : formI x = true) : formedF 6 (showJ x) = true := by
  have hg : goodF x.fields 0 x.fields = true := by unfold formI at h; rw [Bool.and_eq_true, Bool.and_eq_true] at h; exact h.2
  obtain ⟨h1, h2, h3⟩ := form_parts h
  have et := empty_t
  have i0 : formedF 5 (.mk 5 0 ⟨#[]⟩ [] (showItems x)) = true := by
    rw [formedF, decide_eq_true (show headOk 5 0 ⟨#[]⟩ from ⟨by decide, by decide, .inr rfl, .inr (by kernel_rfl), et⟩)]
    have e1 : (showItems x).length = x.fields.length := by unfold showItems; simp
    have e2 : bodyOk 5 [] (showItems x).length = true := by
      unfold bodyOk
      rw [decide_eq_true (show (showItems x).length ≤ 24 by omega)]; rfl
    have e3 : (showItems x).all (formedF 4) = true := by
      rw [List.all_eq_true]
      intro j hj
      unfold showItems at hj
      obtain ⟨f, hf, rfl⟩ := List.mem_map.1 hj
      refine str_formed (asc_text (fun b hb => ?_) (by have := dash_len f.1 f.2; have := h3 f hf; omega))
      have hp := good_plain _ _ hg f hf
      have hq : ∀ b ∈ f.1.data.toList, b.toNat < 128 := fun b hb => ok_ascii (List.all_eq_true.1 hp b hb)
      cases hd : f.2 with
      | false => rw [hd] at hb; exact hq b hb
      | true =>
        rw [hd, dash_list] at hb
        rcases List.mem_cons.1 hb with rfl | hb
        · decide
        · exact hq b hb
    rw [e2, e3]; rfl
  have i1 : formedF 5 (strJ x.name) = true := by
    unfold nameF at h1
    rw [Bool.and_eq_true] at h1
    have := of_decide_eq_true h1.1
    refine str_formed (asc_text (fun b hb => ?_) (by omega))
    have := of_decide_eq_true (List.all_eq_true.1 h1.2 b hb)
    omega
  have i2 : formedF 5 (kindJ (if x.uniq then 2 else 1)) = true := by
    cases x.uniq
    · show formedF 5 (.mk 1 0 ⟨#[]⟩ [] []) = true
      rw [formedF, decide_eq_true (show headOk 1 0 ⟨#[]⟩ from ⟨by decide, by decide, .inr rfl, .inr (by kernel_rfl), et⟩)]; rfl
    · show formedF 5 (.mk 2 0 ⟨#[]⟩ [] []) = true
      rw [formedF, decide_eq_true (show headOk 2 0 ⟨#[]⟩ from ⟨by decide, by decide, .inr rfl, .inr (by kernel_rfl), et⟩)]; rfl
  have t1 : textF wFields = true := asc_text (by decide) (by decide)
  have t2 : textF wName = true := asc_text (by decide) (by decide)
  have t3 : textF wUnique = true := asc_text (by decide) (by decide)
  have e2 : bodyOk 6 [wFields, wName, wUnique] 3 = true := by
    unfold bodyOk
    have e3 : rises [wFields, wName, wUnique] = true := by kernel_rfl
    simp only [List.all_cons, List.all_nil, t1, t2, t3, e3]
    rfl
  unfold showJ
  rw [formedF, decide_eq_true (show headOk 6 0 ⟨#[]⟩ from ⟨by decide, by decide, .inr rfl, .inr (by kernel_rfl), et⟩)]
  show (true && if (6 : Int) < 5 then _ else bodyOk 6 [wFields, wName, wUnique] 3 && _) = true
  rw [e2]
  simp only [List.all_cons, List.all_nil, i0, i1, i2]
  rfl

theorem entriesShow_any (x : IX) (xv : Value) (v : JV) (vv : Value) (w : World) (hx : IAt (cf w) x xv) (hv : JAt (cf w) v vv) (hT : Tabs w) :
    Calls Tryd.prog 8 #[xv, vv] w fun e w' => e = .returned (.bool true) ∧ Below w.heap.size w w' :=
  entriesShow_walk x xv v vv w hx hv hT (fun h => ⟨parse_show h, formed_show h⟩)

end Go.Proofs.YtfllnlmanopfaaaDoor
