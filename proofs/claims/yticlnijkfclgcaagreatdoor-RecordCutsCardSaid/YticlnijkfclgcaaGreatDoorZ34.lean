/- Indexes: Show of the program. -/
import Derived.Test.YticlnijkfclgcaaGreatDoorZ33
namespace Go.Proofs.YticlnijkfclgcaaGreatDoor
open Go.RowKit

theorem strs_no (c : CF) : StrsAt c (.slice none 0 0) [] := ⟨none, 0, rfl, by simp, fun i s h => by simp at h⟩
theorem items_no (c : CF) : ItemsAt c (.slice none 0 0) [] := ⟨none, 0, rfl, by simp, fun i s h => by simp at h⟩
theorem dash_size {s : ByteArray} {d : Bool} (h : s.size ≤ 24) : (dashS s d).size ≤ 9223372036854775807 := by
  unfold dashS
  split
  · rw [ByteArray.size_append]
    have : (⟨#[45]⟩ : ByteArray).size = 1 := rfl
    omega
  · omega
abbrev zero5 : Array Value := #[.int .i64 0, .int .i64 0, .string ⟨#[]⟩, .slice none 0 0, .slice none 0 0]
set_option maxRecDepth 100000 in
set_option maxHeartbeats 8000000 in
theorem Show_any (x : IX) (v : Value) (w : World) (hx : IAt (cf w) x v) (hsm : ∀ f ∈ x.fields, f.1.size ≤ 1000000) (hT : Tabs w) :
    Calls Tryz.prog 46 #[v] w (ShowPost x w) := by
  have HX := Hold.mk hx
  obtain ⟨hnm, fv, rfl, a, cap, rfl, hlen, hcap, hel⟩ := hx
  obtain ⟨W, hW, hB, e0, e1⟩ := twoE w (.cells #[.string x.name, .slice a x.fields.length cap, .bool x.uniq] 81) (.cells zero5 58)
  have HB := Hold.mk hB
  have HXB := Hold.mk e0
  have HRB := Hold.mk e1
  have HE := Hold.mk hel
  have HS := Hold.mk hsm
  have HT := Hold.mk hT
  have HNM := Hold.mk hnm
  obtain ⟨nm, l, u⟩ := x
  simp only at *
  clear hel hsm hT hB e0 e1 hnm
  go_enter Tryz.func46, Tryz.ntmps46
  go_wp2_with fail
  rw [← hW]
  clear hW
  refine (FormedI_any ⟨nm, l, u⟩ _ _ (HX.out.mono (cle_below HB.out)) HS.out (HT.out.below HB.out)).mono ?_
  rintro e w1 ⟨rfl, hb1⟩
  replace HXB := Hold.mk (kept HXB.out hb1)
  replace HRB := Hold.mk (kept HRB.out hb1)
  replace HB := Hold.mk (HB.out.trans (hb1.mono HB.out.size))
  clear hb1
  cases hf : formI ⟨nm, l, u⟩ with
  | false =>
    have HF := Hold.mk hf
    clear hf
    obtain ⟨r0, r1, r2, r3, r4⟩ := cells_five HRB.out
    have f0 := free_box HRB.out 0
    have f1 := free_box HRB.out 1
    have f2 := free_box HRB.out 2
    have f3 := free_box HRB.out 3
    have f4 := free_box HRB.out 4
    go_wp2_with fail
    obtain ⟨W2, hW2⟩ : ∃ W2, W2 = (((((w1.setCell ⟨w.heap.size + 1, 0, none⟩ (.int .i64 0)).setCell ⟨w.heap.size + 1, 1, none⟩ (.int .i64 0)).setCell ⟨w.heap.size + 1, 2, none⟩ (.string ⟨#[]⟩)).setCell ⟨w.heap.size + 1, 3, none⟩ (.slice none 0 0)).setCell ⟨w.heap.size + 1, 4, none⟩ (.slice none 0 0)) := ⟨_, rfl⟩
    rw [← hW2]
    have hbk : W2.heap[w.heap.size + 1]? = some (.cells zero5 58 (0, 0)) := by rw [hW2]; exact set5_self HRB.out
    have hbw : Below w.heap.size w W2 := by rw [hW2]; exact set5_below HB.out (by omega)
    clear hW2
    clear r0 r1 r2 r3 r4 f0 f1 f2 f3 f4
    obtain ⟨c0, c1, c2, c3, c4⟩ := cells_five hbk
    exact bodyPost_ret (v := .tuple #[.agg zero5, .int .i64 2]) (by simp [results, Tryz.results46, go_sem, c0, c1, c2, c3, c4]) rfl ⟨by rw [if_neg (by rw [HF.out]; simp)], hbw⟩
  | true =>
    have HF := Hold.mk hf
    have HFP := Hold.mk (form_parts hf)
    clear hf
    obtain ⟨i0, hi, hz0, hz1, hz2⟩ := info_parts infoVal
    have HI := Hold.mk (And.intro hi (And.intro hz0 (And.intro hz1 hz2)))
    have h3 : l.length ≤ 3 := HFP.out.2.1.2
    have HAB : Hold (AB (w1.alloc (.cells #[.int .i64 5, .int .i64 0, .string ⟨#[]⟩, .slice none 0 0, .slice none 0 0] 58)) w1.heap.size (.int .i64 5) (.int .i64 0) (.string ⟨#[]⟩) (.slice none 0 0) (.slice none 0 0) 0 []) := ⟨⟨heap_alloc_new w1 _, World.ownsRow_nil _ _ _ _⟩⟩
    have hn1 := heap_lt HRB.out
    have hn0 := heap_lt HXB.out
    obtain ⟨y0, y1, y2⟩ := cells_three HXB.out
    clear hi hz0 hz1 hz2
    have HBA : Hold (Below w1.heap.size w1 (w1.alloc (.cells #[.int .i64 5, .int .i64 0, .string ⟨#[]⟩, .slice none 0 0, .slice none 0 0] 58))) := ⟨(Below.refl _ w1).alloc (Nat.le_refl _) _⟩
    go_wp2_with fail
    clear y0 y1 y2
    go_loopw [17] (fun i wr => ∃ (j : Nat) (sv : Value) (cs : List Value), i = .int .i64 j ∧ j ≤ l.length ∧ AB wr w1.heap.size (.int .i64 5) (.int .i64 0) (.string ⟨#[]⟩) (.slice none 0 0) sv j cs ∧ VRow (fun _ _ => none) ((l.take j).map fun f => strJ (dashS f.1 f.2)) cs ∧ Below w1.heap.size w1 wr) (fun i _ => l.length - (intOf i).toNat)
    case atStart => exact ⟨0, _, [], rfl, Nat.zero_le _, HAB.out, VRow.nil _, HBA.out⟩
    case round =>
      obtain ⟨j, sv, cs, rfl, hj, hab, hvr, hbl⟩ := hrel
      clear HAB HBA
      have HAB := Hold.mk hab
      have HVR := Hold.mk hvr
      have HBL := Hold.mk hbl
      clear hab hvr hbl
      obtain ⟨sa, scap, rfl⟩ := own_form2 HAB.out.own
      by_cases hlt : j < l.length
      · obtain ⟨f, hf⟩ : ∃ f, l[j]? = some f := ⟨l[j], List.getElem?_eq_getElem hlt⟩
        obtain ⟨hfs, b, off, rfl, x0, x1⟩ := HE.out j f hf
        have hcl := (cle_below HB.out).trans (cle_below HBL.out)
        have z0 := hcl _ _ _ x0
        have z1 := hcl _ _ _ x1
        unfold cf at z0 z1
        have h24 : f.1.size ≤ 24 := HFP.out.2.2 f (List.mem_of_getElem? hf)
        have HTK : Hold ((l.take (j + 1)).map (fun f => strJ (dashS f.1 f.2)) = (l.take j).map (fun f => strJ (dashS f.1 f.2)) ++ [strJ (dashS f.1 f.2)]) := ⟨by rw [List.take_add_one, hf, List.map_append]; rfl⟩
        obtain ⟨s, dn⟩ := f
        simp only at *
        clear x0 x1 hcl hf
        have HA2 := Hold.mk (HAB.out.alloc (.cells #[.string s, .bool dn] 112))
        obtain ⟨y0, y1, y2, y3, y4⟩ := cells_five HA2.out.box
        have hkl := heap_lt HAB.out.box
        obtain ⟨t, ht⟩ : ∃ t, dashS s dn = t := ⟨_, rfl⟩
        rw [ht] at HTK
        have HTS : Hold (t.size ≤ 9223372036854775807) := ⟨by rw [← ht]; exact dash_size h24⟩
        cases dn with
        | true =>
          have HA3 := Hold.mk ((HAB.out.alloc (.cells #[.string s, .bool true] 112)).alloc (.cells #[.int .i64 4, .int .i64 0, .string t, .slice none 0 0, .slice none 0 0] 58))
          have HBB : Hold (Below w1.heap.size w1 ((wr.alloc (.cells #[.string s, .bool true] 112)).alloc (.cells #[.int .i64 4, .int .i64 0, .string t, .slice none 0 0, .slice none 0 0] 58))) := ⟨(HBL.out.alloc HBL.out.size _).alloc (by have := HBL.out.size; simp; omega) _⟩
          have HN3 : Hold (((wr.alloc (.cells #[.string s, .bool true] 112)).alloc (.cells #[.int .i64 4, .int .i64 0, .string t, .slice none 0 0, .slice none 0 0] 58)).heap[wr.heap.size + 1]? = some (.cells #[.int .i64 4, .int .i64 0, .string t, .slice none 0 0, .slice none 0 0] 58 (0, 0))) := ⟨by have := heap_alloc_new (wr.alloc (.cells #[.string s, .bool true] 112)) (.cells #[.int .i64 4, .int .i64 0, .string t, .slice none 0 0, .slice none 0 0] 58); simpa using this⟩
          have ht2 : (⟨#[45]⟩ : ByteArray) ++ s = t := ht
          have hs1 : 1 + s.size ≤ 9223372036854775807 := by omega
          go_wp2_with (at_builtin; refine wpList_append_lies _ rfl (.tmp 28) (.tmp 31) 56 rfl (w1.heap.size + 1) 58 i0 (.agg zero5) 5 80 Tryz.underlying56 HI.out.1 HI.out.2.1 HI.out.2.2.1 HI.out.2.2.2 rfl (by decide) (.slice sa j scap) j cs rfl HA3.out.own ⟨wr.heap.size + 1, 0, none⟩ 1 1 [.int .i64 4, .int .i64 0, .string t, .slice none 0 0, .slice none 0 0] rfl rfl (World.news_of_block HN3.out) (by simp [Value.oneCell']) (by decide) (by unfold maxLen; omega) (by omega) (by simp; omega) _ rfl ?_)
          intro g cap2 w3 hown hgr _ _
          have hy3 := HA3.out.mid hgr
          have HPU := Hold.mk (HA3.out.push hgr hown)
          obtain ⟨v0, v1, v2, v3, v4⟩ := cells_five hy3
          have vf := free_box hy3 4
          clear hown hgr hy3 y0 y1 y2 y3 y4
          go_wp2_with fail
          exact ⟨⟨j + 1, _, _, by go_num, hlt, HPU.out.1, by rw [HTK.out]; exact HVR.out.snoc (JAt.shut (by kernel_rfl) (by kernel_rfl) HTS.out (strs_no _) (items_no _)), (HBB.out.trans HPU.out.2)⟩, by simp [intOf]; omega⟩
        | false =>
          obtain rfl : s = t := ht
          have HA3 := Hold.mk ((HAB.out.alloc (.cells #[.string s, .bool false] 112)).alloc (.cells #[.int .i64 4, .int .i64 0, .string s, .slice none 0 0, .slice none 0 0] 58))
          have HBB : Hold (Below w1.heap.size w1 ((wr.alloc (.cells #[.string s, .bool false] 112)).alloc (.cells #[.int .i64 4, .int .i64 0, .string s, .slice none 0 0, .slice none 0 0] 58))) := ⟨(HBL.out.alloc HBL.out.size _).alloc (by have := HBL.out.size; simp; omega) _⟩
          have HN3 : Hold (((wr.alloc (.cells #[.string s, .bool false] 112)).alloc (.cells #[.int .i64 4, .int .i64 0, .string s, .slice none 0 0, .slice none 0 0] 58)).heap[wr.heap.size + 1]? = some (.cells #[.int .i64 4, .int .i64 0, .string s, .slice none 0 0, .slice none 0 0] 58 (0, 0))) := ⟨by have := heap_alloc_new (wr.alloc (.cells #[.string s, .bool false] 112)) (.cells #[.int .i64 4, .int .i64 0, .string s, .slice none 0 0, .slice none 0 0] 58); simpa using this⟩
          go_wp2_with (at_builtin; refine wpList_append_lies _ rfl (.tmp 28) (.tmp 31) 56 rfl (w1.heap.size + 1) 58 i0 (.agg zero5) 5 80 Tryz.underlying56 HI.out.1 HI.out.2.1 HI.out.2.2.1 HI.out.2.2.2 rfl (by decide) (.slice sa j scap) j cs rfl HA3.out.own ⟨wr.heap.size + 1, 0, none⟩ 1 1 [.int .i64 4, .int .i64 0, .string s, .slice none 0 0, .slice none 0 0] rfl rfl (World.news_of_block HN3.out) (by simp [Value.oneCell']) (by decide) (by unfold maxLen; omega) (by omega) (by simp; omega) _ rfl ?_)
          intro g cap2 w3 hown hgr _ _
          have hy3 := HA3.out.mid hgr
          have HPU := Hold.mk (HA3.out.push hgr hown)
          obtain ⟨v0, v1, v2, v3, v4⟩ := cells_five hy3
          have vf := free_box hy3 4
          clear hown hgr hy3 y0 y1 y2 y3 y4
          go_wp2_with fail
          exact ⟨⟨j + 1, _, _, by go_num, hlt, HPU.out.1, by rw [HTK.out]; exact HVR.out.snoc (JAt.shut (by kernel_rfl) (by kernel_rfl) HTS.out (strs_no _) (items_no _)), (HBB.out.trans HPU.out.2)⟩, by simp [intOf]; omega⟩
      · obtain rfl : j = l.length := by omega
        have HOW : Hold (wr.ownsRow (w1.heap.size + 1) 58 5 (.slice sa l.length scap) l.length cs) := ⟨HAB.out.own⟩
        rw [List.take_of_length_le (Nat.le_refl _)] at HVR
        replace HXB := Hold.mk (keptB HXB.out hn0 HBL.out)
        replace HRB := Hold.mk (keptB HRB.out hn1 HBL.out)
        have HBW : Hold (Below w.heap.size w wr) := ⟨HB.out.trans (HBL.out.mono HB.out.size)⟩
        have HLB := Hold.mk HAB.out.box
        have m0 := heap_lt HXB.out
        obtain ⟨x0, x1, x2⟩ := cells_three HXB.out
        clear HAB HBL HB
        cases u with
        | true =>
          go_wp2_with (refine stop_buildE (wr.alloc _) ?_)
          refine ⟨?_⟩
          clear x0 x1 x2
          obtain ⟨W2, hW2⟩ : ∃ W2, W2 = wr.alloc (.cells #[.int .i64 2, .int .i64 0, .string ⟨#[]⟩, .slice none 0 0, .slice none 0 0] 58) := ⟨_, rfl⟩
          rw [← hW2]
          have hb2 : Below wr.heap.size wr W2 := by rw [hW2]; exact (Below.refl _ wr).alloc (Nat.le_refl _) _
          have hub : W2.heap[wr.heap.size]? = some (.cells #[.int .i64 2, .int .i64 0, .string ⟨#[]⟩, .slice none 0 0, .slice none 0 0] 58 (0, 0)) := by rw [hW2]; exact heap_alloc_new wr _
          have HOW2 : Hold (W2.ownsRow (w1.heap.size + 1) 58 5 (.slice sa l.length scap) l.length cs) := ⟨by rw [hW2]; exact HOW.out.alloc _⟩
          replace HXB := Hold.mk (kept HXB.out hb2)
          replace HRB := Hold.mk (kept HRB.out hb2)
          replace HLB := Hold.mk (kept HLB.out hb2)
          replace HBW := Hold.mk (HBW.out.trans (hb2.mono HBW.out.size))
          clear hW2 hb2 HOW
          obtain ⟨x0, x1, x2⟩ := cells_three HXB.out
          obtain ⟨y0, y1, y2, y3, y4⟩ := cells_five HLB.out
          obtain ⟨z0, z1, z2, z3, z4⟩ := cells_five hub
          obtain ⟨r0, r1, r2, r3, r4⟩ := cells_five HRB.out
          have p0 := heap_lt HXB.out
          have p1 := heap_lt HLB.out
          have p2 := heap_lt hub
          have p3 := heap_lt HRB.out
          have f0 := free_box HRB.out 0
          have f1 := free_box HRB.out 1
          have f2 := free_box HRB.out 2
          have f3 := free_box HRB.out 3
          have f4 := free_box HRB.out 4
          go_wp2_with fail
          obtain ⟨W3, hW3⟩ : ∃ W3, W3 = (((((W2.setCell ⟨w.heap.size + 1, 0, none⟩ (.int .i64 6)).setCell ⟨w.heap.size + 1, 1, none⟩ (.int .i64 0)).setCell ⟨w.heap.size + 1, 2, none⟩ (.string ⟨#[]⟩)).setCell ⟨w.heap.size + 1, 3, none⟩ (.slice (some ⟨W2.heap.size, 0, none⟩) 3 3)).setCell ⟨w.heap.size + 1, 4, none⟩ (.slice (some ⟨W2.heap.size + 1, 0, none⟩) 3 3)) := ⟨_, rfl⟩
          rw [← hW3]
          have hsz : W3.heap.size = W2.heap.size := by rw [hW3]; simp
          have hbk : W3.heap[w.heap.size + 1]? = some (.cells #[.int .i64 6, .int .i64 0, .string ⟨#[]⟩, .slice (some ⟨W2.heap.size, 0, none⟩) 3 3, .slice (some ⟨W2.heap.size + 1, 0, none⟩) 3 3] 58 (0, 0)) := by rw [hW3]; exact set5_self HRB.out
          have hbw : Below w.heap.size w W3 := by rw [hW3]; exact set5_below HBW.out (by omega)
          have how : W3.ownsRow (w1.heap.size + 1) 58 5 (.slice sa l.length scap) l.length cs := by rw [hW3]; exact own_set5 HOW2.out (by omega)
          clear hW3 x0 x1 x2 y0 y1 y2 y3 y4 z0 z1 z2 z3 z4 r0 r1 r2 r3 r4 p0 p1 p2 p3 f0 f1 f2 f3 f4
          have how4 := (how.alloc (.cells #[.string wFields, .string wName, .string wUnique] 9)).alloc (.cells #[.int .i64 5, .int .i64 0, .string ⟨#[]⟩, .slice none 0 0, .slice sa l.length scap, .int .i64 4, .int .i64 0, .string nm, .slice none 0 0, .slice none 0 0, .int .i64 2, .int .i64 0, .string ⟨#[]⟩, .slice none 0 0, .slice none 0 0] 58)
          obtain ⟨W4, hW4, hB4, e0, e1⟩ := twoE W3 (.cells #[.string wFields, .string wName, .string wUnique] 9) (.cells #[.int .i64 5, .int .i64 0, .string ⟨#[]⟩, .slice none 0 0, .slice sa l.length scap, .int .i64 4, .int .i64 0, .string nm, .slice none 0 0, .slice none 0 0, .int .i64 2, .int .i64 0, .string ⟨#[]⟩, .slice none 0 0, .slice none 0 0] 58)
          rw [← hW4] at how4 ⊢
          rw [hsz] at e0 e1
          replace hbk := kept hbk hB4
          replace hbw := hbw.trans (hB4.mono hbw.size)
          obtain ⟨c0, c1, c2, c3, c4⟩ := cells_five hbk
          have hit : ItemsAt (cf W4) (.slice sa l.length scap) (showItems ⟨nm, l, true⟩) := by
            have e : l.length = (showItems ⟨nm, l, true⟩).length := by simp [showItems]
            rw [e] at how4 ⊢
            exact items_of_own how4 (HVR.out.mono (fun b o x h => by cases h))
          have hj : JAt (cf W4) (showJ ⟨nm, l, true⟩) (.agg #[.int .i64 6, .int .i64 0, .string ⟨#[]⟩, .slice (some ⟨W2.heap.size, 0, none⟩) 3 3, .slice (some ⟨W2.heap.size + 1, 0, none⟩) 3 3]) :=
            JAt.shut (by kernel_rfl) (by kernel_rfl) (by decide) (strs_block (l := [wFields, wName, wUnique]) e0 rfl (by decide) (by decide))
              (items_block (l := [.mk 5 0 ⟨#[]⟩ [] (showItems ⟨nm, l, true⟩), strJ nm, kindJ 2]) e1 (by simp) ((((VRow.nil _).snoc (JAt.shut (by kernel_rfl) (by kernel_rfl) (by decide) (strs_no _) hit)).snoc (JAt.shut (by kernel_rfl) (by kernel_rfl) HNM.out (strs_no _) (items_no _))).snoc (JAt.shut (by kernel_rfl) (by kernel_rfl) (by decide) (strs_no _) (items_no _))))
          exact bodyPost_ret (v := .tuple #[.agg #[.int .i64 6, .int .i64 0, .string ⟨#[]⟩, .slice (some ⟨W2.heap.size, 0, none⟩) 3 3, .slice (some ⟨W2.heap.size + 1, 0, none⟩) 3 3], .int .i64 0]) (by simp [results, Tryz.results46, go_sem, c0, c1, c2, c3, c4]) rfl ⟨by rw [if_pos HF.out]; exact ⟨_, rfl, hj⟩, hbw⟩
        | false =>
          go_wp2_with (refine stop_buildE (wr.alloc _) ?_)
          refine ⟨?_⟩
          clear x0 x1 x2
          obtain ⟨W2, hW2⟩ : ∃ W2, W2 = wr.alloc (.cells #[.int .i64 1, .int .i64 0, .string ⟨#[]⟩, .slice none 0 0, .slice none 0 0] 58) := ⟨_, rfl⟩
          rw [← hW2]
          have hb2 : Below wr.heap.size wr W2 := by rw [hW2]; exact (Below.refl _ wr).alloc (Nat.le_refl _) _
          have hub : W2.heap[wr.heap.size]? = some (.cells #[.int .i64 1, .int .i64 0, .string ⟨#[]⟩, .slice none 0 0, .slice none 0 0] 58 (0, 0)) := by rw [hW2]; exact heap_alloc_new wr _
          have HOW2 : Hold (W2.ownsRow (w1.heap.size + 1) 58 5 (.slice sa l.length scap) l.length cs) := ⟨by rw [hW2]; exact HOW.out.alloc _⟩
          replace HXB := Hold.mk (kept HXB.out hb2)
          replace HRB := Hold.mk (kept HRB.out hb2)
          replace HLB := Hold.mk (kept HLB.out hb2)
          replace HBW := Hold.mk (HBW.out.trans (hb2.mono HBW.out.size))
          clear hW2 hb2 HOW
          obtain ⟨x0, x1, x2⟩ := cells_three HXB.out
          obtain ⟨y0, y1, y2, y3, y4⟩ := cells_five HLB.out
          obtain ⟨z0, z1, z2, z3, z4⟩ := cells_five hub
          obtain ⟨r0, r1, r2, r3, r4⟩ := cells_five HRB.out
          have p0 := heap_lt HXB.out
          have p1 := heap_lt HLB.out
          have p2 := heap_lt hub
          have p3 := heap_lt HRB.out
          have f0 := free_box HRB.out 0
          have f1 := free_box HRB.out 1
          have f2 := free_box HRB.out 2
          have f3 := free_box HRB.out 3
          have f4 := free_box HRB.out 4
          go_wp2_with fail
          obtain ⟨W3, hW3⟩ : ∃ W3, W3 = (((((W2.setCell ⟨w.heap.size + 1, 0, none⟩ (.int .i64 6)).setCell ⟨w.heap.size + 1, 1, none⟩ (.int .i64 0)).setCell ⟨w.heap.size + 1, 2, none⟩ (.string ⟨#[]⟩)).setCell ⟨w.heap.size + 1, 3, none⟩ (.slice (some ⟨W2.heap.size, 0, none⟩) 3 3)).setCell ⟨w.heap.size + 1, 4, none⟩ (.slice (some ⟨W2.heap.size + 1, 0, none⟩) 3 3)) := ⟨_, rfl⟩
          rw [← hW3]
          have hsz : W3.heap.size = W2.heap.size := by rw [hW3]; simp
          have hbk : W3.heap[w.heap.size + 1]? = some (.cells #[.int .i64 6, .int .i64 0, .string ⟨#[]⟩, .slice (some ⟨W2.heap.size, 0, none⟩) 3 3, .slice (some ⟨W2.heap.size + 1, 0, none⟩) 3 3] 58 (0, 0)) := by rw [hW3]; exact set5_self HRB.out
          have hbw : Below w.heap.size w W3 := by rw [hW3]; exact set5_below HBW.out (by omega)
          have how : W3.ownsRow (w1.heap.size + 1) 58 5 (.slice sa l.length scap) l.length cs := by rw [hW3]; exact own_set5 HOW2.out (by omega)
          clear hW3 x0 x1 x2 y0 y1 y2 y3 y4 z0 z1 z2 z3 z4 r0 r1 r2 r3 r4 p0 p1 p2 p3 f0 f1 f2 f3 f4
          have how4 := (how.alloc (.cells #[.string wFields, .string wName, .string wUnique] 9)).alloc (.cells #[.int .i64 5, .int .i64 0, .string ⟨#[]⟩, .slice none 0 0, .slice sa l.length scap, .int .i64 4, .int .i64 0, .string nm, .slice none 0 0, .slice none 0 0, .int .i64 1, .int .i64 0, .string ⟨#[]⟩, .slice none 0 0, .slice none 0 0] 58)
          obtain ⟨W4, hW4, hB4, e0, e1⟩ := twoE W3 (.cells #[.string wFields, .string wName, .string wUnique] 9) (.cells #[.int .i64 5, .int .i64 0, .string ⟨#[]⟩, .slice none 0 0, .slice sa l.length scap, .int .i64 4, .int .i64 0, .string nm, .slice none 0 0, .slice none 0 0, .int .i64 1, .int .i64 0, .string ⟨#[]⟩, .slice none 0 0, .slice none 0 0] 58)
          rw [← hW4] at how4 ⊢
          rw [hsz] at e0 e1
          replace hbk := kept hbk hB4
          replace hbw := hbw.trans (hB4.mono hbw.size)
          obtain ⟨c0, c1, c2, c3, c4⟩ := cells_five hbk
          have hit : ItemsAt (cf W4) (.slice sa l.length scap) (showItems ⟨nm, l, false⟩) := by
            have e : l.length = (showItems ⟨nm, l, false⟩).length := by simp [showItems]
            rw [e] at how4 ⊢
            exact items_of_own how4 (HVR.out.mono (fun b o x h => by cases h))
          have hj : JAt (cf W4) (showJ ⟨nm, l, false⟩) (.agg #[.int .i64 6, .int .i64 0, .string ⟨#[]⟩, .slice (some ⟨W2.heap.size, 0, none⟩) 3 3, .slice (some ⟨W2.heap.size + 1, 0, none⟩) 3 3]) :=
            JAt.shut (by kernel_rfl) (by kernel_rfl) (by decide) (strs_block (l := [wFields, wName, wUnique]) e0 rfl (by decide) (by decide))
              (items_block (l := [.mk 5 0 ⟨#[]⟩ [] (showItems ⟨nm, l, false⟩), strJ nm, kindJ 1]) e1 (by simp) ((((VRow.nil _).snoc (JAt.shut (by kernel_rfl) (by kernel_rfl) (by decide) (strs_no _) hit)).snoc (JAt.shut (by kernel_rfl) (by kernel_rfl) HNM.out (strs_no _) (items_no _))).snoc (JAt.shut (by kernel_rfl) (by kernel_rfl) (by decide) (strs_no _) (items_no _))))
          exact bodyPost_ret (v := .tuple #[.agg #[.int .i64 6, .int .i64 0, .string ⟨#[]⟩, .slice (some ⟨W2.heap.size, 0, none⟩) 3 3, .slice (some ⟨W2.heap.size + 1, 0, none⟩) 3 3], .int .i64 0]) (by simp [results, Tryz.results46, go_sem, c0, c1, c2, c3, c4]) rfl ⟨by rw [if_pos HF.out]; exact ⟨_, rfl, hj⟩, hbw⟩
end Go.Proofs.YticlnijkfclgcaaGreatDoor
