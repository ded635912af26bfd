/- Indexes: Show of the reference. -/
import Derived.Test.YtfpphpjobkhalaaGreatDoorZ19
import Derived.Test.YtfpphpjobkhalaaGreatDoorZ20
namespace Go.Proofs.YtfpphpjobkhalaaGreatDoor
open Go.RowKit

set_option maxRecDepth 100000 in
set_option maxHeartbeats 8000000 in
theorem rShow_any (x : IX) (v : Value) (w : World) (hx : IAt (cf w) x v) (hsm : ∀ f ∈ x.fields, f.1.size ≤ 1000000) :
    Calls Tryz.prog 56 #[v] w (ShowPost x w) := by
  have HX := Hold.mk hx
  obtain ⟨hnm, fv, rfl, a, cap, rfl, hlen, hcap, hel⟩ := hx
  obtain ⟨W, hW, hB, e0, e1⟩ := twoE w (.cells #[.string x.name, .slice a x.fields.length cap, .bool x.uniq] 73) (.cells zero5 55)
  have HB := Hold.mk hB
  have HXB := Hold.mk e0
  have HRB := Hold.mk e1
  have HE := Hold.mk hel
  have HS := Hold.mk hsm
  have HNM := Hold.mk hnm
  obtain ⟨nm, l, u⟩ := x
  simp only at *
  clear hel hsm hB e0 e1 hnm
  go_enter Tryz.func56, Tryz.ntmps56
  go_wp2_with fail
  rw [← hW]
  clear hW
  refine (rFormedI_any ⟨nm, l, u⟩ _ _ (HX.out.mono (cle_below HB.out)) HS.out).mono ?_
  rintro e w1 ⟨rfl, hb1⟩
  replace HXB := Hold.mk (kept HXB.out hb1)
  replace HRB := Hold.mk (kept HRB.out hb1)
  replace HB := Hold.mk (HB.out.trans (hb1.mono HB.out.size))
  clear hb1
  cases hf : formI ⟨nm, l, u⟩ with
  | false =>
    have HF := Hold.mk hf
    clear hf
    obtain ⟨r0, r1, r2, r3, r4⟩ := cells_five HRB.out
    have f0 := free_box HRB.out 0
    have f1 := free_box HRB.out 1
    have f2 := free_box HRB.out 2
    have f3 := free_box HRB.out 3
    have f4 := free_box HRB.out 4
    go_wp2_with fail
    obtain ⟨W2, hW2⟩ : ∃ W2, W2 = (((((w1.setCell ⟨w.heap.size + 1, 0, none⟩ (.int .i64 0)).setCell ⟨w.heap.size + 1, 1, none⟩ (.int .i64 0)).setCell ⟨w.heap.size + 1, 2, none⟩ (.string ⟨#[]⟩)).setCell ⟨w.heap.size + 1, 3, none⟩ (.slice none 0 0)).setCell ⟨w.heap.size + 1, 4, none⟩ (.slice none 0 0)) := ⟨_, rfl⟩
    rw [← hW2]
    have hbk : W2.heap[w.heap.size + 1]? = some (.cells zero5 55 (0, 0)) := by rw [hW2]; exact set5_self HRB.out
    have hbw : Below w.heap.size w W2 := by rw [hW2]; exact set5_below HB.out (by omega)
    clear hW2
    clear r0 r1 r2 r3 r4 f0 f1 f2 f3 f4
    obtain ⟨c0, c1, c2, c3, c4⟩ := cells_five hbk
    exact bodyPost_ret (v := .tuple #[.agg zero5, .int .i64 2]) (by simp [results, Tryz.results56, go_sem, c0, c1, c2, c3, c4]) rfl ⟨by rw [if_neg (by rw [HF.out]; simp)], hbw⟩
  | true =>
    have HF := Hold.mk hf
    have HFP := Hold.mk (form_parts hf)
    clear hf
    obtain ⟨i0, hi, hz0, hz1, hz2⟩ := info_parts infoVal
    have HI := Hold.mk (And.intro hi (And.intro hz0 (And.intro hz1 hz2)))
    have h3 : l.length ≤ 3 := HFP.out.2.1.2
    have HAB : Hold (AB (w1.alloc (.cells #[.int .i64 5, .int .i64 0, .string ⟨#[]⟩, .slice none 0 0, .slice none 0 0] 55)) w1.heap.size (.int .i64 5) (.int .i64 0) (.string ⟨#[]⟩) (.slice none 0 0) (.slice none 0 0) 0 []) := ⟨⟨heap_alloc_new w1 _, World.ownsRow_nil _ _ _ _⟩⟩
    have hn1 := heap_lt HRB.out
    have hn0 := heap_lt HXB.out
    clear hi hz0 hz1 hz2
    have HBA : Hold (Below w1.heap.size w1 (w1.alloc (.cells #[.int .i64 5, .int .i64 0, .string ⟨#[]⟩, .slice none 0 0, .slice none 0 0] 55))) := ⟨(Below.refl _ w1).alloc (Nat.le_refl _) _⟩
    go_wp2_with fail
    go_loopw [5] (fun i wr => ∃ (j : Nat) (sv : Value) (cs : List Value), i = .int .i64 j ∧ j ≤ l.length ∧ AB wr w1.heap.size (.int .i64 5) (.int .i64 0) (.string ⟨#[]⟩) (.slice none 0 0) sv j cs ∧ VRow (fun _ _ => none) ((l.take j).map fun f => strJ (dashS f.1 f.2)) cs ∧ Below w1.heap.size w1 wr) (fun i _ => l.length - (intOf i).toNat)
    case atStart => exact ⟨0, _, [], rfl, Nat.zero_le _, HAB.out, VRow.nil _, HBA.out⟩
    case round =>
      obtain ⟨j, sv, cs, rfl, hj, hab, hvr, hbl⟩ := hrel
      clear HAB HBA
      have HAB := Hold.mk hab
      have HVR := Hold.mk hvr
      have HBL := Hold.mk hbl
      clear hab hvr hbl
      obtain ⟨sa, scap, rfl⟩ := own_form2 HAB.out.own
      have HXW := Hold.mk (keptB HXB.out hn0 HBL.out)
      obtain ⟨q0, q1, q2⟩ := cells_three HXW.out
      by_cases hlt : j < l.length
      · obtain ⟨f, hf⟩ : ∃ f, l[j]? = some f := ⟨l[j], List.getElem?_eq_getElem hlt⟩
        obtain ⟨hfs, b, off, rfl, x0, x1⟩ := HE.out j f hf
        have hcl := (cle_below HB.out).trans (cle_below HBL.out)
        have z0 := hcl _ _ _ x0
        have z1 := hcl _ _ _ x1
        unfold cf at z0 z1
        have h24 : f.1.size ≤ 24 := HFP.out.2.2 f (List.mem_of_getElem? hf)
        have HTK : Hold ((l.take (j + 1)).map (fun f => strJ (dashS f.1 f.2)) = (l.take j).map (fun f => strJ (dashS f.1 f.2)) ++ [strJ (dashS f.1 f.2)]) := ⟨by rw [List.take_add_one, hf, List.map_append]; rfl⟩
        obtain ⟨s, dn⟩ := f
        simp only at *
        clear x0 x1 hcl hf
        obtain ⟨y0, y1, y2, y3, y4⟩ := cells_five HAB.out.box
        have hkl := heap_lt HAB.out.box
        obtain ⟨t, ht⟩ : ∃ t, dashS s dn = t := ⟨_, rfl⟩
        rw [ht] at HTK
        have HTS : Hold (t.size ≤ 9223372036854775807) := ⟨by rw [← ht]; exact dash_size h24⟩
        cases dn with
        | true =>
          have ht2 : (⟨#[45]⟩ : ByteArray) ++ s = t := ht
          have hs1 : 1 + s.size ≤ 9223372036854775807 := by omega
          have HA3 := Hold.mk (HAB.out.alloc (.cells #[.int .i64 4, .int .i64 0, .string t, .slice none 0 0, .slice none 0 0] 55))
          have HBB : Hold (Below w1.heap.size w1 (wr.alloc (.cells #[.int .i64 4, .int .i64 0, .string t, .slice none 0 0, .slice none 0 0] 55))) := ⟨HBL.out.alloc HBL.out.size _⟩
          have HN3 : Hold ((wr.alloc (.cells #[.int .i64 4, .int .i64 0, .string t, .slice none 0 0, .slice none 0 0] 55)).heap[wr.heap.size]? = some (.cells #[.int .i64 4, .int .i64 0, .string t, .slice none 0 0, .slice none 0 0] 55 (0, 0))) := ⟨heap_alloc_new wr _⟩
          go_wp2_with (at_builtin; refine wpList_append_lies _ rfl (.tmp 36) (.tmp 39) 53 rfl (w1.heap.size + 1) 55 i0 (.agg zero5) 5 80 Tryz.underlying53 HI.out.1 HI.out.2.1 HI.out.2.2.1 HI.out.2.2.2 rfl (by decide) (.slice sa j scap) j cs rfl HA3.out.own ⟨wr.heap.size, 0, none⟩ 1 1 [.int .i64 4, .int .i64 0, .string t, .slice none 0 0, .slice none 0 0] rfl rfl (World.news_of_block HN3.out) (by simp [Value.oneCell']) (by decide) (by unfold maxLen; omega) (by omega) (by simp; omega) _ rfl ?_)
          intro g cap2 w3 hown hgr _ _
          have hy3 := HA3.out.mid hgr
          have HPU := Hold.mk (HA3.out.push hgr hown)
          obtain ⟨v0, v1, v2, v3, v4⟩ := cells_five hy3
          have vf := free_box hy3 4
          clear hown hgr hy3 y0 y1 y2 y3 y4 q0 q1 q2
          go_wp2_with fail
          exact ⟨⟨j + 1, _, _, by go_num, hlt, HPU.out.1, by rw [HTK.out]; exact HVR.out.snoc (JAt.shut (by kernel_rfl) (by kernel_rfl) HTS.out (strs_no _) (items_no _)), (HBB.out.trans HPU.out.2)⟩, by simp [intOf]; omega⟩
        | false =>
          obtain rfl : s = t := ht
          have HA3 := Hold.mk (HAB.out.alloc (.cells #[.int .i64 4, .int .i64 0, .string s, .slice none 0 0, .slice none 0 0] 55))
          have HBB : Hold (Below w1.heap.size w1 (wr.alloc (.cells #[.int .i64 4, .int .i64 0, .string s, .slice none 0 0, .slice none 0 0] 55))) := ⟨HBL.out.alloc HBL.out.size _⟩
          have HN3 : Hold ((wr.alloc (.cells #[.int .i64 4, .int .i64 0, .string s, .slice none 0 0, .slice none 0 0] 55)).heap[wr.heap.size]? = some (.cells #[.int .i64 4, .int .i64 0, .string s, .slice none 0 0, .slice none 0 0] 55 (0, 0))) := ⟨heap_alloc_new wr _⟩
          go_wp2_with (at_builtin; refine wpList_append_lies _ rfl (.tmp 36) (.tmp 39) 53 rfl (w1.heap.size + 1) 55 i0 (.agg zero5) 5 80 Tryz.underlying53 HI.out.1 HI.out.2.1 HI.out.2.2.1 HI.out.2.2.2 rfl (by decide) (.slice sa j scap) j cs rfl HA3.out.own ⟨wr.heap.size, 0, none⟩ 1 1 [.int .i64 4, .int .i64 0, .string s, .slice none 0 0, .slice none 0 0] rfl rfl (World.news_of_block HN3.out) (by simp [Value.oneCell']) (by decide) (by unfold maxLen; omega) (by omega) (by simp; omega) _ rfl ?_)
          intro g cap2 w3 hown hgr _ _
          have hy3 := HA3.out.mid hgr
          have HPU := Hold.mk (HA3.out.push hgr hown)
          obtain ⟨v0, v1, v2, v3, v4⟩ := cells_five hy3
          have vf := free_box hy3 4
          clear hown hgr hy3 y0 y1 y2 y3 y4 q0 q1 q2
          go_wp2_with fail
          exact ⟨⟨j + 1, _, _, by go_num, hlt, HPU.out.1, by rw [HTK.out]; exact HVR.out.snoc (JAt.shut (by kernel_rfl) (by kernel_rfl) HTS.out (strs_no _) (items_no _)), (HBB.out.trans HPU.out.2)⟩, by simp [intOf]; omega⟩
      · obtain rfl : j = l.length := by omega
        have HOW : Hold (wr.ownsRow (w1.heap.size + 1) 55 5 (.slice sa l.length scap) l.length cs) := ⟨HAB.out.own⟩
        rw [List.take_of_length_le (Nat.le_refl _)] at HVR
        replace HXB := HXW
        replace HRB := Hold.mk (keptB HRB.out hn1 HBL.out)
        have HBW : Hold (Below w.heap.size w wr) := ⟨HB.out.trans (HBL.out.mono HB.out.size)⟩
        have HLB := Hold.mk HAB.out.box
        clear HAB HBL HB HXW
        cases u with
        | true =>
          go_wp2_with (refine stop_fieldE (.tmp 8) 4 ((wr.alloc _).alloc _) ?_)
          refine ⟨?_⟩
          clear q0 q1 q2
          obtain ⟨W2, hW2, hB2, e0, e1⟩ := twoE wr (.cells #[.string wFields, .string wName, .string wUnique] 9) (.cells #[.int .i64 6, .int .i64 0, .string ⟨#[]⟩, .slice (some ⟨wr.heap.size, 0, none⟩) 3 3, .slice none 0 0] 55)
          rw [← hW2]
          have HOG : Hold (∀ g, (Value.slice sa l.length scap).ownBlock = some g → g < wr.heap.size + 1) := ⟨fun g hg => by have := (HOW.out.lt g hg).2; omega⟩
          have hl1 := heap_lt HLB.out
          have hl2 := heap_lt HXB.out
          have hl3 := heap_lt HRB.out
          replace HXB := Hold.mk (kept HXB.out hB2)
          replace HRB := Hold.mk (kept HRB.out hB2)
          replace HLB := Hold.mk (kept HLB.out hB2)
          replace HBW := Hold.mk (HBW.out.trans (hB2.mono HBW.out.size))
          replace HOW : Hold (W2.ownsRow (w1.heap.size + 1) 55 5 (.slice sa l.length scap) l.length cs) := ⟨by rw [hW2]; exact (HOW.out.alloc _).alloc _⟩
          have HNB := Hold.mk e0
          have HV : Hold (AB W2 (wr.heap.size + 1) (.int .i64 6) (.int .i64 0) (.string ⟨#[]⟩) (.slice (some ⟨wr.heap.size, 0, none⟩) 3 3) (.slice none 0 0) 0 []) := ⟨⟨e1, World.ownsRow_nil _ _ _ _⟩⟩
          clear hW2 hB2 e0 e1
          obtain ⟨y0, y1, y2, y3, y4⟩ := cells_five HV.out.box
          obtain ⟨z0, z1, z2, z3, z4⟩ := cells_five HLB.out
          have hkz := heap_lt HLB.out
          have hkv := heap_lt HV.out.box
          have HA3 := Hold.mk (HV.out.alloc (.cells #[.int .i64 5, .int .i64 0, .string ⟨#[]⟩, .slice none 0 0, .slice sa l.length scap] 55))
          have HN3 : Hold ((W2.alloc (.cells #[.int .i64 5, .int .i64 0, .string ⟨#[]⟩, .slice none 0 0, .slice sa l.length scap] 55)).heap[W2.heap.size]? = some (.cells #[.int .i64 5, .int .i64 0, .string ⟨#[]⟩, .slice none 0 0, .slice sa l.length scap] 55 (0, 0))) := ⟨heap_alloc_new W2 _⟩
          have HBA : Hold (Below (wr.heap.size + 1) W2 (W2.alloc (.cells #[.int .i64 5, .int .i64 0, .string ⟨#[]⟩, .slice none 0 0, .slice sa l.length scap] 55))) := ⟨(Below.refl _ W2).alloc (by omega) _⟩
          go_wp2_with (at_builtin; refine wpList_append_lies _ rfl (.tmp 47) (.tmp 49) 53 rfl (wr.heap.size + 1 + 1) 55 i0 (.agg zero5) 5 80 Tryz.underlying53 HI.out.1 HI.out.2.1 HI.out.2.2.1 HI.out.2.2.2 rfl (by decide) (.slice none 0 0) 0 _ rfl HA3.out.own ⟨W2.heap.size, 0, none⟩ 1 1 [.int .i64 5, .int .i64 0, .string ⟨#[]⟩, .slice none 0 0, .slice sa l.length scap] rfl rfl (World.news_of_block HN3.out) (by simp [Value.oneCell']) (by decide) (by unfold maxLen; omega) (by omega) (by simp; omega) _ rfl ?_)
          intro g0 cap0 w3 hown hgr _ _
          have hy3 := HA3.out.mid hgr
          have HPU := Hold.mk (HA3.out.push hgr hown)
          obtain ⟨v0, v1, v2, v3, v4⟩ := cells_five hy3
          have vf := free_box hy3 4
          clear hown hgr hy3 y0 y1 y2 y3 y4 hkv z0 z1 z2 z3 z4 hkz
          go_wp2_with (refine stop_fieldE (.tmp 8) 4 (w3.setCell _ _) ?_)
          refine ⟨?_⟩
          clear v0 v1 v2 v3 v4 vf
          obtain ⟨W3, hWn⟩ : ∃ W', W' = w3.setCell ⟨wr.heap.size + 1, 4, none⟩ (.slice (some ⟨g0, 0, none⟩) (0 + 1) cap0) := ⟨_, rfl⟩
          have hWs : w3.setCell ⟨wr.heap.size + 1, 4, none⟩ (.slice (some ⟨g0, 0, none⟩) 1 cap0) = W3 := hWn.symm
          rw [hWs]
          rw [hWs] at HPU
          have hbn : Below (wr.heap.size + 1) W2 W3 := HBA.out.trans HPU.out.2
          replace HV := Hold.mk HPU.out.1
          replace HXB := Hold.mk (keptB HXB.out (by omega) hbn)
          replace HRB := Hold.mk (keptB HRB.out (by omega) hbn)
          replace HLB := Hold.mk (keptB HLB.out (by omega) hbn)
          replace HNB := Hold.mk (keptB HNB.out (by omega) hbn)
          replace HOW := Hold.mk (own_below HOW.out hbn HOG.out)
          replace HBW := Hold.mk (HBW.out.trans (hbn.mono (by omega)))
          clear HPU hWn hWs hbn HA3 HN3 HBA
          obtain ⟨y0, y1, y2, y3, y4⟩ := cells_five HV.out.box
          obtain ⟨z0, z1, z2⟩ := cells_three HXB.out
          have hkz := heap_lt HXB.out
          have hkv := heap_lt HV.out.box
          have HA3 := Hold.mk (HV.out.alloc (.cells #[.int .i64 4, .int .i64 0, .string nm, .slice none 0 0, .slice none 0 0] 55))
          have HN3 : Hold ((W3.alloc (.cells #[.int .i64 4, .int .i64 0, .string nm, .slice none 0 0, .slice none 0 0] 55)).heap[W3.heap.size]? = some (.cells #[.int .i64 4, .int .i64 0, .string nm, .slice none 0 0, .slice none 0 0] 55 (0, 0))) := ⟨heap_alloc_new W3 _⟩
          have HBA : Hold (Below (wr.heap.size + 1) W3 (W3.alloc (.cells #[.int .i64 4, .int .i64 0, .string nm, .slice none 0 0, .slice none 0 0] 55))) := ⟨(Below.refl _ W3).alloc (by omega) _⟩
          go_wp2_with (at_builtin; refine wpList_append_lies _ rfl (.tmp 53) (.tmp 57) 53 rfl (wr.heap.size + 1 + 1) 55 i0 (.agg zero5) 5 80 Tryz.underlying53 HI.out.1 HI.out.2.1 HI.out.2.2.1 HI.out.2.2.2 rfl (by decide) (.slice (some ⟨g0, 0, none⟩) 1 cap0) 1 _ rfl HA3.out.own ⟨W3.heap.size, 0, none⟩ 1 1 [.int .i64 4, .int .i64 0, .string nm, .slice none 0 0, .slice none 0 0] rfl rfl (World.news_of_block HN3.out) (by simp [Value.oneCell']) (by decide) (by unfold maxLen; omega) (by omega) (by simp; omega) _ rfl ?_)
          intro g1 cap1 w3 hown hgr _ _
          have hy3 := HA3.out.mid hgr
          have HPU := Hold.mk (HA3.out.push hgr hown)
          obtain ⟨v0, v1, v2, v3, v4⟩ := cells_five hy3
          have vf := free_box hy3 4
          clear hown hgr hy3 y0 y1 y2 y3 y4 hkv z0 z1 z2 hkz
          go_wp2_with (refine stop_fieldE (.tmp 8) 4 (w3.setCell _ _) ?_)
          refine ⟨?_⟩
          clear v0 v1 v2 v3 v4 vf
          obtain ⟨W4, hWn⟩ : ∃ W', W' = w3.setCell ⟨wr.heap.size + 1, 4, none⟩ (.slice (some ⟨g1, 0, none⟩) (1 + 1) cap1) := ⟨_, rfl⟩
          have hWs : w3.setCell ⟨wr.heap.size + 1, 4, none⟩ (.slice (some ⟨g1, 0, none⟩) 2 cap1) = W4 := hWn.symm
          rw [hWs]
          rw [hWs] at HPU
          have hbn : Below (wr.heap.size + 1) W3 W4 := HBA.out.trans HPU.out.2
          replace HV := Hold.mk HPU.out.1
          replace HXB := Hold.mk (keptB HXB.out (by omega) hbn)
          replace HRB := Hold.mk (keptB HRB.out (by omega) hbn)
          replace HLB := Hold.mk (keptB HLB.out (by omega) hbn)
          replace HNB := Hold.mk (keptB HNB.out (by omega) hbn)
          replace HOW := Hold.mk (own_below HOW.out hbn HOG.out)
          replace HBW := Hold.mk (HBW.out.trans (hbn.mono (by omega)))
          clear HPU hWn hWs hbn HA3 HN3 HBA
          obtain ⟨y0, y1, y2, y3, y4⟩ := cells_five HV.out.box
          have hkv := heap_lt HV.out.box
          have HA3 := Hold.mk (HV.out.alloc (.cells #[.int .i64 2, .int .i64 0, .string ⟨#[]⟩, .slice none 0 0, .slice none 0 0] 55))
          have HN3 : Hold ((W4.alloc (.cells #[.int .i64 2, .int .i64 0, .string ⟨#[]⟩, .slice none 0 0, .slice none 0 0] 55)).heap[W4.heap.size]? = some (.cells #[.int .i64 2, .int .i64 0, .string ⟨#[]⟩, .slice none 0 0, .slice none 0 0] 55 (0, 0))) := ⟨heap_alloc_new W4 _⟩
          have HBA : Hold (Below (wr.heap.size + 1) W4 (W4.alloc (.cells #[.int .i64 2, .int .i64 0, .string ⟨#[]⟩, .slice none 0 0, .slice none 0 0] 55))) := ⟨(Below.refl _ W4).alloc (by omega) _⟩
          go_wp2_with (at_builtin; refine wpList_append_lies _ rfl (.tmp 61) (.tmp 64) 53 rfl (wr.heap.size + 1 + 1) 55 i0 (.agg zero5) 5 80 Tryz.underlying53 HI.out.1 HI.out.2.1 HI.out.2.2.1 HI.out.2.2.2 rfl (by decide) (.slice (some ⟨g1, 0, none⟩) 2 cap1) 2 _ rfl HA3.out.own ⟨W4.heap.size, 0, none⟩ 1 1 [.int .i64 2, .int .i64 0, .string ⟨#[]⟩, .slice none 0 0, .slice none 0 0] rfl rfl (World.news_of_block HN3.out) (by simp [Value.oneCell']) (by decide) (by unfold maxLen; omega) (by omega) (by simp; omega) _ rfl ?_)
          intro g2 cap2 w3 hown hgr _ _
          have hy3 := HA3.out.mid hgr
          have HPU := Hold.mk (HA3.out.push hgr hown)
          obtain ⟨v0, v1, v2, v3, v4⟩ := cells_five hy3
          have vf := free_box hy3 4
          clear hown hgr hy3 y0 y1 y2 y3 y4 hkv 
          go_wp2_with (refine stop_loadE (.tmp 8) (w3.setCell _ _) ?_)
          refine ⟨?_⟩
          clear v0 v1 v2 v3 v4 vf
          obtain ⟨W5, hWn⟩ : ∃ W', W' = w3.setCell ⟨wr.heap.size + 1, 4, none⟩ (.slice (some ⟨g2, 0, none⟩) (2 + 1) cap2) := ⟨_, rfl⟩
          have hWs : w3.setCell ⟨wr.heap.size + 1, 4, none⟩ (.slice (some ⟨g2, 0, none⟩) 3 cap2) = W5 := hWn.symm
          rw [hWs]
          rw [hWs] at HPU
          have hbn : Below (wr.heap.size + 1) W4 W5 := HBA.out.trans HPU.out.2
          replace HV := Hold.mk HPU.out.1
          replace HXB := Hold.mk (keptB HXB.out (by omega) hbn)
          replace HRB := Hold.mk (keptB HRB.out (by omega) hbn)
          replace HLB := Hold.mk (keptB HLB.out (by omega) hbn)
          replace HNB := Hold.mk (keptB HNB.out (by omega) hbn)
          replace HOW := Hold.mk (own_below HOW.out hbn HOG.out)
          replace HBW := Hold.mk (HBW.out.trans (hbn.mono (by omega)))
          clear HPU hWn hWs hbn HA3 HN3 HBA
          obtain ⟨y0, y1, y2, y3, y4⟩ := cells_five HV.out.box
          obtain ⟨r0, r1, r2, r3, r4⟩ := cells_five HRB.out
          have f0 := free_box HRB.out 0
          have f1 := free_box HRB.out 1
          have f2 := free_box HRB.out 2
          have f3 := free_box HRB.out 3
          have f4 := free_box HRB.out 4
          go_wp2_with fail
          obtain ⟨W6, hW6⟩ : ∃ W6, W6 = (((((W5.setCell ⟨w.heap.size + 1, 0, none⟩ (.int .i64 6)).setCell ⟨w.heap.size + 1, 1, none⟩ (.int .i64 0)).setCell ⟨w.heap.size + 1, 2, none⟩ (.string ⟨#[]⟩)).setCell ⟨w.heap.size + 1, 3, none⟩ (.slice (some ⟨wr.heap.size, 0, none⟩) 3 3)).setCell ⟨w.heap.size + 1, 4, none⟩ (.slice (some ⟨g2, 0, none⟩) 3 cap2)) := ⟨_, rfl⟩
          rw [← hW6]
          have hbk : W6.heap[w.heap.size + 1]? = some (.cells #[.int .i64 6, .int .i64 0, .string ⟨#[]⟩, .slice (some ⟨wr.heap.size, 0, none⟩) 3 3, .slice (some ⟨g2, 0, none⟩) 3 cap2] 55 (0, 0)) := by rw [hW6]; exact set5_self HRB.out
          have hbw : Below w.heap.size w W6 := by rw [hW6]; exact set5_below HBW.out (by omega)
          have how : W6.ownsRow (w1.heap.size + 1) 55 5 (.slice sa l.length scap) l.length cs := by rw [hW6]; exact own_set5 HOW.out (by omega)
          have hvo := own_set5 (k := w.heap.size + 1) (c0 := .int .i64 6) (c1 := .int .i64 0) (c2 := .string ⟨#[]⟩) (c3 := .slice (some ⟨wr.heap.size, 0, none⟩) 3 3) (c4 := .slice (some ⟨g2, 0, none⟩) 3 cap2) HV.out.own (by omega)
          have hnb : W6.heap[wr.heap.size]? = some (.cells #[.string wFields, .string wName, .string wUnique] 9 (0, 0)) := by rw [hW6]; exact (set5_other (show wr.heap.size ≠ w.heap.size + 1 by omega)).trans HNB.out
          have hvo6 : W6.ownsRow (wr.heap.size + 1 + 1) 55 5 (.slice (some ⟨g2, 0, none⟩) 3 cap2) 3 ((([] ++ [.int .i64 5, .int .i64 0, .string ⟨#[]⟩, .slice none 0 0, .slice sa l.length scap]) ++ [.int .i64 4, .int .i64 0, .string nm, .slice none 0 0, .slice none 0 0]) ++ [.int .i64 2, .int .i64 0, .string ⟨#[]⟩, .slice none 0 0, .slice none 0 0]) := by rw [hW6]; exact hvo
          clear hW6 hvo y0 y1 y2 y3 y4 r0 r1 r2 r3 r4 f0 f1 f2 f3 f4
          obtain ⟨c0, c1, c2, c3, c4⟩ := cells_five hbk
          have hit : ItemsAt (cf W6) (.slice sa l.length scap) (showItems ⟨nm, l, true⟩) := by
            have e : l.length = (showItems ⟨nm, l, true⟩).length := by simp [showItems]
            rw [e] at how ⊢
            exact items_of_own how (HVR.out.mono (fun b o x h => by cases h))
          have hj : JAt (cf W6) (showJ ⟨nm, l, true⟩) (.agg #[.int .i64 6, .int .i64 0, .string ⟨#[]⟩, .slice (some ⟨wr.heap.size, 0, none⟩) 3 3, .slice (some ⟨g2, 0, none⟩) 3 cap2]) :=
            JAt.shut (by kernel_rfl) (by kernel_rfl) (by decide) (strs_block (l := [wFields, wName, wUnique]) hnb rfl (by decide) (by decide))
              (items_of_own (l := [.mk 5 0 ⟨#[]⟩ [] (showItems ⟨nm, l, true⟩), strJ nm, kindJ 2]) hvo6 ((((VRow.nil _).snoc (JAt.shut (by kernel_rfl) (by kernel_rfl) (by decide) (strs_no _) hit)).snoc (JAt.shut (by kernel_rfl) (by kernel_rfl) HNM.out (strs_no _) (items_no _))).snoc (JAt.shut (by kernel_rfl) (by kernel_rfl) (by decide) (strs_no _) (items_no _))))
          exact bodyPost_ret (v := .tuple #[.agg #[.int .i64 6, .int .i64 0, .string ⟨#[]⟩, .slice (some ⟨wr.heap.size, 0, none⟩) 3 3, .slice (some ⟨g2, 0, none⟩) 3 cap2], .int .i64 0]) (by simp [results, Tryz.results56, go_sem, c0, c1, c2, c3, c4]) rfl ⟨by rw [if_pos HF.out]; exact ⟨_, rfl, hj⟩, hbw⟩
        | false =>
          go_wp2_with (refine stop_fieldE (.tmp 8) 4 ((wr.alloc _).alloc _) ?_)
          refine ⟨?_⟩
          clear q0 q1 q2
          obtain ⟨W2, hW2, hB2, e0, e1⟩ := twoE wr (.cells #[.string wFields, .string wName, .string wUnique] 9) (.cells #[.int .i64 6, .int .i64 0, .string ⟨#[]⟩, .slice (some ⟨wr.heap.size, 0, none⟩) 3 3, .slice none 0 0] 55)
          rw [← hW2]
          have HOG : Hold (∀ g, (Value.slice sa l.length scap).ownBlock = some g → g < wr.heap.size + 1) := ⟨fun g hg => by have := (HOW.out.lt g hg).2; omega⟩
          have hl1 := heap_lt HLB.out
          have hl2 := heap_lt HXB.out
          have hl3 := heap_lt HRB.out
          replace HXB := Hold.mk (kept HXB.out hB2)
          replace HRB := Hold.mk (kept HRB.out hB2)
          replace HLB := Hold.mk (kept HLB.out hB2)
          replace HBW := Hold.mk (HBW.out.trans (hB2.mono HBW.out.size))
          replace HOW : Hold (W2.ownsRow (w1.heap.size + 1) 55 5 (.slice sa l.length scap) l.length cs) := ⟨by rw [hW2]; exact (HOW.out.alloc _).alloc _⟩
          have HNB := Hold.mk e0
          have HV : Hold (AB W2 (wr.heap.size + 1) (.int .i64 6) (.int .i64 0) (.string ⟨#[]⟩) (.slice (some ⟨wr.heap.size, 0, none⟩) 3 3) (.slice none 0 0) 0 []) := ⟨⟨e1, World.ownsRow_nil _ _ _ _⟩⟩
          clear hW2 hB2 e0 e1
          obtain ⟨y0, y1, y2, y3, y4⟩ := cells_five HV.out.box
          obtain ⟨z0, z1, z2, z3, z4⟩ := cells_five HLB.out
          have hkz := heap_lt HLB.out
          have hkv := heap_lt HV.out.box
          have HA3 := Hold.mk (HV.out.alloc (.cells #[.int .i64 5, .int .i64 0, .string ⟨#[]⟩, .slice none 0 0, .slice sa l.length scap] 55))
          have HN3 : Hold ((W2.alloc (.cells #[.int .i64 5, .int .i64 0, .string ⟨#[]⟩, .slice none 0 0, .slice sa l.length scap] 55)).heap[W2.heap.size]? = some (.cells #[.int .i64 5, .int .i64 0, .string ⟨#[]⟩, .slice none 0 0, .slice sa l.length scap] 55 (0, 0))) := ⟨heap_alloc_new W2 _⟩
          have HBA : Hold (Below (wr.heap.size + 1) W2 (W2.alloc (.cells #[.int .i64 5, .int .i64 0, .string ⟨#[]⟩, .slice none 0 0, .slice sa l.length scap] 55))) := ⟨(Below.refl _ W2).alloc (by omega) _⟩
          go_wp2_with (at_builtin; refine wpList_append_lies _ rfl (.tmp 47) (.tmp 49) 53 rfl (wr.heap.size + 1 + 1) 55 i0 (.agg zero5) 5 80 Tryz.underlying53 HI.out.1 HI.out.2.1 HI.out.2.2.1 HI.out.2.2.2 rfl (by decide) (.slice none 0 0) 0 _ rfl HA3.out.own ⟨W2.heap.size, 0, none⟩ 1 1 [.int .i64 5, .int .i64 0, .string ⟨#[]⟩, .slice none 0 0, .slice sa l.length scap] rfl rfl (World.news_of_block HN3.out) (by simp [Value.oneCell']) (by decide) (by unfold maxLen; omega) (by omega) (by simp; omega) _ rfl ?_)
          intro g0 cap0 w3 hown hgr _ _
          have hy3 := HA3.out.mid hgr
          have HPU := Hold.mk (HA3.out.push hgr hown)
          obtain ⟨v0, v1, v2, v3, v4⟩ := cells_five hy3
          have vf := free_box hy3 4
          clear hown hgr hy3 y0 y1 y2 y3 y4 hkv z0 z1 z2 z3 z4 hkz
          go_wp2_with (refine stop_fieldE (.tmp 8) 4 (w3.setCell _ _) ?_)
          refine ⟨?_⟩
          clear v0 v1 v2 v3 v4 vf
          obtain ⟨W3, hWn⟩ : ∃ W', W' = w3.setCell ⟨wr.heap.size + 1, 4, none⟩ (.slice (some ⟨g0, 0, none⟩) (0 + 1) cap0) := ⟨_, rfl⟩
          have hWs : w3.setCell ⟨wr.heap.size + 1, 4, none⟩ (.slice (some ⟨g0, 0, none⟩) 1 cap0) = W3 := hWn.symm
          rw [hWs]
          rw [hWs] at HPU
          have hbn : Below (wr.heap.size + 1) W2 W3 := HBA.out.trans HPU.out.2
          replace HV := Hold.mk HPU.out.1
          replace HXB := Hold.mk (keptB HXB.out (by omega) hbn)
          replace HRB := Hold.mk (keptB HRB.out (by omega) hbn)
          replace HLB := Hold.mk (keptB HLB.out (by omega) hbn)
          replace HNB := Hold.mk (keptB HNB.out (by omega) hbn)
          replace HOW := Hold.mk (own_below HOW.out hbn HOG.out)
          replace HBW := Hold.mk (HBW.out.trans (hbn.mono (by omega)))
          clear HPU hWn hWs hbn HA3 HN3 HBA
          obtain ⟨y0, y1, y2, y3, y4⟩ := cells_five HV.out.box
          obtain ⟨z0, z1, z2⟩ := cells_three HXB.out
          have hkz := heap_lt HXB.out
          have hkv := heap_lt HV.out.box
          have HA3 := Hold.mk (HV.out.alloc (.cells #[.int .i64 4, .int .i64 0, .string nm, .slice none 0 0, .slice none 0 0] 55))
          have HN3 : Hold ((W3.alloc (.cells #[.int .i64 4, .int .i64 0, .string nm, .slice none 0 0, .slice none 0 0] 55)).heap[W3.heap.size]? = some (.cells #[.int .i64 4, .int .i64 0, .string nm, .slice none 0 0, .slice none 0 0] 55 (0, 0))) := ⟨heap_alloc_new W3 _⟩
          have HBA : Hold (Below (wr.heap.size + 1) W3 (W3.alloc (.cells #[.int .i64 4, .int .i64 0, .string nm, .slice none 0 0, .slice none 0 0] 55))) := ⟨(Below.refl _ W3).alloc (by omega) _⟩
          go_wp2_with (at_builtin; refine wpList_append_lies _ rfl (.tmp 53) (.tmp 57) 53 rfl (wr.heap.size + 1 + 1) 55 i0 (.agg zero5) 5 80 Tryz.underlying53 HI.out.1 HI.out.2.1 HI.out.2.2.1 HI.out.2.2.2 rfl (by decide) (.slice (some ⟨g0, 0, none⟩) 1 cap0) 1 _ rfl HA3.out.own ⟨W3.heap.size, 0, none⟩ 1 1 [.int .i64 4, .int .i64 0, .string nm, .slice none 0 0, .slice none 0 0] rfl rfl (World.news_of_block HN3.out) (by simp [Value.oneCell']) (by decide) (by unfold maxLen; omega) (by omega) (by simp; omega) _ rfl ?_)
          intro g1 cap1 w3 hown hgr _ _
          have hy3 := HA3.out.mid hgr
          have HPU := Hold.mk (HA3.out.push hgr hown)
          obtain ⟨v0, v1, v2, v3, v4⟩ := cells_five hy3
          have vf := free_box hy3 4
          clear hown hgr hy3 y0 y1 y2 y3 y4 hkv z0 z1 z2 hkz
          go_wp2_with (refine stop_fieldE (.tmp 8) 4 (w3.setCell _ _) ?_)
          refine ⟨?_⟩
          clear v0 v1 v2 v3 v4 vf
          obtain ⟨W4, hWn⟩ : ∃ W', W' = w3.setCell ⟨wr.heap.size + 1, 4, none⟩ (.slice (some ⟨g1, 0, none⟩) (1 + 1) cap1) := ⟨_, rfl⟩
          have hWs : w3.setCell ⟨wr.heap.size + 1, 4, none⟩ (.slice (some ⟨g1, 0, none⟩) 2 cap1) = W4 := hWn.symm
          rw [hWs]
          rw [hWs] at HPU
          have hbn : Below (wr.heap.size + 1) W3 W4 := HBA.out.trans HPU.out.2
          replace HV := Hold.mk HPU.out.1
          replace HXB := Hold.mk (keptB HXB.out (by omega) hbn)
          replace HRB := Hold.mk (keptB HRB.out (by omega) hbn)
          replace HLB := Hold.mk (keptB HLB.out (by omega) hbn)
          replace HNB := Hold.mk (keptB HNB.out (by omega) hbn)
          replace HOW := Hold.mk (own_below HOW.out hbn HOG.out)
          replace HBW := Hold.mk (HBW.out.trans (hbn.mono (by omega)))
          clear HPU hWn hWs hbn HA3 HN3 HBA
          obtain ⟨y0, y1, y2, y3, y4⟩ := cells_five HV.out.box
          have hkv := heap_lt HV.out.box
          have HA3 := Hold.mk (HV.out.alloc (.cells #[.int .i64 1, .int .i64 0, .string ⟨#[]⟩, .slice none 0 0, .slice none 0 0] 55))
          have HN3 : Hold ((W4.alloc (.cells #[.int .i64 1, .int .i64 0, .string ⟨#[]⟩, .slice none 0 0, .slice none 0 0] 55)).heap[W4.heap.size]? = some (.cells #[.int .i64 1, .int .i64 0, .string ⟨#[]⟩, .slice none 0 0, .slice none 0 0] 55 (0, 0))) := ⟨heap_alloc_new W4 _⟩
          have HBA : Hold (Below (wr.heap.size + 1) W4 (W4.alloc (.cells #[.int .i64 1, .int .i64 0, .string ⟨#[]⟩, .slice none 0 0, .slice none 0 0] 55))) := ⟨(Below.refl _ W4).alloc (by omega) _⟩
          go_wp2_with (at_builtin; refine wpList_append_lies _ rfl (.tmp 61) (.tmp 64) 53 rfl (wr.heap.size + 1 + 1) 55 i0 (.agg zero5) 5 80 Tryz.underlying53 HI.out.1 HI.out.2.1 HI.out.2.2.1 HI.out.2.2.2 rfl (by decide) (.slice (some ⟨g1, 0, none⟩) 2 cap1) 2 _ rfl HA3.out.own ⟨W4.heap.size, 0, none⟩ 1 1 [.int .i64 1, .int .i64 0, .string ⟨#[]⟩, .slice none 0 0, .slice none 0 0] rfl rfl (World.news_of_block HN3.out) (by simp [Value.oneCell']) (by decide) (by unfold maxLen; omega) (by omega) (by simp; omega) _ rfl ?_)
          intro g2 cap2 w3 hown hgr _ _
          have hy3 := HA3.out.mid hgr
          have HPU := Hold.mk (HA3.out.push hgr hown)
          obtain ⟨v0, v1, v2, v3, v4⟩ := cells_five hy3
          have vf := free_box hy3 4
          clear hown hgr hy3 y0 y1 y2 y3 y4 hkv 
          go_wp2_with (refine stop_loadE (.tmp 8) (w3.setCell _ _) ?_)
          refine ⟨?_⟩
          clear v0 v1 v2 v3 v4 vf
          obtain ⟨W5, hWn⟩ : ∃ W', W' = w3.setCell ⟨wr.heap.size + 1, 4, none⟩ (.slice (some ⟨g2, 0, none⟩) (2 + 1) cap2) := ⟨_, rfl⟩
          have hWs : w3.setCell ⟨wr.heap.size + 1, 4, none⟩ (.slice (some ⟨g2, 0, none⟩) 3 cap2) = W5 := hWn.symm
          rw [hWs]
          rw [hWs] at HPU
          have hbn : Below (wr.heap.size + 1) W4 W5 := HBA.out.trans HPU.out.2
          replace HV := Hold.mk HPU.out.1
          replace HXB := Hold.mk (keptB HXB.out (by omega) hbn)
          replace HRB := Hold.mk (keptB HRB.out (by omega) hbn)
          replace HLB := Hold.mk (keptB HLB.out (by omega) hbn)
          replace HNB := Hold.mk (keptB HNB.out (by omega) hbn)
          replace HOW := Hold.mk (own_below HOW.out hbn HOG.out)
          replace HBW := Hold.mk (HBW.out.trans (hbn.mono (by omega)))
          clear HPU hWn hWs hbn HA3 HN3 HBA
          obtain ⟨y0, y1, y2, y3, y4⟩ := cells_five HV.out.box
          obtain ⟨r0, r1, r2, r3, r4⟩ := cells_five HRB.out
          have f0 := free_box HRB.out 0
          have f1 := free_box HRB.out 1
          have f2 := free_box HRB.out 2
          have f3 := free_box HRB.out 3
          have f4 := free_box HRB.out 4
          go_wp2_with fail
          obtain ⟨W6, hW6⟩ : ∃ W6, W6 = (((((W5.setCell ⟨w.heap.size + 1, 0, none⟩ (.int .i64 6)).setCell ⟨w.heap.size + 1, 1, none⟩ (.int .i64 0)).setCell ⟨w.heap.size + 1, 2, none⟩ (.string ⟨#[]⟩)).setCell ⟨w.heap.size + 1, 3, none⟩ (.slice (some ⟨wr.heap.size, 0, none⟩) 3 3)).setCell ⟨w.heap.size + 1, 4, none⟩ (.slice (some ⟨g2, 0, none⟩) 3 cap2)) := ⟨_, rfl⟩
          rw [← hW6]
          have hbk : W6.heap[w.heap.size + 1]? = some (.cells #[.int .i64 6, .int .i64 0, .string ⟨#[]⟩, .slice (some ⟨wr.heap.size, 0, none⟩) 3 3, .slice (some ⟨g2, 0, none⟩) 3 cap2] 55 (0, 0)) := by rw [hW6]; exact set5_self HRB.out
          have hbw : Below w.heap.size w W6 := by rw [hW6]; exact set5_below HBW.out (by omega)
          have how : W6.ownsRow (w1.heap.size + 1) 55 5 (.slice sa l.length scap) l.length cs := by rw [hW6]; exact own_set5 HOW.out (by omega)
          have hvo := own_set5 (k := w.heap.size + 1) (c0 := .int .i64 6) (c1 := .int .i64 0) (c2 := .string ⟨#[]⟩) (c3 := .slice (some ⟨wr.heap.size, 0, none⟩) 3 3) (c4 := .slice (some ⟨g2, 0, none⟩) 3 cap2) HV.out.own (by omega)
          have hnb : W6.heap[wr.heap.size]? = some (.cells #[.string wFields, .string wName, .string wUnique] 9 (0, 0)) := by rw [hW6]; exact (set5_other (show wr.heap.size ≠ w.heap.size + 1 by omega)).trans HNB.out
          have hvo6 : W6.ownsRow (wr.heap.size + 1 + 1) 55 5 (.slice (some ⟨g2, 0, none⟩) 3 cap2) 3 ((([] ++ [.int .i64 5, .int .i64 0, .string ⟨#[]⟩, .slice none 0 0, .slice sa l.length scap]) ++ [.int .i64 4, .int .i64 0, .string nm, .slice none 0 0, .slice none 0 0]) ++ [.int .i64 1, .int .i64 0, .string ⟨#[]⟩, .slice none 0 0, .slice none 0 0]) := by rw [hW6]; exact hvo
          clear hW6 hvo y0 y1 y2 y3 y4 r0 r1 r2 r3 r4 f0 f1 f2 f3 f4
          obtain ⟨c0, c1, c2, c3, c4⟩ := cells_five hbk
          have hit : ItemsAt (cf W6) (.slice sa l.length scap) (showItems ⟨nm, l, false⟩) := by
            have e : l.length = (showItems ⟨nm, l, false⟩).length := by simp [showItems]
            rw [e] at how ⊢
            exact items_of_own how (HVR.out.mono (fun b o x h => by cases h))
          have hj : JAt (cf W6) (showJ ⟨nm, l, false⟩) (.agg #[.int .i64 6, .int .i64 0, .string ⟨#[]⟩, .slice (some ⟨wr.heap.size, 0, none⟩) 3 3, .slice (some ⟨g2, 0, none⟩) 3 cap2]) :=
            JAt.shut (by kernel_rfl) (by kernel_rfl) (by decide) (strs_block (l := [wFields, wName, wUnique]) hnb rfl (by decide) (by decide))
              (items_of_own (l := [.mk 5 0 ⟨#[]⟩ [] (showItems ⟨nm, l, false⟩), strJ nm, kindJ 1]) hvo6 ((((VRow.nil _).snoc (JAt.shut (by kernel_rfl) (by kernel_rfl) (by decide) (strs_no _) hit)).snoc (JAt.shut (by kernel_rfl) (by kernel_rfl) HNM.out (strs_no _) (items_no _))).snoc (JAt.shut (by kernel_rfl) (by kernel_rfl) (by decide) (strs_no _) (items_no _))))
          exact bodyPost_ret (v := .tuple #[.agg #[.int .i64 6, .int .i64 0, .string ⟨#[]⟩, .slice (some ⟨wr.heap.size, 0, none⟩) 3 3, .slice (some ⟨g2, 0, none⟩) 3 cap2], .int .i64 0]) (by simp [results, Tryz.results56, go_sem, c0, c1, c2, c3, c4]) rfl ⟨by rw [if_pos HF.out]; exact ⟨_, rfl, hj⟩, hbw⟩
end Go.Proofs.YtfpphpjobkhalaaGreatDoor
