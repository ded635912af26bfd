/- Indexes: Parse of the reference. -/
import Derived.Test.YtfpphpjobkhalaaGreatDoorZ09
import Derived.Test.YtfpphpjobkhalaaGreatDoorZ22
import Derived.Test.YtfpphpjobkhalaaGreatDoorZ26
namespace Go.Proofs.YtfpphpjobkhalaaGreatDoor
open Go.RowKit

theorem cut_yes {s : ByteArray} (h : 0 < s.size) (h45 : s[0] = 45) : cutF s = (s.extract 1 s.size, true) := by
  have hd : s.data.toList = s[0] :: s.data.toList.drop 1 := by have := drop_at h; simpa using this
  have hp : Lib.hasPrefix s.data.toList [45] = true := by rw [hd, h45]; rfl
  unfold cutF Lib.trimPrefix
  rw [hp]
  simp only [if_true, List.length_cons, List.length_nil]
  refine Prod.ext ?_ rfl
  apply ByteArray.ext
  show (s.data.toList.drop 1).toArray = (s.extract 1 s.size).data
  rw [ByteArray.data_extract]
  apply Array.ext'
  rw [Array.toList_extract, List.extract_eq_take_drop, List.take_of_length_le (by rw [List.length_drop, size_list]; omega)]
theorem cut_no {s : ByteArray} (h : ¬ (0 < s.size ∧ s.data.toList[0]? = some 45)) : cutF s = (s, false) := by
  have hp : Lib.hasPrefix s.data.toList [45] = false := by
    unfold Lib.hasPrefix
    cases hl : s.data.toList with
    | nil => rfl
    | cons c l =>
      have h0 : 0 < s.size := by rw [← size_list, hl]; simp
      rw [hl] at h
      simp only [h0, true_and, List.getElem?_cons_zero, Option.some.injEq] at h
      simp [List.isPrefixOf]
      exact fun e => h e.symm
  unfold cutF Lib.trimPrefix
  rw [hp]
  simp
theorem threeE (w : World) (o0 o1 o2 : Obj) : ∃ W, W = (((w.alloc o0).alloc o1).alloc o2) ∧ Below w.heap.size w W ∧ W.heap[w.heap.size]? = some o0 ∧ W.heap[w.heap.size + 1]? = some o1 ∧ W.heap[w.heap.size + 1 + 1]? = some o2 := by
  obtain ⟨W, hW, hB, e0, e1⟩ := twoE w o0 o1
  have hb := (Below.refl W.heap.size W).alloc (Nat.le_refl _) o2
  have hs : W.heap.size = w.heap.size + 1 + 1 := by rw [hW]; simp
  refine ⟨W.alloc o2, by rw [hW], hB.trans (hb.mono hB.size), kept e0 hb, kept e1 hb, ?_⟩
  rw [← hs]; exact heap_alloc_new W o2
set_option maxRecDepth 100000 in
set_option maxHeartbeats 16000000 in
theorem rParseO_any (v : JV) (xv : Value) (w : World) (hx : JAt (cf w) v xv) (hp : parsable v) :
    Calls Tryz.prog 59 #[xv] w (ParsePostO 116 v w) := by
  have HX := Hold.mk hx
  obtain ⟨k, n, t, nm, it, na, ncap, ia, icap, hve, rfl, _, _, _, hst, hit⟩ := hx.open
  obtain ⟨W, hW, hB, e0, e1, e2⟩ := threeE w (.cells #[.int .i64 k, .int .i64 n, .string t, .slice na nm.length ncap, .slice ia it.length icap] 55) (.cells zeroI 73) (.cells zeroI 73)
  have HB := Hold.mk hB
  have HVB := Hold.mk e0
  have HRB := Hold.mk e1
  have HXB := Hold.mk e2
  have HP := Hold.mk hp
  have HIT := Hold.mk hit
  have HVE := Hold.mk hve
  clear hx hp hB e0 e1 e2 hst hit hve
  have ERR : ∀ (wr : World), wr.heap[w.heap.size + 1]? = some (.cells zeroI 73 (0, 0)) → Below w.heap.size w wr → ∃ W2, W2 = (((wr.setCell ⟨w.heap.size + 1, 0, none⟩ (.string ⟨#[]⟩)).setCell ⟨w.heap.size + 1, 1, none⟩ (.slice none 0 0)).setCell ⟨w.heap.size + 1, 2, none⟩ (.bool false)) ∧ W2.cell? ⟨w.heap.size + 1, 0, none⟩ = some (.string ⟨#[]⟩) ∧ W2.cell? ⟨w.heap.size + 1, 1, none⟩ = some (.slice none 0 0) ∧ W2.cell? ⟨w.heap.size + 1, 2, none⟩ = some (.bool false) ∧ Below w.heap.size w W2 := fun wr h hb => by
    have h1 := set3_self (c0 := .string ⟨#[]⟩) (c1 := .slice none 0 0) (c2 := .bool false) h
    obtain ⟨c0, c1, c2⟩ := cells_three h1
    exact ⟨_, rfl, c0, c1, c2, set3_below hb (by omega)⟩
  have HERR := Hold.mk ERR
  clear ERR
  by_cases h3 : it.length = 3
  · have b3 : ((it.length : Int) != 3) = false := by rw [h3]; rfl
    obtain ⟨i0, i1, i2, hi3⟩ : ∃ i0 i1 i2, it = [i0, i1, i2] := by
      match it, h3 with
      | [a, b, c], _ => exact ⟨a, b, c, rfl⟩
    obtain ⟨ia', icap', e, hil, hel⟩ := HIT.out
    cases e
    obtain ⟨b, off, k0, n0, t0, nm0, it0, na0, ncap0, ia0, icap0, rfl, hx0, a0, a1, a2, a3, a4, hj0⟩ := hel 0 i0 (by rw [hi3]; rfl)
    obtain ⟨b', off', k1, n1, t1, nm1, it1, na1, ncap1, ia1, icap1, e1, hx1, p0, p1, p2, p3, p4, hj1⟩ := hel 1 i1 (by rw [hi3]; rfl)
    cases e1
    obtain ⟨b', off', k2, n2, t2, nm2, it2, na2, ncap2, ia2, icap2, e2, hx2, q0, q1, q2, q3, q4, hj2⟩ := hel 2 i2 (by rw [hi3]; rfl)
    cases e2
    obtain ⟨bu, hbu⟩ : ∃ bu, decide (k2 = 2) = bu := ⟨_, rfl⟩
    have hbq : (k2 == 2) = bu := hbu
    have HRD : Hold (readI i0 i1 i2 = ⟨t1, it0.map (fun j => cutF j.text), bu⟩) := ⟨by unfold readI; rw [hx0, hx1, hx2]; show IX.mk t1 _ (decide (k2 = 2)) = _; rw [hbu]; rfl⟩
    have HI3 : Hold (v.items = [i0, i1, i2]) := ⟨by rw [HVE.out]; exact hi3⟩
    have HT1 : Hold (t1.size ≤ 9223372036854775807) := ⟨by obtain ⟨_, _, _, _, _, _, _, _, _, e, e2, _, _, h, _⟩ := hj1.open; rw [hx1] at e; cases e; exact h⟩
    have HA4 : Hold (cf w b (off + 4) = some (.slice ia0 it0.length icap0)) := ⟨by simpa using a4⟩
    have HP2 : Hold (cf w b (off + 7) = some (.string t1)) := ⟨by simpa using p2⟩
    have HQ0 : Hold (cf w b (off + 10) = some (.int .i64 k2)) := ⟨by simpa using q0⟩
    have HQS : Hold (it0.length ≤ 1000 ∧ ∀ j ∈ it0, j.text.size ≤ 1000000) := ⟨by have := HP.out i0 (by rw [HI3.out]; simp); rw [hx0] at this; exact this⟩
    obtain ⟨_, _, _, _, _, _, _, _, _, e, e2, _, _, _, _, hit0⟩ := hj0.open
    rw [hx0] at e
    cases e
    simp only [Value.agg.injEq, Array.mk.injEq, List.cons.injEq, and_true, Value.slice.injEq, true_and] at e2
    obtain ⟨_, _, _, ⟨rfl, rfl⟩, rfl, rfl⟩ := e2
    obtain ⟨ia', icap', e, hil0, hel0⟩ := hit0
    cases e
    have HEL := Hold.mk hel0
    have hq0 : it0.length ≤ 1000 := HQS.out.1
    have hbl : b < w.heap.size := lt_of_cell HA4.out
    rw [h3] at HX HVB hW ⊢
    clear p0 p1 p2 p3 p4 q0 q1 q2 q3 q4 a0 a1 a2 a3 a4 hj0 hj1 hj2 hx0 hx1 hx2 hbu hel hi3 hel0 HP HIT HVE h3 b3
    obtain ⟨i9, hi, hz0, hz1, hz2⟩ := info_parts infoFd
    have HI := Hold.mk (And.intro hi (And.intro hz0 (And.intro hz1 hz2)))
    clear hi hz0 hz1 hz2
    have HAI : Hold (AI 73 116 W (w.heap.size + 1 + 1) (.string ⟨#[]⟩) (.bool false) (.slice none 0 0) 0 (fcells ((it0.take 0).map fun j => cutF j.text))) := ⟨⟨HXB.out, World.ownsRow_nil _ _ _ _⟩⟩
    go_enter Tryz.func59, Tryz.ntmps59
    go_wp2_with fail
    go_loopw [5] (fun i wr => ∃ (j : Nat) (sv : Value), i = .int .i64 j ∧ j ≤ it0.length ∧ j ≤ 4 ∧ AI 73 116 wr (w.heap.size + 1 + 1) (.string ⟨#[]⟩) (.bool false) sv j (fcells ((it0.take j).map fun j => cutF j.text)) ∧ Below (w.heap.size + 1 + 1) W wr) (fun i _ => it0.length - (intOf i).toNat)
    case atStart => exact ⟨0, _, rfl, Nat.zero_le _, Nat.zero_le _, by rw [← hW]; exact HAI.out, by rw [← hW]; exact Below.refl _ _⟩
    case round =>
      obtain ⟨j, sv, rfl, hj, hj4, hai, hbl2⟩ := hrel
      clear HAI
      obtain ⟨cs, hcs⟩ : ∃ cs, fcells ((it0.take j).map fun j => cutF j.text) = cs := ⟨_, rfl⟩
      rw [hcs] at hai
      have HCS := Hold.mk hcs
      have HAI := Hold.mk hai
      have HBL := Hold.mk hbl2
      clear hcs hai hbl2
      obtain ⟨sa, scap, rfl⟩ := own_form2 HAI.out.own
      have HVW := Hold.mk (keptB HVB.out (by omega) HBL.out)
      have HRW := Hold.mk (keptB HRB.out (by omega) HBL.out)
      have HBW : Hold (Below w.heap.size w wr) := ⟨HB.out.trans (HBL.out.mono (by omega))⟩
      have hkl := heap_lt HAI.out.box
      obtain ⟨y0, y1, y2, y3, y4⟩ := cells_five HVW.out
      have z4 : wr.cell? ⟨b, off + 4, none⟩ = some (.slice ia0 it0.length icap0) := cle_below HBW.out _ _ _ HA4.out
      by_cases hlt : j < it0.length ∧ j ≤ 3
      · obtain ⟨x, hx⟩ : ∃ x, it0[j]? = some x := ⟨it0[j], List.getElem?_eq_getElem hlt.1⟩
        obtain ⟨b3, off3, k3, n3, t3, nm3, it3, na3, ncap3, ia3, icap3, rfl, hxe, d0, d1, d2, d3, d4, hxj⟩ := HEL.out j x hx
        have z2 := cle_below HBW.out _ _ _ d2
        unfold cf at z2
        have HTK : Hold (fcells ((it0.take (j + 1)).map (fun j => cutF j.text)) = cs ++ [.string (cutF t3).1, .bool (cutF t3).2]) := ⟨by rw [List.take_add_one, hx, List.map_append]; show fcells (_ ++ [cutF x.text]) = _; rw [fcells_snoc, hxe, HCS.out]; rfl⟩
        have hts : t3.size ≤ 1000000 := by have := HQS.out.2 x (List.mem_of_getElem? hx); rw [hxe] at this; exact this
        have hl1 := hlt.1
        have hl2 : (j : Int) ≤ 3 := by have := hlt.2; omega
        clear d0 d1 d2 d3 d4 hx hxe hxj
        obtain ⟨x0, x1, x2⟩ := cells_three HAI.out.box
        by_cases h0 : 0 < t3.size
        · by_cases h45 : t3[0] = 45
          · have bb : ((t3[0].toNat : Int) == 45) = true := byte_is h45
            have HCT := Hold.mk (cut_yes h0 h45)
            obtain ⟨s, hs⟩ : ∃ s, t3.extract 1 t3.size = s := ⟨_, rfl⟩
            rw [hs] at HCT
            clear h45
            replace HTK : Hold (fcells ((it0.take (j + 1)).map (fun j => cutF j.text)) = cs ++ [.string s, .bool true]) := ⟨by rw [HTK.out, HCT.out]⟩
            have HA3 := Hold.mk ((HAI.out.alloc (.cells #[.string s, .bool true] 116)).alloc (.cells #[.string s, .bool true] 116))
            have HBB : Hold (Below (w.heap.size + 1 + 1) W ((wr.alloc (.cells #[.string s, .bool true] 116)).alloc (.cells #[.string s, .bool true] 116))) := ⟨(HBL.out.alloc (by omega) _).alloc (by simp; omega) _⟩
            have HN3 : Hold (((wr.alloc (.cells #[.string s, .bool true] 116)).alloc (.cells #[.string s, .bool true] 116)).heap[wr.heap.size + 1]? = some (.cells #[.string s, .bool true] 116 (0, 0))) := ⟨by have := heap_alloc_new (wr.alloc (.cells #[.string s, .bool true] 116)) (.cells #[.string s, .bool true] 116); simpa using this⟩
            go_wp2_with (at_builtin; refine wpList_append_lies _ rfl (.tmp 52) (.tmp 54) 71 rfl (w.heap.size + 1 + 1 + 1) 116 i9 (.agg #[.string ⟨#[]⟩, .bool false]) 2 24 Tryz.underlying71 HI.out.1 HI.out.2.1 HI.out.2.2.1 HI.out.2.2.2 rfl (by decide) (.slice sa j scap) j cs rfl HA3.out.own ⟨wr.heap.size + 1, 0, none⟩ 1 1 [.string s, .bool true] rfl rfl (World.news_of_block HN3.out) (by simp [Value.oneCell']) (by decide) (by unfold maxLen; omega) (by omega) (by simp; omega) _ rfl ?_)
            intro g cap2 w3 hown hgr _ _
            have hy3 := HA3.out.mid hgr
            have HPU := Hold.mk (HA3.out.push hgr hown)
            rw [← HTK.out] at HPU
            obtain ⟨v0, v1, v2⟩ := cells_three hy3
            have vf := free_box hy3 1
            clear hown hgr hy3 y0 y1 y2 y3 y4 x0 x1 x2 z2 z4
            go_wp2_with fail
            exact ⟨⟨j + 1, _, by go_num, hlt.1, by omega, HPU.out.1, HBB.out.trans HPU.out.2⟩, by simp [intOf]; omega⟩
          · have bb : ((t3[0].toNat : Int) == 45) = false := byte_ne h45
            have HCT := Hold.mk (cut_no (s := t3) (fun h => by have := h.2; rw [byte_at h0] at this; exact h45 (Option.some.inj this)))
            clear h45
            replace HTK : Hold (fcells ((it0.take (j + 1)).map (fun j => cutF j.text)) = cs ++ [.string t3, .bool false]) := ⟨by rw [HTK.out, HCT.out]⟩
            have HA3 := Hold.mk ((HAI.out.alloc (.cells #[.string t3, .bool false] 116)).alloc (.cells #[.string t3, .bool false] 116))
            have HBB : Hold (Below (w.heap.size + 1 + 1) W ((wr.alloc (.cells #[.string t3, .bool false] 116)).alloc (.cells #[.string t3, .bool false] 116))) := ⟨(HBL.out.alloc (by omega) _).alloc (by simp; omega) _⟩
            have HN3 : Hold (((wr.alloc (.cells #[.string t3, .bool false] 116)).alloc (.cells #[.string t3, .bool false] 116)).heap[wr.heap.size + 1]? = some (.cells #[.string t3, .bool false] 116 (0, 0))) := ⟨by have := heap_alloc_new (wr.alloc (.cells #[.string t3, .bool false] 116)) (.cells #[.string t3, .bool false] 116); simpa using this⟩
            go_wp2_with (at_builtin; refine wpList_append_lies _ rfl (.tmp 52) (.tmp 54) 71 rfl (w.heap.size + 1 + 1 + 1) 116 i9 (.agg #[.string ⟨#[]⟩, .bool false]) 2 24 Tryz.underlying71 HI.out.1 HI.out.2.1 HI.out.2.2.1 HI.out.2.2.2 rfl (by decide) (.slice sa j scap) j cs rfl HA3.out.own ⟨wr.heap.size + 1, 0, none⟩ 1 1 [.string t3, .bool false] rfl rfl (World.news_of_block HN3.out) (by simp [Value.oneCell']) (by decide) (by unfold maxLen; omega) (by omega) (by simp; omega) _ rfl ?_)
            intro g cap2 w3 hown hgr _ _
            have hy3 := HA3.out.mid hgr
            have HPU := Hold.mk (HA3.out.push hgr hown)
            rw [← HTK.out] at HPU
            obtain ⟨v0, v1, v2⟩ := cells_three hy3
            have vf := free_box hy3 1
            clear hown hgr hy3 y0 y1 y2 y3 y4 x0 x1 x2 z2 z4
            go_wp2_with fail
            exact ⟨⟨j + 1, _, by go_num, hlt.1, by omega, HPU.out.1, HBB.out.trans HPU.out.2⟩, by simp [intOf]; omega⟩
        · have HCT := Hold.mk (cut_no (s := t3) (fun h => h0 h.1))
          replace HTK : Hold (fcells ((it0.take (j + 1)).map (fun j => cutF j.text)) = cs ++ [.string t3, .bool false]) := ⟨by rw [HTK.out, HCT.out]⟩
          have HA3 := Hold.mk ((HAI.out.alloc (.cells #[.string t3, .bool false] 116)).alloc (.cells #[.string t3, .bool false] 116))
          have HBB : Hold (Below (w.heap.size + 1 + 1) W ((wr.alloc (.cells #[.string t3, .bool false] 116)).alloc (.cells #[.string t3, .bool false] 116))) := ⟨(HBL.out.alloc (by omega) _).alloc (by simp; omega) _⟩
          have HN3 : Hold (((wr.alloc (.cells #[.string t3, .bool false] 116)).alloc (.cells #[.string t3, .bool false] 116)).heap[wr.heap.size + 1]? = some (.cells #[.string t3, .bool false] 116 (0, 0))) := ⟨by have := heap_alloc_new (wr.alloc (.cells #[.string t3, .bool false] 116)) (.cells #[.string t3, .bool false] 116); simpa using this⟩
          go_wp2_with (at_builtin; refine wpList_append_lies _ rfl (.tmp 52) (.tmp 54) 71 rfl (w.heap.size + 1 + 1 + 1) 116 i9 (.agg #[.string ⟨#[]⟩, .bool false]) 2 24 Tryz.underlying71 HI.out.1 HI.out.2.1 HI.out.2.2.1 HI.out.2.2.2 rfl (by decide) (.slice sa j scap) j cs rfl HA3.out.own ⟨wr.heap.size + 1, 0, none⟩ 1 1 [.string t3, .bool false] rfl rfl (World.news_of_block HN3.out) (by simp [Value.oneCell']) (by decide) (by unfold maxLen; omega) (by omega) (by simp; omega) _ rfl ?_)
          intro g cap2 w3 hown hgr _ _
          have hy3 := HA3.out.mid hgr
          have HPU := Hold.mk (HA3.out.push hgr hown)
          rw [← HTK.out] at HPU
          obtain ⟨v0, v1, v2⟩ := cells_three hy3
          have vf := free_box hy3 1
          clear hown hgr hy3 y0 y1 y2 y3 y4 x0 x1 x2 z2 z4
          go_wp2_with fail
          exact ⟨⟨j + 1, _, by go_num, hlt.1, by omega, HPU.out.1, HBB.out.trans HPU.out.2⟩, by simp [intOf]; omega⟩
      · have HFX : Hold ((formI ⟨t1, (it0.take j).map (fun j => cutF j.text), bu⟩ = false → parseF v = none) ∧ (formI ⟨t1, (it0.take j).map (fun j => cutF j.text), bu⟩ = true → IX.mk t1 ((it0.take j).map (fun j => cutF j.text)) bu = readI i0 i1 i2)) := ⟨by
          by_cases hje : j = it0.length
          · rw [List.take_of_length_le (by omega), ← HRD.out]
            exact ⟨fun h => parse_bad HI3.out (fun h2 => by rw [h] at h2; cases h2.1), fun _ => rfl⟩
          · refine ⟨fun _ => parse_bad HI3.out (fun h2 => ?_), fun h2 => ?_⟩
            · have h3 := h2.1
              rw [HRD.out] at h3
              unfold formI at h3
              simp only [Bool.and_eq_true, decide_eq_true_eq, List.length_map] at h3
              omega
            · unfold formI at h2
              simp only [Bool.and_eq_true, decide_eq_true_eq, List.length_map, List.length_take] at h2
              omega⟩
        obtain ⟨X, hX⟩ : ∃ X : IX, X = ⟨t1, (it0.take j).map (fun j => cutF j.text), bu⟩ := ⟨_, rfl⟩
        rw [← hX] at HFX
        have HIAt : Hold (∀ W3 : World, W3.ownsRow (w.heap.size + 1 + 1 + 1) 116 2 (.slice sa j scap) j cs → IAt (cf W3) X (.agg #[.string t1, .slice sa j scap, .bool bu])) := ⟨fun W3 ho => by
          rw [hX]
          refine ⟨HT1.out, _, rfl, ?_⟩
          rw [← HCS.out] at ho
          have e : j = ((it0.take j).map fun j => cutF j.text).length := by simp; omega
          generalize hl : ((it0.take j).map fun j => cutF j.text) = l at ho e ⊢
          subst e
          refine fields_of_own ho (fun p hp => ?_)
          rw [← hl] at hp
          obtain ⟨q, hq, rfl⟩ := List.mem_map.1 hp
          have := cut_size q.text
          have := HQS.out.2 q (List.mem_of_mem_take hq)
          omega⟩
        have HSM : Hold (∀ f ∈ X.fields, f.1.size ≤ 1000000) := ⟨fun f hf => by
          rw [hX] at hf
          obtain ⟨q, hq, rfl⟩ := List.mem_map.1 hf
          have := cut_size q.text
          have := HQS.out.2 q (List.mem_of_mem_take hq)
          omega⟩
        have HPD : Hold (∀ W3 : World, parseF v = some X → W3.ownsRow (w.heap.size + 1 + 1 + 1) 116 2 (.slice sa j scap) j cs → Below w.heap.size w W3 → ParsePostO 116 v w (.returned (.tuple #[.agg #[.string t1, .slice sa j scap, .bool bu], .int .i64 0])) W3) := ⟨fun W3 h1 h2 h3 => parse_done h1 hX (by simp; omega) HT1.out HSM.out (by omega) h2 HCS.out h3⟩
        clear hX
        have zp : wr.cell? ⟨b, off + 7, none⟩ = some (.string t1) := cle_below HBW.out _ _ _ HP2.out
        have zq : wr.cell? ⟨b, off + 10, none⟩ = some (.int .i64 k2) := cle_below HBW.out _ _ _ HQ0.out
        have HXI := Hold.mk HAI.out.box
        have HOW := Hold.mk HAI.out.own
        obtain ⟨x0, x1, x2⟩ := cells_three HXI.out
        have f0 := free_box HXI.out 0
        have f2 := free_box HXI.out 2
        clear HAI HEL HQS HCS HA4 HP2 HQ0 HI HRD
        rcases (by omega : ¬ (j : Int) < it0.length ∨ ((j : Int) < it0.length ∧ ¬ (j : Int) ≤ 3)) with hc | ⟨hc, hc2⟩
        all_goals
          go_wp2_with fail
          obtain ⟨W2, hW2⟩ : ∃ W2, W2 = ((wr.setCell ⟨w.heap.size + 1 + 1, 0, none⟩ (.string t1)).setCell ⟨w.heap.size + 1 + 1, 2, none⟩ (.bool bu)) := ⟨_, rfl⟩
          rw [← hW2]
          replace HXI : Hold (W2.heap[w.heap.size + 1 + 1]? = some (.cells #[.string t1, .slice sa j scap, .bool bu] 73 (0, 0))) := ⟨by rw [hW2]; have := set_self (o := 2) (c := .bool bu) (set_self (o := 0) (c := .string t1) HXI.out); simpa using this⟩
          have hbl2 : Below (w.heap.size + 1 + 1) W W2 := by rw [hW2]; exact (HBL.out.setCell (p := ⟨w.heap.size + 1 + 1, 0, none⟩) (Nat.le_refl _) _).setCell (p := ⟨w.heap.size + 1 + 1, 2, none⟩) (Nat.le_refl _) _
          replace HVW := Hold.mk (keptB HVB.out (by omega) hbl2)
          replace HRW := Hold.mk (keptB HRB.out (by omega) hbl2)
          replace HBW : Hold (Below w.heap.size w W2) := ⟨HB.out.trans (hbl2.mono (by omega))⟩
          replace HOW : Hold (W2.ownsRow (w.heap.size + 1 + 1 + 1) 116 2 (.slice sa j scap) j cs) := ⟨by rw [hW2]; exact own_set (own_set HOW.out (by simp)) (by simp)⟩
          clear hW2 hbl2 HVB HRB HB HBL x0 x1 x2 f0 f2 y0 y1 y2 y3 y4 z4 zp zq hW HXB hlt hkl hc
          try clear hc2
          refine (rShow_any X _ W2 (HIAt.out W2 HOW.out) HSM.out).mono ?_
          rintro e w3 ⟨hpo, hb3⟩
          have HB := Hold.mk (HBW.out.trans (hb3.mono HBW.out.size))
          have HVB := Hold.mk (kept HVW.out hb3)
          have HRB := Hold.mk (kept HRW.out hb3)
          replace HXI := Hold.mk (kept HXI.out hb3)
          replace HOW := Hold.mk (own_below HOW.out hb3 (fun g hg => (HOW.out.lt g hg).2))
          clear hb3 HBW HVW HRW
          cases hf : formI X with
          | false =>
            rw [if_neg (by rw [hf]; simp)] at hpo
            subst hpo
            have HR : Hold (parseF v = none) := ⟨HFX.out.1 hf⟩
            clear hf
            obtain ⟨r0, r1, r2⟩ := cells_three HRB.out
            have f0 := free_box HRB.out 0
            have f1 := free_box HRB.out 1
            have f2 := free_box HRB.out 2
            have hlr := heap_lt HRB.out
            go_wp2_with fail
            obtain ⟨W2, hW2, c0, c1, c2, hb2⟩ := HERR.out w3 HRB.out HB.out
            rw [← hW2]
            clear hW2 r0 r1 r2 f0 f1 f2 hlr
            have hb5 := (Below.refl W2.heap.size W2).alloc (Nat.le_refl _) (.cells zero5 55)
            replace c0 := (cle_below hb5) _ _ _ c0
            replace c1 := (cle_below hb5) _ _ _ c1
            replace c2 := (cle_below hb5) _ _ _ c2
            unfold cf at c0 c1 c2
            replace hb2 := hb2.trans (hb5.mono hb2.size)
            generalize W2.alloc (.cells zero5 55) = W6 at c0 c1 c2 hb2 ⊢
            exact bodyPost_ret (v := .tuple #[.agg zeroI, .int .i64 2]) (by simp [results, Tryz.results59, go_sem, c0, c1, c2]) rfl (parse_err HR.out hb2)
          | true =>
            rw [if_pos hf] at hpo
            have HXR := Hold.mk (HFX.out.2 hf)
            have HF := Hold.mk hf
            clear hf
            obtain ⟨y, rfl, hy⟩ := hpo
            obtain ⟨k5, n5, t5, nm5, it5, na5, ncap5, ia5, icap5, hye, rfl, _⟩ := hy.open
            have HY := Hold.mk hy
            clear hy hye
            have hb5 := (Below.refl w3.heap.size w3).alloc (Nat.le_refl _) (.cells #[.int .i64 k5, .int .i64 n5, .string t5, .slice na5 nm5.length ncap5, .slice ia5 it5.length icap5] 55)
            have hwb : (w3.alloc (.cells #[.int .i64 k5, .int .i64 n5, .string t5, .slice na5 nm5.length ncap5, .slice ia5 it5.length icap5] 55)).heap[w3.heap.size]? = some (.cells #[.int .i64 k5, .int .i64 n5, .string t5, .slice na5 nm5.length ncap5, .slice ia5 it5.length icap5] 55 (0, 0)) := heap_alloc_new w3 _
            obtain ⟨W3, hW3⟩ : ∃ W3, W3 = w3.alloc (.cells #[.int .i64 k5, .int .i64 n5, .string t5, .slice na5 nm5.length ncap5, .slice ia5 it5.length icap5] 55) := ⟨_, rfl⟩
            rw [← hW3] at hb5 hwb
            have HWB := Hold.mk hwb
            have HB5 := Hold.mk hb5
            clear hwb hb5
            obtain ⟨y0, y1, y2, y3, y4⟩ := cells_five HVB.out
            have hlv := heap_lt HVB.out
            go_wp2_with fail
            rw [← hW3]
            clear hW3 y0 y1 y2 y3 y4 hlv
            refine (rSame_any v (showJ X) _ _ W3 ((HX.out.mono (cle_below HB.out)).mono (cle_below HB5.out)) (HY.out.mono (cle_below HB5.out))).mono ?_
            rintro e w4 ⟨rfl, hb4⟩
            replace hb4 := HB5.out.trans (hb4.mono HB5.out.size)
            replace HB := Hold.mk (HB.out.trans (hb4.mono HB.out.size))
            replace HRB := Hold.mk (kept HRB.out hb4)
            replace HXI := Hold.mk (kept HXI.out hb4)
            replace HOW := Hold.mk (own_below HOW.out hb4 (fun g hg => (HOW.out.lt g hg).2))
            clear hb4 HB5 HWB HY
            obtain ⟨r0, r1, r2⟩ := cells_three HRB.out
            have f0 := free_box HRB.out 0
            have f1 := free_box HRB.out 1
            have f2 := free_box HRB.out 2
            by_cases hsv : v = showJ X
            · rw [sameB_true hsv]
              have HR : Hold (parseF v = some X) := ⟨by have h1 := HF.out; rw [HXR.out] at hsv h1 ⊢; exact parse_some HI3.out h1 hsv⟩
              clear hsv
              obtain ⟨x0, x1, x2⟩ := cells_three HXI.out
              go_wp2_with fail
              obtain ⟨W6, hW6⟩ : ∃ W6, W6 = (((w4.setCell ⟨w.heap.size + 1, 0, none⟩ (.string t1)).setCell ⟨w.heap.size + 1, 1, none⟩ (.slice sa j scap)).setCell ⟨w.heap.size + 1, 2, none⟩ (.bool bu)) := ⟨_, rfl⟩
              rw [← hW6]
              have hbk : W6.heap[w.heap.size + 1]? = some (.cells #[.string t1, .slice sa j scap, .bool bu] 73 (0, 0)) := by rw [hW6]; exact set3_self HRB.out
              have hbw : Below w.heap.size w W6 := by rw [hW6]; exact set3_below HB.out (by omega)
              have how : W6.ownsRow (w.heap.size + 1 + 1 + 1) 116 2 (.slice sa j scap) j cs := by rw [hW6]; exact own_set (own_set (own_set HOW.out (by simp)) (by simp)) (by simp)
              clear hW6 r0 r1 r2 f0 f1 f2 x0 x1 x2
              obtain ⟨c0, c1, c2⟩ := cells_three hbk
              exact bodyPost_ret (v := .tuple #[.agg #[.string t1, .slice sa j scap, .bool bu], .int .i64 0]) (by simp [results, Tryz.results59, go_sem, c0, c1, c2]) rfl (HPD.out W6 HR.out how hbw)
            · rw [sameB_false hsv]
              have HR : Hold (parseF v = none) := ⟨by rw [HXR.out] at hsv; exact parse_bad HI3.out (fun h => hsv h.2)⟩
              clear hsv
              go_wp2_with fail
              obtain ⟨W2, hW2, c0, c1, c2, hb2⟩ := HERR.out w4 HRB.out HB.out
              rw [← hW2]
              clear hW2 r0 r1 r2 f0 f1 f2
              exact bodyPost_ret (v := .tuple #[.agg zeroI, .int .i64 2]) (by simp [results, Tryz.results59, go_sem, c0, c1, c2]) rfl (parse_err HR.out hb2)
  · have b3 : ((it.length : Int) != 3) = true := by simp; omega
    have HR : Hold (parseF v = none) := ⟨parse_len (by rw [HVE.out]; exact h3)⟩
    clear h3
    obtain ⟨r0, r1, r2⟩ := cells_three HRB.out
    obtain ⟨x0, x1, x2⟩ := cells_three HXB.out
    have f0 := free_box HRB.out 0
    have f1 := free_box HRB.out 1
    have f2 := free_box HRB.out 2
    go_enter Tryz.func59, Tryz.ntmps59
    go_wp2_with fail
    rw [← hW]
    exact bodyPost_ret (v := .tuple #[.agg zeroI, .int .i64 2]) (by simp [results, Tryz.results59, go_sem, r0, r1, r2]) rfl (parse_err HR.out HB.out)
end Go.Proofs.YtfpphpjobkhalaaGreatDoor
