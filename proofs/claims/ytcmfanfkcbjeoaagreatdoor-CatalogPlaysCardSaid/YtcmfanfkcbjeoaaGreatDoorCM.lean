/- Catalogs: DropIndex of the program (printed by genXCL.py). -/
import Derived.Test.YtcmfanfkcbjeoaaGreatDoorCL
namespace Go.Proofs.YtcmfanfkcbjeoaaGreatDoor
open Go.Shelf Go.RowKit

set_option maxRecDepth 100000 in
set_option maxHeartbeats 4000000 in
theorem dropI1_any (t : ByteArray) (x : PX) (xa : Option Addr) (xcap k : Nat) (w : World) (hc : w.heap[k]? = some (.cells #[.string t] 9 (0, 0))) :
    Calls Tryz.prog 80 #[.agg #[.string x.ix.name, .slice xa x.ix.fields.length xcap, .bool x.ix.uniq, .int .i64 x.sp], .pointer (some ⟨k, 0, none⟩)] w fun e w' => e = .returned (.bool (nameIsP t x)) ∧ Below w.heap.size w w' := by
  have hlt := heap_lt hc
  have y0 : w.cell? ⟨k, 0, none⟩ = some (.string t) := by simp [World.cell?, hc]
  have HB := Hold.mk (Boxed.refl w (.cells #[.string x.ix.name, .slice xa x.ix.fields.length xcap, .bool x.ix.uniq, .int .i64 x.sp] 102))
  obtain ⟨b, hb⟩ : ∃ b, nameIsP t x = b := ⟨_, rfl⟩
  have e1 : (x.ix.name.toList == t.toList) = b := hb
  rw [hb]
  obtain ⟨⟨nm, fl, u⟩, sp⟩ := x
  simp only at *
  clear hc hb
  go_enter Tryz.func80, Tryz.ntmps80
  go_wp2_with fail
  go_ret
  exact ⟨rfl, HB.out.below⟩
theorem dropI1_enters (args : Array Value) (w : World) : (callFunc 80 args).run Tryz.prog w = .ok (.enter 80 args) w := enters_of Tryz.func80 (by kernel_rfl) rfl args w

set_option maxRecDepth 100000 in
set_option maxHeartbeats 16000000 in
theorem DropIndex_any (l : List CX) (v : Value) (s t : ByteArray) (w : World) (h : CatAt (cf w) l v) (hsm : SmallC l) (hsz : Sized l) (hT : Tabs w) :
    Calls Tryz.prog 34 #[v, .string s, .string t] w (CatPost w (dropIF l s t)) := by
  obtain ⟨a, cap, rfl, hsat⟩ := h
  obtain ⟨r, hr⟩ : ∃ r, r = dropIF l s t := ⟨_, rfl⟩
  rw [← hr]
  have HR := Hold.mk hr
  have HS := Hold.mk hsat
  have HSZ := Hold.mk hsz
  have HSM := Hold.mk hsm
  obtain ⟨W0, hW0⟩ : ∃ W0, W0 = ((w.alloc (.cells #[.slice a l.length cap] 51)).alloc (.cells #[.string t] 9)).alloc (.cells #[.slice none 0 0] 51) := ⟨_, rfl⟩
  have hb0 : Below w.heap.size w W0 := by rw [hW0]; exact (((Below.refl _ w).alloc (Nat.le_refl _) _).alloc (by simp <;> omega) _).alloc (by simp <;> omega) _
  have HZ0 : Hold (W0.heap.size = w.heap.size + 3) := ⟨by rw [hW0]; simp⟩
  have HC0 : Hold (W0.heap[w.heap.size]? = some (.cells #[.slice a l.length cap] 51 (0, 0))) := ⟨by
    rw [hW0, Below.heap_alloc _ _ _ (by simp <;> omega), Below.heap_alloc _ _ _ (by simp <;> omega)]; exact heap_alloc_new w _⟩
  have HX0 : Hold (W0.heap[w.heap.size + 1]? = some (.cells #[.string t] 9 (0, 0))) := ⟨by
    rw [hW0, Below.heap_alloc _ _ _ (by simp <;> omega)]
    have := heap_alloc_new (w.alloc (.cells #[.slice a l.length cap] 51)) (.cells #[.string t] 9)
    simpa using this⟩
  have HR0 : Hold (W0.heap[w.heap.size + 1 + 1]? = some (.cells #[.slice none 0 0] 51 (0, 0))) := ⟨by
    rw [hW0]
    have := heap_alloc_new ((w.alloc (.cells #[.slice a l.length cap] 51)).alloc (.cells #[.string t] 9)) (.cells #[.slice none 0 0] 51)
    simpa using this⟩
  have HB0 := Hold.mk hb0
  have HCA : Hold (∀ wn, Below W0.heap.size W0 wn → CatAt (cf wn) l (.agg #[.slice a l.length cap]) ∧ Tabs wn ∧ wn.cell? ⟨w.heap.size, 0, none⟩ = some (.slice a l.length cap) ∧ wn.heap[w.heap.size + 1 + 1]? = some (.cells #[.slice none 0 0] 51 (0, 0)) ∧ Below w.heap.size w wn) := ⟨fun wn hb => by
    have h1 := HB0.out.trans (hb.mono HB0.out.size)
    have h2 := kept HC0.out hb
    exact ⟨⟨a, cap, rfl, HS.out.mono RCX_mono (cle_below h1)⟩, hT.below h1, by simp [World.cell?, h2], kept HR0.out hb, h1⟩⟩
  obtain ⟨hca, ht, y0, _, _⟩ := HCA.out W0 (Below.refl _ _)
  have HFO := Hold.mk (FormedC_any l _ W0 hca hsm ht)
  clear hsat hsz hsm hb0 hT hca ht hr 
  go_enter Tryz.func34, Tryz.ntmps34
  go_upto_region 1 with (fail)
  rw [← hW0]
  clear hW0
  go_wp2_with fail
  refine HFO.out.mono ?_
  rintro e w1 ⟨rfl, hb1⟩
  have HB1 := Hold.mk hb1
  clear hb1 HFO y0
  obtain ⟨hca, ht, y0, hr1, hbw⟩ := HCA.out w1 HB1.out

  cases hfo : formC l with
  | false =>
    have HE : Hold (r = ([], 2)) := ⟨by rw [HR.out]; unfold dropIF; rw [hfo]; rfl⟩
    clear hfo hca ht
    have hf1 : w1.frozen? ⟨w.heap.size + 1 + 1, 0, none⟩ = false := free_box hr1 0
    have hx1 : w1.cell? ⟨w.heap.size + 1 + 1, 0, none⟩ = some (.slice none 0 0) := by
      have := hr1
      simp [World.cell?, this]
    go_wp2_with fail
    clear hf1 hx1
    obtain ⟨W, hW⟩ : ∃ W, W = w1.setCell ⟨w.heap.size + 1 + 1, 0, none⟩ (.slice none 0 0) := ⟨_, rfl⟩
    rw [← hW]
    have hk : W.heap[w.heap.size + 1 + 1]? = some (.cells #[.slice none 0 0] 51 (0, 0)) := by
      rw [hW]
      have := set_self (o := 0) (c := .slice none 0 0) hr1
      simpa using this
    have hx : W.cell? ⟨w.heap.size + 1 + 1, 0, none⟩ = some (.slice none 0 0) := by simp [World.cell?, hk]
    have hb : Below w.heap.size w W := by rw [hW]; exact bsetZ hbw (by omega)
    refine bodyPost_ret (v := .tuple #[.agg #[.slice none 0 0], .int .i64 2]) (by simp [results, Tryz.results34, go_sem, hx]) rfl ?_
    exact cat_err HE.out hb
  | true =>
  have HFO := Hold.mk hfo
  have HRN : Hold (r = match l[(findI (nameIs s) l).toNat]? with
    | none => ([], 4)
    | some y => if findI (nameIs s) l < 0 then ([], 4) else if findI (nameIsP t) y.ixs < 0 then ([], 4) else
      (l.set (findI (nameIs s) l).toNat ⟨y.name, y.sp, delZ (findI (nameIsP t) y.ixs).toNat y.ixs⟩, 0)) := ⟨by rw [HR.out]; unfold dropIF; rw [HFO.out, if_neg (by decide)]; rfl⟩
  have HFI := Hold.mk (Find_any l _ s w1 hca)
  clear hfo hr1 hbw hca ht
  go_wp2_with fail
  refine HFI.out.mono ?_
  rintro e w3 ⟨rfl, hb3⟩
  have HB3 := Hold.mk (HB1.out.trans (hb3.mono HB1.out.size))
  clear hb3 HFI y0
  obtain ⟨hca, _, y0, hr1, hbw⟩ := HCA.out w3 HB3.out
  have hcs := findI_cases (nameIs s) l
  generalize findI (nameIs s) l = fi at *
  rcases hcs with rfl | ⟨k, y, rfl, hky, _⟩
  · have HE : Hold (r = ([], 4)) := ⟨by
      rw [HRN.out]
      cases l[(-1 : Int).toNat]? with
      | none => rfl
      | some y => simp only; rw [if_pos (by decide)]⟩
    clear hca
    have hf1 : w3.frozen? ⟨w.heap.size + 1 + 1, 0, none⟩ = false := free_box hr1 0
    have hx1 : w3.cell? ⟨w.heap.size + 1 + 1, 0, none⟩ = some (.slice none 0 0) := by
      have := hr1
      simp [World.cell?, this]
    go_wp2_with fail
    clear hf1 hx1
    obtain ⟨W, hW⟩ : ∃ W, W = w3.setCell ⟨w.heap.size + 1 + 1, 0, none⟩ (.slice none 0 0) := ⟨_, rfl⟩
    rw [← hW]
    have hk : W.heap[w.heap.size + 1 + 1]? = some (.cells #[.slice none 0 0] 51 (0, 0)) := by
      rw [hW]
      have := set_self (o := 0) (c := .slice none 0 0) hr1
      simpa using this
    have hx : W.cell? ⟨w.heap.size + 1 + 1, 0, none⟩ = some (.slice none 0 0) := by simp [World.cell?, hk]
    have hb : Below w.heap.size w W := by rw [hW]; exact bsetZ hbw (by omega)
    refine bodyPost_ret (v := .tuple #[.agg #[.slice none 0 0], .int .i64 4]) (by simp [results, Tryz.results34, go_sem, hx]) rfl ?_
    exact cat_err HE.out hb
  have hkl : k < l.length := (List.getElem?_eq_some_iff.1 hky).1
  replace HRN : Hold (r = if findI (nameIsP t) y.ixs < 0 then ([], 4) else (l.set k ⟨y.name, y.sp, delZ (findI (nameIsP t) y.ixs).toNat y.ixs⟩, 0)) := ⟨by
    rw [HRN.out]
    simp only [Int.toNat_natCast, hky]
    rw [if_neg (by omega)]⟩
  have HKY := Hold.mk hky
  have HKL := Hold.mk hkl
  obtain ⟨_, _, e, hle, hcap, hel⟩ := id HS.out
  cases e
  obtain ⟨b, off, d, rfl, hd, hcc, xa, xcap, rfl, hyn, hyw, hyi⟩ := hel k y hky
  have HYI := Hold.mk hyi
  obtain ⟨_, _, e, hxle, hxcap, _⟩ := hyi
  cases e
  have HZF : Hold (∀ wn, Below W0.heap.size W0 wn → wn.cell? ⟨b, off + k * 3 + 2, none⟩ = some (.slice xa y.ixs.length xcap)) := ⟨fun wn hb => cle_below (HB0.out.trans (hb.mono HB0.out.size)) _ _ _ (hcc 2 _ rfl)⟩
  have hz := HZF.out w3 HB3.out
  have HUP := Hold.mk (form_upP HFO.out hky)
  have HSE := Hold.mk (idxP_any 80 dropI1_enters ⟨w.heap.size + 1, 0, none⟩ (nameIsP t) (.slice xa y.ixs.length xcap) y.ixs w3 (HYI.out.mono RPX_mono (cle_below hbw)) (fun x _ za zcap wr hb _ => dropI1_any t x za zcap (w.heap.size + 1) wr (kept (kept HX0.out HB3.out) hb)))
  have hkz : (k : Int) < (l.length : Int) := by omega
  clear hky hd hcc hel hyn hyw hca hr1 hbw
  go_wp2_with fail
  refine HSE.out.mono ?_
  rintro e w4 ⟨rfl, hb4⟩
  have HB4 := Hold.mk (HB3.out.trans (hb4.mono HB3.out.size))
  clear hb4 HSE y0 hz hkz
  obtain ⟨hca, _, y0, hr1, hbw⟩ := HCA.out w4 HB4.out
  have hcs := findI_cases (nameIsP t) y.ixs
  generalize findI (nameIsP t) y.ixs = fi at *
  rcases hcs with rfl | ⟨m, z, rfl, hmz, _⟩
  · have HE : Hold (r = ([], 4)) := ⟨by rw [HRN.out, if_pos (by decide)]⟩
    clear hca
    have hf1 : w4.frozen? ⟨w.heap.size + 1 + 1, 0, none⟩ = false := free_box hr1 0
    have hx1 : w4.cell? ⟨w.heap.size + 1 + 1, 0, none⟩ = some (.slice none 0 0) := by
      have := hr1
      simp [World.cell?, this]
    go_wp2_with fail
    clear hf1 hx1
    obtain ⟨W, hW⟩ : ∃ W, W = w4.setCell ⟨w.heap.size + 1 + 1, 0, none⟩ (.slice none 0 0) := ⟨_, rfl⟩
    rw [← hW]
    have hk : W.heap[w.heap.size + 1 + 1]? = some (.cells #[.slice none 0 0] 51 (0, 0)) := by
      rw [hW]
      have := set_self (o := 0) (c := .slice none 0 0) hr1
      simpa using this
    have hx : W.cell? ⟨w.heap.size + 1 + 1, 0, none⟩ = some (.slice none 0 0) := by simp [World.cell?, hk]
    have hb : Below w.heap.size w W := by rw [hW]; exact bsetZ hbw (by omega)
    refine bodyPost_ret (v := .tuple #[.agg #[.slice none 0 0], .int .i64 4]) (by simp [results, Tryz.results34, go_sem, hx]) rfl ?_
    exact cat_err HE.out hb
  have hml : m < y.ixs.length := (List.getElem?_eq_some_iff.1 hmz).1
  replace HRN : Hold (r = (l.set k ⟨y.name, y.sp, delZ m y.ixs⟩, 0)) := ⟨by
    rw [HRN.out, if_neg (by omega), Int.toNat_natCast]⟩
  have HML := Hold.mk hml
  have HOW := Hold.mk (own_any w.heap.size k l (.agg #[.slice (some ⟨b, off, none⟩) l.length cap]) w4 hbw.size ⟨_, _, rfl, HS.out.mono RCX_mono (cf_cfL rfl hbw)⟩ HSZ.out)
  have HBW5 := Hold.mk hbw
  have HC5 := Hold.mk (kept HC0.out HB4.out)
  have HR5 := Hold.mk hr1
  have HZ5 : Hold (w.heap.size + 3 ≤ w4.heap.size) := ⟨by have := HZ0.out; have := HB4.out.size; omega⟩
  clear hr1 hbw hca hmz hml
  go_wp2_with fail
  refine HOW.out.mono ?_
  rintro e w6 ⟨sl, cs, ik, ics, rfl, hoc, hb6⟩
  obtain ⟨sa, scap, rfl⟩ := own_shapeZ hoc.own
  obtain ⟨g, rfl⟩ := own_placeZ hoc.own (by have := HKL.out; omega)
  have HOC := Hold.mk hoc
  have HC6 := Hold.mk (kept HC5.out hb6)
  have HR6 := Hold.mk (kept HR5.out hb6)
  have HBW6 := Hold.mk (HBW5.out.trans (hb6.mono HBW5.out.size))
  have HZ6 : Hold (w.heap.size + 3 ≤ w6.heap.size) := ⟨Nat.le_trans HZ5.out hb6.size⟩
  clear hoc hb6 HOW y0
  have hf : w6.frozen? ⟨w.heap.size, 0, none⟩ = false := free_box HC6.out 0
  have hx : w6.cell? ⟨w.heap.size, 0, none⟩ = some (.slice (some ⟨b, off, none⟩) l.length cap) := by
    have := HC6.out
    simp [World.cell?, this]
  go_upto_region 10 with (fail)
  clear hf hx
  obtain ⟨W9, hW9⟩ : ∃ W9, W9 = w6.setCell ⟨w.heap.size, 0, none⟩ (.slice (some ⟨g, 0, none⟩) l.length scap) := ⟨_, rfl⟩
  rw [← hW9]
  have hg9 : w6.grownBy W9 (some w.heap.size) := by rw [hW9]; exact grownZ_set _ _ _ _
  have HC9 : Hold (W9.heap[w.heap.size]? = some (.cells #[.slice (some ⟨g, 0, none⟩) l.length scap] 51 (0, 0))) := ⟨by
    rw [hW9]
    have := set_self (o := 0) (c := .slice (some ⟨g, 0, none⟩) l.length scap) HC6.out
    simpa using this⟩
  have HR9 : Hold (W9.heap[w.heap.size + 1 + 1]? = some (.cells #[.slice none 0 0] 51 (0, 0))) := ⟨by
    rw [hg9.block _ (heap_lt HR6.out) (fun e => by injection e with e; omega)]; exact HR6.out⟩
  have HOC9 := Hold.mk (HOC.out.but HC6.out (Nat.le_refl _) hg9)
  have HBW9 : Hold (Below w.heap.size w W9) := ⟨HBW6.out.trans (below_grownZ hg9 (Nat.le_refl _) HBW6.out.size)⟩
  have HZ9 : Hold (w.heap.size + 3 ≤ W9.heap.size) := ⟨Nat.le_trans HZ6.out hg9.size⟩
  clear hW9 hg9 HOC HC6 HR6 HBW6
  obtain ⟨m1, m2, m3, m4, m5⟩ := HOC9.out.mine y HKY.out
  obtain ⟨ia, icap, rfl⟩ := own_shapeZ m4
  obtain ⟨q, rfl⟩ := own_placeZ m4 (by have := HML.out; omega)
  have HM4 := Hold.mk m4
  have HM5 := Hold.mk m5
  have HIK : Hold (W9.cell? ⟨g, k * 3 + 2, none⟩ = some (.slice (some ⟨q, 0, none⟩) y.ixs.length icap)) := ⟨by
    have := HOC9.out.own.cells (g := g) rfl (k * 3 + 2) _ (m1 2 _ rfl)
    rw [addr_at] at this; exact this⟩
  clear m1 m2 m3 m4 m5
  have y0 : W9.cell? ⟨w.heap.size, 0, none⟩ = some (.slice (some ⟨g, 0, none⟩) l.length scap) := by
    have := HC9.out
    simp [World.cell?, this]
  have g0 := GrowB.cell y0 (show w.heap.size < w.heap.size + 3 by omega)
  have HDW := Hold.mk ((Below.refl W9.heap.size W9).drew)
  have hkz : (k : Int) < (l.length : Int) := by have := HKL.out; omega
  have hkl := HKL.out
  clear y0
  refine wp_region_mixC (GrowBC (w.heap.size + 3) W9) 16 rfl (by kernel_rfl) ?_
  generalize W9.drew = v9 at HDW ⊢
  have HDB : Hold (Below (w.heap.size + 3) W9 v9) := ⟨HDW.out.mono HZ9.out⟩
  have hml := HML.out
  have hl4 : y.ixs.length ≤ 4 := HUP.out.2
  refine mixl_seg (by kernel_rfl) (fun _ _ d _ _ h => by cases d <;> exact h) [0, 1, 2, 3, 4, 5, 6, 7, 9, 10, 11] [_, _, _, _, _, _, _, _, _, _, _] 5 16 rfl _ _ _ rfl (by kernel_rfl) (growBC HDB.out) ?_
  repeat (go_big_quiet_step (fail))
  refine wpQuiet_nil ?_
  clear g0 hml hl4
  have hik : v9.cell? ⟨g, k * 3 + 2, none⟩ = some (.slice (some ⟨q, 0, none⟩) y.ixs.length icap) := cle_below HDW.out _ _ _ HIK.out
  have HOC10 := Hold.mk (HOC9.out.quiet HDW.out)
  obtain ⟨_, _, _, m4, m5⟩ := HOC10.out.mine y HKY.out
  have HM4' := Hold.mk m4
  have HM5' := Hold.mk m5
  have HIN := Hold.mk (delPx_any w4.heap.size v9 q y.ixs.length icap ics m4 m HML.out (by have := HUP.out.2; omega) (grow_one RPX_one (by decide) m5))
  clear m4 m5
  refine mixl_act (i := 8) rfl (by kernel_rfl) (growBC HDB.out) rfl (fun K hK => ?_)
  go_wp2_with fail
  clear hik
  refine mixl_act (i := 12) rfl (by kernel_rfl) (growBC HDB.out) rfl (fun K hK => ?_)
  go_wp2_with fail
  refine HIN.out.mono ?_
  rintro e w11 ⟨rfl, ho11, hg11⟩
  have HKF : Hold (CLe (cfS w.heap.size okF nilS v9) (cfS w.heap.size okF nilS w11)) := ⟨cfS_keep (fun b hb _ hc => hg11.block b hb fun e => by
    obtain ⟨h1, h2⟩ := own_isT HM4'.out okF b e.symm
    rcases hc with h3 | h3
    · have := HZ5.out; omega
    · rw [h2] at h3; cases h3) (fun _ _ e => e)⟩
  have HGI : Hold (GRow 4 RPX (cfS w.heap.size okF nilS w11) (delZ m y.ixs) (ics.take (m * 4) ++ ics.drop ((m + 1) * 4))) := ⟨
    (grow_del HM5'.out m).mono RPX_mono HKF.out⟩
  have hfin := owncat_done HOC10.out HKY.out hg11 (ik2 := .slice (some ⟨q, 0, none⟩) (y.ixs.length - 1) icap) (fun b hb => .inl hb) (xs2 := delZ m y.ixs) (by rw [delZ_len HML.out]; exact ho11) HGI.out
  have ho2 := HOC10.out.own.kept hg11 (own_blocks HM4'.out HOC10.out.own (by decide))
  have hik : w11.cell? ⟨g, k * 3 + 2, none⟩ = some (.slice (some ⟨q, 0, none⟩) y.ixs.length icap) := by
    have := ho2.cells (g := g) rfl (k * 3 + 2) _ ((HOC10.out.mine y HKY.out).1 2 _ rfl)
    rw [addr_at] at this; exact this
  have hff : w11.frozen? ⟨g, k * 3 + 2, none⟩ = false := by
    rcases ho2.2 with ⟨hv, _⟩ | ⟨q, cap, cur, hv, _, hgg, _⟩
    · cases hv
    · injection hv with e1
      injection e1 with e1
      injection e1 with e1
      subst e1
      exact free_box hgg _
  have HDB11 : Hold (Below (w.heap.size + 3) W9 w11) := ⟨HDB.out.trans ((Below.refl _ v9).grown hg11 (Nat.le_trans HZ9.out HDB.out.size) (fun q hq => by have := (HM4'.out.lt q hq).1; have := HZ5.out; omega))⟩
  obtain ⟨W12, hW12⟩ : ∃ W12, W12 = w11.setCell ⟨g, k * 3 + 2, none⟩ (.slice (some ⟨q, 0, none⟩) (y.ixs.length - 1) icap) := ⟨_, rfl⟩
  rw [← hW12] at hfin
  obtain ⟨ho12, hg12, hr12⟩ := hfin
  have HO12 := Hold.mk ho12
  have HR12g := Hold.mk hr12
  have HDB12 : Hold (Below (w.heap.size + 3) W9 W12) := ⟨HDB11.out.trans (below_grownZ hg12 (by have := (HOC10.out.own.lt g rfl).1; have := HZ5.out; omega) (Nat.le_trans HZ9.out HDB11.out.size))⟩
  clear ho11 hg11 ho2 ho12 hg12 hr12 HIN HKF HGI HM4' HM5' HOC10
  go_wp2_with fail
  refine mixl_seg (by kernel_rfl) (fun _ _ d _ _ h => by cases d <;> exact h) [13, 14] [_, _] 1 3 rfl _ _ _ rfl (by kernel_rfl) (growBC HDB11.out) ?_
  repeat (go_big_quiet_step (fail))
  refine wpQuiet_nil ?_
  refine mixl_act (i := 15) rfl (by kernel_rfl) (growBC HDB11.out) rfl (fun K hK => ?_)
  go_wp2_with fail
  rw [← hW12]
  clear hW12 hik hff
  refine mix_done (by kernel_rfl) (growBC HDB12.out) ?_
  have HC12 : Hold (W12.heap[w.heap.size]? = some (.cells #[.slice (some ⟨g, 0, none⟩) l.length scap] 51 (0, 0))) := ⟨by rw [HDB12.out.block _ (by omega)]; exact HC9.out⟩
  have HR12 : Hold (W12.heap[w.heap.size + 1 + 1]? = some (.cells #[.slice none 0 0] 51 (0, 0))) := ⟨by rw [HDB12.out.block _ (by omega)]; exact HR9.out⟩
  have HBW12 : Hold (Below w.heap.size w W12) := ⟨HBW9.out.trans (HDB12.out.mono (by omega))⟩
  obtain ⟨y0, hxx⟩ : W12.cell? ⟨w.heap.size, 0, none⟩ = some (.slice (some ⟨g, 0, none⟩) l.length scap) ∧ True := ⟨by
    have := HC12.out
    simp [World.cell?, this], trivial⟩
  have hf1 : W12.frozen? ⟨w.heap.size + 1 + 1, 0, none⟩ = false := free_box HR12.out 0
  have hx1 : W12.cell? ⟨w.heap.size + 1 + 1, 0, none⟩ = some (.slice none 0 0) := by
    have := HR12.out
    simp [World.cell?, this]
  clear hxx
  go_wp2_with fail
  clear hf1 hx1 y0
  obtain ⟨W, hW⟩ : ∃ W, W = W12.setCell ⟨w.heap.size + 1 + 1, 0, none⟩ (.slice (some ⟨g, 0, none⟩) l.length scap) := ⟨_, rfl⟩
  rw [← hW]
  have hg : W12.grownBy W (some (w.heap.size + 1 + 1)) := by rw [hW]; exact grownZ_set _ _ _ _
  have hk : W.heap[w.heap.size + 1 + 1]? = some (.cells #[.slice (some ⟨g, 0, none⟩) l.length scap] 51 (0, 0)) := by
    rw [hW]
    have := set_self (o := 0) (c := .slice (some ⟨g, 0, none⟩) l.length scap) HR12.out
    simpa using this
  have hx : W.cell? ⟨w.heap.size + 1 + 1, 0, none⟩ = some (.slice (some ⟨g, 0, none⟩) l.length scap) := by simp [World.cell?, hk]
  refine bodyPost_ret (v := .tuple #[.agg #[.slice (some ⟨g, 0, none⟩) l.length scap], .int .i64 0]) (by simp [results, Tryz.results34, go_sem, hx]) rfl ?_
  refine cat_ok (l := l.set k ⟨y.name, y.sp, delZ m y.ixs⟩) HRN.out ?_ (HBW12.out.trans (below_grownZ hg (by omega) HBW12.out.size))
  exact sat_end (B := w.heap.size) (by rw [List.length_set]; exact HO12.out) HR12g.out HR12.out (by omega) hg

end Go.Proofs.YtcmfanfkcbjeoaaGreatDoor
