/- Catalogs: Spaces, Find and fresh of the reference (printed by genXCW.py). -/
import Derived.Test.YtfpphpjobkhalaaGreatDoorZ37
namespace Go.Proofs.YtfpphpjobkhalaaGreatDoor
open Go.Shelf Go.RowKit

/-- a catalog in its box, opened -/
theorem boxed_cat {l : List CX} {v : Value} {w : World} (h : CatAt (cf w) l v) : ∃ a cap W0, v = .agg #[.slice a l.length cap] ∧ W0 = w.alloc (.cells #[.slice a l.length cap] 31) ∧ W0.heap.size = w.heap.size + 1 ∧ Below w.heap.size w W0 ∧ W0.heap[w.heap.size]? = some (.cells #[.slice a l.length cap] 31 (0, 0)) ∧ l.length ≤ cap ∧ cap ≤ 9223372036854775807 ∧
    ∀ (i : Nat) x, l[i]? = some x → ∃ b off d, a = some ⟨b, off, none⟩ ∧ d.length = 3 ∧ (∀ (j : Nat) u, d[j]? = some u → cf w b (off + i * 3 + j) = some u) ∧ RCX (cf w) x d := by
  obtain ⟨a, cap, rfl, hs⟩ := h
  obtain ⟨_, _, e, hle, hcap, hel⟩ := hs
  cases e
  exact ⟨a, cap, _, rfl, rfl, by simp, (Below.refl _ w).alloc (Nat.le_refl _) _, heap_alloc_new w _, hle, hcap, hel⟩
set_option maxRecDepth 100000 in
set_option maxHeartbeats 16000000 in
theorem rSpaces_any (l : List CX) (v : Value) (w : World) (h : CatAt (cf w) l v) (hn : (spacesC l).length ≤ 1000000) :
    Calls Tryz.prog 16 #[v] w fun e w' => ∃ sv p cs, e = .returned sv ∧ OwnS 1 RInt 3 (w.heap.size + 1) w' sv p (spacesC l) cs ∧ Below w.heap.size w w' := by
  obtain ⟨a, cap, W0, rfl, hW0, hz0, hb0, hk0, hle, hcap, hel⟩ := boxed_cat h
  have HE := Hold.mk hel
  have HN := Hold.mk hn
  have HB0 := Hold.mk hb0
  have HK0 := Hold.mk hk0
  have HZ0 := Hold.mk hz0
  have y0 : W0.cell? ⟨w.heap.size, 0, none⟩ = some (.slice a l.length cap) := by simp [World.cell?, hk0]
  have HO0 : Hold (OwnS 1 RInt 3 (w.heap.size + 1) W0 (.slice none 0 0) 0 (spacesC (l.take 0)) []) := ⟨by
    have := OwnS.start 1 RInt 3 (B := w.heap.size + 1) (w := W0) (by omega)
    simpa [spacesC] using this⟩
  clear hel hn hb0 hk0 h hz0
  go_enter Tryz.func16, Tryz.ntmps16
  go_upto_region 1 with (fail)
  rw [← hW0]
  clear hW0 y0
  go_wp2_with fail
  go_loopw [3, 4] (fun sl i wr => ∃ (j p : Nat) (cs : List Value), i = .int .i64 j ∧ j ≤ l.length ∧ OwnS 1 RInt 3 (w.heap.size + 1) wr sl p (spacesC (l.take j)) cs ∧ Below (w.heap.size + 1) W0 wr) (fun _ i _ => l.length - (intOf i).toNat)
  case atStart => exact ⟨0, 0, [], rfl, Nat.zero_le _, HO0.out, Below.refl _ _⟩
  case round =>
    obtain ⟨j, p, cs, rfl, hj, hown, hbl⟩ := hrel
    obtain ⟨sa, scap, rfl⟩ := hown.shape
    obtain ⟨ks, hks⟩ : ∃ ks, ks = spacesC (l.take j) := ⟨_, rfl⟩
    rw [← hks] at hown
    have HKS := Hold.mk hks
    have HO := Hold.mk hown
    have HB := Hold.mk hbl
    have HSRC : Hold (∀ wn, Below (w.heap.size + 1) W0 wn → wn.cell? ⟨w.heap.size, 0, none⟩ = some (.slice a l.length cap) ∧ Below w.heap.size w wn) := ⟨fun wn hb => ⟨by
      have := hb.block w.heap.size (by omega)
      rw [HK0.out] at this
      simp [World.cell?, this], HB0.out.trans (hb.mono (by omega))⟩⟩
    obtain ⟨y0, hbw⟩ := HSRC.out wr hbl
    have HBW := Hold.mk hbw
    clear hown hbl HO0 hks hbw
    by_cases hlt : j < l.length
    · obtain ⟨x, hx⟩ : ∃ x, l[j]? = some x := ⟨l[j], List.getElem?_eq_getElem hlt⟩
      obtain ⟨b, off, d, rfl, hd, hcc, xa, xcap, rfl, hxn, hxw, hxi⟩ := HE.out j x hx
      have hcl := cle_below HBW.out
      have z1 := hcl _ _ _ (hcc 1 _ rfl)
      unfold cf at z1
      have HZ2 : Hold (∀ wn, Below (w.heap.size + 1) W0 wn → wn.cell? ⟨b, off + j * 3 + 2, none⟩ = some (.slice xa x.ixs.length xcap)) := ⟨fun wn hb => cle_below (HSRC.out wn hb).2 _ _ _ (hcc 2 _ rfl)⟩
      have HST := Hold.mk (spaces_step hx)
      have HLE : Hold ((ks ++ spacesX x).length ≤ 1000000) := ⟨by
        have h1 := spaces_take l (j + 1)
        rw [spaces_step hx, ← HKS.out] at h1
        have := HN.out; omega⟩
      obtain ⟨_, _, e, _, hxcap, hxe⟩ := hxi
      cases e
      have HXE := Hold.mk hxe
      have hpl : p = ks.length := HO.out.len.symm
      obtain ⟨nm, sp, xs⟩ := x
      simp only at *
      have HP1 : Hold (p + 1 + xs.length ≤ 1000000) := ⟨by have := HLE.out; rw [List.length_append] at this; unfold spacesX at this; simp at this; omega⟩
      clear hx hcc hcl hd hxe hpl hxn hxw
      go_wp2_with (at_builtin; refine push_new RInt_mono rfl _ _ rfl infoInt Tryz.underlying47 rfl (by decide) _ _ _ p _ _ HO.out rfl _ [_] rfl rfl (by simp [Value.oneCell']) sp rfl _ rfl rfl (by have := HP1.out; omega) (by decide) ?_)
      intro sl2 w2 ho2 hg2
      obtain ⟨s2a, s2c, rfl⟩ := ho2.shape
      have HB2 := Hold.mk (HB.out.trans (HO.out.below hg2))
      have HO2 : Hold (OwnS 1 RInt 3 (w.heap.size + 1) w2 (.slice s2a (p + 1) s2c) (p + 1) (ks ++ (sp :: ((xs.take 0).map (·.sp)))) _) := ⟨by simpa using ho2⟩
      clear ho2 hg2 y0 z1
      go_wp2_with fail
      go_loopw [3, 5] (fun sl i wq => ∃ (q : Nat) (cs : List Value), i = .int .i64 q ∧ q ≤ xs.length ∧ OwnS 1 RInt 3 (w.heap.size + 1) wq sl (p + 1 + q) (ks ++ (sp :: ((xs.take q).map (·.sp)))) cs ∧ Below (w.heap.size + 1) W0 wq) (fun _ i _ => xs.length - (intOf i).toNat)
      case atStart => exact ⟨0, _, rfl, Nat.zero_le _, HO2.out, HB2.out⟩
      case round =>
        rename World => wq
        obtain ⟨q, cs2, rfl, hq, hown2, hbq⟩ := hrel
        obtain ⟨ta, tcap, rfl⟩ := hown2.shape
        have HOQ := Hold.mk hown2
        have HBQ := Hold.mk hbq
        obtain ⟨y0, hbw⟩ := HSRC.out wq hbq
        have z2 := HZ2.out wq hbq
        have HBW2 := Hold.mk hbw
        clear hown2 hbq HO2 hbw
        by_cases hlt2 : q < xs.length
        · obtain ⟨y, hy⟩ : ∃ y, xs[q]? = some y := ⟨xs[q], List.getElem?_eq_getElem hlt2⟩
          obtain ⟨yb, yoff, yd, rfl, hyd, hyc, ya, ycap, rfl, hyn, hyf, hyw⟩ := HXE.out q y hy
          have z3 := cle_below HBW2.out _ _ _ (hyc 3 _ rfl)
          unfold cf at z3
          have HTQ : Hold ((xs.take (q + 1)).map (·.sp) = (xs.take q).map (·.sp) ++ [y.sp]) := ⟨by rw [take_succ hy, List.map_append]; rfl⟩
          obtain ⟨⟨ynm, yfl, yu⟩, ysp⟩ := y
          simp only at *
          clear hy hyd hyc hyn hyf hyw
          go_wp2_with (at_builtin; refine push_new RInt_mono rfl _ _ rfl infoInt Tryz.underlying47 rfl (by decide) _ _ _ (p + 1 + q) _ _ HOQ.out rfl _ [_] rfl rfl (by simp [Value.oneCell']) ysp rfl _ rfl rfl (by have := HP1.out; omega) (by decide) ?_)
          intro sl3 w4 ho4 hg4
          obtain ⟨s4a, s4c, rfl⟩ := ho4.shape
          have HB4 := Hold.mk (HBQ.out.trans (HOQ.out.below hg4))
          have HO4 : Hold (OwnS 1 RInt 3 (w.heap.size + 1) w4 (.slice s4a (p + 1 + q + 1) s4c) (p + 1 + (q + 1)) (ks ++ (sp :: ((xs.take (q + 1)).map (·.sp)))) _) := ⟨by rw [HTQ.out]; simpa [Nat.add_assoc] using ho4⟩
          clear ho4 hg4 y0 z2 z3
          go_wp2_with fail
          exact ⟨⟨q + 1, _, by go_num, hlt2, HO4.out, HB4.out⟩, by simp [intOf]; omega⟩
        · obtain rfl : q = xs.length := by omega
          have HOE : Hold (OwnS 1 RInt 3 (w.heap.size + 1) wq (.slice ta (p + 1 + xs.length) tcap) (p + 1 + xs.length) (spacesC (l.take (j + 1))) cs2) := ⟨by
            have := HOQ.out
            rw [List.take_of_length_le (Nat.le_refl _), HKS.out] at this
            rw [HST.out]
            exact this⟩
          go_wp2_with fail
          exact ⟨⟨j + 1, _, _, by go_num, hlt, HOE.out, HBQ.out⟩, by simp [intOf]; omega⟩
    · obtain rfl : j = l.length := by omega
      have HOE : Hold (OwnS 1 RInt 3 (w.heap.size + 1) wr (.slice sa p scap) p (spacesC l) cs) := ⟨by
        have := HO.out
        rw [HKS.out, List.take_of_length_le (Nat.le_refl _)] at this; exact this⟩
      go_wp2_with fail
      go_ret
      exact ⟨_, p, cs, rfl, HOE.out, HBW.out⟩
theorem not_formZ {l : List CX} (h : formC l = true → False) : formC l = false := by
  cases e : formC l with
  | false => rfl
  | true => exact (h e).elim
theorem up_stepZ {nm : List ByteArray} (h : ∀ (q : Nat) a b, nm[q]? = some a → nm[q + 1]? = some b → strLt a b = true) : upZ nm := rises_upZ (rises_at h)
theorem up_nextZ {nm : List ByteArray} (h : upZ nm) {q : Nat} {a b : ByteArray} (ha : nm[q]? = some a) (hb : nm[q + 1]? = some b) : strLt a b = true := upZ_lt h (Nat.lt_succ_self q) ha hb
set_option maxRecDepth 100000 in
set_option maxHeartbeats 32000000 in
theorem rFormedC_any (l : List CX) (v : Value) (w : World) (h : CatAt (cf w) l v) (hsm : SmallC l) (hns : (spacesC l).length ≤ 1000000) :
    Calls Tryz.prog 18 #[v] w fun e w' => e = .returned (.bool (formC l)) ∧ Below w.heap.size w w' := by
  have HCA := Hold.mk h
  obtain ⟨a, cap, W0, rfl, hW0, hz0, hb0, hk0, hle, hcap, hel⟩ := boxed_cat h
  have HE := Hold.mk hel
  have HSM := Hold.mk hsm
  have HNS := Hold.mk hns
  have HB0 := Hold.mk hb0
  have HK0 := Hold.mk hk0
  have y0 : W0.cell? ⟨w.heap.size, 0, none⟩ = some (.slice a l.length cap) := by simp [World.cell?, hk0]
  clear hel hsm hns hb0 hk0 h hz0
  go_enter Tryz.func18, Tryz.ntmps18
  go_upto_region 1 with (fail)
  rw [← hW0]
  clear hW0
  by_cases hl : l.length ≤ 4
  case neg =>
    have hl2 : (4 : Int) < (l.length : Int) := by omega
    have HR : Hold (formC l = false) := ⟨not_formZ fun h => hl (formC_iff.1 h).1⟩
    go_wp2_with fail
    go_ret
    exact ⟨by rw [HR.out]; rfl, HB0.out⟩
  have hl2 : ¬ (4 : Int) < (l.length : Int) := by omega
  have HL := Hold.mk hl
  go_upto_region 3 with (fail)
  clear y0 hl hl2
  go_wp2_with fail
  go_loopw [3] (fun i wr => ∃ j : Nat, i = .int .i64 j ∧ j ≤ l.length ∧ (∀ (q : Nat) x, q < j → l[q]? = some x → formX x = true) ∧ (∀ (q : Nat) x y, q + 1 < j → l[q]? = some x → l[q + 1]? = some y → strLt x.name y.name = true) ∧ Below W0.heap.size W0 wr) (fun i _ => l.length - (intOf i).toNat)
  case atStart => exact ⟨0, rfl, Nat.zero_le _, fun q x hq => by omega, fun q x y hq => by omega, Below.refl _ _⟩
  case round =>
    obtain ⟨j, rfl, hj, hfx, hup, hb⟩ := hrel
    have HFX := Hold.mk hfx
    have HUP := Hold.mk hup
    have HB := Hold.mk hb
    have y0 : wr.cell? ⟨w.heap.size, 0, none⟩ = some (.slice a l.length cap) := by
      have := kept HK0.out hb
      simp [World.cell?, this]
    clear hfx hup hb
    by_cases hlt : j < l.length
    · obtain ⟨x, hx⟩ : ∃ x, l[j]? = some x := ⟨l[j], List.getElem?_eq_getElem hlt⟩
      obtain ⟨b, off, d, rfl, hd, hcc, xa, xcap, rfl, hxn, hxw, hxi⟩ := HE.out j x hx
      have HXE := Hold.mk hx
      have HXI := Hold.mk hxi
      have HXM := Hold.mk (List.mem_of_getElem? hx)
      have HSX := Hold.mk (HSM.out x (List.mem_of_getElem? hx))
      have hxl : x.ixs.length ≤ xcap ∧ xcap ≤ 9223372036854775807 := by
        obtain ⟨_, _, e, h1, h2, _⟩ := hxi
        cases e; exact ⟨h1, h2⟩
      obtain ⟨hxl1, hxl2⟩ := hxl
      have HPREV : Hold (∀ (i : Nat), j = i + 1 → ∃ px : CX, l[i]? = some px ∧ ∀ wn, Below W0.heap.size W0 wn → wn.cell? ⟨b, off + i * 3, none⟩ = some (.string px.name)) := ⟨fun i hi => by
        obtain ⟨px, hpx⟩ : ∃ px, l[i]? = some px := ⟨l[i], List.getElem?_eq_getElem (by omega)⟩
        obtain ⟨b', off', d', e, hd', hcc', xa', xcap', rfl, _⟩ := HE.out i px hpx
        cases e
        exact ⟨px, hpx, fun wn hb => cle_below (HB0.out.trans (hb.mono HB0.out.size)) _ _ _ (hcc' 0 _ rfl)⟩⟩
      obtain ⟨x0, hx0⟩ : ∃ x0, x0 = x := ⟨_, rfl⟩
      rw [← hx0] at HXE HXM
      obtain ⟨nm, sp, xs⟩ := x
      have HX0 := Hold.mk hx0
      simp only at *
      have hcl := cle_below (HB0.out.trans (HB.out.mono HB0.out.size))
      have z0 := hcl _ _ _ (hcc 0 _ rfl)
      have z1 := hcl _ _ _ (hcc 1 _ rfl)
      have z2 := hcl _ _ _ (hcc 2 _ rfl)
      unfold cf at z0 z1 z2
      rw [Nat.add_zero] at z0
      obtain ⟨xb, hxb⟩ : ∃ xb, xb = wr.heap.size := ⟨_, rfl⟩
      obtain ⟨W1, hW1⟩ : ∃ W1, W1 = wr.alloc (.cells #[.string nm, .int .i64 sp, .slice xa xs.length xcap] 77) := ⟨_, rfl⟩
      have hb1 : Below wr.heap.size wr W1 := by rw [hW1]; exact (Below.refl _ wr).alloc (Nat.le_refl _) _
      have HK1 : Hold (W1.heap[xb]? = some (.cells #[.string nm, .int .i64 sp, .slice xa xs.length xcap] 77 (0, 0))) := ⟨by rw [hW1, hxb]; exact heap_alloc_new wr _⟩
      have HB1 := Hold.mk (HB.out.trans (hb1.mono HB.out.size))
      have HNM := Hold.mk (Calls.grow (fun e : Grow W1 => (rName_any nm e.val hxn).mono fun r w' ⟨h1, h2⟩ => (⟨h1, by rw [← h2]; exact Below.refl _ _⟩ : r = .returned (.bool (nameF nm)) ∧ Below e.val.heap.size e.val w')))
      clear hd hcc hxn hxw hxi hcl hx hb1 hx0
      go_upto_region 7 with (fail)
      rw [← hW1, ← hxb]
      clear hW1 hxb y0 z0 z1 z2
      obtain ⟨x0', x1', x2'⟩ := cells_three HK1.out
      have y0 : W1.cell? ⟨w.heap.size, 0, none⟩ = some (.slice (some ⟨b, off, none⟩) l.length cap) := by
        have := kept HK0.out HB1.out
        simp [World.cell?, this]
      have g0 := Grow.cell x0'
      have g2 := Grow.cell x2'
      have gc := Grow.cell y0
      clear x0' x1' x2' y0
      cases hnf : nameF nm with
      | false =>
        rw [hnf] at HNM
        have HR : Hold (formC l = false) := ⟨not_formZ fun h => by
          have := (formX_iff.1 ((formC_iff.1 h).2.2.1 _ HXM.out)).1
          rw [HX0.out] at this
          simp only at this
          rw [hnf] at this; cases this⟩
        clear hnf
        go_upto_region 7 with (fail)
        refine wp_region_grow (by kernel_rfl) (by kernel_rfl) ?_
        repeat (go_big_quiet_step (exact HNM.out _))
        refine wpQuiet_nil ?_
        rintro ⟨w9, hb9⟩
        simp only
        have HBE := Hold.mk (HB0.out.trans ((HB1.out.trans (hb9.mono HB1.out.size)).mono HB0.out.size))
        clear hb9 g0 g2 gc HNM
        go_wp2_with fail
        go_ret
        exact ⟨by rw [HR.out]; rfl, HBE.out⟩
      | true =>
      rw [hnf] at HNM
      have HNF := Hold.mk hnf
      clear hnf
      have HEX : Hold (strLt nm nm = false) := ⟨strLtZ_irrefl _⟩
      by_cases hj0 : j = 0
      · subst hj0
        by_cases hx4 : xs.length ≤ 4
        · have hx5 : ¬ (4 : Int) < (xs.length : Int) := by omega
          have HUP2 : Hold (∀ (q : Nat) x y, q + 1 < 0 + 1 → l[q]? = some x → l[q + 1]? = some y → strLt x.name y.name = true) := ⟨fun q x y hq => by omega⟩
          have HX4 := Hold.mk hx4
          clear hx4
          go_upto_region 7 with (fail)
          refine wp_region_grow (by kernel_rfl) (by kernel_rfl) ?_
          repeat (go_big_quiet_step (exact HNM.out _))
          refine wpQuiet_nil ?_
          rintro ⟨w9, hb9⟩
          simp only
          have HB9 := Hold.mk (HB1.out.trans (hb9.mono HB1.out.size))
          have HK9 := Hold.mk (kept HK1.out hb9)
          clear hb9 g0 g2 gc HNM hx5
          obtain ⟨_, _, x2'⟩ := cells_three HK9.out
          go_upto_region 9 with (fail)
          clear x2'
          go_wp2_with fail
          go_loopw [5] (fun i wq => ∃ q : Nat, i = .int .i64 q ∧ q ≤ xs.length ∧ (∀ (r : Nat) p, r < q → xs[r]? = some p → formI p.ix = true) ∧ (∀ (r : Nat) p p', r + 1 < q → xs[r]? = some p → xs[r + 1]? = some p' → strLt p.ix.name p'.ix.name = true) ∧ Below w9.heap.size w9 wq) (fun i _ => xs.length - (intOf i).toNat)
          case atStart => exact ⟨0, rfl, Nat.zero_le _, fun r p hr => by omega, fun r p p' hr => by omega, Below.refl _ _⟩
          case round =>
            rename World => wq
            obtain ⟨q, rfl, hq, hfi, hui, hbq⟩ := hrel
            have HFI := Hold.mk hfi
            have HUI := Hold.mk hui
            have HBQ := Hold.mk hbq
            have HBA := Hold.mk (HB9.out.trans (hbq.mono HB9.out.size))
            obtain ⟨_, _, x2'⟩ := cells_three (kept HK9.out hbq)
            clear hfi hui hbq
            by_cases hlt2 : q < xs.length
            · obtain ⟨p, hp⟩ : ∃ p, xs[q]? = some p := ⟨xs[q], List.getElem?_eq_getElem hlt2⟩
              obtain ⟨_, _, e, _, _, hxel⟩ := HXI.out
              cases e
              obtain ⟨b2, off2, d2, rfl, hd2, hcc2, fa, fcap, rfl, hpnm, hpf, hpw⟩ := hxel q p hp
              have HPREV2 : Hold (∀ (i : Nat), q = i + 1 → ∃ px : PX, xs[i]? = some px ∧ ∀ wn, Below W0.heap.size W0 wn → wn.cell? ⟨b2, off2 + i * 4, none⟩ = some (.string px.ix.name)) := ⟨fun i hi => by
                obtain ⟨px, hpx⟩ : ∃ px, xs[i]? = some px := ⟨xs[i], List.getElem?_eq_getElem (by omega)⟩
                obtain ⟨b', off', d', e, hd', hcc', xa', xcap', rfl, _⟩ := hxel i px hpx
                cases e
                exact ⟨px, hpx, fun wn hb => cle_below (HB0.out.trans (hb.mono HB0.out.size)) _ _ _ (hcc' 0 _ rfl)⟩⟩
              have hcl := cle_below (HB0.out.trans (HBA.out.mono HB0.out.size))
              have p0 := hcl _ _ _ (hcc2 0 _ rfl)
              have p1 := hcl _ _ _ (hcc2 1 _ rfl)
              have p2 := hcl _ _ _ (hcc2 2 _ rfl)
              unfold cf at p0 p1 p2
              rw [Nat.add_zero] at p0
              have HPE := Hold.mk hp
              have HPM : Hold (p ∈ xs) := ⟨List.mem_of_getElem? hp⟩
              have HSI := Hold.mk (Calls.grow (fun e : Grow wq => rFormedI_any p.ix (.agg #[.string p.ix.name, .slice fa p.ix.fields.length fcap, .bool p.ix.uniq]) e.val ⟨hpnm, _, rfl, (hpf.mono hcl).mono (cle_below e.2)⟩ (HSX.out p (List.mem_of_getElem? hp))))
              obtain ⟨p0', hp0⟩ : ∃ p0', p0' = p := ⟨_, rfl⟩
              have HP0 := Hold.mk hp0
              rw [← hp0] at HPE HPM
              obtain ⟨⟨iname, fl, u⟩, isp⟩ := p
              simp only at *
              have g0 := Grow.cell p0
              have g1 := Grow.cell p1
              have g2 := Grow.cell p2
              have gx := Grow.cell x2'
              clear hd2 hcc2 hpnm hpf hpw hcl hp p0 p1 p2 hxel hp0
              cases hfo : formI ⟨iname, fl, u⟩ with
              | false =>
                rw [hfo] at HSI
                have HR : Hold (formC l = false) := ⟨not_formZ fun h => by
                  have h1 := (formX_iff.1 ((formC_iff.1 h).2.2.1 _ HXM.out)).2.2.2
                  rw [HX0.out] at h1
                  have := h1 _ HPM.out
                  rw [HP0.out] at this
                  simp only at this
                  rw [hfo] at this; cases this⟩
                clear hfo
                go_upto_region 12 with (fail)
                refine wp_region_grow (by kernel_rfl) (by kernel_rfl) ?_
                repeat (go_big_quiet_step (exact HSI.out _))
                refine wpQuiet_nil ?_
                rintro ⟨wz, hbz⟩
                simp only
                have HBE := Hold.mk (HB0.out.trans ((HBA.out.trans (hbz.mono HBA.out.size)).mono HB0.out.size))
                clear hbz g0 g1 g2 gx HSI
                go_wp2_with fail
                go_ret
                exact ⟨by rw [HR.out]; rfl, HBE.out⟩
              | true =>
              rw [hfo] at HSI
              have HFI2 : Hold (∀ (r : Nat) p, r < q + 1 → xs[r]? = some p → formI p.ix = true) := ⟨fun r p hr hp => by
                by_cases e : r = q
                · subst e
                  rw [HPE.out] at hp
                  obtain rfl := Option.some.inj hp
                  rw [HP0.out]; exact hfo
                · exact HFI.out r p (by omega) hp⟩
              clear hfo
              by_cases hq0 : q = 0
              · subst hq0
                simp only [Nat.zero_mul, Nat.add_zero] at g0 g1 g2
                go_upto_region 12 with (fail)
                refine wp_region_grow (by kernel_rfl) (by kernel_rfl) ?_
                repeat (go_big_quiet_step (exact HSI.out _))
                refine wpQuiet_nil ?_
                rintro ⟨wz, hbz⟩
                simp only
                have HBZ := Hold.mk (HBQ.out.trans (hbz.mono HBQ.out.size))
                clear hbz g0 g1 g2 gx HSI
                go_wp2_with fail
                exact ⟨⟨1, by simp, hlt2, HFI2.out, fun r p p' hr => by omega, HBZ.out⟩, by simp [intOf]; omega⟩
              · obtain ⟨t, rfl⟩ : ∃ t, q = t + 1 := ⟨q - 1, by omega⟩
                obtain ⟨py, hpy, hpc⟩ := HPREV2.out t rfl
                have HPY := Hold.mk hpy
                have gp := Grow.cell (hpc wq HBA.out)
                have htl : (t : Int) < (xs.length : Int) := by omega
                have ht1 : (0 : Int) < (t : Int) + 1 := by omega
                clear hpy hpc
                cases hls : strLt py.ix.name iname with
                | false =>
                  have hlt3 : Op.bytesLess py.ix.name.toList iname.toList = false := hls
                  have HR : Hold (formC l = false) := ⟨not_formZ fun h => by
                    have h1 := (formX_iff.1 ((formC_iff.1 h).2.2.1 _ HXM.out)).2.2.1
                    rw [HX0.out] at h1
                    have := up_nextZ h1 (q := t) (a := py.ix.name) (b := p0'.ix.name) (by rw [List.getElem?_map, HPY.out]; rfl) (by rw [List.getElem?_map, HPE.out]; rfl)
                    rw [HP0.out] at this
                    simp only at this
                    rw [hls] at this; cases this⟩
                  clear hls
                  go_upto_region 12 with (fail)
                  refine wp_region_grow (by kernel_rfl) (by kernel_rfl) ?_
                  repeat (go_big_quiet_step (exact HSI.out _))
                  refine wpQuiet_nil ?_
                  rintro ⟨wz, hbz⟩
                  simp only
                  have HBE := Hold.mk (HB0.out.trans ((HBA.out.trans (hbz.mono HBA.out.size)).mono HB0.out.size))
                  clear hbz g0 g1 g2 gx gp HSI
                  go_wp2_with fail
                  go_ret
                  exact ⟨by rw [HR.out]; rfl, HBE.out⟩
                | true =>
                  have hlt3 : Op.bytesLess py.ix.name.toList iname.toList = true := hls
                  have HUI2 : Hold (∀ (r : Nat) p p', r + 1 < t + 1 + 1 → xs[r]? = some p → xs[r + 1]? = some p' → strLt p.ix.name p'.ix.name = true) := ⟨fun r p p' hr hp hp' => by
                    by_cases e : r = t
                    · subst e
                      rw [HPY.out] at hp
                      rw [HPE.out] at hp'
                      obtain rfl := Option.some.inj hp
                      obtain rfl := Option.some.inj hp'
                      rw [HP0.out]; exact hls
                    · exact HUI.out r p p' (by omega) hp hp'⟩
                  clear hls
                  go_upto_region 12 with (fail)
                  refine wp_region_grow (by kernel_rfl) (by kernel_rfl) ?_
                  repeat (go_big_quiet_step (exact HSI.out _))
                  refine wpQuiet_nil ?_
                  rintro ⟨wz, hbz⟩
                  simp only
                  have HBZ := Hold.mk (HBQ.out.trans (hbz.mono HBQ.out.size))
                  clear hbz g0 g1 g2 gx gp HSI hlt3 htl ht1
                  go_wp2_with fail
                  exact ⟨⟨t + 1 + 1, by go_num, hlt2, HFI2.out, HUI2.out, HBZ.out⟩, by simp [intOf]; omega⟩
            · obtain rfl : q = xs.length := by omega
              have HFX2 : Hold (∀ (q : Nat) x, q < 0 + 1 → l[q]? = some x → formX x = true) := ⟨fun q x hq hx => by
                by_cases e : q = 0
                · subst e
                  rw [HXE.out] at hx
                  obtain rfl := Option.some.inj hx
                  rw [HX0.out]
                  refine formX_iff.2 ⟨HNF.out, HX4.out, up_stepZ fun r a b ha hb => ?_, fun p hp => ?_⟩
                  · rw [List.getElem?_map, Option.map_eq_some_iff] at ha hb
                    obtain ⟨p, hp, rfl⟩ := ha
                    obtain ⟨p', hp', rfl⟩ := hb
                    exact HUI.out r p p' (List.getElem?_eq_some_iff.1 hp').1 hp hp'
                  · obtain ⟨r, hr⟩ := List.getElem?_of_mem hp
                    exact HFI.out r p (List.getElem?_eq_some_iff.1 hr).1 hr
                · exact HFX.out q x (by omega) hx⟩
              go_wp2_with fail
              exact ⟨⟨0 + 1, by simp, hlt, HFX2.out, HUP2.out, HBA.out⟩, by simp [intOf]; omega⟩
        · have hx5 : (4 : Int) < (xs.length : Int) := by omega
          have HR : Hold (formC l = false) := ⟨not_formZ fun h => by
            have := (formX_iff.1 ((formC_iff.1 h).2.2.1 _ HXM.out)).2.1
            rw [HX0.out] at this
            exact hx4 this⟩
          clear hx4
          go_upto_region 7 with (fail)
          refine wp_region_grow (by kernel_rfl) (by kernel_rfl) ?_
          repeat (go_big_quiet_step (exact HNM.out _))
          refine wpQuiet_nil ?_
          rintro ⟨w9, hb9⟩
          simp only
          have HBE := Hold.mk (HB0.out.trans ((HB1.out.trans (hb9.mono HB1.out.size)).mono HB0.out.size))
          clear hb9 g0 g2 gc HNM
          go_wp2_with fail
          go_ret
          exact ⟨by rw [HR.out]; rfl, HBE.out⟩
      · obtain ⟨i, rfl⟩ : ∃ i, j = i + 1 := ⟨j - 1, by omega⟩
        obtain ⟨px, hpx, hpc⟩ := HPREV.out i rfl
        have HPX := Hold.mk hpx
        have gp := Grow.cell (hpc W1 HB1.out)
        have hil : (i : Int) < (l.length : Int) := by omega
        have hi1 : (0 : Int) < (i : Int) + 1 := by omega
        clear hpx hpc
        cases hls : strLt px.name nm with
        | false =>
          have hlt2 : Op.bytesLess px.name.toList nm.toList = false := hls
          have HR : Hold (formC l = false) := ⟨not_formZ fun h => by
            have := up_nextZ (formC_iff.1 h).2.1 (q := i) (a := px.name) (b := x0.name) (by rw [List.getElem?_map, HPX.out]; rfl) (by rw [List.getElem?_map, HXE.out]; rfl)
            rw [HX0.out] at this
            simp only at this
            rw [hls] at this; cases this⟩
          clear hls
          go_upto_region 7 with (fail)
          refine wp_region_grow (by kernel_rfl) (by kernel_rfl) ?_
          repeat (go_big_quiet_step (exact HNM.out _))
          refine wpQuiet_nil ?_
          rintro ⟨w9, hb9⟩
          simp only
          have HBE := Hold.mk (HB0.out.trans ((HB1.out.trans (hb9.mono HB1.out.size)).mono HB0.out.size))
          clear hb9 g0 g2 gc gp HNM
          go_wp2_with fail
          go_ret
          exact ⟨by rw [HR.out]; rfl, HBE.out⟩
        | true =>
          have hlt2 : Op.bytesLess px.name.toList nm.toList = true := hls
          have HUP2 : Hold (∀ (q : Nat) x y, q + 1 < i + 1 + 1 → l[q]? = some x → l[q + 1]? = some y → strLt x.name y.name = true) := ⟨fun q x y hq hx hy => by
            by_cases e : q = i
            · subst e
              rw [HPX.out] at hx
              rw [HXE.out] at hy
              obtain rfl := Option.some.inj hx
              obtain rfl := Option.some.inj hy
              rw [HX0.out]; exact hls
            · exact HUP.out q x y (by omega) hx hy⟩
          clear hls
          by_cases hx4 : xs.length ≤ 4
          · have hx5 : ¬ (4 : Int) < (xs.length : Int) := by omega
            have HX4 := Hold.mk hx4
            clear hx4
            go_upto_region 7 with (fail)
            refine wp_region_grow (by kernel_rfl) (by kernel_rfl) ?_
            repeat (go_big_quiet_step (exact HNM.out _))
            refine wpQuiet_nil ?_
            rintro ⟨w9, hb9⟩
            simp only
            have HB9 := Hold.mk (HB1.out.trans (hb9.mono HB1.out.size))
            have HK9 := Hold.mk (kept HK1.out hb9)
            clear hb9 g0 g2 gc gp HNM hx5 hlt2 hil hi1
            obtain ⟨_, _, x2'⟩ := cells_three HK9.out
            go_upto_region 9 with (fail)
            clear x2'
            go_wp2_with fail
            go_loopw [5] (fun i wq => ∃ q : Nat, i = .int .i64 q ∧ q ≤ xs.length ∧ (∀ (r : Nat) p, r < q → xs[r]? = some p → formI p.ix = true) ∧ (∀ (r : Nat) p p', r + 1 < q → xs[r]? = some p → xs[r + 1]? = some p' → strLt p.ix.name p'.ix.name = true) ∧ Below w9.heap.size w9 wq) (fun i _ => xs.length - (intOf i).toNat)
            case atStart => exact ⟨0, rfl, Nat.zero_le _, fun r p hr => by omega, fun r p p' hr => by omega, Below.refl _ _⟩
            case round =>
              rename World => wq
              obtain ⟨q, rfl, hq, hfi, hui, hbq⟩ := hrel
              have HFI := Hold.mk hfi
              have HUI := Hold.mk hui
              have HBQ := Hold.mk hbq
              have HBA := Hold.mk (HB9.out.trans (hbq.mono HB9.out.size))
              obtain ⟨_, _, x2'⟩ := cells_three (kept HK9.out hbq)
              clear hfi hui hbq
              by_cases hlt2 : q < xs.length
              · obtain ⟨p, hp⟩ : ∃ p, xs[q]? = some p := ⟨xs[q], List.getElem?_eq_getElem hlt2⟩
                obtain ⟨_, _, e, _, _, hxel⟩ := HXI.out
                cases e
                obtain ⟨b2, off2, d2, rfl, hd2, hcc2, fa, fcap, rfl, hpnm, hpf, hpw⟩ := hxel q p hp
                have HPREV2 : Hold (∀ (i : Nat), q = i + 1 → ∃ px : PX, xs[i]? = some px ∧ ∀ wn, Below W0.heap.size W0 wn → wn.cell? ⟨b2, off2 + i * 4, none⟩ = some (.string px.ix.name)) := ⟨fun i hi => by
                  obtain ⟨px, hpx⟩ : ∃ px, xs[i]? = some px := ⟨xs[i], List.getElem?_eq_getElem (by omega)⟩
                  obtain ⟨b', off', d', e, hd', hcc', xa', xcap', rfl, _⟩ := hxel i px hpx
                  cases e
                  exact ⟨px, hpx, fun wn hb => cle_below (HB0.out.trans (hb.mono HB0.out.size)) _ _ _ (hcc' 0 _ rfl)⟩⟩
                have hcl := cle_below (HB0.out.trans (HBA.out.mono HB0.out.size))
                have p0 := hcl _ _ _ (hcc2 0 _ rfl)
                have p1 := hcl _ _ _ (hcc2 1 _ rfl)
                have p2 := hcl _ _ _ (hcc2 2 _ rfl)
                unfold cf at p0 p1 p2
                rw [Nat.add_zero] at p0
                have HPE := Hold.mk hp
                have HPM : Hold (p ∈ xs) := ⟨List.mem_of_getElem? hp⟩
                have HSI := Hold.mk (Calls.grow (fun e : Grow wq => rFormedI_any p.ix (.agg #[.string p.ix.name, .slice fa p.ix.fields.length fcap, .bool p.ix.uniq]) e.val ⟨hpnm, _, rfl, (hpf.mono hcl).mono (cle_below e.2)⟩ (HSX.out p (List.mem_of_getElem? hp))))
                obtain ⟨p0', hp0⟩ : ∃ p0', p0' = p := ⟨_, rfl⟩
                have HP0 := Hold.mk hp0
                rw [← hp0] at HPE HPM
                obtain ⟨⟨iname, fl, u⟩, isp⟩ := p
                simp only at *
                have g0 := Grow.cell p0
                have g1 := Grow.cell p1
                have g2 := Grow.cell p2
                have gx := Grow.cell x2'
                clear hd2 hcc2 hpnm hpf hpw hcl hp p0 p1 p2 hxel hp0
                cases hfo : formI ⟨iname, fl, u⟩ with
                | false =>
                  rw [hfo] at HSI
                  have HR : Hold (formC l = false) := ⟨not_formZ fun h => by
                    have h1 := (formX_iff.1 ((formC_iff.1 h).2.2.1 _ HXM.out)).2.2.2
                    rw [HX0.out] at h1
                    have := h1 _ HPM.out
                    rw [HP0.out] at this
                    simp only at this
                    rw [hfo] at this; cases this⟩
                  clear hfo
                  go_upto_region 12 with (fail)
                  refine wp_region_grow (by kernel_rfl) (by kernel_rfl) ?_
                  repeat (go_big_quiet_step (exact HSI.out _))
                  refine wpQuiet_nil ?_
                  rintro ⟨wz, hbz⟩
                  simp only
                  have HBE := Hold.mk (HB0.out.trans ((HBA.out.trans (hbz.mono HBA.out.size)).mono HB0.out.size))
                  clear hbz g0 g1 g2 gx HSI
                  go_wp2_with fail
                  go_ret
                  exact ⟨by rw [HR.out]; rfl, HBE.out⟩
                | true =>
                rw [hfo] at HSI
                have HFI2 : Hold (∀ (r : Nat) p, r < q + 1 → xs[r]? = some p → formI p.ix = true) := ⟨fun r p hr hp => by
                  by_cases e : r = q
                  · subst e
                    rw [HPE.out] at hp
                    obtain rfl := Option.some.inj hp
                    rw [HP0.out]; exact hfo
                  · exact HFI.out r p (by omega) hp⟩
                clear hfo
                by_cases hq0 : q = 0
                · subst hq0
                  simp only [Nat.zero_mul, Nat.add_zero] at g0 g1 g2
                  go_upto_region 12 with (fail)
                  refine wp_region_grow (by kernel_rfl) (by kernel_rfl) ?_
                  repeat (go_big_quiet_step (exact HSI.out _))
                  refine wpQuiet_nil ?_
                  rintro ⟨wz, hbz⟩
                  simp only
                  have HBZ := Hold.mk (HBQ.out.trans (hbz.mono HBQ.out.size))
                  clear hbz g0 g1 g2 gx HSI
                  go_wp2_with fail
                  exact ⟨⟨1, by simp, hlt2, HFI2.out, fun r p p' hr => by omega, HBZ.out⟩, by simp [intOf]; omega⟩
                · obtain ⟨t, rfl⟩ : ∃ t, q = t + 1 := ⟨q - 1, by omega⟩
                  obtain ⟨py, hpy, hpc⟩ := HPREV2.out t rfl
                  have HPY := Hold.mk hpy
                  have gp := Grow.cell (hpc wq HBA.out)
                  have htl : (t : Int) < (xs.length : Int) := by omega
                  have ht1 : (0 : Int) < (t : Int) + 1 := by omega
                  clear hpy hpc
                  cases hls : strLt py.ix.name iname with
                  | false =>
                    have hlt3 : Op.bytesLess py.ix.name.toList iname.toList = false := hls
                    have HR : Hold (formC l = false) := ⟨not_formZ fun h => by
                      have h1 := (formX_iff.1 ((formC_iff.1 h).2.2.1 _ HXM.out)).2.2.1
                      rw [HX0.out] at h1
                      have := up_nextZ h1 (q := t) (a := py.ix.name) (b := p0'.ix.name) (by rw [List.getElem?_map, HPY.out]; rfl) (by rw [List.getElem?_map, HPE.out]; rfl)
                      rw [HP0.out] at this
                      simp only at this
                      rw [hls] at this; cases this⟩
                    clear hls
                    go_upto_region 12 with (fail)
                    refine wp_region_grow (by kernel_rfl) (by kernel_rfl) ?_
                    repeat (go_big_quiet_step (exact HSI.out _))
                    refine wpQuiet_nil ?_
                    rintro ⟨wz, hbz⟩
                    simp only
                    have HBE := Hold.mk (HB0.out.trans ((HBA.out.trans (hbz.mono HBA.out.size)).mono HB0.out.size))
                    clear hbz g0 g1 g2 gx gp HSI
                    go_wp2_with fail
                    go_ret
                    exact ⟨by rw [HR.out]; rfl, HBE.out⟩
                  | true =>
                    have hlt3 : Op.bytesLess py.ix.name.toList iname.toList = true := hls
                    have HUI2 : Hold (∀ (r : Nat) p p', r + 1 < t + 1 + 1 → xs[r]? = some p → xs[r + 1]? = some p' → strLt p.ix.name p'.ix.name = true) := ⟨fun r p p' hr hp hp' => by
                      by_cases e : r = t
                      · subst e
                        rw [HPY.out] at hp
                        rw [HPE.out] at hp'
                        obtain rfl := Option.some.inj hp
                        obtain rfl := Option.some.inj hp'
                        rw [HP0.out]; exact hls
                      · exact HUI.out r p p' (by omega) hp hp'⟩
                    clear hls
                    go_upto_region 12 with (fail)
                    refine wp_region_grow (by kernel_rfl) (by kernel_rfl) ?_
                    repeat (go_big_quiet_step (exact HSI.out _))
                    refine wpQuiet_nil ?_
                    rintro ⟨wz, hbz⟩
                    simp only
                    have HBZ := Hold.mk (HBQ.out.trans (hbz.mono HBQ.out.size))
                    clear hbz g0 g1 g2 gx gp HSI hlt3 htl ht1
                    go_wp2_with fail
                    exact ⟨⟨t + 1 + 1, by go_num, hlt2, HFI2.out, HUI2.out, HBZ.out⟩, by simp [intOf]; omega⟩
              · obtain rfl : q = xs.length := by omega
                have HFX2 : Hold (∀ (q : Nat) x, q < (i + 1) + 1 → l[q]? = some x → formX x = true) := ⟨fun q x hq hx => by
                  by_cases e : q = (i + 1)
                  · subst e
                    rw [HXE.out] at hx
                    obtain rfl := Option.some.inj hx
                    rw [HX0.out]
                    refine formX_iff.2 ⟨HNF.out, HX4.out, up_stepZ fun r a b ha hb => ?_, fun p hp => ?_⟩
                    · rw [List.getElem?_map, Option.map_eq_some_iff] at ha hb
                      obtain ⟨p, hp, rfl⟩ := ha
                      obtain ⟨p', hp', rfl⟩ := hb
                      exact HUI.out r p p' (List.getElem?_eq_some_iff.1 hp').1 hp hp'
                    · obtain ⟨r, hr⟩ := List.getElem?_of_mem hp
                      exact HFI.out r p (List.getElem?_eq_some_iff.1 hr).1 hr
                  · exact HFX.out q x (by omega) hx⟩
                go_wp2_with fail
                exact ⟨⟨(i + 1) + 1, by go_num, hlt, HFX2.out, HUP2.out, HBA.out⟩, by simp [intOf]; omega⟩
          · have hx5 : (4 : Int) < (xs.length : Int) := by omega
            have HR : Hold (formC l = false) := ⟨not_formZ fun h => by
              have := (formX_iff.1 ((formC_iff.1 h).2.2.1 _ HXM.out)).2.1
              rw [HX0.out] at this
              exact hx4 this⟩
            clear hx4
            go_upto_region 7 with (fail)
            refine wp_region_grow (by kernel_rfl) (by kernel_rfl) ?_
            repeat (go_big_quiet_step (exact HNM.out _))
            refine wpQuiet_nil ?_
            rintro ⟨w9, hb9⟩
            simp only
            have HBE := Hold.mk (HB0.out.trans ((HB1.out.trans (hb9.mono HB1.out.size)).mono HB0.out.size))
            clear hb9 g0 g2 gc gp HNM
            go_wp2_with fail
            go_ret
            exact ⟨by rw [HR.out]; rfl, HBE.out⟩
    · obtain rfl : j = l.length := by omega
      have HFA : Hold (l.length ≤ 4 ∧ upZ (namesC l) ∧ ∀ x ∈ l, formX x = true) := ⟨⟨HL.out, up_stepZ fun q a b ha hb => by
        rw [List.getElem?_map, Option.map_eq_some_iff] at ha hb
        obtain ⟨x, hx, rfl⟩ := ha
        obtain ⟨y, hy, rfl⟩ := hb
        exact HUP.out q x y (List.getElem?_eq_some_iff.1 hy).1 hx hy, fun x hx => by
        obtain ⟨q, hq⟩ := List.getElem?_of_mem hx
        exact HFX.out q x (List.getElem?_eq_some_iff.1 hq).1 hq⟩⟩
      have HSP := Hold.mk (rSpaces_any l (.agg #[.slice a l.length cap]) wr (HCA.out.mono (cle_below (HB0.out.trans (HB.out.mono HB0.out.size)))) HNS.out)
      have HFC : Hold (formC l = spacesOk (spacesC l)) := ⟨by
        cases e : spacesOk (spacesC l) with
        | true => exact formC_iff.2 ⟨HFA.out.1, HFA.out.2.1, HFA.out.2.2, e⟩
        | false => exact not_formZ fun h => by rw [(formC_iff.1 h).2.2.2] at e; cases e⟩
      obtain ⟨zs, hzs⟩ : ∃ zs, zs = spacesC l := ⟨_, rfl⟩
      rw [← hzs] at HSP HFC
      clear hzs
      go_wp2_with fail
      refine HSP.out.mono ?_
      rintro e w8 ⟨sv, p, cs, rfl, hown, hb8⟩
      obtain ⟨sva, svcap, rfl⟩ := hown.shape
      have hpl := hown.len
      have HOI := Hold.mk (owns_ints hown)
      have HOW := Hold.mk hown.own
      subst hpl
      have HB8 := Hold.mk (HB0.out.trans ((HB.out.trans (hb8.mono HB.out.size)).mono HB0.out.size))
      have hsvc : zs.length ≤ svcap ∧ svcap ≤ 9223372036854775807 := by
        rcases hown.own.2 with ⟨hv, hn⟩ | ⟨g, cap, cur, hv, _, _, h2, h3, _⟩
        · injection hv with _ e2 e3; omega
        · injection hv with _ e2 e3; unfold maxLen at h3; omega
      obtain ⟨hsvc1, hsvc2⟩ := hsvc
      have HCEL : Hold (∀ wn, Below w8.heap.size w8 wn → ∀ (q : Nat) z, zs[q]? = some z → ∃ g, sva = some ⟨g, 0, none⟩ ∧ wn.cell? ⟨g, q, none⟩ = some (.int .i64 z)) := ⟨fun wn hb q z hz => by
        obtain ⟨g, rfl⟩ := own_placeZ HOW.out (by have := (List.getElem?_eq_some_iff.1 hz).1; omega)
        have := HOW.out.cells (g := g) rfl q (.int .i64 z) (by rw [HOI.out, List.getElem?_map, hz]; rfl)
        rw [addr_at] at this
        exact ⟨g, rfl, cle_below hb _ _ _ this⟩⟩
      clear hown hb8 HSP y0
      go_wp2_with fail
      go_loopw [7] (fun i wq => ∃ q : Nat, i = .int .i64 q ∧ q ≤ zs.length ∧ (∀ (r : Nat) z, r < q → zs[r]? = some z → 1 ≤ z ∧ z ≤ 200) ∧ (∀ (r t : Nat) y z, r < t → t < q → zs[r]? = some y → zs[t]? = some z → y ≠ z) ∧ Below w8.heap.size w8 wq) (fun i _ => zs.length - (intOf i).toNat)
      case atStart => exact ⟨0, rfl, Nat.zero_le _, fun r z hr => by omega, fun r t y z _ hr => by omega, Below.refl _ _⟩
      case round =>
        rename World => wq
        obtain ⟨q, rfl, hq, hbd, hne, hbq⟩ := hrel
        have HBD := Hold.mk hbd
        have HNE := Hold.mk hne
        have HBQ := Hold.mk hbq
        clear hbd hne hbq
        by_cases hlq : q < zs.length
        · obtain ⟨z, hz⟩ : ∃ z, zs[q]? = some z := ⟨zs[q], List.getElem?_eq_getElem hlq⟩
          obtain ⟨g, rfl, hcell⟩ := HCEL.out wq HBQ.out q z hz
          have HZ := Hold.mk hz
          have HBE := Hold.mk (HB8.out.trans (HBQ.out.mono HB8.out.size))
          clear hz
          by_cases hz1 : z < 1
          · have HR : Hold (formC l = false) := ⟨by
              rw [HFC.out]
              cases e : spacesOk zs with
              | false => rfl
              | true => have := (spacesOk_iff.1 e).2 z (List.mem_of_getElem? HZ.out); omega⟩
            go_wp2_with fail
            go_ret
            exact ⟨by rw [HR.out]; rfl, HBE.out⟩
          by_cases hz2 : (200 : Int) < z
          · have HR : Hold (formC l = false) := ⟨by
              rw [HFC.out]
              cases e : spacesOk zs with
              | false => rfl
              | true => have := (spacesOk_iff.1 e).2 z (List.mem_of_getElem? HZ.out); omega⟩
            go_wp2_with fail
            go_ret
            exact ⟨by rw [HR.out]; rfl, HBE.out⟩
          have HBD2 : Hold (∀ (r : Nat) y, r < q + 1 → zs[r]? = some y → 1 ≤ y ∧ y ≤ 200) := ⟨fun r y hr hy => by
            by_cases e : r = q
            · subst e
              rw [HZ.out] at hy
              obtain rfl := Option.some.inj hy
              omega
            · exact HBD.out r y (by omega) hy⟩
          go_upto_region 20 with (fail)
          clear hz1 hz2 hcell
          go_wp2_with fail
          go_loopw [8] (fun i wk => ∃ k : Nat, i = .int .i64 k ∧ k ≤ q ∧ (∀ (r : Nat) y, r < k → zs[r]? = some y → y ≠ z) ∧ Below w8.heap.size w8 wk) (fun i _ => q - (intOf i).toNat)
          case atStart => exact ⟨0, rfl, Nat.zero_le _, fun r y hr => by omega, HBQ.out⟩
          case round =>
            rename World => wk
            obtain ⟨k, rfl, hk, hnk, hbk⟩ := hrel
            have HNK := Hold.mk hnk
            have HBK := Hold.mk hbk
            clear hnk hbk
            by_cases hlk : k < q
            · obtain ⟨y, hy⟩ : ∃ y, zs[k]? = some y := ⟨zs[k], List.getElem?_eq_getElem (by omega)⟩
              obtain ⟨g1, e1, c1⟩ := HCEL.out wk HBK.out k y hy
              cases e1
              obtain ⟨g2, e2, c2⟩ := HCEL.out wk HBK.out q z HZ.out
              cases e2
              have HY := Hold.mk hy
              have g0 := Grow.cell c1
              have g1 := Grow.cell c2
              have hkl : (k : Int) < (zs.length : Int) := by omega
              clear hy c1 c2
              by_cases hyz : y = z
              · have hb : (y == z) = true := by rw [hyz]; simp
                have HR : Hold (formC l = false) := ⟨by
                  rw [HFC.out]
                  cases e : spacesOk zs with
                  | false => rfl
                  | true =>
                    have hnd := (spacesOk_iff.1 e).1
                    obtain ⟨h1, e1⟩ := List.getElem?_eq_some_iff.1 HY.out
                    obtain ⟨h2, e2⟩ := List.getElem?_eq_some_iff.1 HZ.out
                    have := List.pairwise_iff_getElem.1 hnd k q h1 h2 hlk
                    rw [e1, e2] at this
                    exact absurd hyz this⟩
                clear hyz
                go_upto_region 23 with (fail)
                refine wp_region_grow (by kernel_rfl) (by kernel_rfl) ?_
                repeat (go_big_quiet_step (fail))
                refine wpQuiet_nil ?_
                rintro ⟨w9, hb9⟩
                simp only
                have HBE2 := Hold.mk (HB8.out.trans ((HBK.out.trans (hb9.mono HBK.out.size)).mono HB8.out.size))
                clear hb9 g0 g1 hkl
                go_wp2_with fail
                go_ret
                exact ⟨by rw [HR.out]; rfl, HBE2.out⟩
              · have hb : (y == z) = false := by simpa using hyz
                have HN2 : Hold (∀ (r : Nat) u, r < k + 1 → zs[r]? = some u → u ≠ z) := ⟨fun r u hr hu => by
                  by_cases e : r = k
                  · subst e
                    rw [HY.out] at hu
                    obtain rfl := Option.some.inj hu
                    exact hyz
                  · exact HNK.out r u (by omega) hu⟩
                clear hyz
                go_upto_region 23 with (fail)
                refine wp_region_grow (by kernel_rfl) (by kernel_rfl) ?_
                repeat (go_big_quiet_step (fail))
                refine wpQuiet_nil ?_
                rintro ⟨w9, hb9⟩
                simp only
                have HBE2 := Hold.mk (HBK.out.trans (hb9.mono HBK.out.size))
                clear hb9 g0 g1 hkl
                go_wp2_with fail
                exact ⟨⟨k + 1, by go_num, hlk, HN2.out, HBE2.out⟩, by simp [intOf]; omega⟩
            · obtain rfl : k = q := by omega
              have HNE2 : Hold (∀ (r t : Nat) y u, r < t → t < k + 1 → zs[r]? = some y → zs[t]? = some u → y ≠ u) := ⟨fun r t y u hrt ht hy hu => by
                by_cases e : t = k
                · subst e
                  rw [HZ.out] at hu
                  obtain rfl := Option.some.inj hu
                  exact HNK.out r y hrt hy
                · exact HNE.out r t y u hrt (by omega) hy hu⟩
              go_wp2_with fail
              exact ⟨⟨k + 1, by go_num, hlq, HBD2.out, HNE2.out, HBK.out⟩, by simp [intOf]; omega⟩
        · obtain rfl : q = zs.length := by omega
          have HR : Hold (formC l = true) := ⟨by
            rw [HFC.out, spacesOk_iff]
            refine ⟨List.pairwise_iff_getElem.2 fun r t hr ht hrt => HNE.out r t _ _ hrt ht (List.getElem?_eq_getElem hr) (List.getElem?_eq_getElem ht), fun z hz => ?_⟩
            obtain ⟨r, hr⟩ := List.getElem?_of_mem hz
            exact HBD.out r z (List.getElem?_eq_some_iff.1 hr).1 hr⟩
          have HBE := Hold.mk (HB8.out.trans (HBQ.out.mono HB8.out.size))
          go_wp2_with fail
          go_ret
          exact ⟨by rw [HR.out]; rfl, HBE.out⟩
end Go.Proofs.YtfpphpjobkhalaaGreatDoor
