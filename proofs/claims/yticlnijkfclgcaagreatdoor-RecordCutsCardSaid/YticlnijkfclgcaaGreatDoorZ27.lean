/- Catalogs: how they lie in memory; Spaces and Find of the program. -/
import Derived.Test.YticlnijkfclgcaaGreatDoorZ01
import Derived.Test.YticlnijkfclgcaaGreatDoorZ05
import Derived.Test.YticlnijkfclgcaaGreatDoorZ26
namespace Go.Proofs.YticlnijkfclgcaaGreatDoor
open Go.RowKit

/-- an index in a space; a collection -/
structure PX where
  ix : IX
  sp : Int
structure CX where
  name : ByteArray
  sp : Int
  ixs : List PX
def RPX : Rep PX := fun c p d => ∃ a cap, d = [.string p.ix.name, .slice a p.ix.fields.length cap, .bool p.ix.uniq, .int .i64 p.sp] ∧ p.ix.name.size ≤ 9223372036854775807 ∧ FieldsAt c (.slice a p.ix.fields.length cap) p.ix.fields ∧ (Lit.int .i64 p.sp).wf = true
def RCX : Rep CX := fun c x d => ∃ a cap, d = [.string x.name, .int .i64 x.sp, .slice a x.ixs.length cap] ∧ x.name.size ≤ 9223372036854775807 ∧ (Lit.int .i64 x.sp).wf = true ∧ SAt 4 RPX c (.slice a x.ixs.length cap) x.ixs
def CatAt (c : CF) (l : List CX) (v : Value) : Prop := ∃ a cap, v = .agg #[.slice a l.length cap] ∧ SAt 3 RCX c (.slice a l.length cap) l
theorem RPX_mono : Mono RPX := fun _ _ _ _ hc ⟨a, cap, e, h1, h2, h3⟩ => ⟨a, cap, e, h1, h2.mono hc, h3⟩
theorem RCX_mono : Mono RCX := fun _ _ _ _ hc ⟨a, cap, e, h1, h2, h3⟩ => ⟨a, cap, e, h1, h2, h3.mono RPX_mono hc⟩
theorem CatAt.mono {c c' : CF} {l : List CX} {v : Value} (h : CatAt c l v) (hc : CLe c c') : CatAt c' l v := by
  obtain ⟨a, cap, e, h1⟩ := h
  exact ⟨a, cap, e, h1.mono RCX_mono hc⟩
def RInt : Rep Int := fun _ n d => d = [.int .i64 n]
theorem RInt_mono : Mono RInt := fun _ _ _ _ _ h => h
/-- all spaces -/
def spacesX (x : CX) : List Int := x.sp :: x.ixs.map (·.sp)
def spacesC (l : List CX) : List Int := l.flatMap spacesX
theorem infoInt : (Tryz.prog.info? 3).map (fun i => (i.zero, i.size, i.bytes)) = some (some (.int .i64 0), 1, 8) := by kernel_rfl
theorem spaces_step {l : List CX} {j : Nat} {x : CX} (h : l[j]? = some x) : spacesC (l.take (j + 1)) = spacesC (l.take j) ++ spacesX x := by
  unfold spacesC
  rw [take_succ h, List.flatMap_append]; simp
theorem spaces_take (l : List CX) (j : Nat) : (spacesC (l.take j)).length ≤ (spacesC l).length := by
  have h : spacesC l = spacesC (l.take j) ++ spacesC (l.drop j) := by unfold spacesC; rw [← List.flatMap_append, List.take_append_drop]
  rw [h, List.length_append]; omega
set_option maxRecDepth 100000 in
set_option maxHeartbeats 16000000 in
theorem Spaces_any (l : List CX) (v : Value) (w : World) (h : CatAt (cf w) l v) (hn : (spacesC l).length ≤ 1000000) :
    Calls Tryz.prog 76 #[v] w fun e w' => ∃ sv p cs, e = .returned sv ∧ OwnS 1 RInt 3 w.heap.size w' sv p (spacesC l) cs ∧ Below w.heap.size w w' := by
  obtain ⟨a, cap, rfl, a', cap', e, hle, hcap, hel⟩ := h
  cases e
  have HE := Hold.mk hel
  have HN := Hold.mk hn
  obtain ⟨W0, hW0⟩ : ∃ W0, W0 = w.alloc (.cells #[.slice a l.length cap] 63) := ⟨_, rfl⟩
  have hb0 : Below w.heap.size w W0 := by rw [hW0]; exact (Below.refl _ w).alloc (Nat.le_refl _) _
  have hk : W0.heap[w.heap.size]? = some (.cells #[.slice a l.length cap] 63 (0, 0)) := by rw [hW0]; exact heap_alloc_new w _
  have y0 : W0.cell? ⟨w.heap.size, 0, none⟩ = some (.slice a l.length cap) := by simp [World.cell?, hk]
  have HB0 := Hold.mk hb0
  have HO0 : Hold (OwnS 1 RInt 3 w.heap.size W0 (.slice none 0 0) 0 (spacesC (l.take 0)) []) := ⟨by
    have := OwnS.start 1 RInt 3 (B := w.heap.size) (w := W0) hb0.size
    simpa [spacesC] using this⟩
  clear hel hn hb0 hk
  go_enter Tryz.func76, Tryz.ntmps76
  go_upto_region 1 with (fail)
  rw [← hW0]
  clear hW0
  go_wp2_with fail
  clear y0
  go_loopw [3, 11] (fun sl i wr => ∃ (j p : Nat) (cs : List Value), i = .int .i64 j ∧ j ≤ l.length ∧ OwnS 1 RInt 3 w.heap.size wr sl p (spacesC (l.take j)) cs ∧ Below w.heap.size w wr) (fun _ i _ => l.length - (intOf i).toNat)
  case atStart => exact ⟨0, 0, [], rfl, Nat.zero_le _, HO0.out, HB0.out⟩
  case round =>
    obtain ⟨j, p, cs, rfl, hj, hown, hbl⟩ := hrel
    obtain ⟨sa, scap, rfl⟩ := hown.shape
    obtain ⟨ks, hks⟩ : ∃ ks, ks = spacesC (l.take j) := ⟨_, rfl⟩
    rw [← hks] at hown
    have HKS := Hold.mk hks
    have HO := Hold.mk hown
    have HB := Hold.mk hbl
    clear hown hbl HO0 HB0 hks
    by_cases hlt : j < l.length
    · obtain ⟨x, hx⟩ : ∃ x, l[j]? = some x := ⟨l[j], List.getElem?_eq_getElem hlt⟩
      obtain ⟨b, off, d, rfl, hd, hcc, xa, xcap, rfl, hxn, hxw, hxi⟩ := HE.out j x hx
      have hcl := cle_below HB.out
      have z0 := hcl _ _ _ (hcc 0 _ rfl)
      have z1 := hcl _ _ _ (hcc 1 _ rfl)
      have z2 := hcl _ _ _ (hcc 2 _ rfl)
      unfold cf at z0 z1 z2
      rw [Nat.add_zero] at z0
      have HST := Hold.mk (spaces_step hx)
      have HLE : Hold ((ks ++ spacesX x).length ≤ 1000000) := ⟨by
        have h1 := spaces_take l (j + 1)
        rw [spaces_step hx, ← HKS.out] at h1
        have := HN.out; omega⟩
      obtain ⟨_, _, e, _, hxcap, hxe⟩ := hxi
      cases e
      have HXE := Hold.mk hxe
      have hpl : p = ks.length := HO.out.len.symm
      obtain ⟨nm, sp, xs⟩ := x
      simp only at *
      obtain ⟨W1, hW1⟩ : ∃ W1, W1 = wr.alloc (.cells #[.string nm, .int .i64 sp, .slice xa xs.length xcap] 78) := ⟨_, rfl⟩
      have hb1 : Below wr.heap.size wr W1 := by rw [hW1]; exact (Below.refl _ wr).alloc (Nat.le_refl _) _
      have HK1 : Hold (W1.heap[wr.heap.size]? = some (.cells #[.string nm, .int .i64 sp, .slice xa xs.length xcap] 78 (0, 0))) := ⟨by rw [hW1]; exact heap_alloc_new wr _⟩
      have HO1 := Hold.mk (HO.out.quiet RInt_mono hb1)
      have HB1 := Hold.mk (HB.out.trans (hb1.mono HB.out.size))
      have HP1 : Hold (p + 1 + xs.length ≤ 1000000) := ⟨by have := HLE.out; rw [List.length_append] at this; unfold spacesX at this; simp at this; omega⟩
      clear hx hcc hcl hd hxe hb1 hpl
      go_upto_region 5 with (fail)
      rw [← hW1]
      clear hW1 z0 z1 z2
      obtain ⟨y0, y1, y2⟩ := cells_three HK1.out
      go_wp2_with (at_builtin; refine push_new RInt_mono rfl _ _ rfl infoInt Tryz.underlying125 rfl (by decide) _ _ _ p _ _ HO1.out rfl _ [_] rfl rfl (by simp [Value.oneCell']) sp rfl _ rfl rfl (by have := HP1.out; omega) (by decide) ?_)
      intro sl2 w2 ho2 hg2
      obtain ⟨s2a, s2c, rfl⟩ := ho2.shape
      have HB2 := Hold.mk (HB1.out.trans (HO1.out.below hg2))
      have HK2 := Hold.mk (hg2.kept HK1.out (fun g hg e => by
        subst e
        rcases HO1.out.own.2 with ⟨hv, _⟩ | ⟨g, cap, cur, hv, _, hgg, _⟩
        · rw [hv] at hg; cases hg
        · rw [hv] at hg
          have e2 := Option.some.inj hg
          simp only at e2
          rw [← e2, hgg] at HK1
          have := Option.some.inj HK1.out
          injection this with _ h2
          revert h2
          decide))
      have HO2 : Hold (OwnS 1 RInt 3 w.heap.size w2 (.slice s2a (p + 1) s2c) (p + 1) (ks ++ (sp :: ((xs.take 0).map (·.sp)))) _) := ⟨by simpa using ho2⟩
      clear ho2 hg2 y0 y1 y2
      obtain ⟨y0, y1, y2⟩ := cells_three HK2.out
      go_wp2_with fail
      clear y0 y1 y2
      go_loopw [3, 23] (fun sl i wq => ∃ (q : Nat) (cs : List Value), i = .int .i64 q ∧ q ≤ xs.length ∧ OwnS 1 RInt 3 w.heap.size wq sl (p + 1 + q) (ks ++ (sp :: ((xs.take q).map (·.sp)))) cs ∧ Below w.heap.size w wq) (fun _ i _ => xs.length - (intOf i).toNat)
      case atStart => exact ⟨0, _, rfl, Nat.zero_le _, HO2.out, HB2.out⟩
      case round =>
        rename World => wq
        obtain ⟨q, cs2, rfl, hq, hown2, hbq⟩ := hrel
        obtain ⟨ta, tcap, rfl⟩ := hown2.shape
        have HOQ := Hold.mk hown2
        have HBQ := Hold.mk hbq
        clear hown2 hbq HO2
        by_cases hlt2 : q < xs.length
        · obtain ⟨y, hy⟩ : ∃ y, xs[q]? = some y := ⟨xs[q], List.getElem?_eq_getElem hlt2⟩
          obtain ⟨yb, yoff, yd, rfl, hyd, hyc, ya, ycap, rfl, hyn, hyf, hyw⟩ := HXE.out q y hy
          have hcl := cle_below HBQ.out
          have z0 := hcl _ _ _ (hyc 0 _ rfl)
          have z1 := hcl _ _ _ (hyc 1 _ rfl)
          have z2 := hcl _ _ _ (hyc 2 _ rfl)
          have z3 := hcl _ _ _ (hyc 3 _ rfl)
          unfold cf at z0 z1 z2 z3
          rw [Nat.add_zero] at z0
          have HTQ : Hold ((xs.take (q + 1)).map (·.sp) = (xs.take q).map (·.sp) ++ [y.sp]) := ⟨by rw [take_succ hy, List.map_append]; rfl⟩
          obtain ⟨⟨ynm, yfl, yu⟩, ysp⟩ := y
          simp only at *
          obtain ⟨W3, hW3⟩ : ∃ W3, W3 = wq.alloc (.cells #[.string ynm, .slice ya yfl.length ycap, .bool yu, .int .i64 ysp] 85) := ⟨_, rfl⟩
          have hb3 : Below wq.heap.size wq W3 := by rw [hW3]; exact (Below.refl _ wq).alloc (Nat.le_refl _) _
          have hk3 : W3.heap[wq.heap.size]? = some (.cells #[.string ynm, .slice ya yfl.length ycap, .bool yu, .int .i64 ysp] 85 (0, 0)) := by rw [hW3]; exact heap_alloc_new wq _
          have c3 : W3.cell? ⟨wq.heap.size, 3, none⟩ = some (.int .i64 ysp) := by simp [World.cell?, hk3]
          have HO3 := Hold.mk (HOQ.out.quiet RInt_mono hb3)
          have HB3 := Hold.mk (HBQ.out.trans (hb3.mono HBQ.out.size))
          clear hy hyc hcl hyd hyf hb3 hk3
          go_upto_region 9 with (fail)
          rw [← hW3]
          clear hW3 z0 z1 z2 z3
          go_wp2_with (at_builtin; refine push_new RInt_mono rfl _ _ rfl infoInt Tryz.underlying125 rfl (by decide) _ _ _ (p + 1 + q) _ _ HO3.out rfl _ [_] rfl rfl (by simp [Value.oneCell']) ysp rfl _ rfl rfl (by have := HP1.out; omega) (by decide) ?_)
          intro sl4 w4 ho4 hg4
          have HB4 := Hold.mk (HB3.out.trans (HO3.out.below hg4))
          have HO4 : Hold (OwnS 1 RInt 3 w.heap.size w4 sl4 (p + 1 + (q + 1)) (ks ++ (sp :: ((xs.take (q + 1)).map (·.sp)))) _) := ⟨by rw [HTQ.out]; simpa [Nat.add_assoc] using ho4⟩
          clear ho4 hg4 c3
          go_wp2_with fail
          exact ⟨⟨q + 1, _, by go_num, hlt2, HO4.out, HB4.out⟩, by simp [intOf]; omega⟩
        · obtain rfl : q = xs.length := by omega
          have HEE : Hold (ks ++ (sp :: ((xs.take xs.length).map (·.sp))) = spacesC (l.take (j + 1))) := ⟨by rw [HST.out, ← HKS.out, List.take_of_length_le (Nat.le_refl _)]; rfl⟩
          rw [HEE.out] at HOQ
          go_wp2_with fail
          exact ⟨⟨j + 1, _, _, by go_num, hlt, HOQ.out, HBQ.out⟩, by simp [intOf]; omega⟩
    · obtain rfl : j = l.length := by omega
      rw [HKS.out, List.take_of_length_le (Nat.le_refl _)] at HO
      go_wp2_with fail
      go_ret
      exact ⟨_, _, _, rfl, HO.out, HB.out⟩
end Go.Proofs.YticlnijkfclgcaaGreatDoor
