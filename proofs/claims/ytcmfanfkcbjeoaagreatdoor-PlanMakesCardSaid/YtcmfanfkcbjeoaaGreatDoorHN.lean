/- Plans: indexes as the reference has them; few of the law (printed by genXHN.py). -/
import Derived.Test.YtcmfanfkcbjeoaaGreatDoorHM
import Derived.Test.YtcmfanfkcbjeoaaGreatDoorED
namespace Go.Proofs.YtcmfanfkcbjeoaaGreatDoor
open Go.RowKit

/-- where an index's fields are laid one behind the other -/
structure PY (yb : Nat) (W wq : World) (nm : ByteArray) (u : Bool) (sv : Value) (j : Nat) (l : List Fd) : Prop where
  bel : Below yb W wq
  blk : wq.heap[yb]? = some (.cells #[.string nm, sv, .bool u] 48 (0, 0))
  own : wq.ownsRow (yb + 1) 99 2 sv j (fcells (l.take j))
theorem PY.alloc {yb : Nat} {W wq : World} {nm : ByteArray} {u : Bool} {sv : Value} {j : Nat} {l : List Fd} (h : PY yb W wq nm u sv j l) (o : Obj) : PY yb W (wq.alloc o) nm u sv j l :=
  ⟨h.bel.alloc (by have := heap_lt h.blk; omega) o, kept h.blk ((Below.refl _ wq).alloc (Nat.le_refl _) o), h.own.alloc o⟩
theorem PY.push {yb : Nat} {W w1 w2 : World} {nm : ByteArray} {u : Bool} {sv : Value} {j g cap : Nat} {l : List Fd} {f : Fd} (h : PY yb W w1 nm u sv j l) (hf : l[j]? = some f)
    (hg : w1.grownBy w2 sv.ownBlock) (hown : w2.ownsRow (yb + 1) 99 2 (.slice (some ⟨g, 0, none⟩) (j + 1) cap) (j + 1) (fcells (l.take j) ++ [.string f.1, .bool f.2])) :
    PY yb W (w2.setCell ⟨yb, 1, none⟩ (.slice (some ⟨g, 0, none⟩) (j + 1) cap)) nm u (.slice (some ⟨g, 0, none⟩) (j + 1) cap) (j + 1) l := by
  have hne : ∀ k, k < yb + 1 → sv.ownBlock ≠ some k := fun k hk e => by have := (h.own.lt k e).1; omega
  have hsz : yb < w1.heap.size := heap_lt h.blk
  have old : ∀ k, k < yb + 1 → w2.heap[k]? = w1.heap[k]? := fun k hk => hg.block k (by omega) (fun e => hne k hk e.symm)
  have ny : ∀ k, k ≠ yb → ∀ v, (w2.setCell ⟨yb, 1, none⟩ v).heap[k]? = w2.heap[k]? := fun k hk v => Below.heap_setCell _ _ _ _ hk
  refine ⟨?_, ?_, ?_⟩
  · have hb2 : Below yb W w2 := h.bel.grown hg (by omega) (fun q hq => by have := (h.own.lt q hq).1; omega)
    exact hb2.setCell (p := ⟨yb, 1, none⟩) (Nat.le_refl _) _
  · have := set_self (o := 1) (c := .slice (some ⟨g, 0, none⟩) (j + 1) cap) (by rw [old _ (by omega)]; exact h.blk : w2.heap[yb]? = some (.cells #[.string nm, sv, .bool u] 48 (0, 0)))
    simpa using this
  · have e : l.take (j + 1) = l.take j ++ [f] := by rw [List.take_add_one, hf]; rfl
    rw [e, fcells_snoc]
    obtain ⟨h1, h2⟩ := hown
    refine ⟨h1, ?_⟩
    rcases h2 with ⟨hv, _⟩ | ⟨g', cap', cur, hv, hb, hc, hrest⟩
    · cases hv
    · refine .inr ⟨g', cap', cur, hv, hb, ?_, hrest⟩
      rw [ny _ (by omega)]; exact hc
theorem infoIx18 : (Tryz.prog.info? 48).map (fun i => (i.zero, i.size, i.bytes)) = some (some (.agg #[.string ⟨#[]⟩, .slice none 0 0, .bool false]), 3, 48) := by kernel_rfl

set_option maxRecDepth 100000 in
set_option maxHeartbeats 16000000 in
theorem plain18_any (l : List IX) (lv : Value) (w : World) (hl : SAt 3 RX (cf w) lv l) (hn : ∀ x ∈ l, x.fields.length ≤ 1000) (hlen : l.length ≤ 1000) :
    Calls Tryz.prog 13 #[lv] w fun e w' => ∃ y, e = .returned y ∧ SAt 3 RX (cf w') y l ∧ Below w.heap.size w w' := by
  obtain ⟨la, lcap, rfl, hle, hcap, hel⟩ := hl
  have HE := Hold.mk hel
  have HN := Hold.mk hn
  obtain ⟨i0, hi, hz0, hz1, hz2⟩ := info_parts infoFd
  have HI := Hold.mk (And.intro hi (And.intro hz0 (And.intro hz1 hz2)))
  have HO0 : Hold (OwnS 3 RX 48 w.heap.size w (.slice none 0 0) 0 (l.take 0) []) := ⟨OwnS.start _ _ _ (Nat.le_refl _)⟩
  clear hel hn hi hz0 hz1 hz2
  go_enter Tryz.func13, Tryz.ntmps13
  go_wp2_with fail
  go_loopw [3, 4] (fun sl i wr => ∃ (j : Nat) (cs : List Value), i = .int .i64 j ∧ j ≤ l.length ∧ OwnS 3 RX 48 w.heap.size wr sl j (l.take j) cs ∧ Below w.heap.size w wr) (fun _ i _ => l.length - (intOf i).toNat)
  case atStart => exact ⟨0, [], rfl, Nat.zero_le _, HO0.out, Below.refl _ _⟩
  case round =>
    obtain ⟨j, cs, rfl, hj, hown, hbl⟩ := hrel
    obtain ⟨sa, scap, rfl⟩ := hown.shape
    obtain ⟨ks, hks⟩ : ∃ ks, ks = l.take j := ⟨_, rfl⟩
    rw [← hks] at hown
    have HKS := Hold.mk hks
    have HO := Hold.mk hown
    have HB := Hold.mk hbl
    clear hown hbl HO0 hks
    by_cases hlt : j < l.length
    · obtain ⟨x, hx⟩ : ∃ x, l[j]? = some x := ⟨l[j], List.getElem?_eq_getElem hlt⟩
      obtain ⟨b, off, d, rfl, hd, hcc, hxi⟩ := HE.out j x hx
      obtain ⟨xa, xcap, rfl⟩ := hxi.open
      have HTK : Hold (l.take (j + 1) = ks ++ [x]) := ⟨by rw [take_succ hx, ← HKS.out]⟩
      have HX1000 := Hold.mk (HN.out x (List.mem_of_getElem? hx))
      have hblt : b < w.heap.size := lt_of_cell (hcc 0 _ rfl)
      have HCC := Hold.mk hcc
      have HXI : Hold (IAt (cf w) x (.agg #[.string x.name, .slice xa x.fields.length xcap, .bool x.uniq])) := ⟨hxi⟩
      have hcl := cle_below HB.out
      have z0 := hcl _ _ _ (hcc 0 _ rfl)
      have z1 := hcl _ _ _ (hcc 1 _ rfl)
      have z2 := hcl _ _ _ (hcc 2 _ rfl)
      unfold cf at z0 z1 z2
      rw [Nat.add_zero] at z0
      have g0 := Grow.cell z0
      have g1 := Grow.cell z1
      have g2 := Grow.cell z2
      have HNM : Hold (x.name.size ≤ 9223372036854775807) := ⟨hxi.1⟩
      obtain ⟨_, _, e, hfat⟩ := hxi
      have HFA : Hold (FieldsAt (cf w) (.slice xa x.fields.length xcap) x.fields) := ⟨by
        have := Value.agg.inj e
        simp at this
        rw [← this] at hfat
        exact hfat⟩
      obtain ⟨xn, xf, xu⟩ := x
      simp only at *
      clear hx hcc hcl hd hfat e
      go_upto_region 5 with (fail)
      clear z0 z1 z2
      refine wp_region_mix 13 rfl (by kernel_rfl) ?_
      rintro w1 hb1
      refine mixl_seg (by kernel_rfl) (fun _ _ d _ _ h => by cases d <;> exact h) [0, 1, 2, 3, 4, 5, 6, 7, 8, 9, 10] [_, _, _, _, _, _, _, _, _, _, _] 2 13 rfl _ _ _ rfl (by kernel_rfl) (growC hb1) ?_
      repeat (go_big_quiet_step (fail))
      refine wpQuiet_nil ?_
      clear g0 g1 g2
      refine mixl_act (i := 11) rfl (by kernel_rfl) (growC hb1) rfl (fun K hK => ?_)
      go_wp2_with fail
      obtain ⟨w2, hw2⟩ : ∃ w2, w2 = w1.alloc (.cells #[.string ⟨#[]⟩, .slice none 0 0, .bool false] 48) := ⟨_, rfl⟩
      rw [← hw2]
      have hb2 : Below w1.heap.size w1 w2 := by rw [hw2]; exact (Below.refl _ w1).alloc (Nat.le_refl _) _
      have hy2 : w2.heap[w1.heap.size]? = some (.cells #[.string ⟨#[]⟩, .slice none 0 0, .bool false] 48 (0, 0)) := by rw [hw2]; exact heap_alloc_new w1 _
      have hbw2 : Below wr.heap.size wr w2 := hb1.trans (hb2.mono hb1.size)
      have hs2 : wr.heap.size ≤ w1.heap.size := hb1.size
      clear hw2
      generalize w1.heap.size = yb at *
      have HS2 := Hold.mk hs2
      have HBW2 := Hold.mk hbw2
      have HY2 := Hold.mk hy2
      clear hb1 hb2 hbw2 hs2
      obtain ⟨r0, r1, r2⟩ := cells_three hy2
      have f0 := free_box hy2 0
      have f1 := free_box hy2 1
      have f2 := free_box hy2 2
      clear hy2
      refine mixl_act (i := 12) rfl (by kernel_rfl) (growC HBW2.out) rfl (fun K hK => ?_)
      go_wp2_with fail
      obtain ⟨W3, hW3⟩ : ∃ W3, W3 = ((w2.setCell ⟨yb, 0, none⟩ (.string xn)).setCell ⟨yb, 1, none⟩ (.slice none 0 0)).setCell ⟨yb, 2, none⟩ (.bool xu) := ⟨_, rfl⟩
      rw [← hW3]
      have hy3 : W3.heap[yb]? = some (.cells #[.string xn, .slice none 0 0, .bool xu] 48 (0, 0)) := by rw [hW3, setP (setP (setP HY2.out))]; rfl
      have hb3 : Below wr.heap.size wr W3 := by
        rw [hW3]
        exact ((HBW2.out.setCell (p := ⟨yb, 0, none⟩) HS2.out _).setCell (p := ⟨yb, 1, none⟩) HS2.out _).setCell (p := ⟨yb, 2, none⟩) HS2.out _
      have HB3 := Hold.mk hb3
      have HP0 : Hold (PY yb W3 W3 xn xu (.slice none 0 0) 0 xf) := ⟨⟨Below.refl _ _, hy3, World.ownsRow_nil _ _ _ _⟩⟩
      clear hW3 r0 r1 r2 f0 f1 f2 hy3 hb3 HY2 HBW2
      refine mix_done (by kernel_rfl) (growC HB3.out) ?_
      go_wp2_with fail
      go_loopw [6] (fun i wq => ∃ (q : Nat) (sv : Value), i = .int .i64 q ∧ q ≤ xf.length ∧ PY yb W3 wq xn xu sv q xf) (fun i _ => xf.length - (intOf i).toNat)
      case atStart => exact ⟨0, _, rfl, Nat.zero_le _, HP0.out⟩
      case round =>
        rename World => wq
        obtain ⟨q, sv, rfl, hq, hpy⟩ := hrel
        clear HP0
        have HP := Hold.mk hpy
        clear hpy
        obtain ⟨ya, ycap, rfl⟩ := own_form2 HP.out.own
        have HBQ : Hold (Below w.heap.size w wq) := ⟨HB.out.trans ((HB3.out.mono HB.out.size).trans (HP.out.bel.mono (Nat.le_trans HB.out.size HS2.out)))⟩
        have hcl := cle_below HBQ.out
        have z0 := hcl _ _ _ (HCC.out 0 _ rfl)
        have z1 := hcl _ _ _ (HCC.out 1 _ rfl)
        have z2 := hcl _ _ _ (HCC.out 2 _ rfl)
        unfold cf at z0 z1 z2
        rw [Nat.add_zero] at z0
        have hwyb : w.heap.size ≤ yb := Nat.le_trans HB.out.size HS2.out
        by_cases hlt2 : q < xf.length
        · obtain ⟨f, hf⟩ : ∃ f, xf[q]? = some f := ⟨xf[q], List.getElem?_eq_getElem hlt2⟩
          obtain ⟨_, _, e, _, hxcap, hfel⟩ := HFA.out
          cases e
          obtain ⟨hfs, fb, foff, rfl, x0, x1⟩ := hfel q f hf
          have hfb : fb < w.heap.size := lt_of_cell x0
          have g1 := GrowB.cell (B := yb) z1 (by omega)
          have g2 := GrowB.cell (B := yb) (hcl _ _ _ x0) (by omega)
          have g3 := GrowB.cell (B := yb) (hcl _ _ _ x1) (by omega)
          have HF := Hold.mk hf
          have HYS : Hold (yb < wq.heap.size) := ⟨heap_lt HP.out.blk⟩
          obtain ⟨s, dn⟩ := f
          simp only at *
          clear x0 x1 hcl hf hfel
          go_upto_region 9 with (fail)
          clear z0 z1 z2
          refine wp_region_mixB yb 14 rfl (by kernel_rfl) ?_
          rintro w1 hw1 hb1
          have HP1 : Hold (PY yb W3 w1 xn xu (.slice ya q ycap) q xf) := ⟨by subst hw1; exact ⟨HP.out.bel.drew, HP.out.blk, HP.out.own.drew⟩⟩
          have HB1 : Hold (Below yb wq w1) := ⟨hb1.mono (by have := HYS.out; omega)⟩
          have HYS1 : Hold (yb < w1.heap.size) := ⟨heap_lt HP1.out.blk⟩
          clear hb1 hw1
          refine mixl_seg (by kernel_rfl) (fun _ _ d _ _ h => by cases d <;> exact h) [0, 2, 3, 4, 5, 6, 7, 8, 9] [_, _, _, _, _, _, _, _, _] 5 14 rfl _ _ _ rfl (by kernel_rfl) (growBC HB1.out) ?_
          repeat (go_big_quiet_step (fail))
          refine wpQuiet_nil ?_
          clear g1 g2 g3
          obtain ⟨y0, y1, y2⟩ := cells_three HP1.out.blk
          refine mixl_two (i := 1) (j := 10) rfl rfl (by kernel_rfl) (growBC HB1.out) rfl rfl (fun K hK => ?_) (fun K hK => ?_)
          · skip
            go_wp2_with fail
            refine mixl_act (i := 10) rfl (by kernel_rfl) (growBC HB1.out) rfl (fun K hK => ?_)
            go_wp2_with fail
            clear y0 y1 y2
            generalize hw2 : w1.alloc (.cells #[.string s, .bool dn] 99) = w2
            have HP2 : Hold (PY yb W3 w2 xn xu (.slice ya q ycap) q xf) := ⟨by rw [← hw2]; exact HP1.out.alloc _⟩
            have HB2 : Hold (Below yb wq w2) := ⟨by rw [← hw2]; exact HB1.out.alloc (by have := HYS1.out; omega) _⟩
            have HN2 : Hold (w2.heap[w1.heap.size]? = some (.cells #[.string s, .bool dn] 99 (0, 0))) := ⟨by rw [← hw2]; exact heap_alloc_new w1 _⟩
            clear hw2
            refine mixl_act (i := 11) rfl (by kernel_rfl) (growBC HB2.out) rfl (fun K hK => ?_)
            refine wp_append_lies w2 (.tmp 35) (.tmp 44) 46 rfl (yb + 1) 99 i0 (.agg #[.string ⟨#[]⟩, .bool false]) 2 24 Tryz.underlying46 HI.out.1 HI.out.2.1 HI.out.2.2.1 HI.out.2.2.2 rfl (by decide) (.slice ya q ycap) q _ rfl HP2.out.own ⟨w1.heap.size, 0, none⟩ 1 1 [.string s, .bool dn] rfl rfl (World.news_of_block HN2.out) (by simp [Value.oneCell']) (by decide) (by have : xf.length ≤ 1000 := HX1000.out; unfold maxLen; omega) (by have : xf.length ≤ 1000 := HX1000.out; omega) (by have := heap_lt HP2.out.blk; omega) _ rfl ?_
            intro g cap2 w3 hown hgr _ _
            have hy3 : w3.heap[yb]? = some (.cells #[.string xn, .slice ya q ycap, .bool xu] 48 (0, 0)) := by
              rw [hgr.block _ (heap_lt HP2.out.blk) (fun e => by have := (HP2.out.own.lt _ e.symm).1; omega)]; exact HP2.out.blk
            have HB3q : Hold (Below yb wq w3) := ⟨HB2.out.grown hgr (by have := heap_lt HP2.out.blk; omega) (fun p hp => by have := (HP2.out.own.lt p hp).1; omega)⟩
            have HNX := Hold.mk (HP2.out.push HF.out hgr hown)
            go_wp2_with fail
            refine mixl_seg (by kernel_rfl) (fun _ _ d _ _ h => by cases d <;> exact h) [12] [_] 1 2 rfl _ _ _ rfl (by kernel_rfl) (growBC HB3q.out) ?_
            repeat (go_big_quiet_step (fail))
            refine wpQuiet_nil ?_
            obtain ⟨v0, v1, v2⟩ := cells_three hy3
            have vf : w3.frozen? ⟨yb, 1, none⟩ = false := free_box hy3 1
            have HB4 : Hold (∀ v, Below yb wq (w3.setCell ⟨yb, 1, none⟩ v)) := ⟨fun v => HB3q.out.setCell (p := ⟨yb, 1, none⟩) (Nat.le_refl _) v⟩
            clear hy3 hown hgr
            refine mixl_act (i := 13) rfl (by kernel_rfl) (growBC HB3q.out) rfl (fun K hK => ?_)
            go_wp2_with fail
            clear v0 v1 v2 vf
            refine mix_done (by kernel_rfl) (growBC (HB4.out _)) ?_
            go_wp2_with fail
            exact ⟨⟨q + 1, _, by go_num, hlt2, HNX.out⟩, by simp [intOf]; omega⟩
          · skip
            go_wp2_with fail
            have hlt1 := HYS1.out
            refine mixl_act (i := 1) rfl (by kernel_rfl) (growBC (HB1.out.alloc (by have := HYS1.out; omega) _)) rfl (fun K hK => ?_)
            go_wp2_with fail
            clear y0 y1 y2 hlt1
            generalize hw2 : w1.alloc (.cells #[.string s, .bool dn] 99) = w2
            have HP2 : Hold (PY yb W3 w2 xn xu (.slice ya q ycap) q xf) := ⟨by rw [← hw2]; exact HP1.out.alloc _⟩
            have HB2 : Hold (Below yb wq w2) := ⟨by rw [← hw2]; exact HB1.out.alloc (by have := HYS1.out; omega) _⟩
            have HN2 : Hold (w2.heap[w1.heap.size]? = some (.cells #[.string s, .bool dn] 99 (0, 0))) := ⟨by rw [← hw2]; exact heap_alloc_new w1 _⟩
            clear hw2
            refine mixl_act (i := 11) rfl (by kernel_rfl) (growBC HB2.out) rfl (fun K hK => ?_)
            refine wp_append_lies w2 (.tmp 35) (.tmp 44) 46 rfl (yb + 1) 99 i0 (.agg #[.string ⟨#[]⟩, .bool false]) 2 24 Tryz.underlying46 HI.out.1 HI.out.2.1 HI.out.2.2.1 HI.out.2.2.2 rfl (by decide) (.slice ya q ycap) q _ rfl HP2.out.own ⟨w1.heap.size, 0, none⟩ 1 1 [.string s, .bool dn] rfl rfl (World.news_of_block HN2.out) (by simp [Value.oneCell']) (by decide) (by have : xf.length ≤ 1000 := HX1000.out; unfold maxLen; omega) (by have : xf.length ≤ 1000 := HX1000.out; omega) (by have := heap_lt HP2.out.blk; omega) _ rfl ?_
            intro g cap2 w3 hown hgr _ _
            have hy3 : w3.heap[yb]? = some (.cells #[.string xn, .slice ya q ycap, .bool xu] 48 (0, 0)) := by
              rw [hgr.block _ (heap_lt HP2.out.blk) (fun e => by have := (HP2.out.own.lt _ e.symm).1; omega)]; exact HP2.out.blk
            have HB3q : Hold (Below yb wq w3) := ⟨HB2.out.grown hgr (by have := heap_lt HP2.out.blk; omega) (fun p hp => by have := (HP2.out.own.lt p hp).1; omega)⟩
            have HNX := Hold.mk (HP2.out.push HF.out hgr hown)
            go_wp2_with fail
            refine mixl_seg (by kernel_rfl) (fun _ _ d _ _ h => by cases d <;> exact h) [12] [_] 1 2 rfl _ _ _ rfl (by kernel_rfl) (growBC HB3q.out) ?_
            repeat (go_big_quiet_step (fail))
            refine wpQuiet_nil ?_
            obtain ⟨v0, v1, v2⟩ := cells_three hy3
            have vf : w3.frozen? ⟨yb, 1, none⟩ = false := free_box hy3 1
            have HB4 : Hold (∀ v, Below yb wq (w3.setCell ⟨yb, 1, none⟩ v)) := ⟨fun v => HB3q.out.setCell (p := ⟨yb, 1, none⟩) (Nat.le_refl _) v⟩
            clear hy3 hown hgr
            refine mixl_act (i := 13) rfl (by kernel_rfl) (growBC HB3q.out) rfl (fun K hK => ?_)
            go_wp2_with fail
            clear v0 v1 v2 vf
            refine mix_done (by kernel_rfl) (growBC (HB4.out _)) ?_
            go_wp2_with fail
            exact ⟨⟨q + 1, _, by go_num, hlt2, HNX.out⟩, by simp [intOf]; omega⟩
        · obtain rfl : q = xf.length := by omega
          have HOW := Hold.mk HP.out.own
          rw [List.take_of_length_le (Nat.le_refl _)] at HOW
          obtain ⟨y0, y1, y2⟩ := cells_three HP.out.blk
          have HFE : Hold (∀ p ∈ xf, p.1.size ≤ 9223372036854775807) := ⟨fun p hp => by
            obtain ⟨i, hi⟩ := List.getElem?_of_mem hp
            obtain ⟨_, _, _, _, _, hfel⟩ := HFA.out
            exact (hfel i p hi).1⟩
          have hbq : Below wr.heap.size wr wq := HB3.out.trans (HP.out.bel.mono HS2.out)
          have HO2 := Hold.mk (HO.out.quiet RX_mono hbq)
          have HRI : Hold (RX (cfN (.slice sa j scap) wq) ⟨xn, xf, xu⟩ [.string xn, .slice ya xf.length ycap, .bool xu]) := ⟨⟨HNM.out, _, rfl, (fields_own_A HOW.out HFE.out).mono (cfA_cfN (fun g hg => by have := (HO.out.low g hg).2; have := HS2.out; omega))⟩⟩
          clear hcl hbq
          go_wp2_with (at_builtin; refine push_new RX_mono rfl _ _ rfl infoIx18 Tryz.underlying38 rfl (by decide) _ _ _ j _ _ HO2.out rfl _ [_, _, _] rfl rfl (by simp [Value.oneCell']) ⟨xn, xf, xu⟩ HRI.out _ rfl rfl (by omega) (by decide) ?_)
          intro sl2 w6 ho6 hg6
          have HNW : Hold (OwnS 3 RX 48 w.heap.size w6 sl2 (j + 1) (l.take (j + 1)) _) := ⟨by rw [HTK.out]; exact ho6⟩
          have HW6 : Hold (Below w.heap.size w w6) := ⟨HBQ.out.trans (HO2.out.below hg6)⟩
          clear ho6 hg6 y0 y1 y2
          go_wp2_with fail
          exact ⟨⟨j + 1, _, by go_num, hlt, HNW.out, HW6.out⟩, by simp [intOf]; omega⟩
    · obtain rfl : j = l.length := by omega
      have HM := Hold.mk (HO.out.at_ RX_mono)
      rw [HKS.out, List.take_of_length_le (Nat.le_refl _)] at HM
      go_wp2_with fail
      go_ret
      exact ⟨_, rfl, HM.out, HB.out⟩

end Go.Proofs.YtcmfanfkcbjeoaaGreatDoor
