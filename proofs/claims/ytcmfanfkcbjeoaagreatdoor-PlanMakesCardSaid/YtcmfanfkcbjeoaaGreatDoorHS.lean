/- Plans: part, bound and serves of the reference (printed by genXHS.py). -/
import Derived.Test.YtcmfanfkcbjeoaaGreatDoorHR
import Derived.Test.YtcmfanfkcbjeoaaGreatDoorKG
import Derived.Deep.DeepCutAuto
namespace Go.Proofs.YtcmfanfkcbjeoaaGreatDoor
open Go.Shelf Go.RowKit

/-- a value and whether it is there, in a box -/
def FBox (c : CF) (o : Option JV) (w : World) (s1 s2 : Value) (wx : World) : Prop := ∃ zb k2 n2 t2 na2 nl2 nc2 ia2 il2 ic2, s1 = .pointer (some ⟨zb, 0, none⟩) ∧ s2 = .bool o.isSome ∧ wx.heap[zb]? = some (.cells #[.int .i64 k2, .int .i64 n2, .string t2, .slice na2 nl2 nc2, .slice ia2 il2 ic2] 25 (0, 0)) ∧ (∀ y, o = some y → JAt c y (.agg #[.int .i64 k2, .int .i64 n2, .string t2, .slice na2 nl2 nc2, .slice ia2 il2 ic2])) ∧ Below w.heap.size w wx
theorem first_opt {c : CF} {o : Option JV} {w w' : World} {e : Ending} (h : FirstPost c o w e w') : ∃ k2 n2 t2 na2 nl2 nc2 ia2 il2 ic2, e = .returned (.tuple #[.agg #[.int .i64 k2, .int .i64 n2, .string t2, .slice na2 nl2 nc2, .slice ia2 il2 ic2], .bool o.isSome]) ∧ (∀ y, o = some y → JAt c y (.agg #[.int .i64 k2, .int .i64 n2, .string t2, .slice na2 nl2 nc2, .slice ia2 il2 ic2])) ∧ Below w.heap.size w w' := by
  obtain ⟨v, he, ⟨k2, n2, t2, na2, nl2, nc2, ia2, il2, ic2, rfl⟩, h1, h2⟩ := h
  exact ⟨k2, n2, t2, na2, nl2, nc2, ia2, il2, ic2, he, h1, h2⟩
theorem BRow.beside2 {B : Nat} {w w' : World} {sv s1 s2 : Value} {l : List UInt8} (h : BRow B w sv l) (g : Grew w w' s1 s2) (hne : ∀ q, sv.ownBlock = some q → s1.ownBlock ≠ some q) : BRow B w' sv l := by
  refine ⟨h.own.kept g.by_ ?_, Nat.le_trans h.le g.by_.size⟩
  cases e : sv.ownBlock with
  | none => exact .inl rfl
  | some q => exact .inr (fun e2 => hne q e e2.symm)
theorem part_get {v : JV} {d : Bool} {m : Nat} {c : UInt8} (h : (putF v)[m]? = some c) : (partK v d)[m]? = some (if d = true then notB c else c) := by
  unfold partK
  cases d
  · simpa using h
  · simp [h]

set_option maxRecDepth 100000 in
set_option maxHeartbeats 8000000 in
theorem rpart_any (B : Nat) (pv : Value) (pl : List UInt8) (v : JV) (x : Value) (d en : Bool) (c : CF) (w : World) (hp : BRow B w pv pl) (hl : pl.length ≤ 20000000000000) (hf : formedF 6 v = true) (hx : JAt c v x) (hc : CLe c (cf w)) :
    Calls Tryz.prog 106 #[pv, x, .bool d, .bool en] w fun e w' => ∃ sv, e = .returned sv ∧ BRow w.heap.size w' sv (pl ++ partK v d ++ (if en = true then [255] else [])) ∧ Below w.heap.size w w' := by
  obtain ⟨k, n, t, nm, it, na, ncap, ia, icap, hfe, rfl, _⟩ := id hx.open
  clear hfe
  obtain ⟨W0, hW0⟩ : ∃ W0, W0 = w.alloc (.cells #[.int .i64 k, .int .i64 n, .string t, .slice na nm.length ncap, .slice ia it.length icap] 25) := ⟨_, rfl⟩
  have hb0 : Below w.heap.size w W0 := by rw [hW0]; exact (Below.refl _ w).alloc (Nat.le_refl _) _
  have HK0 : Hold (W0.heap[w.heap.size]? = some (.cells #[.int .i64 k, .int .i64 n, .string t, .slice na nm.length ncap, .slice ia it.length icap] 25 (0, 0))) := ⟨by rw [hW0]; exact heap_alloc_new w _⟩
  have HP := Hold.mk (hp.quiet hb0)
  have HB := Hold.mk hb0
  have HX := Hold.mk (show JAt (cf w) v (.agg #[.int .i64 k, .int .i64 n, .string t, .slice na nm.length ncap, .slice ia it.length icap]) from hx.mono hc)
  have HF := Hold.mk hf
  have HL := Hold.mk hl
  obtain ⟨i0, hi, hz0, hz1, hz2⟩ := info_parts infoB
  have HI := Hold.mk (And.intro hi (And.intro hz0 (And.intro hz1 hz2)))
  clear hp hb0 hf hx hc hl hi hz0 hz1 hz2
  obtain ⟨pa, pcap, rfl, _⟩ := HP.out.shape
  obtain ⟨res, hres⟩ : ∃ res, res = pl ++ partK v d ++ (if en = true then [255] else []) := ⟨_, rfl⟩
  rw [← hres]
  have HRES := Hold.mk hres
  clear hres
  go_enter Tryz.func106, Tryz.ntmps106
  go_upto_region 2 with (fail)
  rw [← hW0]
  clear hW0
  go_cut [9] (fun s9 wx => BRow W0.heap.size wx s9 pl ∧ Below W0.heap.size W0 wx)
  case first =>
    rcases id HP.out.own.2 with ⟨hv, hn⟩ | ⟨g, cap, cur, hv, hgb, hg, h1, h2, h3, h4⟩
    · have e0 := List.length_eq_zero_iff.1 hn
      subst e0
      simp only [Value.slice.injEq] at hv
      obtain ⟨rfl, _, rfl⟩ := hv
      have HE := Hold.mk (BRow.empty W0)
      clear hn
      go_wp2_with fail
      go_meet
      case rel => exact ⟨HE.out, Below.refl _ _⟩
    · simp only [Value.slice.injEq] at hv
      obtain ⟨rfl, _, rfl⟩ := hv
      have HC : Hold (∀ (j : Nat) u, (bv pl)[j]? = some u → W0.cell? (Addr.add ⟨g, 0, none⟩ j) = some u) := ⟨fun j u hu => HP.out.own.cells (g := g) rfl j u hu⟩
      clear hg h1 h2 h3 h4
      go_wp2_with (at_builtin; refine wpList_append_own _ rfl _ _ 29 rfl W0.heap.size 5 i0 (.int .u8 0) 1 1 Tryz.underlying29 HI.out.1 HI.out.2.1 HI.out.2.2.1 HI.out.2.2.2 rfl (by decide) _ _ _ rfl (World.ownsRow_nil W0 W0.heap.size _ _) ⟨g, 0, none⟩ pl.length pcap (bv pl) rfl ?qc1 ?qc2 ?qc3 ?qc4 ?qc5 ?qc6 ?_)
      case qc1 => rw [bv_len]; omega
      case qc2 => exact HC.out
      case qc3 => exact bv_one pl
      case qc4 => have := HL.out; unfold maxLen; omega
      case qc5 => have := HL.out; omega
      case qc6 => simp
      intro v' w1 hown hgrow hnil
      have hb := (Below.refl W0.heap.size W0).grown hgrow (Nat.le_refl _) (by intro k hk; simp [Value.ownBlock] at hk)
      have HPQ : Hold (BRow W0.heap.size w1 v' pl ∧ Below W0.heap.size W0 w1) := ⟨⟨by simpa using hown, hb.size⟩, hb⟩
      clear hown hgrow hb hnil
      go_wp2_with fail
      go_meet
      case rel => exact HPQ.out
  case rest =>
    obtain ⟨ho1, hb1⟩ := hcut
    generalize wc = w1 at *
    generalize u9 = s9 at *
    obtain ⟨oa, ocap, rfl, _⟩ := ho1.shape
    have HO := Hold.mk ho1
    have HB1 := Hold.mk (HB.out.trans (hb1.mono HB.out.size))
    have HBS := Hold.mk HB.out.size
    obtain ⟨y0, y1, y2, y3, y4⟩ := cells_five (kept HK0.out hb1)
    have HPL2 := Hold.mk (rplain_any 6 v _ w1 HF.out keyB_six (HX.out.mono (cle_below HB1.out)))
    have HPF : Hold ((putF v).length ≤ 200000000000) := ⟨Nat.le_trans (putF_len 6 v HF.out) keyB_six⟩
    clear ho1 hb1 HP HK0
    go_wp2_with fail
    refine HPL2.out.mono ?_
    rintro e w2 ⟨sk, rfl, hsk, hb2⟩
    obtain ⟨pf, hpf⟩ : ∃ pf, pf = putF v := ⟨_, rfl⟩
    rw [← hpf] at hsk HPF
    obtain ⟨ka, kcap, rfl, _⟩ := hsk.shape
    have HSK := Hold.mk hsk
    have HPE := Hold.mk hpf
    have HO2 := Hold.mk (HO.out.quiet hb2)
    have HB2 := Hold.mk (HB1.out.trans (hb2.mono HB1.out.size))
    have HNE : Hold (∀ q, (Value.slice ka pf.length kcap).ownBlock = some q → (Value.slice oa pl.length ocap).ownBlock ≠ some q) := ⟨fun q h1 h2 => by
      have e1 := (HSK.out.low q h1).1
      have e2 := (HO.out.low q h2).2
      omega⟩
    clear hsk hpf hb2 HPL2 y0 y1 y2 y3 y4
    go_wp2_with fail
    go_loopw [9, 11] (fun sv i wr => ∃ m : Nat, i = .int .i64 m ∧ m ≤ pf.length ∧ BRow W0.heap.size wr sv (pl ++ (partK v d).take m) ∧ Grew w2 wr (.slice oa pl.length ocap) sv) (fun _ i _ => pf.length - (intOf i).toNat)
    case atStart => exact ⟨0, rfl, Nat.zero_le _, by rw [List.take_zero, List.append_nil]; exact HO2.out, Grew.refl _ _⟩
    case round =>
      obtain ⟨m, rfl, hm, hbr, hgr⟩ := hrel
      obtain ⟨l3, hl3⟩ : ∃ l3, l3 = pl ++ (partK v d).take m := ⟨_, rfl⟩
      rw [← hl3] at hbr
      obtain ⟨ja, jcap, rfl, _⟩ := hbr.shape
      have HR9 := Hold.mk hbr
      have HG9 := Hold.mk hgr
      have HL3 := Hold.mk hl3
      have HPKL : Hold ((partK v d).length = pf.length) := ⟨by rw [partK_len, HPE.out]⟩
      have HFIT : Hold (l3.length + 1 ≤ 140737488355328) := ⟨by
        rw [hl3, List.length_append, List.length_take]; have := HL.out; have := HPF.out; have := HPKL.out
        omega⟩
      have HSP9 := Hold.mk (HSK.out.beside2 hgr HNE.out)
      have HB9 : Hold (Below w.heap.size w wr) := ⟨HB2.out.trans (hgr.below HB2.out.size (fun g hg => by have := (HO.out.low g hg).1; have := HBS.out; omega))⟩
      clear hbr hgr hl3
      by_cases hlt2 : m < pf.length
      · obtain ⟨q, hq⟩ : ∃ q, pf[m]? = some q := ⟨pf[m], List.getElem?_eq_getElem hlt2⟩
        obtain ⟨g, rfl, _, hgl, p0⟩ := HSP9.out.get hq
        have HST := Hold.mk (part_get (d := d) (by rw [← HPE.out]; exact hq))
        clear hq
        cases d with
        | true =>
          have HCV : Hold (255 - ((q.toNat : Nat) : Int) = (((notB q).toNat : Nat) : Int)) := ⟨not_val q⟩
          have hcl1 := q.toNat_lt
          go_wp2_with (at_builtin; refine app_new rfl _ _ rfl _ _ _ _ HR9.out rfl _ [notB q] (by simp only [bv, List.map_cons, List.map_nil]; rw [HCV.out]) _ rfl (by simp) (Nat.succ_pos _) (by have := HFIT.out; simp; omega) ?_)
          intro s9 w9 hb9 hg9
          have HN : Hold (BRow W0.heap.size w9 s9 (pl ++ (partK v true).take (m + 1))) := ⟨by rw [take_succ HST.out, ← List.append_assoc, ← HL3.out]; exact hb9⟩
          replace HG9 := Hold.mk (HG9.out.trans hg9)
          clear hb9 hg9 p0
          go_wp2_with fail
          exact ⟨⟨m + 1, by go_num, hlt2, HN.out, HG9.out⟩, by simp [intOf]; omega⟩
        | false =>
          go_wp2_with (at_builtin; refine app_new rfl _ _ rfl _ _ _ _ HR9.out rfl _ [q] rfl _ rfl (by simp) (Nat.succ_pos _) (by have := HFIT.out; simp; omega) ?_)
          intro s9 w9 hb9 hg9
          have HN : Hold (BRow W0.heap.size w9 s9 (pl ++ (partK v false).take (m + 1))) := ⟨by rw [take_succ HST.out, ← List.append_assoc, ← HL3.out]; exact hb9⟩
          replace HG9 := Hold.mk (HG9.out.trans hg9)
          clear hb9 hg9 p0
          go_wp2_with fail
          exact ⟨⟨m + 1, by go_num, hlt2, HN.out, HG9.out⟩, by simp [intOf]; omega⟩
      · have HEE : Hold (l3 = pl ++ partK v d) := ⟨by rw [HL3.out, List.take_of_length_le (by have := HPKL.out; omega)]⟩
        cases en with
        | false =>
          go_wp2_with fail
          go_ret
          refine ⟨_, rfl, ?_, HB9.out⟩
          have h := HR9.out.bel HBS.out
          have e2 : res = l3 := by rw [HRES.out, if_neg (by simp), List.append_nil, HEE.out]
          rw [e2]; exact h
        | true =>
          go_wp2_with (at_builtin; refine app_new rfl _ _ rfl _ _ _ _ HR9.out rfl _ [255] rfl _ rfl (by simp) (Nat.succ_pos _) (by have := HFIT.out; simp; omega) ?_)
          intro s9 w9 hb9 hg9
          have HN : Hold (BRow w.heap.size w9 s9 res) := ⟨by
            have e2 : res = l3 ++ [255] := by rw [HRES.out, HEE.out]; simp
            rw [e2]; exact hb9.bel HBS.out⟩
          have HB10 : Hold (Below w.heap.size w w9) := ⟨HB9.out.trans (hg9.below HB9.out.size (fun g hg => by have := (HR9.out.low g hg).1; have := HBS.out; omega))⟩
          clear hb9 hg9
          go_wp2_with fail
          go_ret
          exact ⟨_, rfl, HN.out, HB10.out⟩

set_option maxRecDepth 100000 in
set_option maxHeartbeats 8000000 in
theorem rbound_any (f : JV) (fx : Value) (B : Nat) (pv : Value) (pl : List UInt8) (x : Fd) (n1 n2 : ByteArray) (one : Bool) (c : CF) (w : World) (hf : formedF 6 f = true) (hfx : JAt c f fx) (hc : CLe c (cf w)) (hp : BRow B w pv pl) (hl : pl.length ≤ 20000000000000) (hs : signF x.1 = false) (hne : n1.toList ≠ n2.toList) :
    Calls Tryz.prog 107 #[fx, pv, .agg #[.string x.1, .bool x.2], .agg #[.string n1, .string n2], .string (if one = true then n1 else n2)] w fun e w' => ∃ sv, e = .returned (.tuple #[sv, .bool (boundF (asksF 6 f) pl x n1 n2 one).isSome]) ∧ BRow w.heap.size w' sv ((boundF (asksF 6 f) pl x n1 n2 one).getD []) ∧ Below w.heap.size w w' := by
  have HFO := Hold.mk (asks_formed 6 f hf)
  have HFI := Hold.mk (fun (tq : ByteArray) (W : World) (hb : Below w.heap.size w W) => (show Calls Tryz.prog 105 #[fx, .string x.1, .string tq] W (FirstPost c (firstF (asksF 6 f) x.1 tq) W) by
    have h := rfirst_any 6 f fx x.1 tq c W hf hfx (hc.trans (cle_below hb)) hs
    rw [first_law tq hs] at h
    exact h))
  obtain ⟨k, n, t, nm, it, na, ncap, ia, icap, hfe, rfl, _⟩ := id hfx.open
  clear hfe
  obtain ⟨s, dn⟩ := x
  simp only at hs HFI ⊢
  obtain ⟨en, hen⟩ : ∃ en, en = (if one = true then n1 else n2) := ⟨_, rfl⟩
  rw [← hen]
  obtain ⟨L, hL⟩ : ∃ L, L = asksF 6 f := ⟨_, rfl⟩
  rw [← hL] at HFO HFI ⊢
  obtain ⟨ob, hob⟩ : ∃ ob, ob = boundF L pl (s, dn) n1 n2 one := ⟨_, rfl⟩
  rw [← hob]
  obtain ⟨W0, hW0⟩ : ∃ W0, W0 = ((w.alloc (.cells #[.int .i64 k, .int .i64 n, .string t, .slice na nm.length ncap, .slice ia it.length icap] 25)).alloc (.cells #[.string s, .bool dn] 99)).alloc (.cells #[.string n1, .string n2] 163) := ⟨_, rfl⟩
  have hb0 : Below w.heap.size w W0 := by rw [hW0]; exact (((Below.refl _ w).alloc (Nat.le_refl _) _).alloc (by simp) _).alloc (by simp; omega) _
  have e0 : W0.heap[w.heap.size]? = some (.cells #[.int .i64 k, .int .i64 n, .string t, .slice na nm.length ncap, .slice ia it.length icap] 25 (0, 0)) := by
    rw [hW0]
    exact kept (kept (heap_alloc_new w _) ((Below.refl _ _).alloc (Nat.le_refl _) _)) ((Below.refl _ _).alloc (Nat.le_refl _) _)
  have e1 : W0.heap[w.heap.size + 1]? = some (.cells #[.string s, .bool dn] 99 (0, 0)) := by
    rw [hW0]
    have := heap_alloc_new (w.alloc (.cells #[.int .i64 k, .int .i64 n, .string t, .slice na nm.length ncap, .slice ia it.length icap] 25)) (.cells #[.string s, .bool dn] 99)
    exact kept (by simpa using this) ((Below.refl _ _).alloc (Nat.le_refl _) _)
  have e2 : W0.heap[w.heap.size + 2]? = some (.cells #[.string n1, .string n2] 163 (0, 0)) := by
    rw [hW0]
    have := heap_alloc_new ((w.alloc (.cells #[.int .i64 k, .int .i64 n, .string t, .slice na nm.length ncap, .slice ia it.length icap] 25)).alloc (.cells #[.string s, .bool dn] 99)) (.cells #[.string n1, .string n2] 163)
    simpa using this
  have HE0 := Hold.mk e0
  have HE1 := Hold.mk e1
  have HE2 := Hold.mk e2
  have HB0 := Hold.mk hb0
  have HP := Hold.mk (hp.quiet hb0)
  have HC := Hold.mk hc
  have HLL := Hold.mk hl
  have HNE := Hold.mk hne
  have HOB := Hold.mk hob
  have HEN := Hold.mk hen
  obtain ⟨pa, pcap, rfl, _⟩ := hp.shape
  clear hb0 e0 e1 e2 hp hc hl hne hob hen hL hf hfx
  go_enter Tryz.func107, Tryz.ntmps107
  go_upto_region 1 with (fail)
  rw [← hW0]
  clear hW0
  go_wp2_with fail
  go_loopw [12] (fun i wr => ∃ q : Nat, i = .int .i64 q ∧ q ≤ 2 ∧ (∀ (i' : Nat) t, i' < q → [n1, n2][i']? = some t → firstF L s t = none) ∧ Below W0.heap.size W0 wr) (fun i _ => 2 - (intOf i).toNat)
  case atStart => exact ⟨0, rfl, Nat.zero_le _, fun _ _ h => by omega, Below.refl _ _⟩
  case round =>
    obtain ⟨q, rfl, hq, hall, hbl⟩ := hrel
    have HALL := Hold.mk hall
    have HBL := Hold.mk hbl
    have HBW : Hold (Below w.heap.size w wr) := ⟨HB0.out.trans (hbl.mono HB0.out.size)⟩
    clear hall hbl
    by_cases hlt : q < 2
    · obtain ⟨tq, htq⟩ : ∃ tq, [n1, n2][q]? = some tq := ⟨_, List.getElem?_eq_getElem (by simpa using hlt)⟩
      have HTQ := Hold.mk htq
      have zc : wr.cell? ⟨w.heap.size + 2, q, none⟩ = some (.string tq) := by
        have h := kept HE2.out HBL.out
        match q, htq with
        | 0, h2 => cases h2; simp [World.cell?, h]
        | 1, h2 => cases h2; simp [World.cell?, h]
        | q + 2, h2 => simp at h2
      obtain ⟨y0, y1, y2, y3, y4⟩ := cells_five (kept HE0.out HBL.out)
      obtain ⟨c0, c1⟩ := cells_two (kept HE1.out HBL.out)
      have g0 := Grow.cell y0
      have g1 := Grow.cell y1
      have g2 := Grow.cell y2
      have g3 := Grow.cell y3
      have g4 := Grow.cell y4
      have g5 := Grow.cell c0
      have g6 := Grow.cell zc
      clear htq y0 y1 y2 y3 y4 c0 c1 zc
      go_upto_region 4 with (fail)
      go_cut [13, 14] (fun s1 s2 wx => FBox c (firstF L s tq) wr s1 s2 wx)
      case first =>
        refine wp_region_mix 13 rfl (by kernel_rfl) ?_
        rintro w3 hb3
        refine mixl_seg (by kernel_rfl) (fun _ _ d _ _ h => by cases d <;> exact h) [0, 1, 2, 3, 4, 5] [_, _, _, _, _, _] 7 13 rfl _ _ _ rfl (by kernel_rfl) (growC hb3) ?_
        repeat (go_big_quiet_step (fail))
        refine wpQuiet_nil ?_
        clear g0 g1 g2 g3 g4 g5 g6
        have HG4 := Hold.mk hb3
        clear hb3
        refine mixl_two (i := 6) (j := 10) rfl rfl (by kernel_rfl) (growC HG4.out) rfl rfl (fun K hK => ?_) (fun K hK => ?_)
        · go_wp2_with fail
          refine (HFI.out tq w3 (HBW.out.trans (HG4.out.mono HBW.out.size))).mono ?_
          rintro e w5 hg
          obtain ⟨k2, n2, t2, na2, nl2, nc2, ia2, il2, ic2, rfl, hu, hb5⟩ := first_opt hg
          have HOU := Hold.mk hu
          have HG6 : Hold (Below wr.heap.size wr w5) := ⟨HG4.out.trans (hb5.mono HG4.out.size)⟩
          clear hb5 hg hu
          go_wp2_with fail
          refine mixl_seg (by kernel_rfl) (fun _ _ d _ _ h => by cases d <;> exact h) [7, 8, 9] [_, _, _] 3 6 rfl _ _ _ rfl (by kernel_rfl) (growC HG6.out) ?_
          repeat (go_big_quiet_step (fail))
          refine wpQuiet_nil ?_
          refine mixl_act (i := 10) rfl (by kernel_rfl) (growC HG6.out) rfl (fun K hK => ?_)
          go_wp2_with fail
          have HWL : Hold (wr.heap.size ≤ w5.heap.size) := ⟨HG6.out.size⟩
          replace HG6 := Hold.mk (HG6.out.alloc HG6.out.size (.cells #[.int .i64 0, .int .i64 0, .string ⟨#[]⟩, .slice none 0 0, .slice none 0 0] 25))
          have HZB := Hold.mk (heap_alloc_new w5 (.cells #[.int .i64 0, .int .i64 0, .string ⟨#[]⟩, .slice none 0 0, .slice none 0 0] 25))
          generalize w5.alloc (.cells #[.int .i64 0, .int .i64 0, .string ⟨#[]⟩, .slice none 0 0, .slice none 0 0] 25) = w6 at HG6 HZB ⊢
          generalize w5.heap.size = zb at HZB HWL ⊢
          refine mixl_act (i := 11) rfl (by kernel_rfl) (growC HG6.out) rfl (fun K hK => ?_)
          obtain ⟨v0, v1, v2, v3, v4⟩ := cells_five HZB.out
          have q0 := free_box HZB.out 0
          have q1 := free_box HZB.out 1
          have q2 := free_box HZB.out 2
          have q3 := free_box HZB.out 3
          have q4 := free_box HZB.out 4
          go_wp2_with fail
          clear v0 v1 v2 v3 v4 q0 q1 q2 q3 q4
          have HZ6 := Hold.mk (set5_self (c0 := .int .i64 k2) (c1 := .int .i64 n2) (c2 := .string t2) (c3 := .slice na2 nl2 nc2) (c4 := .slice ia2 il2 ic2) HZB.out)
          replace HG6 := Hold.mk (set5_below (k := zb) (c0 := .int .i64 k2) (c1 := .int .i64 n2) (c2 := .string t2) (c3 := .slice na2 nl2 nc2) (c4 := .slice ia2 il2 ic2) HG6.out HWL.out)
          unfold set5 at HZ6 HG6
          generalize hw8 : ((((w6.setCell ⟨zb, 0, none⟩ (.int .i64 k2)).setCell ⟨zb, 1, none⟩ (.int .i64 n2)).setCell ⟨zb, 2, none⟩ (.string t2)).setCell ⟨zb, 3, none⟩ (.slice na2 nl2 nc2)).setCell ⟨zb, 4, none⟩ (.slice ia2 il2 ic2) = w8 at HZ6 HG6 ⊢
          clear hw8
          refine mixl_seg (by kernel_rfl) (fun _ _ d _ _ h => by cases d <;> exact h) [12] [_] 0 1 rfl _ _ _ rfl (by kernel_rfl) (growC HG6.out) ?_
          repeat (go_big_quiet_step (fail))
          refine wpQuiet_nil ?_
          refine mix_done (by kernel_rfl) (growC HG6.out) ?_
          have HVX : Hold (FBox c (firstF L s tq) wr (.pointer (some ⟨zb, 0, none⟩)) (.bool (firstF L s tq).isSome) w8) := ⟨zb, k2, n2, t2, na2, nl2, nc2, ia2, il2, ic2, rfl, rfl, HZ6.out, HOU.out, HG6.out⟩
          go_wp2_with fail
          go_meet
          case rel => exact HVX.out
        · go_wp2_with fail
          have HZB := Hold.mk (heap_alloc_new w3 (.cells #[.int .i64 0, .int .i64 0, .string ⟨#[]⟩, .slice none 0 0, .slice none 0 0] 25))
          have HWL : Hold (wr.heap.size ≤ w3.heap.size) := ⟨HG4.out.size⟩
          have HGZ := Hold.mk (HG4.out.alloc HG4.out.size (.cells #[.int .i64 0, .int .i64 0, .string ⟨#[]⟩, .slice none 0 0, .slice none 0 0] 25))
          generalize w3.alloc (.cells #[.int .i64 0, .int .i64 0, .string ⟨#[]⟩, .slice none 0 0, .slice none 0 0] 25) = wz at HZB HGZ ⊢
          generalize w3.heap.size = zb at HZB HWL ⊢
          refine mixl_act (i := 6) rfl (by kernel_rfl) (growC HGZ.out) rfl (fun K hK => ?_)
          go_wp2_with fail
          refine (HFI.out tq wz (HBW.out.trans (HGZ.out.mono HBW.out.size))).mono ?_
          rintro e w5 hg
          obtain ⟨k2, n2, t2, na2, nl2, nc2, ia2, il2, ic2, rfl, hu, hb5⟩ := first_opt hg
          have HOU := Hold.mk hu
          have HG6 : Hold (Below wr.heap.size wr w5) := ⟨HGZ.out.trans (hb5.mono HGZ.out.size)⟩
          replace HZB := Hold.mk (kept HZB.out hb5)
          clear hb5 hg hu
          go_wp2_with fail
          refine mixl_seg (by kernel_rfl) (fun _ _ d _ _ h => by cases d <;> exact h) [7, 8, 9] [_, _, _] 2 5 rfl _ _ _ rfl (by kernel_rfl) (growC HG6.out) ?_
          repeat (go_big_quiet_step (fail))
          refine wpQuiet_nil ?_
          refine mixl_act (i := 11) rfl (by kernel_rfl) (growC HG6.out) rfl (fun K hK => ?_)
          obtain ⟨v0, v1, v2, v3, v4⟩ := cells_five HZB.out
          have q0 := free_box HZB.out 0
          have q1 := free_box HZB.out 1
          have q2 := free_box HZB.out 2
          have q3 := free_box HZB.out 3
          have q4 := free_box HZB.out 4
          go_wp2_with fail
          clear v0 v1 v2 v3 v4 q0 q1 q2 q3 q4
          have HZ6 := Hold.mk (set5_self (c0 := .int .i64 k2) (c1 := .int .i64 n2) (c2 := .string t2) (c3 := .slice na2 nl2 nc2) (c4 := .slice ia2 il2 ic2) HZB.out)
          replace HG6 := Hold.mk (set5_below (k := zb) (c0 := .int .i64 k2) (c1 := .int .i64 n2) (c2 := .string t2) (c3 := .slice na2 nl2 nc2) (c4 := .slice ia2 il2 ic2) HG6.out HWL.out)
          unfold set5 at HZ6 HG6
          generalize hw8 : ((((w5.setCell ⟨zb, 0, none⟩ (.int .i64 k2)).setCell ⟨zb, 1, none⟩ (.int .i64 n2)).setCell ⟨zb, 2, none⟩ (.string t2)).setCell ⟨zb, 3, none⟩ (.slice na2 nl2 nc2)).setCell ⟨zb, 4, none⟩ (.slice ia2 il2 ic2) = w8 at HZ6 HG6 ⊢
          clear hw8
          refine mixl_seg (by kernel_rfl) (fun _ _ d _ _ h => by cases d <;> exact h) [12] [_] 0 1 rfl _ _ _ rfl (by kernel_rfl) (growC HG6.out) ?_
          repeat (go_big_quiet_step (fail))
          refine wpQuiet_nil ?_
          refine mix_done (by kernel_rfl) (growC HG6.out) ?_
          have HVX : Hold (FBox c (firstF L s tq) wr (.pointer (some ⟨zb, 0, none⟩)) (.bool (firstF L s tq).isSome) w8) := ⟨zb, k2, n2, t2, na2, nl2, nc2, ia2, il2, ic2, rfl, rfl, HZ6.out, HOU.out, HG6.out⟩
          go_wp2_with fail
          go_meet
          case rel => exact HVX.out

      case rest =>
        clear g0 g1 g2 g3 g4 g5 g6
        obtain ⟨zb, k2, n2q, t2, na2, nl2, nc2, ia2, il2, ic2, rfl, rfl, hzb, hvj, hbx⟩ := hcut
        generalize wc = w5 at *
        have HBL5 := Hold.mk (HBL.out.trans (hbx.mono HBL.out.size))
        have HBW5 := Hold.mk (HBW.out.trans (hbx.mono HBW.out.size))
        have HZB := Hold.mk hzb
        have HVJ := Hold.mk hvj
        clear hzb hvj hbx
        cases hfe : firstF L s tq with
        | none =>
          have HA2 : Hold (∀ (i' : Nat) t, i' < q + 1 → [n1, n2][i']? = some t → firstF L s t = none) := ⟨fun i' t hi ht => by
            by_cases e : i' = q
            · subst e; rw [HTQ.out] at ht; cases ht; exact hfe
            · exact HALL.out i' t (by omega) ht⟩
          clear hfe
          go_wp2_with fail
          exact ⟨⟨q + 1, by go_num, hlt, HA2.out, HBL5.out⟩, by simp [intOf]; omega⟩
        | some v =>
          have HBD : Hold (ob = some (pl ++ partK v dn ++ (if (tq.toList == en.toList) = true then [255] else []))) := ⟨by
            rw [HOB.out, HEN.out]
            exact bound_at (p := pl) (f := (s, dn)) (one := one) HNE.out HTQ.out HALL.out hfe⟩
          have HFV : Hold (formedF 6 v = true) := ⟨by
            obtain ⟨a, ha, e⟩ := first_mem hfe
            rw [← e]; exact HFO.out a ha⟩
          have HVV := Hold.mk (HVJ.out v hfe)
          have zc : w5.cell? ⟨w.heap.size + 2, q, none⟩ = some (.string tq) := by
            have h := kept HE2.out HBL5.out
            have htq := HTQ.out
            match q, htq with
            | 0, h2 => cases h2; simp [World.cell?, h]
            | 1, h2 => cases h2; simp [World.cell?, h]
            | q + 2, h2 => simp at h2
          obtain ⟨y0, y1, y2, y3, y4⟩ := cells_five HZB.out
          obtain ⟨c0, c1⟩ := cells_two (kept HE1.out HBL5.out)
          have g0 := Grow.cell y0
          have g1 := Grow.cell y1
          have g2 := Grow.cell y2
          have g3 := Grow.cell y3
          have g4 := Grow.cell y4
          have g5 := Grow.cell c1
          have g6 := Grow.cell zc
          have HP5 := Hold.mk (HP.out.quiet HBL5.out)
          clear hfe HVJ y0 y1 y2 y3 y4 c0 c1 zc
          obtain ⟨res, hres⟩ : ∃ res, res = pl ++ partK v dn ++ (if (tq.toList == en.toList) = true then [255] else []) := ⟨_, rfl⟩
          rw [← hres] at HBD
          have HRS := Hold.mk hres
          clear hres
          go_upto_region 6 with (fail)
          refine wp_region_mix 12 rfl (by kernel_rfl) ?_
          rintro w6 hb6
          refine mixl_seg (by kernel_rfl) (fun _ _ d _ _ h => by cases d <;> exact h) [0, 1, 2, 3, 4, 5, 6, 7, 8] [_, _, _, _, _, _, _, _, _] 3 12 rfl _ _ _ rfl (by kernel_rfl) (growC hb6) ?_
          repeat (go_big_quiet_step (fail))
          refine wpQuiet_nil ?_
          clear g0 g1 g2 g3 g4 g5 g6
          have HB6 := Hold.mk hb6
          have HPT := Hold.mk (rpart_any _ _ pl v _ dn (tq.toList == en.toList) c w6 (HP5.out.quiet hb6) HLL.out HFV.out HVV.out ((HC.out.trans (cle_below HBW5.out)).trans (cle_below hb6)))
          rw [← HRS.out] at HPT
          clear hb6
          refine mixl_act (i := 9) rfl (by kernel_rfl) (growC HB6.out) rfl (fun K hK => ?_)
          go_wp2_with fail
          refine HPT.out.mono ?_
          rintro e w7 ⟨sv, rfl, hsv, hb7⟩
          obtain ⟨va, vcap, rfl, _⟩ := hsv.shape
          have HSV := Hold.mk hsv
          have HB7 := Hold.mk (HB6.out.trans (hb7.mono HB6.out.size))
          have HB6S := Hold.mk HB6.out.size
          clear hsv hb7 HPT
          go_wp2_with fail
          refine mixl_seg (by kernel_rfl) (fun _ _ d _ _ h => by cases d <;> exact h) [10, 11] [_, _] 0 2 rfl _ _ _ rfl (by kernel_rfl) (growC HB7.out) ?_
          repeat (go_big_quiet_step (fail))
          refine wpQuiet_nil ?_
          refine mix_done (by kernel_rfl) (growC HB7.out) ?_
          go_wp2_with fail
          go_ret2
          refine ⟨_, by rw [HBD.out]; rfl, ?_, HBW5.out.trans (HB7.out.mono HBW5.out.size)⟩
          rw [HBD.out]
          exact HSV.out.bel (Nat.le_trans HBW5.out.size HB6S.out)
    · have HN : Hold (ob = none) := ⟨by rw [HOB.out]; exact bound_none (fun i' t hi ht => HALL.out i' t (by omega) ht)⟩
      go_wp2_with fail
      go_ret2
      refine ⟨_, by rw [HN.out]; rfl, ?_, HBW.out⟩
      rw [HN.out]
      exact ⟨World.ownsRow_nil _ _ _ _, HBW.out.size⟩

end Go.Proofs.YtcmfanfkcbjeoaaGreatDoor
