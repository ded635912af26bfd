import Derived.Test.YtafilaiinbggoaaGreatQS41
import Derived.Test.YtafilaiinbggoaaGreatQS42
namespace Go.Proofs.YtafilaiinbggoaaGreat
open Go.RowKit Go.Maps
structure SB (H : HS) (w : World) (sb tb pb : Nat) : Prop where
 box : w.heap[sb]? = some (.cells #[.pointer (some ⟨pb, 0, none⟩), .pointer (some ⟨tb, 0, none⟩)] 68 (0, 0))
 off : ¬ H.all sb
theorem SB.below {H : HS} {w w' : World} {sb tb pb : Nat} (h : SB H w sb tb pb) (hb : Below w.heap.size w w') : SB H w' sb tb pb := ⟨kept h.box hb, h.off⟩
theorem SB.turn {H H' : HS} {w w' : World} {sb tb pb : Nat} (h : SB H w sb tb pb) (ht : TurnS H.all w H'.all w') : SB H' w' sb tb pb := by
 obtain ⟨h1, h2⟩ := ht.kept h.box h.off
 exact ⟨h1, h2⟩
def GatherPost (Q : PQ) (R : Int -> Option Bts) (H : HS) (S : PS) (p c : Nat) (name : Bts) (vs : List Bts) (w : World) (e : Ending) (w' : World) : Prop :=
 ∃ (outv : Value) (H' : HS) (S' : PS) (p' : Nat), e = .returned (.tuple #[outv, .int .i64 0]) /\ PG Q R H' S' p' w' /\ SameP S S' /\ TurnS H.all w H'.all w' /\ p' <= p + c /\ (vs = [] -> outv = .slice none 0 0) /\ (vs ≠ [] -> ∃ (ob cc : Nat) (nv vsl ksl : Value) (c0 : CF) (B : Nat) (w0 : World), outv = .slice (some ⟨ob, 0, none⟩) 1 cc /\ GN c0 B ob name (verL vs) vs.length nv vsl ksl w0 w' /\ CLe c0 (cf w') /\ w.heap.size <= B)
theorem list_few {f t : Bts} {o : Top} (h : (esO o).length <= 1000000) : listE false f t 9223372036854775807 o = rngE f t (esO o) := by
 unfold listE
 have e : ordE false (esO o) = esO o := rfl
 rw [e]
 refine List.take_of_length_le (Nat.le_trans (List.length_filter_le ..) ?_)
 omega
def GR (w2 : World) (s : UInt8) (name : Bts) (vs : List Bts) (s10 s11 : Value) (j : Nat) (wr : World) : Prop :=
 (j = 0 /\ s10 = .slice none 0 0 /\ s11 = .int .i64 (-1) /\ Below w2.heap.size w2 wr) \/ (1 <= j /\ ∃ (ob cc : Nat) (nv vsl ksl : Value), s10 = .slice (some ⟨ob, 0, none⟩) 1 cc /\ s11 = .int .i64 (s.toNat : Int) /\ GN (cfU w2) w2.heap.size ob name ((verL vs).take j) j nv vsl ksl w2 wr)
theorem GR.bel {w2 : World} {s : UInt8} {name : Bts} {vs : List Bts} {s10 s11 : Value} {j : Nat} {wr : World} (h : GR w2 s name vs s10 s11 j wr) : Below w2.heap.size w2 wr := by
 rcases h with ⟨_, _, _, h⟩ | ⟨_, _, _, _, _, _, _, _, h⟩
 ·exact h
 ·exact h.bel
theorem GR.quiet {w2 : World} {s : UInt8} {name : Bts} {vs : List Bts} {s10 s11 : Value} {j : Nat} {wr w' : World} (h : GR w2 s name vs s10 s11 j wr) (hb : Below wr.heap.size wr w') : GR w2 s name vs s10 s11 j w' := by
 have hbl := h.bel
 rcases h with ⟨h0, h1, h2, h3⟩ | ⟨h0, ob, cc, nv, vsl, ksl, h1, h2, h3⟩
 ·exact .inl ⟨h0, h1, h2, h3.trans (hb.mono h3.size)⟩
 ·exact .inr ⟨h0, ob, cc, nv, vsl, ksl, h1, h2, h3.quiet hb⟩
theorem rest_one {c : CF} {b off l cap : Nat} {x : UInt8} {m : Bts} (h : YAt c (.slice (some ⟨b, off, none⟩) l cap) (x :: m)) : YAt c (.slice (if cap = 1 then some ⟨b, off, none⟩ else some ⟨b, off + 1, none⟩) (l - 1) (cap - 1)) m := by
 have hl : l = (x :: m).length := yat_len h
 obtain ⟨_, _, e, h1, h2, _⟩ := id h
 simp only [Value.slice.injEq] at e
 rw [<- e.2.2] at h1 h2
 have h1' : l <= cap := by rw [hl]; exact h1
 by_cases hc : cap = 1
 ·rw [if_pos hc]
  have hm : m = [] := by
   rw [List.length_cons] at hl
   exact List.length_eq_zero_iff.1 (by omega)
  rw [hm, show l - 1 = 0 by omega]
  exact SAt.empty (by omega)
 ·rw [if_neg hc]
  have := yat_part h (i := 1) (j := l) (by rw [hl]; simp) (by rw [hl]; exact Nat.le_refl _) (cap' := cap - 1) (by omega) (by omega)
  rw [show ((x :: m).drop 1) = m from rfl, List.take_of_length_le (by rw [hl]; simp)] at this
  exact this
set_option maxRecDepth 100000 in
set_option maxHeartbeats 16000000 in
theorem store_gather {Q : PQ} {R : Int -> Option Bts} {H : HS} {S : PS} {p sb tb : Nat} {root : Int} {o : Top} {s : UInt8} {name f t : Bts} {vs : List Bts} {fv tv : Value} {w : World} (h : PG Q R H S p w) (ht : TB H w tb Q.pb root) (hs : SB H w sb tb Q.pb) (ho : TopIn S o root) (hf : YAt (cfU w) fv f) (htv : YAt (cfU w) tv t) (heq : rngE f t (esO o) = stE s name vs) (hlen : (esO o).length <= 1000) (hh : heightO o <= 20) (hp : p + 4 * (pagesO o).length <= 999999900) (hnm : name.length <= 200) (hvs : ∀ v ∈ vs, 1 <= v.length /\ v.length <= 260) (hvl : vs.length <= 200) :
  Calls Tryz.prog 26 #[.pointer (some ⟨sb, 0, none⟩), fv, tv] w (GatherPost Q R H S p (4 * (pagesO o).length) name vs w) := by
 obtain ⟨fa, fc, rfl⟩ := hf.form
 obtain ⟨ta, tc, rfl⟩ := htv.form
 obtain ⟨fl, hfl⟩ : ∃ fl, fl = f.length := ⟨_, rfl⟩
 obtain ⟨tl, htl⟩ : ∃ tl, tl = t.length := ⟨_, rfl⟩
 rw [<- hfl] at hf |-
 rw [<- htl] at htv |-
 have x0 : w.cell? ⟨sb, 0, none⟩ = some (.pointer (some ⟨Q.pb, 0, none⟩)) := by simp [World.cell?, hs.box]
 have x1 : w.cell? ⟨sb, 1, none⟩ = some (.pointer (some ⟨tb, 0, none⟩)) := by simp [World.cell?, hs.box]
 have g0 := KeepS.cell (P := fun q => q = sb) x0 rfl
 have g1 := KeepS.cell (P := fun q => q = sb) x1 rfl
 have HH := HoldT.mk (And.intro h (And.intro ht (And.intro hs (And.intro ho (And.intro hf (And.intro htv (And.intro heq (And.intro hlen (And.intro hh hp)))))))))
 have HV := HoldT.mk (And.intro hnm (And.intro hvs hvl))
 clear h ht hs ho hf htv heq hlen hh hp hnm hvs hvl hfl htl x0 x1
 go_enter Tryz.func26, Tryz.ntmps26
 go_upto_region 3 with (fail)
 refine wp_region_mixC (KeepSC (fun q => q = sb) w) 17 rfl (by kernel_rfl) ?_
 have HDR := HoldT.mk ((Below.refl w.heap.size w).drew)
 have HST : HoldT (∀ q : Nat, w.drew.heap[q]? = w.heap[q]?) := ⟨fun _ => rfl⟩
 generalize w.drew = v9 at HDR HST |-
 refine mixl_seg (by kernel_rfl) (fun _ _ d _ _ h => by cases d <;> exact h) [0, 1, 2, 3, 4, 5, 6, 7, 9, 10] [_, _, _, _, _, _, _, _, _, _] 7 17 rfl _ _ _ rfl (by kernel_rfl) (keepSC fun q _ => HST.out q) ?_
 repeat (go_big_quiet_step (fail))
 refine wpQuiet_nil ?_
 clear g0 g1
 have HRT := HoldT.mk (tree_root (HH.out.2.1.below HDR.out))
 have HUP := HoldT.mk (walk_Up (A := 0) (most := 9223372036854775807) (HH.out.1.below HDR.out) ⟨Nat.zero_le _, fun _ _ => Nat.zero_le _⟩ ((HH.out.2.2.2.2.1.mono RY_mono (cfU_below HDR.out)).mono RY_mono (cfU_cfL 0 _)) ((HH.out.2.2.2.2.2.1.mono RY_mono (cfU_below HDR.out)).mono RY_mono (cfU_cfL 0 _)) HH.out.2.2.2.1 HH.out.2.2.2.2.2.2.2.2.2 HH.out.2.2.2.2.2.2.2.2.1 (by have := HH.out.2.2.2.2.2.2.2.1; omega))
 rw [list_few (by have := HH.out.2.2.2.2.2.2.2.1; omega), HH.out.2.2.2.2.2.2.1] at HUP
 refine mixl_act (i := 8) rfl (by kernel_rfl) (keepSC fun q _ => HST.out q) rfl (fun K hK => ?_)
 go_wp2_with fail
 refine HRT.out.mono ?_
 rintro e w3 ⟨rfl, hw3⟩
 obtain rfl := hw3.symm
 go_wp2_with fail
 refine mixl_act (i := 11) rfl (by kernel_rfl) (keepSC fun q _ => HST.out q) rfl (fun K hK => ?_)
 go_wp2_with fail
 refine HUP.out.mono ?_
 rintro e w2 ⟨sl, H2, S2, p2, rfl, ⟨cs, hor⟩, hoff, hG2, hS2, hT2, hp2⟩
 have hTT : TurnS H.all w H2.all w2 := (TurnS.quiet HDR.out).trans hT2
 have KS2 : HoldT (∀ q : Nat, q = sb -> w2.heap[q]? = w.heap[q]?) := ⟨fun q e => by rw [e]; exact (hTT.out sb (heap_lt HH.out.2.2.1.box) HH.out.2.2.1.off).1⟩
 obtain ⟨sa, sc, rfl⟩ := hor.shape
 rw [stE_len] at hor |-
 obtain ⟨n, hnn⟩ : ∃ n, n = vs.length := ⟨_, rfl⟩
 rw [<- hnn] at hor |-
 have hn9 : n <= 200 := by have := HV.out.2.2; omega
 have H2' := HoldT.mk (And.intro hG2 (And.intro hS2 (And.intro hTT (And.intro hp2 (And.intro (Nat.le_trans HDR.out.size hT2.size) hnn)))))
 have HL := HoldT.mk (hor.at_ (RE_mono _))
 clear hG2 hS2 hTT hp2 hT2 hor hoff hnn HUP HRT
 go_wp2_with fail
 refine mixl_seg (by kernel_rfl) (fun _ _ d _ _ h => by cases d <;> exact h) [12, 13, 14, 15, 16] [_, _, _, _, _] 0 5 rfl _ _ _ rfl (by kernel_rfl) (keepSC KS2.out) ?_
 repeat (go_big_quiet_step (fail))
 refine wpQuiet_nil ?_
 refine mix_done (by kernel_rfl) (keepSC KS2.out) ?_
 clear KS2 HST HDR
 go_wp2_with fail
 have HG0 := HoldT.mk (show GR w2 s name vs (.slice none 0 0) (.int .i64 (-1)) 0 w2 from .inl ⟨rfl, rfl, rfl, Below.refl _ _⟩)
 go_loopw [10, 11, 13, 14, 15, 16, 39] (fun s10 s11 s13 s14 s15 s16 s39 wr => ∃ j : Nat, s39 = .int .i64 (j : Int) /\ j <= n /\ HoldT (GR w2 s name vs s10 s11 j wr)) (fun _ _ _ _ _ _ s39 _ => n - (intOf s39).toNat)
 case atStart => exact ⟨0, rfl, Nat.zero_le _, HG0⟩
 case round =>
  obtain ⟨j, rfl, hj, HJ⟩ := hrel
  clear HG0
  by_cases hlt : j < n
  ·obtain ⟨v, hv⟩ : ∃ v, vs[j]? = some v := ⟨vs[j]'(by rw [<- H2'.out.2.2.2.2.2]; exact hlt), List.getElem?_eq_getElem _⟩
   have hev := stE_at (s := s) (name := name) hv
   rw [<- H2'.out.2.2.2.2.2] at hev
   obtain ⟨hv1, hv2⟩ := HV.out.2.1 v (List.mem_of_getElem? hv)
   obtain ⟨c, bs, rfl⟩ : ∃ c bs, v = c :: bs := by
    cases v with
    | nil => simp at hv1
    | cons c bs => exact ⟨c, bs, rfl⟩
   obtain ⟨_, _, e9, _, _, hel⟩ := HL.out
   simp only [Value.slice.injEq] at e9
   obtain ⟨b, off, d, ea, hdl, hcc, hrd⟩ := hel j _ hev
   obtain rfl : sa = some ⟨b, off, none⟩ := e9.1.trans ea
   obtain ⟨kv, vv, rfl, hky, hvy⟩ := hrd
   obtain ⟨va, vc, rfl⟩ := hvy.form
   obtain ⟨ka, kc, rfl⟩ := hky.form
   obtain ⟨vl, hvl2⟩ : ∃ vl, vl = (c :: bs).length := ⟨_, rfl⟩
   obtain ⟨kl, hkl2⟩ : ∃ kl, kl = (stampB s name (n - j)).length := ⟨_, rfl⟩
   rw [<- hvl2] at hvy hcc
   rw [<- hkl2] at hky hcc
   obtain ⟨vb, vo, hva, hvb1, hvb2⟩ : ∃ vb vo, va = some ⟨vb, vo, none⟩ /\ w2.cell? ⟨vb, vo, none⟩ = some (.int .u8 (c.toNat : Int)) /\ vb < w2.heap.size := by
    obtain ⟨_, _, e9, _, _, hel⟩ := hvy
    simp only [Value.slice.injEq] at e9
    obtain ⟨vb, vo, d, ea, _, hcc, hrd⟩ := hel 0 c rfl
    have hrd' : d = [.int .u8 (c.toNat : Int)] := hrd
    subst hrd'
    have h1 := cfU_cf _ _ _ _ (hcc 0 _ rfl)
    unfold cf at h1
    have h2 : w2.cell? ⟨vb, vo, none⟩ = some (.int .u8 (c.toNat : Int)) := by simpa using h1
    exact ⟨vb, vo, e9.1.trans ea, h2, lt_of_cell h2⟩
   subst hva
   have hcl := cle_below HJ.out.bel
   have c0 := hcl _ _ _ (hcc 0 _ rfl)
   have c1 := hcl _ _ _ (hcc 1 _ rfl)
   unfold cf at c0 c1
   rw [Nat.add_zero] at c0
   obtain ⟨xb, hxb⟩ : ∃ q, q = wr.heap.size := ⟨_, rfl⟩
   obtain ⟨w5, hw5⟩ : ∃ w5, w5 = wr.alloc (.cells #[.slice ka kl kc, .slice (some ⟨vb, vo, none⟩) vl vc] 127) := ⟨_, rfl⟩
   have hb5 : Below wr.heap.size wr w5 := by rw [hw5]; exact (Below.refl _ wr).alloc (Nat.le_refl _) _
   have hx5 : w5.heap[xb]? = some (.cells #[.slice ka kl kc, .slice (some ⟨vb, vo, none⟩) vl vc] 127 (0, 0)) := by rw [hw5, hxb]; exact heap_alloc_new wr _
   obtain ⟨tm, htm⟩ : ∃ tm, tm = n - j := ⟨_, rfl⟩
   rw [<- htm] at hky
   have HTM := HoldT.mk (And.intro htm (And.intro hvb1 hvb2))
   have HRD := HoldT.mk (stamp_Read (s := s) (name := name) (t := tm) (w := w5) (((hky.mono RY_mono (cfU_cf _)).mono RY_mono hcl).mono RY_mono (cle_below hb5)) HV.out.1 (by omega))
   have y0 : w5.cell? ⟨xb, 0, none⟩ = some (.slice ka kl kc) := by simp [World.cell?, hx5]
   have HY := HoldT.mk (And.intro hvy (And.intro hvl2 (And.intro hv hx5)))
   replace HJ := HoldT.mk (HJ.out.quiet hb5)
   have HW := HoldT.mk (And.intro hxb hw5)
   have b1 : decide ((j : Int) < (n : Int)) = true := decide_eq_true (by omega)
   have b2 : (j : Int) < (n : Int) := by omega
   have hvlb : 1 <= vl /\ vl <= 260 := by rw [hvl2]; exact ⟨hv1, hv2⟩
   clear hev hv hv1 hv2 e9 hel ea hdl hcc hky hvy hvl2 hkl2 htm hvb1 hvb2 hcl hxb hw5 hb5 hx5
   go_upto_region 11 with (fail)
   rw [<- HW.out.1, <- HW.out.2]
   clear HW c0 c1
   go_wp2_with fail
   refine HRD.out.mono ?_
   rintro e w6 ⟨nvn, cs6, rfl, ho6, hb6⟩
   obtain ⟨nva, nvc, rfl⟩ := ho6.shape
   obtain ⟨nl, hnl⟩ : ∃ nl, nl = name.length := ⟨_, rfl⟩
   rw [<- hnl] at ho6 |-
   obtain ⟨kb, hkb⟩ : ∃ q, q = w6.heap.size := ⟨_, rfl⟩
   obtain ⟨w7, hw7⟩ : ∃ w7, w7 = w6.alloc (.cells #[.int .i64 (s.toNat : Int), .slice nva nl nvc, .int .u64 (tm : Int)] 66) := ⟨_, rfl⟩
   have hb7 : Below w6.heap.size w6 w7 := by rw [hw7]; exact (Below.refl _ w6).alloc (Nat.le_refl _) _
   have hx7 : w7.heap[kb]? = some (.cells #[.int .i64 (s.toNat : Int), .slice nva nl nvc, .int .u64 (tm : Int)] 66 (0, 0)) := by rw [hw7, hkb]; exact heap_alloc_new w6 _
   have hx67 := kept (kept HY.out.2.2.2 hb6) hb7
   have HNM := HoldT.mk (show YAt (cfU w7) (.slice nva nl nvc) name from (ho6.quiet RY_mono hb7).yat)
   replace HJ := HoldT.mk ((HJ.out.quiet hb6).quiet hb7)
   have H7 := HoldT.mk (And.intro hx67 (And.intro hx7 hnl))
   have HW := HoldT.mk (And.intro hkb hw7)
   clear hkb hw7 hb7 hx7 hx67 hb6 ho6 hnl HRD y0
   go_upto_region 12 with (fail)
   rw [<- HW.out.1, <- HW.out.2]
   clear HW
   have z1 : w7.cell? ⟨xb, 1, none⟩ = some (.slice (some ⟨vb, vo, none⟩) vl vc) := by simp [World.cell?, H7.out.1]
   have i1 : ¬ (vl : Int) = 0 := by omega
   have i2 : ¬ vl = 0 := by omega
   go_upto_region 14 with (fail)
   clear z1
   rcases HJ.out with ⟨hj0, rfl, rfl, hbj⟩ | ⟨hj1, ob, cc, nv, vsl, ksl, rfl, rfl, hgn⟩
   case' inl =>
    have HBJ := HoldT.mk (And.intro hbj hj0)
    have HN7 := HoldT.mk (HNM.out.mono RY_mono (cfU_cfL 0 w7))
    have k0 : w7.cell? ⟨kb, 0, none⟩ = some (.int .i64 (s.toNat : Int)) := by simp [World.cell?, H7.out.2.1]
    have k1 : w7.cell? ⟨kb, 1, none⟩ = some (.slice nva nl nvc) := by simp [World.cell?, H7.out.2.1]
    clear hbj hj0
    go_upto_region 15 with (fail)
    refine wp_region_mixC (KeepSC (fun _ => False) w7) 19 rfl (by kernel_rfl) ?_
    have HDR := HoldT.mk ((Below.refl w7.heap.size w7).drew)
    generalize w7.drew = w8 at HDR |-
    refine mixl_seg (by kernel_rfl) (fun _ _ d _ _ h => by cases d <;> exact h) [0, 1, 2, 3, 4, 5, 6, 7, 8, 9, 10, 11, 12, 13, 14, 15] [_, _, _, _, _, _, _, _, _, _, _, _, _, _, _, _] 3 19 rfl _ _ _ rfl (by kernel_rfl) (keepSC fun _ h => h.elim) ?_
    repeat (go_big_quiet_step (fail))
    refine wpQuiet_nil ?_
    refine mixl_skip (i := 16) rfl (by kernel_rfl) (fun _ _ d _ _ h => by cases d <;> exact h) (by kernel_rfl) (by kernel_rfl) rfl ?_
    simp only [Act.put, List.setIfInBounds_toArray, List.set_cons_succ, List.set_cons_zero]
    refine mixl_seg (by kernel_rfl) (fun _ _ d _ _ h => by cases d <;> exact h) [17, 18] [_, _] 0 2 rfl _ _ _ rfl (by kernel_rfl) (keepSC fun _ h => h.elim) ?_
    repeat (go_big_quiet_step (fail))
    refine wpQuiet_nil ?_
    refine mix_done (by kernel_rfl) (keepSC fun _ h => h.elim) ?_
    have j0 := cle_below HDR.out _ _ _ (show cf w7 kb 0 = _ from k0)
    have j1 := cle_below HDR.out _ _ _ (show cf w7 kb 1 = _ from k1)
    unfold cf at j0 j1
    have h0 := Grow.cell j0
    have h1 := Grow.cell j1
    clear k0 k1 j0 j1
    go_upto_region 16 with (fail)
    refine wp_region_mix 13 rfl (by kernel_rfl) ?_
    rintro w9 hb9
    have HG := HoldT.mk hb9
    have HW9 := HoldT.mk hb9
    clear hb9
    refine mixl_seg (by kernel_rfl) (fun _ _ d _ _ h => by cases d <;> exact h) [0, 1, 2, 3, 6, 7, 8, 9] [_, _, _, _, _, _, _, _] 5 13 rfl _ _ _ rfl (by kernel_rfl) (growC HG.out) ?_
    repeat (go_big_quiet_step (fail))
    refine wpQuiet_nil ?_
    clear h0 h1
    refine mixl_act (i := 4) rfl (by kernel_rfl) (growC HG.out) rfl (fun K hK => ?_)
    go_wp2_with fail
    have hba := (Below.refl w9.heap.size w9).alloc (Nat.le_refl _) (.cells #[.slice nva nl nvc, .slice none 0 0, .slice none 0 0] 78)
    replace HG := HoldT.mk (HG.out.trans (hba.mono HG.out.size))
    clear hba
    refine mixl_act (i := 5) rfl (by kernel_rfl) (growC HG.out) rfl (fun K hK => ?_)
    refine wp_push RNam_mono _ _ rfl infoNam Tryz.underlying73 rfl (by decide) w2.heap.size w9 (.slice none 0 0) 0 [] [] (OwnS.start 3 RNam 78 (Nat.le_trans HBJ.out.1.size (Nat.le_trans HDR.out.size HW9.out.size))) rfl _ [.slice nva nl nvc, .slice none 0 0, .slice none 0 0] rfl rfl (by simp [Value.oneCell']) (.slice nva nl nvc, .slice none 0 0, .slice none 0 0) rfl _ rfl rfl (by omega) (by decide) ?_
    intro sl10 w10 ho10 hg10
    have hb10 : Below w9.heap.size w9 w10 := hg10.below (Nat.le_refl _) (fun g e => by cases e)
    obtain ⟨ob, cc, rfl, hgn⟩ := GN.first (c0 := cfU w2) (name := name) (w0 := w2) rfl (HBJ.out.1.trans ((HDR.out.trans (HW9.out.mono HDR.out.size)).mono HBJ.out.1.size)) ((HN7.out.mono RY_mono (cfL_below HDR.out)).mono RY_mono (cfL_below HW9.out)) ho10 hb10
    have HGN := HoldT.mk (And.intro hgn HBJ.out.2)
    have HB10 := HoldT.mk ((HDR.out.trans (HW9.out.mono HDR.out.size)).trans (hb10.mono (Nat.le_trans HDR.out.size HW9.out.size)))
    replace HG := HoldT.mk (HW9.out.trans (hb10.mono HW9.out.size))
    clear ho10 hg10 hb10 hgn
    go_wp2_with fail
    refine mixl_seg (by kernel_rfl) (fun _ _ d _ _ h => by cases d <;> exact h) [10, 11, 12] [_, _, _] 0 3 rfl _ _ _ rfl (by kernel_rfl) (growC HG.out) ?_
    repeat (go_big_quiet_step (fail))
    refine wpQuiet_nil ?_
    refine mix_done (by kernel_rfl) (growC HG.out) ?_
    obtain ⟨nvA, vslA, kslA, HGA⟩ : ∃ a1 a2 a3, HoldT (GN (cfU w2) w2.heap.size ob name ((verL vs).take j) j a1 a2 a3 w2 w10) := ⟨_, _, _, ⟨by rw [HGN.out.2]; exact HGN.out.1⟩⟩
    have HBA := HoldT.mk HB10.out
    clear HGN HB10 HG HW9 HDR HBJ
    generalize w10 = wA at HGA HBA |-
   case' inr =>
    have HBJ := HoldT.mk (And.intro hgn hj1)
    have HN7 := HoldT.mk HNM.out
    obtain ⟨o0, o1, o2, ofr, olt⟩ := hgn.cells
    have k0 : w7.cell? ⟨kb, 0, none⟩ = some (.int .i64 (s.toNat : Int)) := by simp [World.cell?, H7.out.2.1]
    have k1 : w7.cell? ⟨kb, 1, none⟩ = some (.slice nva nl nvc) := by simp [World.cell?, H7.out.2.1]
    have h0 := KeepS.cell (P := fun q => q = kb \/ q = ob) k0 (.inl rfl)
    have h1 := KeepS.cell (P := fun q => q = kb \/ q = ob) k1 (.inl rfl)
    have h2 := KeepS.cell (P := fun q => q = kb \/ q = ob) o0 (.inr rfl)
    clear hgn hj1 o0 o1 o2 ofr olt k0 k1
    go_upto_region 15 with (fail)
    refine wp_region_mixC (KeepSC (fun q => q = kb \/ q = ob) w7) 19 rfl (by kernel_rfl) ?_
    have HDR := HoldT.mk ((Below.refl w7.heap.size w7).drew)
    have HST : HoldT (∀ q : Nat, w7.drew.heap[q]? = w7.heap[q]?) := ⟨fun _ => rfl⟩
    generalize w7.drew = w8 at HDR HST |-
    refine mixl_seg (by kernel_rfl) (fun _ _ d _ _ h => by cases d <;> exact h) [0, 1, 2, 3, 4, 5, 6, 7, 8, 9, 10, 11, 12, 13, 14, 15] [_, _, _, _, _, _, _, _, _, _, _, _, _, _, _, _] 3 19 rfl _ _ _ rfl (by kernel_rfl) (keepSC fun q _ => HST.out q) ?_
    repeat (go_big_quiet_step (fail))
    refine wpQuiet_nil ?_
    clear h0 h1 h2
    have HEQ := HoldT.mk (bEqualY (u := nv) (v := .slice nva nl nvc) (w := w8) ((HBJ.out.1.nm.mono RY_mono (cfL_below HDR.out)).mono RY_mono (cfL_cf 0 _)) ((HN7.out.mono RY_mono (cfU_below HDR.out)).mono RY_mono (cfU_cf _)))
    have hdt : decide (name = name) = true := by simp
    rw [hdt] at HEQ
    clear hdt
    refine mixl_act (i := 16) rfl (by kernel_rfl) (keepSC fun q _ => HST.out q) rfl (fun K hK => ?_)
    go_wp2_with fail
    refine HEQ.out.mono ?_
    rintro e w10 ⟨rfl, hw10⟩
    obtain rfl := hw10.symm
    simp only
    go_wp2_with fail
    refine mixl_seg (by kernel_rfl) (fun _ _ d _ _ h => by cases d <;> exact h) [17, 18] [_, _] 0 2 rfl _ _ _ rfl (by kernel_rfl) (keepSC fun q _ => HST.out q) ?_
    repeat (go_big_quiet_step (fail))
    refine wpQuiet_nil ?_
    refine mix_done (by kernel_rfl) (keepSC fun q _ => HST.out q) ?_
    have HGN := HoldT.mk (HBJ.out.1.quiet HDR.out)
    have HB10 := HoldT.mk HDR.out
    obtain ⟨nvA, vslA, kslA, HGA⟩ : ∃ a1 a2 a3, HoldT (GN (cfU w2) w2.heap.size ob name ((verL vs).take j) j a1 a2 a3 w2 w8) := ⟨_, _, _, HGN⟩
    have HBA := HoldT.mk HB10.out
    clear HGN HB10 HDR HST HEQ HBJ hw10
    generalize w8 = wA at HGA HBA |-
   all_goals
    obtain ⟨o0, o1, o2, ofr, olt⟩ := HGA.out.cells
    have k2 : wA.cell? ⟨kb, 2, none⟩ = some (.int .u64 (tm : Int)) := by simp [World.cell?, kept H7.out.2.1 HBA.out]
    have q1 : wA.cell? ⟨xb, 1, none⟩ = some (.slice (some ⟨vb, vo, none⟩) vl vc) := by simp [World.cell?, kept H7.out.1 HBA.out]
    have v0 : wA.cell? ⟨vb, vo, none⟩ = some (.int .u8 (c.toNat : Int)) := cle_below HGA.out.bel _ _ _ (show cf w2 vb vo = _ from HTM.out.2.1)
    have p0 := KeepS.cell (P := fun q => q = kb \/ q = xb \/ q = vb) k2 (.inl rfl)
    have p1 := KeepS.cell (P := fun q => q = kb \/ q = xb \/ q = vb) q1 (.inr (.inl rfl))
    have p2 := KeepS.cell (P := fun q => q = kb \/ q = xb \/ q = vb) v0 (.inr (.inr rfl))
    have r0 := KeepS.cell (P := fun q => q = ob) o1 rfl
    have i3 : (0 : Int) < (vl : Int) := by omega
    have i4 : 0 < vl := by omega
    have i5 : (1 : Int) <= (vl : Int) := by omega
    have i6 : vl <= vc /\ vc <= 9223372036854775807 := by
     obtain ⟨_, _, e, h1, h2, _⟩ := HY.out.1
     simp only [Value.slice.injEq] at e
     rw [<- e.2.2] at h1 h2
     exact ⟨by rw [HY.out.2.1]; exact h1, h2⟩
    obtain ⟨i6, i7⟩ := i6
    have i8 : (vl : Int) <= (vc : Int) := by omega
    clear o0 o1 o2 ofr olt k2 q1 v0
    go_upto_region 17 with (fail)
    refine wp_region_mixL (KeepP (fun q => q = kb \/ q = xb \/ q = vb) (fun q => q = ob) wA [22]) 23 rfl (by kernel_rfl) ?_
    have HDR := HoldT.mk ((Below.refl wA.heap.size wA).drew)
    have HST : HoldT (∀ q : Nat, wA.drew.heap[q]? = wA.heap[q]?) := ⟨fun _ => rfl⟩
    generalize wA.drew = wB at HDR HST |-
    refine mixL_seg (by kernel_rfl) (fun _ _ d _ _ h => by cases d <;> exact h) (KeepSC (fun q => q = kb \/ q = xb \/ q = vb) wA) keepP_base [0, 1, 2, 3, 4, 5, 7, 8, 9, 10, 11, 12, 13, 14, 15, 16] (keepP_back rfl) [_, _, _, _, _, _, _, _, _, _, _, _, _, _, _, _] 7 23 rfl _ _ _ rfl (by kernel_rfl) ?_
    repeat (go_big_quiet_step (fail))
    refine wpQuiet_nil ?_
    clear p0 p1 p2
    have HRO := HoldT.mk (rest_one HY.out.1)
    generalize (if vc = 1 then some ⟨vb, vo, none⟩ else some ⟨vb, vo + 1, none⟩ : Option Addr) = ra at HRO |-
    obtain ⟨rl, hrl⟩ : ∃ rl, rl = vl - 1 := ⟨_, rfl⟩
    obtain ⟨rc, hrc⟩ : ∃ rc, rc = vc - 1 := ⟨_, rfl⟩
    rw [<- hrl, <- hrc] at HRO |-
    clear hrl hrc
    refine mixL_seg (by kernel_rfl) (fun _ _ d _ _ h => by cases d <;> exact h) (KeepSC (fun q => q = kb \/ q = xb \/ q = vb) wA) keepP_base [17] (keepP_back rfl) [_] 6 7 rfl _ _ _ rfl (by kernel_rfl) ?_
    repeat (go_big_quiet_step (fail))
    refine wpQuiet_nil ?_
    refine mixL_one (by kernel_rfl) (fun _ _ d _ _ h => by cases d <;> exact h) (KeepSC (fun q => q = ob) wA) 22 (keepP_in (by decide)) 6 (fun l w => keepP_back (is := [6]) rfl 6 (by simp) l w) _ 5 _ _ _ rfl (by kernel_rfl) (by kernel_rfl) (by kernel_rfl) ?_
    repeat (go_big_quiet_step (fail))
    refine wpQuiet_nil ?_
    clear r0
    have hkx : wA.heap[kb]? = some (.cells #[.int .i64 (s.toNat : Int), .slice nva nl nvc, .int .u64 (tm : Int)] 66 (0, 0)) := kept H7.out.2.1 HBA.out
    have hxx : wA.heap[xb]? = some (.cells #[.slice ka kl kc, .slice (some ⟨vb, vo, none⟩) vl vc] 127 (0, 0)) := kept H7.out.1 HBA.out
    obtain ⟨cur, hob, _⟩ := HGA.out.box
    have HNE : HoldT (∀ q, (q = kb \/ q = xb \/ q = vb) -> q < wA.heap.size /\ q ≠ ob /\ ∀ g cu T, wA.heap[g]? = some (.cells cu T (0, 0)) -> T = 118 \/ T = 23 -> w2.heap.size <= g -> q ≠ g) := ⟨fun q hq => by
     rcases hq with rfl | rfl | rfl
     ·exact ⟨heap_lt hkx, type_ne hkx hob (by decide), fun g cu T hg hT _ => type_ne hkx hg (by rcases hT with rfl | rfl <;> decide)⟩
     ·exact ⟨heap_lt hxx, type_ne hxx hob (by decide), fun g cu T hg hT _ => type_ne hxx hg (by rcases hT with rfl | rfl <;> decide)⟩
     ·have h1 := HTM.out.2.2
      have h2 := HGA.out.bel.size
      have h3 := HGA.out.low.1
      exact ⟨by omega, by omega, fun g cu T _ _ h => by omega⟩⟩
    have HOB := HoldT.mk hob
    obtain ⟨cv, hver⟩ := HGA.out.ver
    have hverB := hver.quiet (RVer_mono _) HDR.out
    clear hkx hxx hob
    refine mixL_act (i := 18) rfl (by kernel_rfl) (keepP_on (fun q _ => HST.out q) (fun q _ => HST.out q)) rfl (fun K hK => ?_)
    go_wp2_with fail
    obtain ⟨ln, hln⟩ : ∃ ln, ln = ((verL vs).take j).length := ⟨_, rfl⟩
    have hln9 : ln <= 1000 := by rw [hln, List.length_take, verL_len]; have := HV.out.2.2; omega
    rw [<- hln] at hverB
    have HLN := HoldT.mk hln
    have HVB := HoldT.mk hverB
    have HVT := HoldT.mk (own_type hver)
    have HOBB := HoldT.mk (show wB.heap[ob]? = some (.cells cur 78 (0, 0)) from (HST.out ob).trans HOB.out)
    have HAL := HoldT.mk (show ∀ q, q < wA.heap.size -> (wB.alloc (.cells #[.int .u64 (tm : Int), .bool ((c.toNat : Int) == 0), .slice ra rl rc] 118)).heap[q]? = wA.heap[q]? from fun q hq => (((Below.refl wB.heap.size wB).alloc (Nat.le_refl _) (.cells #[.int .u64 (tm : Int), .bool ((c.toNat : Int) == 0), .slice ra rl rc] 118)).block q (Nat.lt_of_lt_of_le hq HDR.out.size)).trans (HST.out q))
    clear hverB hver hln
    refine mixL_act (i := 19) rfl (by kernel_rfl) (keepP_on (fun q hq => HAL.out q (HNE.out q hq).1) (fun q hq => HAL.out q (by rw [hq]; exact heap_lt HOB.out))) rfl (fun K hK => ?_)
    refine wp_push (RVer_mono _) _ _ rfl infoVer Tryz.underlying59 rfl (by decide) w2.heap.size wB _ ln _ _ HVB.out rfl _ [.int .u64 (tm : Int), .bool ((c.toNat : Int) == 0), .slice ra rl rc] rfl rfl (by simp [Value.oneCell']) (tm, goneB (c :: bs), bs) ⟨_, rfl, HRO.out⟩ _ rfl rfl (by omega) (by decide) ?_
    intro sl6 w6v ho6 hg6
    have hgp := GN.pushV (HGA.out.quiet HDR.out) (x := (tm, goneB (c :: bs), bs)) (by rw [<- HLN.out]; exact ho6) hg6
    obtain ⟨a6, c6, rfl⟩ := ho6.shape
    have HP6 := HoldT.mk (show ∀ q, (q = kb \/ q = xb \/ q = vb) -> w6v.heap[q]? = wA.heap[q]? from fun q hq => (hg6.by_.block q (Nat.lt_of_lt_of_le (HNE.out q hq).1 HDR.out.size) (fun e => by
     obtain ⟨cu, hcu⟩ := HVT.out q e.symm
     exact (HNE.out q hq).2.2 q cu _ hcu (.inl rfl) (HVB.out.low q e.symm).1 rfl)).trans (HST.out q))
    have hob6 : w6v.heap[ob]? = some (.cells cur 78 (0, 0)) := hgp.2.trans HOBB.out
    have HO6 := HoldT.mk (hob6.trans HOB.out.symm)
    have hbo := HGA.out.cells
    obtain ⟨u1, o1⟩ : ∃ u, w6v.cell? ⟨ob, 1, none⟩ = some u := by
     have h1 := hbo.2.1
     exact ⟨vslA, by rw [World.cell?_of_block (w := wA) HO6.out]; exact h1⟩
    have f1 : w6v.frozen? ⟨ob, 1, none⟩ = false := by simp [World.frozen?, hob6]
    obtain ⟨w7v, hw7v⟩ : ∃ x, x = w6v.setCell ⟨ob, 1, none⟩ (.slice a6 (ln + 1) c6) := ⟨_, rfl⟩
    rw [<- hw7v] at hgp
    have hg7 : w6v.grownBy w7v (some ob) := by rw [hw7v]; exact set6_grown _ _
    have HP7 := HoldT.mk (show ∀ q, (q = kb \/ q = xb \/ q = vb) -> w7v.heap[q]? = wA.heap[q]? from fun q hq => (hg7.block q (by have h1 := hg6.by_.size; have h2 := (HNE.out q hq).1; have := HDR.out.size; omega) (fun e => (HNE.out q hq).2.1 (Option.some.inj e))).trans (HP6.out q hq))
    have HGB := HoldT.mk hgp.1
    have HW7 := HoldT.mk hw7v.symm
    clear ho6 hg6 hgp hob6 hbo hg7 hw7v HAL
    go_wp2_with fail
    refine mixL_seg (by kernel_rfl) (fun _ _ d _ _ h => by cases d <;> exact h) (KeepSC (fun q => q = kb \/ q = xb \/ q = vb) wA) keepP_base [20, 21] (keepP_back rfl) [_, _] 1 3 rfl _ _ _ rfl (by kernel_rfl) ?_
    repeat (go_big_quiet_step (fail))
    refine wpQuiet_nil ?_
    refine mixL_act (i := 22) rfl (by kernel_rfl) (keepP_on HP6.out (fun q hq => by rw [hq]; exact HO6.out)) rfl (fun K hK => ?_)
    go_wp2_with fail
    rw [HW7.out]
    refine mixL_done (by kernel_rfl) (keepP_off HP7.out (by kernel_rfl)) ?_
    obtain ⟨o0, o1b, o2, ofr, olt⟩ := HGB.out.cells
    have q0 : w7v.cell? ⟨xb, 0, none⟩ = some (.slice ka kl kc) := by
     have h1 := HP7.out xb (.inr (.inl rfl))
     have h2 := kept H7.out.1 HBA.out
     rw [<- h1] at h2
     simp [World.cell?, h2]
    have HXL := HoldT.mk (And.intro (show xb < w7v.heap.size from lt_of_cell q0) (show xb ≠ ob from (HNE.out xb (.inr (.inl rfl))).2.1))
    have p0 := KeepS.cell (P := fun q => q = xb) q0 rfl
    have r0 := KeepS.cell (P := fun q => q = ob) o2 rfl
    clear u1 o1 f1 o0 o1b o2 ofr olt q0
    go_upto_region 18 with (fail)
    refine wp_region_mixL (KeepP (fun q => q = xb) (fun q => q = ob) w7v [13]) 14 rfl (by kernel_rfl) ?_
    have HDR2 := HoldT.mk ((Below.refl w7v.heap.size w7v).drew)
    have HST2 : HoldT (∀ q : Nat, w7v.drew.heap[q]? = w7v.heap[q]?) := ⟨fun _ => rfl⟩
    generalize w7v.drew = wC at HDR2 HST2 |-
    refine mixL_seg (by kernel_rfl) (fun _ _ d _ _ h => by cases d <;> exact h) (KeepSC (fun q => q = xb) w7v) keepP_base [0, 1, 2, 3, 4, 5, 7, 8] (keepP_back rfl) [_, _, _, _, _, _, _, _] 6 14 rfl _ _ _ rfl (by kernel_rfl) ?_
    repeat (go_big_quiet_step (fail))
    refine wpQuiet_nil ?_
    refine mixL_one (by kernel_rfl) (fun _ _ d _ _ h => by cases d <;> exact h) (KeepSC (fun q => q = ob) w7v) 13 (keepP_in (by decide)) 6 (fun l w => keepP_back (is := [6]) rfl 6 (by simp) l w) _ 5 _ _ _ rfl (by kernel_rfl) (by kernel_rfl) (by kernel_rfl) ?_
    repeat (go_big_quiet_step (fail))
    refine wpQuiet_nil ?_
    clear p0 r0
    obtain ⟨ks, ck, hkey⟩ := HGB.out.keys
    have HKB := HoldT.mk (hkey.quiet RVal1_mono HDR2.out)
    have HKT := HoldT.mk (own_type (hkey.quiet RVal1_mono HDR2.out))
    have hxx2 : w7v.heap[xb]? = some (.cells #[.slice ka kl kc, .slice (some ⟨vb, vo, none⟩) vl vc] 127 (0, 0)) := (HP7.out xb (.inr (.inl rfl))).trans (kept H7.out.1 HBA.out)
    have HXX := HoldT.mk (show wC.heap[xb]? = some (.cells #[.slice ka kl kc, .slice (some ⟨vb, vo, none⟩) vl vc] 127 (0, 0)) from (HST2.out xb).trans hxx2)
    have hj9 : j <= 200 := by omega
    clear hkey hxx2
    refine mixL_act (i := 9) rfl (by kernel_rfl) (keepP_on (fun q _ => HST2.out q) (fun q _ => HST2.out q)) rfl (fun K hK => ?_)
    go_wp2_with fail
    have HAL := HoldT.mk (show ∀ q, q < w7v.heap.size -> (wC.alloc (.cells #[.slice ka kl kc] 23)).heap[q]? = w7v.heap[q]? from fun q hq => (((Below.refl wC.heap.size wC).alloc (Nat.le_refl _) (.cells #[.slice ka kl kc] 23)).block q (Nat.lt_of_lt_of_le hq HDR2.out.size)).trans (HST2.out q))
    refine mixL_act (i := 10) rfl (by kernel_rfl) (keepP_on (fun q hq => HAL.out q (by rw [hq]; exact HXL.out.1)) (fun q hq => HAL.out q (by rw [hq]; exact HGB.out.cells.2.2.2.2))) rfl (fun K hK => ?_)
    refine wp_push RVal1_mono _ _ rfl infoByt Tryz.underlying76 rfl (by decide) w2.heap.size wC _ j _ _ HKB.out rfl _ [.slice ka kl kc] rfl rfl (by simp [Value.oneCell']) (.slice ka kl kc) rfl _ rfl rfl (by omega) (by decide) ?_
    intro sl8 w8v ho8 hg8
    have hgp := GN.pushK (HGB.out.quiet HDR2.out) HKB.out ho8 hg8
    obtain ⟨a8, c8, rfl⟩ := ho8.shape
    have HX8 := HoldT.mk (show w8v.heap[xb]? = w7v.heap[xb]? from (hg8.by_.block xb (heap_lt HXX.out) (fun e => by
     obtain ⟨cu, hcu⟩ := HKT.out xb e.symm
     exact type_ne HXX.out hcu (by decide) rfl)).trans (HST2.out xb))
    have HO8 := HoldT.mk (hgp.2.trans (HST2.out ob))
    obtain ⟨u2, o2⟩ : ∃ u, w8v.cell? ⟨ob, 2, none⟩ = some u := by
     have h1 := HGB.out.cells.2.2.1
     exact ⟨kslA, by rw [World.cell?_of_block (w := w7v) HO8.out]; exact h1⟩
    have f2 : w8v.frozen? ⟨ob, 2, none⟩ = false := by
     obtain ⟨cu, h1, _⟩ := HGB.out.box
     have h2 := HO8.out.trans h1
     simp [World.frozen?, h2]
    obtain ⟨w9v, hw9v⟩ : ∃ x, x = w8v.setCell ⟨ob, 2, none⟩ (.slice a8 (j + 1) c8) := ⟨_, rfl⟩
    rw [<- hw9v] at hgp
    have hg9 : w8v.grownBy w9v (some ob) := by rw [hw9v]; exact set6_grown _ _
    have HX9 := HoldT.mk (show w9v.heap[xb]? = w7v.heap[xb]? from (hg9.block xb (by have h1 := hg8.by_.size; have := HXL.out.1; have := HDR2.out.size; omega) (fun e => HXL.out.2 (Option.some.inj e))).trans HX8.out)
    have HE := HoldT.mk (show GR w2 s name vs (.slice (some ⟨ob, 0, none⟩) 1 cc) (.int .i64 (s.toNat : Int)) (j + 1) w9v from .inr ⟨by omega, ob, cc, nvA, _, _, rfl, rfl, by
     have h1 := verL_at HY.out.2.2.1
     rw [<- H2'.out.2.2.2.2.2, <- HTM.out.1] at h1
     rw [take_succ h1]
     exact hgp.1⟩)
    have HW9v := HoldT.mk hw9v.symm
    clear ho8 hg8 hgp hg9 hw9v HAL
    go_wp2_with fail
    refine mixL_seg (by kernel_rfl) (fun _ _ d _ _ h => by cases d <;> exact h) (KeepSC (fun q => q = xb) w7v) keepP_base [11, 12] (keepP_back rfl) [_, _] 1 3 rfl _ _ _ rfl (by kernel_rfl) ?_
    repeat (go_big_quiet_step (fail))
    refine wpQuiet_nil ?_
    refine mixL_act (i := 13) rfl (by kernel_rfl) (keepP_on (fun q hq => by rw [hq]; exact HX8.out) (fun q hq => by rw [hq]; exact HO8.out)) rfl (fun K hK => ?_)
    go_wp2_with fail
    rw [HW9v.out]
    refine mixL_done (by kernel_rfl) (keepP_off (fun q hq => by rw [hq]; exact HX9.out) (by kernel_rfl)) ?_
    go_wp2_with fail
    exact ⟨⟨j + 1, by go_num, hlt, HE⟩, by simp [intOf]; omega⟩
  ·obtain rfl : j = n := by omega
   have b1 : ¬ (j : Int) < (j : Int) := by omega
   have hgr := HJ.out
   have HE := HoldT.mk (show GatherPost Q R H S p (4 * (pagesO o).length) name vs w (.returned (.tuple #[_, .int .i64 0])) wr from ⟨_, H2, S2, p2, rfl, H2'.out.1.below hgr.bel, H2'.out.2.1, H2'.out.2.2.1.then hgr.bel, H2'.out.2.2.2.1, fun e => by
     rcases hgr with ⟨_, h1, _⟩ | ⟨h1, _⟩
     ·exact h1
     ·have := H2'.out.2.2.2.2.2
      rw [e, List.length_nil] at this
      omega, fun hne => by
     rcases hgr with ⟨h1, _⟩ | ⟨h1, ob, cc, nv, vsl, ksl, h2, h3, h4⟩
     ·have := H2'.out.2.2.2.2.2
      exact absurd (List.length_eq_zero_iff.1 (by omega)) hne
     ·refine ⟨ob, cc, nv, vsl, ksl, cfU w2, w2.heap.size, w2, h2, ?_, ?_, H2'.out.2.2.2.2.1⟩
      ·rw [<- H2'.out.2.2.2.2.2]
       have e1 : (verL vs).take j = verL vs := List.take_of_length_le (by rw [verL_len, <- H2'.out.2.2.2.2.2]; exact Nat.le_refl _)
       rw [e1] at h4
       exact h4
      ·exact (cfU_cf _).trans (cle_below h4.bel)⟩)
   clear hgr
   go_wp2_with fail
   refine bodyPost_ret (v := .tuple #[_, .int .i64 0]) (by simp [results, Tryz.results26, go_sem]; rfl) rfl ?_
   exact HE.out
end Go.Proofs.YtafilaiinbggoaaGreat
