/- The law StoreLine, walked. -/
import Derived.Test.YtafilaiinbggoaaGreatQS02
import Derived.Test.YtafilaiinbggoaaGreatQS03
import Derived.Test.YtafilaiinbggoaaGreatQS08
import Derived.Test.YtafilaiinbggoaaGreatQS45
import Derived.ProofKit
import Derived.OpenShut
import Derived.Deep.Slices
import Derived.ChangeOld
namespace Go.Proofs.YtafilaiinbggoaaGreat
open Go.RowKit Go.Maps
def RBl : Rep Bool := fun _ x d => d = [.bool x]
structure L22 (Q : PQ) (R : Int -> Option Bts) (tb sb bb rb : Nat) (name : Bts) (gs : List Bool) (j k : Nat) (w1 wr : World) (H : HS) (S : PS) (p : Nat) (o : Top) (root : Int) : Prop where
 st : LSt Q R H S p tb sb 1 name (vsG gs j) o root 600 w1 wr
 box : wr.heap[bb]? = some (.cells #[.pointer (some ⟨sb, 0, none⟩), .pointer (some ⟨rb, 0, none⟩), .int .u64 0] 32 (0, 0))
 off : ¬ (H.all bb \/ bb = tb)
 few : p <= 1000 * k
theorem L22.quiet {Q : PQ} {R : Int -> Option Bts} {tb sb bb rb : Nat} {name : Bts} {gs : List Bool} {j k : Nat} {w1 wr w' : World} {H : HS} {S : PS} {p : Nat} {o : Top} {root : Int} (h : L22 Q R tb sb bb rb name gs j k w1 wr H S p o root) (hb : Below wr.heap.size wr w') : L22 Q R tb sb bb rb name gs j k w1 w' H S p o root :=
 ⟨h.st.quiet hb, kept h.box hb, h.off, h.few⟩
theorem L22.read {Q : PQ} {R : Int -> Option Bts} {tb sb bb rb : Nat} {name : Bts} {gs : List Bool} {j k : Nat} {w1 wr w' : World} {H H' : HS} {S S' : PS} {p p' : Nat} {o : Top} {root : Int} (h : L22 Q R tb sb bb rb name gs j k w1 wr H S p o root) (hG : PG Q R H' S' p' w') (hS : SameP S S') (hT : TurnS H.all wr H'.all w') (hp : p' <= p + 480) (hk : k <= 500) : L22 Q R tb sb bb rb name gs j (k + 1) w1 w' H' S' p' o root := by
 have h1 := h.few
 obtain ⟨h2, h3⟩ := hT.kept h.box fun e => h.off (.inl e)
 refine ⟨(h.st.read hG hS hT (by omega)).1, h2, fun e => ?_, by omega⟩
 rcases e with e | e
 ·exact h3 e
 ·exact h.off (.inr e)
theorem L22.stand {Q : PQ} {R : Int -> Option Bts} {tb sb bb rb : Nat} {name : Bts} {gs : List Bool} {j k : Nat} {w1 wr w' : World} {H : HS} {S : PS} {p : Nat} {o : Top} {root : Int} {X' : BS} (h : L22 Q R tb sb bb rb name gs j k w1 wr H S p o root) (hT : TurnS (fun b => H.all b \/ b = tb) wr X' w') {q : Nat} (hq : q = bb \/ q < w1.heap.size) : w'.heap[q]? = wr.heap[q]? := by
 rcases hq with rfl | hq
 ·exact (hT.out _ (heap_lt h.box) h.off).1
 ·refine (hT.out q (Nat.lt_of_lt_of_le hq h.st.lt.bel.size) fun e => ?_).1
  have := h.st.lt.new q e
  omega
theorem bool_at {W : World} {ga : Option Addr} {n gc j : Nat} {gs : List Bool} {g : Bool} (hg : SAt 1 RBl (cf W) (.slice ga n gc) gs) (hj : gs[j]? = some g) : ∃ gb go, ga = some ⟨gb, go, none⟩ /\ W.cell? ⟨gb, go + j, none⟩ = some (.bool g) /\ gb < W.heap.size := by
 obtain ⟨_, _, e9, _, _, hel⟩ := hg
 simp only [Value.slice.injEq] at e9
 obtain ⟨gb, go, d, ea, _, hcc, hrd⟩ := hel j g hj
 have hrd' : d = [.bool g] := hrd
 subst hrd'
 have h1 := hcc 0 _ rfl
 unfold cf at h1
 have h2 : W.cell? ⟨gb, go + j, none⟩ = some (.bool g) := by simpa using h1
 exact ⟨gb, go, e9.1.trans ea, h2, lt_of_cell h2⟩
theorem yat_one {w : World} {va : Option Addr} {vc : Nat} {c : UInt8} (h : YAt (cfU w) (.slice va 1 vc) [c]) : ∃ vb vo, va = some ⟨vb, vo, none⟩ /\ w.cell? ⟨vb, vo, none⟩ = some (.int .u8 (c.toNat : Int)) := by
 obtain ⟨_, _, e9, _, _, hel⟩ := h
 simp only [Value.slice.injEq] at e9
 obtain ⟨vb, vo, d, ea, _, hcc, hrd⟩ := hel 0 c rfl
 have hrd' : d = [.int .u8 (c.toNat : Int)] := hrd
 subst hrd'
 have h1 := cfU_cf _ _ _ _ (hcc 0 _ rfl)
 unfold cf at h1
 exact ⟨vb, vo, e9.1.trans ea, by simpa using h1⟩
set_option maxHeartbeats 16000000 in
set_option maxRecDepth 100000 in
theorem storeLine_walk {W : World} {ga : Option Addr} {n gc : Nat} {gs : List Bool} {nv : Value} {name : Bts} (hg : SAt 1 RBl (cf W) (.slice ga n gc) gs) (hn : n = gs.length) (hy : YAt (cf W) nv name) :
  Calls Tryz.prog 3 #[.slice ga n gc, nv] W fun e w' => e = .returned (.bool true) /\ Below W.heap.size W w' := by
 obtain ⟨na, nc, rfl⟩ := hy.form
 obtain ⟨nl, hnl⟩ : ∃ nl, nl = name.length := ⟨_, rfl⟩
 rw [<- hnl] at hy |-
 have HA := HoldT.mk (law22_awake W)
 have HG := HoldT.mk (And.intro hg (And.intro hn (And.intro hy hnl)))
 clear hg hn hy hnl
 by_cases hbig : n <= 60 /\ nl <= 100
 ·obtain ⟨hn60, hl100⟩ := hbig
  have i1 : ¬ (60 : Int) < (n : Int) := by omega
  have i2 : ¬ (100 : Int) < (nl : Int) := by omega
  have i3 : ¬ 60 < n := by omega
  have i4 : ¬ 100 < nl := by omega
  go_enter Tryz.func3, Tryz.ntmps3
  go_wp2_with fail
  refine HA.out.mono ?_
  rintro e w1 ⟨rfl, hb1⟩
  have HB1 := HoldT.mk hb1
  have HBG := HoldT.mk (law22_begun (name := name) (by rw [<- HG.out.2.2.2]; exact hl100) w1)
  clear hb1 HA
  go_wp2_with fail
  refine HBG.out.mono ?_
  rintro e w2 ⟨Q, R, H2, S2, tb, sb, bb, rb, rfl, hL, hbx, hoff⟩
  have HL0 := HoldT.mk (show L22 Q R tb sb bb rb name gs 0 0 w1 w2 H2 S2 0 none (-1) from ⟨hL, hbx, hoff, Nat.le_refl _⟩)
  clear hL hbx hoff HBG i1 i2 i3 i4
  go_wp2_with fail
  go_loopw [6, 7] (fun s6 s7 wr => ∃ (j : Nat) (H : HS) (S : PS) (p : Nat) (o : Top) (root : Int), s6 = .int .i64 (j : Int) /\ j <= n /\ HoldT (L22 Q R tb sb bb rb name gs j j w1 wr H S p o root)) (fun s6 _ _ => n - (intOf s6).toNat)
  case atStart => exact ⟨0, _, _, _, _, _, rfl, Nat.zero_le _, HL0⟩
  case round =>
   obtain ⟨j, H, S, p, o, root, rfl, hj, HL⟩ := hrel
   clear HL0
   by_cases hlt : j < n
   ·obtain ⟨g, hgj⟩ : ∃ g, gs[j]? = some g := ⟨gs[j]'(by rw [<- HG.out.2.1]; exact hlt), List.getElem?_eq_getElem _⟩
    obtain ⟨gb, go, hga, hgc, hgl⟩ := bool_at HG.out.1 hgj
    subst hga
    have HBW := HoldT.mk (HB1.out.trans (HL.out.st.lt.bel.mono HB1.out.size))
    have g0 := cle_below HBW.out _ _ _ (show cf W gb (go + j) = _ from hgc)
    unfold cf at g0
    have hgd : gs.getD j false = g := by rw [List.getD_eq_getElem?_getD, hgj]; rfl
    have HGJ := HoldT.mk (And.intro hgd (And.intro hgc hgl))
    have b1 : (j : Int) < (n : Int) := by omega
    have m1 : (j : Int) % 256 = (j : Int) := by omega
    obtain ⟨q, hq⟩ : ∃ q, q = wr.heap.size := ⟨_, rfl⟩
    obtain ⟨w3, hw3⟩ : ∃ w3, w3 = wr.alloc (.cells #[.int .u8 (j : Int)] 5) := ⟨_, rfl⟩
    have hb3 : Below wr.heap.size wr w3 := by rw [hw3]; exact (Below.refl _ wr).alloc (Nat.le_refl _) _
    have hc8 : (((UInt8.ofNat j).toNat : Nat) : Int) = (j : Int) := by rw [UInt8.toNat_ofNat']; omega
    have hx3 : w3.heap[q]? = some (.cells #[.int .u8 (((UInt8.ofNat j).toNat : Nat) : Int)] 5 (0, 0)) := by rw [hc8, hw3, hq]; exact heap_alloc_new wr _
    have g1 := cle_below hb3 _ _ _ (show cf wr gb (go + j) = _ from g0)
    unfold cf at g1
    have HL3 := HoldT.mk (HL.out.quiet hb3)
    have HBW3 := HoldT.mk (HBW.out.trans (hb3.mono HBW.out.size))
    have HX3 := HoldT.mk hx3
    have HW := HoldT.mk (And.intro hq hw3)
    clear hgj hgc hgl hgd hq hw3 hb3 hx3 hc8
    go_upto_region 8 with (fail)
    rw [<- HW.out.1, <- HW.out.2]
    clear HW g0
    cases g
    case' true =>
     have HSET : HoldT (∀ wz, Below w3.heap.size w3 wz -> Calls Tryz.prog 7 #[.pointer (some ⟨sb, 0, none⟩), .int .i64 1, .slice na nl nc, .int .u64 ((j : Int) + 1), .bool true, .slice none 0 0] wz (SetPost Q R H p tb sb 1 name (vsG gs (j + 1)) 600 w1 wz)) := ⟨fun wz hz => by
      have h1 := store_Set (s := 1) (val := []) (gone := true) (HL3.out.st.quiet hz) (HG.out.2.2.1.mono RY_mono (cf_cfLS (HBW3.out.trans (hz.mono HBW3.out.size)) HB1.out.size)) (SAt.none _ _ _) (fun _ => rfl) (by simp) (by rw [vsG_len]; omega) (by have := HL3.out.few; omega) (by rw [vsG_len]; omega)
      rw [vsG_len, show (((1 : UInt8).toNat : Nat) : Int) = 1 from rfl, show ((j + 1 : Nat) : Int) = (j : Int) + 1 from rfl] at h1
      have h2 : ((if true = true then 0 else 1) :: []) :: vsG gs j = vsG gs (j + 1) := by
       show _ = valG gs j :: vsG gs j
       unfold valG
       rw [HGJ.out.1]
       rfl
      rw [h2] at h1
      exact h1⟩
    case' false =>
     have HSET : HoldT (∀ wz, Below w3.heap.size w3 wz -> Calls Tryz.prog 7 #[.pointer (some ⟨sb, 0, none⟩), .int .i64 1, .slice na nl nc, .int .u64 ((j : Int) + 1), .bool false, .slice (some ⟨q, 0, none⟩) 1 1] wz (SetPost Q R H p tb sb 1 name (vsG gs (j + 1)) 600 w1 wz)) := ⟨fun wz hz => by
      have h1 := store_Set (s := 1) (val := [UInt8.ofNat j]) (gone := false) (HL3.out.st.quiet hz) (HG.out.2.2.1.mono RY_mono (cf_cfLS (HBW3.out.trans (hz.mono HBW3.out.size)) HB1.out.size)) ((one_u8 (kept HX3.out hz)).mono RY_mono (cfU_cfL _ _)) (fun e => by cases e) (by simp) (by rw [vsG_len]; omega) (by have := HL3.out.few; omega) (by rw [vsG_len]; omega)
      rw [vsG_len, show (((1 : UInt8).toNat : Nat) : Int) = 1 from rfl, show ((j + 1 : Nat) : Int) = (j : Int) + 1 from rfl] at h1
      have h2 : ((if false = true then 0 else 1) :: [UInt8.ofNat j]) :: vsG gs j = vsG gs (j + 1) := by
       show _ = valG gs j :: vsG gs j
       unfold valG
       rw [HGJ.out.1]
       rfl
      rw [h2] at h1
      exact h1⟩
    all_goals
     go_upto_region 10 with (fail)
     have x0 : w3.cell? ⟨bb, 0, none⟩ = some (.pointer (some ⟨sb, 0, none⟩)) := by simp [World.cell?, HL3.out.box]
     have p0 := KeepS.cell (P := fun q => q = bb \/ q = gb) x0 (.inl rfl)
     have p1 := KeepS.cell (P := fun q => q = bb \/ q = gb) g1 (.inr rfl)
     have m2 : (j : Int) % 18446744073709551616 = (j : Int) := by omega
     have m3 : ((j : Int) + 1) % 18446744073709551616 = (j : Int) + 1 := by omega
     clear x0 g1
     refine wp_region_mixC (KeepSC (fun q => q = bb \/ q = gb) w3) 15 rfl (by kernel_rfl) ?_
     have HDR := HoldT.mk ((Below.refl w3.heap.size w3).drew)
     have HSTD : HoldT (∀ q : Nat, w3.drew.heap[q]? = w3.heap[q]?) := ⟨fun _ => rfl⟩
     generalize w3.drew = w8 at HDR HSTD |-
     refine mixl_seg (by kernel_rfl) (fun _ _ d _ _ h => by cases d <;> exact h) [0, 1, 2, 3, 4, 5, 6, 7, 8, 9, 10, 11, 12] [_, _, _, _, _, _, _, _, _, _, _, _, _] 2 15 rfl _ _ _ rfl (by kernel_rfl) (keepSC fun q _ => HSTD.out q) ?_
     repeat (go_big_quiet_step (fail))
     refine wpQuiet_nil ?_
     clear p0 p1
     refine mixl_act (i := 13) rfl (by kernel_rfl) (keepSC fun q _ => HSTD.out q) rfl (fun K hK => ?_)
     go_wp2_with fail
     refine (HSET.out w8 HDR.out).mono ?_
     rintro e w10 ⟨H10, S10, p10, o10, r10, rfl, hL10, _, hp10, hT10⟩
     have KS10 : HoldT (∀ q : Nat, q = bb \/ q = gb -> w10.heap[q]? = w3.heap[q]?) := by
      refine ⟨fun q hq => ((HL3.out.quiet HDR.out).stand hT10 (q := q) ?_).trans (HSTD.out q)⟩
      rcases hq with h | h
      ·exact .inl h
      ·refine .inr ?_
       rw [h]
       exact Nat.lt_of_lt_of_le HGJ.out.2.2 HB1.out.size
     have HE := HoldT.mk (show L22 Q R tb sb bb rb name gs (j + 1) (j + 1) w1 w10 H10 S10 p10 o10 r10 from ⟨hL10, (KS10.out bb (.inl rfl)).trans HL3.out.box, fun e => by
      rcases e with e | e
      ·exact (hT10.out bb (heap_lt (HL3.out.quiet HDR.out).box) HL3.out.off).2 (.inl e)
      ·exact HL3.out.off (.inr e), by have := HL3.out.few; omega⟩)
     clear hL10 hp10 hT10 HSET
     go_wp2_with fail
     refine mixl_seg (by kernel_rfl) (fun _ _ d _ _ h => by cases d <;> exact h) [14] [_] 0 1 rfl _ _ _ rfl (by kernel_rfl) (keepSC KS10.out) ?_
     repeat (go_big_quiet_step (fail))
     refine wpQuiet_nil ?_
     refine mix_done (by kernel_rfl) (keepSC KS10.out) ?_
     go_wp2_with fail
     exact ⟨⟨j + 1, H10, S10, p10, o10, r10, by go_num, hlt, HE⟩, by simp [intOf]; omega⟩
   ·obtain rfl : j = n := by omega
    have b1 : ¬ (j : Int) < (j : Int) := by omega
    have HL1 := HoldT.mk (show L22 Q R tb sb bb rb name gs j (j + 2 * 0) w1 wr H S p o root from HL.out)
    clear HL
    go_wp2_with fail
    generalize hnj : j = n at *
    go_loopw [8, 9, 10, 11, 12, 13] (fun s8 s9 s10 s11 s12 s13 wr => ∃ (j : Nat) (H : HS) (S : PS) (p : Nat), s8 = .int .i64 (j : Int) /\ j <= n /\ HoldT (L22 Q R tb sb bb rb name gs n (n + 2 * j) w1 wr H S p o root)) (fun s8 _ _ _ _ _ _ => n - (intOf s8).toNat)
    case atStart => exact ⟨0, _, _, _, rfl, Nat.zero_le _, HL1⟩
    case round =>
     obtain ⟨j, H, S, p, rfl, hj, HL⟩ := hrel
     clear HL1
     have HBW := HoldT.mk (HB1.out.trans (HL.out.st.lt.bel.mono HB1.out.size))
     have xb0 : wr.cell? ⟨bb, 0, none⟩ = some (.pointer (some ⟨sb, 0, none⟩)) := by simp [World.cell?, HL.out.box]
     by_cases hlt : j < n
     ·obtain ⟨g, hgj⟩ : ∃ g, gs[j]? = some g := ⟨gs[j]'(by rw [<- HG.out.2.1]; exact hlt), List.getElem?_eq_getElem _⟩
      obtain ⟨gb, go, hga, hgc, hgl⟩ := bool_at HG.out.1 hgj
      subst hga
      have g0 := cle_below HBW.out _ _ _ (show cf W gb (go + j) = _ from hgc)
      unfold cf at g0
      have hgd : gs.getD j false = g := by rw [List.getD_eq_getElem?_getD, hgj]; rfl
      have HGJ := HoldT.mk (And.intro hgd (And.intro hgc hgl))
      have b1 : (j : Int) < (n : Int) := by omega
      have m1 : (j : Int) % 256 = (j : Int) := by omega
      have m2 : (j : Int) % 18446744073709551616 = (j : Int) := by omega
      have m3 : ((j : Int) + 1) % 18446744073709551616 = (j : Int) + 1 := by omega
      clear hgj hgc hgl hgd
      cases g with
      | true =>
       have hs := seen_vsG gs n (j + 1) (by omega)
       have hsg : seenG gs (j + 1) = none := by
        unfold seenG
        rw [if_neg (Nat.succ_ne_zero j), Nat.add_sub_cancel, HGJ.out.1]
        rfl
       rw [hsg] at hs
       have h1 := store_See (s := 1) (t := j + 1) HL.out.st (HG.out.2.2.1.mono RY_mono (cle_below HBW.out))
       rw [hs, show (((1 : UInt8).toNat : Nat) : Int) = 1 from rfl, show ((j + 1 : Nat) : Int) = (j : Int) + 1 from rfl] at h1
       have HSEE := HoldT.mk h1
       have HSN := HoldT.mk hs
       clear h1 hs hsg
       go_wp2_with fail
       refine HSEE.out.mono ?_
       rintro e w4 ⟨va, vl, vc, H4, S4, p4, rfl, hv4, hG4, hS4, hT4, hp4⟩
       have HL4 := HoldT.mk (HL.out.read hG4 hS4 hT4 hp4 (by omega))
       have h1 := store_List (s := 1) (u := 2) (t := j + 1) HL4.out.st rfl
       rw [HSN.out, show (((1 : UInt8).toNat : Nat) : Int) = 1 from rfl, show ((j + 1 : Nat) : Int) = (j : Int) + 1 from rfl] at h1
       have HLI := HoldT.mk h1
       have x0 : w4.cell? ⟨bb, 0, none⟩ = some (.pointer (some ⟨sb, 0, none⟩)) := by simp [World.cell?, HL4.out.box]
       clear h1 hv4 hG4 hS4 hT4 hp4 HSEE g0
       go_wp2_with fail
       refine HLI.out.mono ?_
       rintro e w5 ⟨la, lc, H5, S5, p5, rfl, hG5, hS5, hT5, hp5⟩
       have HL5 := HoldT.mk (HL4.out.read hG5 hS5 hT5 hp5 (by omega))
       have HBW5 := HoldT.mk (HB1.out.trans (HL5.out.st.lt.bel.mono HB1.out.size))
       have g5 := cle_below HBW5.out _ _ _ (show cf W gb (go + j) = _ from HGJ.out.2.1)
       unfold cf at g5
       simp only [Option.isSome_none, Bool.false_eq_true, if_false]
       clear hG5 hS5 hT5 hp5 HLI x0
       go_wp2_with fail
       exact ⟨⟨j + 1, H5, S5, p5, by go_num, hlt, ⟨by have h1 := HL5.out.few; exact ⟨HL5.out.st, HL5.out.box, HL5.out.off, by omega⟩⟩⟩, by simp [intOf]; omega⟩
      | false =>
       have hs := seen_vsG gs n (j + 1) (by omega)
       have hsg : seenG gs (j + 1) = (some [UInt8.ofNat j]) := by
        unfold seenG
        rw [if_neg (Nat.succ_ne_zero j), Nat.add_sub_cancel, HGJ.out.1]
        rfl
       rw [hsg] at hs
       have h1 := store_See (s := 1) (t := j + 1) HL.out.st (HG.out.2.2.1.mono RY_mono (cle_below HBW.out))
       rw [hs, show (((1 : UInt8).toNat : Nat) : Int) = 1 from rfl, show ((j + 1 : Nat) : Int) = (j : Int) + 1 from rfl] at h1
       have HSEE := HoldT.mk h1
       have HSN := HoldT.mk hs
       clear h1 hs hsg
       go_wp2_with fail
       refine HSEE.out.mono ?_
       rintro e w4 ⟨va, vl, vc, H4, S4, p4, rfl, hv4, hG4, hS4, hT4, hp4⟩
       have HL4 := HoldT.mk (HL.out.read hG4 hS4 hT4 hp4 (by omega))
       have hy4 := hv4 _ rfl
       obtain rfl : vl = 1 := yat_len hy4
       have HY4 := HoldT.mk hy4
       clear hy4
       have h1 := store_List (s := 1) (u := 2) (t := j + 1) HL4.out.st rfl
       rw [HSN.out, show (((1 : UInt8).toNat : Nat) : Int) = 1 from rfl, show ((j + 1 : Nat) : Int) = (j : Int) + 1 from rfl] at h1
       have HLI := HoldT.mk h1
       have x0 : w4.cell? ⟨bb, 0, none⟩ = some (.pointer (some ⟨sb, 0, none⟩)) := by simp [World.cell?, HL4.out.box]
       clear h1 hv4 hG4 hS4 hT4 hp4 HSEE g0
       go_wp2_with fail
       refine HLI.out.mono ?_
       rintro e w5 ⟨la, lc, H5, S5, p5, rfl, hG5, hS5, hT5, hp5⟩
       have HL5 := HoldT.mk (HL4.out.read hG5 hS5 hT5 hp5 (by omega))
       have HBW5 := HoldT.mk (HB1.out.trans (HL5.out.st.lt.bel.mono HB1.out.size))
       have g5 := cle_below HBW5.out _ _ _ (show cf W gb (go + j) = _ from HGJ.out.2.1)
       unfold cf at g5
       obtain ⟨vb, vo, rfl, hvc⟩ := yat_one (HY4.out.mono RY_mono (cfU_turn hT5 (fun b hb => HL4.out.st.lt.noU b (.inl hb))))
       rw [show (((UInt8.ofNat j).toNat : Nat) : Int) = (j : Int) by rw [UInt8.toNat_ofNat']; omega] at hvc
       simp only [Option.isSome_some, if_true]
       clear hG5 hS5 hT5 hp5 HLI x0
       go_wp2_with fail
       exact ⟨⟨j + 1, H5, S5, p5, by go_num, hlt, ⟨by have h1 := HL5.out.few; exact ⟨HL5.out.st, HL5.out.box, HL5.out.off, by omega⟩⟩⟩, by simp [intOf]; omega⟩
     ·obtain rfl : j = n := by omega
      have b1 : ¬ (j : Int) < (j : Int) := by omega
      have h1 := store_See (s := 1) (t := 0) HL.out.st (HG.out.2.2.1.mono RY_mono (cle_below HBW.out))
      rw [seen_vsG gs j 0 (Nat.zero_le _), show seenG gs 0 = none from rfl, show (((1 : UInt8).toNat : Nat) : Int) = 1 from rfl, show ((0 : Nat) : Int) = 0 from rfl] at h1
      have HSEE := HoldT.mk h1
      clear h1
      go_wp2_with fail
      refine HSEE.out.mono ?_
      rintro e w4 ⟨va, vl, vc, H4, S4, p4, rfl, hv4, hG4, hS4, hT4, hp4⟩
      have HF := HoldT.mk (HB1.out.trans ((HL.out.read hG4 hS4 hT4 hp4 (by omega)).st.lt.bel.mono HB1.out.size))
      clear hv4 hG4 hS4 hT4 hp4 HSEE
      go_wp2_with fail
      go_ret
      exact ⟨by simp, HF.out⟩
 ·by_cases h60 : n <= 60
  case' pos =>
   have i1 : ¬ (60 : Int) < (n : Int) := by omega
   have i2 : (100 : Int) < (nl : Int) := by omega
   have i3 : ¬ 60 < n := by omega
   have i4 : 100 < nl := by omega
  case' neg =>
   have i1 : (60 : Int) < (n : Int) := by omega
   have i3 : 60 < n := by omega
  all_goals
   clear hbig h60
   go_enter Tryz.func3, Tryz.ntmps3
   go_wp2_with fail
   refine HA.out.mono ?_
   rintro e w1 ⟨rfl, hb1⟩
   have HB1 := HoldT.mk hb1
   have HA2 := HoldT.mk (law22_awake w1)
   clear hb1 HA
   go_wp2_with fail
   refine HA2.out.mono ?_
   rintro e w2 ⟨rfl, hb2⟩
   have HB2 := HoldT.mk (HB1.out.trans (hb2.mono HB1.out.size))
   clear hb2 HA2
   go_wp2_with fail
   go_ret
   exact ⟨by simp, HB2.out⟩
end Go.Proofs.YtafilaiinbggoaaGreat
namespace Go.Proofs.YtafilaiinbggoaaGreat
open Go.ChangeShapes Go.WideShapes Go.ChangeAt Go.RowKit
theorem addr_add (b off k : Nat) : (⟨b, off, none⟩ : Addr).add k = ⟨b, off + k, none⟩ := by
 unfold Addr.add; split <;> simp_all
theorem cell_spot {W : World} {b off : Nat} {spot} (h0 : ∃ u, W.cell? ((⟨b, off, spot⟩ : Addr).add 0) = some u) : spot = none := by
 obtain ⟨u, hu⟩ := h0
 have := World.cell?_spot hu; simpa [Addr.add] using this
instance : Inhabited JV := ⟨.mk 0 0 ⟨#[]⟩ [] []⟩
end Go.Proofs.YtafilaiinbggoaaGreat
namespace Go.Proofs.YtafilaiinbggoaaGreat
open Go.ChangeShapes Go.WideShapes Go.ChangeAt Go.RowKit
theorem slice_of_trod {α : Type} {n : Nat} {R : Rep α} {T Ts : TypeId} (hTs : Tryz.prog.underlying Ts = some (.slice T)) (hc : Tryz.prog.cellsOf T = n) (hn : 0 < n) {H : Type} {enc : TypeId × Value -> H} {W : World}
  (hel : ∀ fuel cs x, DataW.trod enc Tryz.prog W 0 (fun _ => true) true fuel T cs = some x -> cs.length = n -> ∃ e : α, R (cf W) e cs) {fuel : Nat} {c : Value} {x : DataW H × List MemPlace}
  (h : DataW.trod enc Tryz.prog W 0 (fun _ => true) true fuel Ts [c] = some x) : ∃ l : List α, SAt n R (cf W) c l := by
 rcases DataW.trod_slice hTs h with ⟨hcs, _⟩ | ⟨a, len, cap, elems, rest, n', hn', hcs, _, _, hl, hm, hle, hel2, _⟩
 ·cases hcs
  exact ⟨[], SAt.none _ _ _⟩
 ·cases hcs
  have hx : ∀ i, i < len -> ∃ p : Option (α × List Value), ∃ e d, p = some (e, d) /\ d.length = n /\ (∀ (j : Nat) u, d[j]? = some u -> W.cell? (a.add (i * n + j)) = some u) /\ R (cf W) e d := by
   intro i hil
   have h1 := hel2 i hil
   rw [List.getElem?_eq_getElem (by omega), Option.bind_eq_some_iff] at h1
   obtain ⟨cs', hc', ht⟩ := h1
   rw [hc] at hc'
   obtain ⟨_, hcl, hat⟩ := World.cells?_some hc'
   obtain ⟨e, he⟩ := hel _ _ _ ht hcl
   refine ⟨some (e, cs'), e, cs', rfl, hcl, fun j u hu => ?_, he⟩
   have hj : j < n := by rw [<- hcl]; exact (List.getElem?_eq_some_iff.1 hu).1
   have := hat j hj
   rw [hu] at this
   simpa [Go.Deep.add_add] using this
  obtain ⟨f, hf⟩ := Go.Deep.choose_lt hx
  have hget : ∀ i, i < len -> ∃ e d, f i = some (e, d) /\ d.length = n /\ (∀ (j : Nat) u, d[j]? = some u -> W.cell? (a.add (i * n + j)) = some u) /\ R (cf W) e d := hf
  have hlist : ∀ m, m <= len -> ∃ l : List α, l.length = m /\ ∀ i e, l[i]? = some e -> ∃ d, f i = some (e, d) := by
   intro m
   induction m with
   | zero => intro _; exact ⟨[], rfl, fun i e h => by simp at h⟩
   | succ m ih =>
    intro hm2
    obtain ⟨l, hl1, hl2⟩ := ih (by omega)
    obtain ⟨e, d, hfe, _⟩ := hget m (by omega)
    refine ⟨l ++ [e], by simp [hl1], fun i y hy => ?_⟩
    by_cases hi : i < l.length
    ·rw [List.getElem?_append_left hi] at hy; exact hl2 i y hy
    ·rw [List.getElem?_append_right (by omega)] at hy
     cases he : i - l.length with
     | zero =>
      rw [he] at hy
      obtain rfl : e = y := by simpa using hy
      exact ⟨d, by rw [show i = m by omega]; exact hfe⟩
     | succ q => rw [he] at hy; simp at hy
  obtain ⟨l, hl1, hl2⟩ := hlist len (Nat.le_refl _)
  refine ⟨l, some a, cap, by rw [hl1], by omega, by unfold maxLen at hm; omega, fun i e he => ?_⟩
  have hil : i < len := by rw [<- hl1]; exact (List.getElem?_eq_some_iff.1 he).1
  obtain ⟨e2, d, h1, h2, h3, h4⟩ := hget i hil
  obtain ⟨d', h5⟩ := hl2 i e he
  rw [h1] at h5
  obtain ⟨rfl, rfl⟩ : e2 = e /\ d = d' := by simpa using h5
  obtain ⟨b, off, spot⟩ := a
  obtain ⟨e0, d0, _, k2, k3, _⟩ := hget 0 (by omega)
  have hs := cell_spot ⟨_, by have := k3 0 _ (List.getElem?_eq_getElem (by omega : 0 < d0.length)); simpa using this⟩
  subst hs
  refine ⟨b, off, d, rfl, h2, fun j u hu => ?_, h4⟩
  have := h3 j u hu
  rw [addr_add] at this
  unfold cf; rw [Nat.add_assoc]; exact this
set_option maxRecDepth 100000 in
theorem slice_of_Trod {α : Type} {n : Nat} {R : Rep α} {T Ts : TypeId} (hTs : Tryz.prog.underlying Ts = some (.slice T)) (hc : Tryz.prog.cellsOf T = n) (hn : 0 < n) {H : Type} {enc : TypeId × Value -> H} {W : World}
  (hel : ∀ fuel cs x, DataW.trod enc Tryz.prog W 0 (fun _ => true) true fuel T cs = some x -> cs.length = n -> ∃ e : α, R (cf W) e cs) {base : Nat} {v : Value} {d : DataW H} {p : List MemPlace} (hv : Value.okWide Tryz.prog W .any base Ts v)
  (h : DataW.Trod enc Tryz.prog W 0 (fun _ => true) true Ts v d p) : ∃ l : List α, SAt n R (cf W) v l := by
 obtain ⟨a, len, cap, rfl⟩ := okWide_slice hTs hv
 obtain ⟨fuel, hf⟩ := h
 exact slice_of_trod hTs hc hn hel (by simpa [Value.cells] using hf)
end Go.Proofs.YtafilaiinbggoaaGreat
namespace Go.Proofs.YtafilaiinbggoaaGreat
open Go.ChangeShapes Go.WideShapes Go.ChangeAt Go.RowKit
theorem Tryz.own : ownKnob Tryz.prog.godebug = none := by kernel_rfl
theorem Tryz.laidOut : laidOutB Tryz.prog = true := by kernel_rfl
theorem byteY_of_trod {H : Type} {enc : TypeId × Value -> H} {W : World} (fuel : Nat) (cs : List Value) (x : DataW H × List MemPlace)
  (h : DataW.trod enc Tryz.prog W 0 (fun _ => true) true fuel 5 cs = some x) (_ : cs.length = 1) : ∃ c : UInt8, RY (cf W) c cs := by
 obtain ⟨m, rfl, _, hw⟩ := DataW.trod_int Tryz.underlying5 h
 have hb : 0 <= m /\ m <= 255 := by
  simp [Lit.wf, IntKind.min, IntKind.max, IntKind.bits, IntKind.signed] at hw
  omega
 exact ⟨UInt8.ofNat m.toNat, by unfold RY; rw [UInt8.toNat_ofNat']; congr 2; omega⟩
set_option maxRecDepth 100000 in
theorem yat_of_Trod {H : Type} {enc : TypeId × Value -> H} {W : World} {base : Nat} {v : Value} {d : DataW H} {p : List MemPlace} (hv : Value.okWide Tryz.prog W .any base 23 v)
  (h : DataW.Trod enc Tryz.prog W 0 (fun _ => true) true 23 v d p) : ∃ l, YAt (cf W) v l :=
 slice_of_Trod (n := 1) (R := RY) Tryz.underlying23 (by kernel_rfl) (by decide) (fun fuel cs x h hl => byteY_of_trod fuel cs x h hl) hv h
theorem boolB_of_trod {H : Type} {enc : TypeId × Value -> H} {W : World} (fuel : Nat) (cs : List Value) (x : DataW H × List MemPlace)
  (h : DataW.trod enc Tryz.prog W 0 (fun _ => true) true fuel 4 cs = some x) (_ : cs.length = 1) : ∃ c : Bool, cs = [.bool c] := by
 obtain ⟨f, rfl, _⟩ := DataW.trod_bool Tryz.underlying4 h
 exact ⟨f, rfl⟩
set_option maxRecDepth 100000 in
theorem bools_of_Trod {H : Type} {enc : TypeId × Value -> H} {W : World} {base : Nat} {v : Value} {d : DataW H} {p : List MemPlace} (hv : Value.okWide Tryz.prog W .any base 22 v)
  (h : DataW.Trod enc Tryz.prog W 0 (fun _ => true) true 22 v d p) : ∃ l : List Bool, SAt 1 (fun _ x d => d = [.bool x]) (cf W) v l :=
 slice_of_Trod (n := 1) (R := fun _ x d => d = [.bool x]) Tryz.underlying22 (by kernel_rfl) (by decide) (fun fuel cs x h hl => boolB_of_trod fuel cs x h hl) hv h
end Go.Proofs.YtafilaiinbggoaaGreat
namespace Go.Proofs.YtafilaiinbggoaaGreat
open Go.ChangeShapes Go.WideShapes Go.ChangeAt Go.RowKit
set_option maxRecDepth 100000 in
set_option maxHeartbeats 2000000 in
theorem StoreLine.lifted (os : Os) (started : os.Started) (H : Type) (enc : TypeId × Value -> H) :
  ReturnsInHanded {} Tryz.checked os 3 .any (Rows.storeLineSpec.pre6 enc Tryz.prog Tryz.f3 Rows.storeLineRow.domain false) (Rows.storeLineSpec.post enc Tryz.prog Tryz.f3 false true false false) := by
 refine returnsInHanded_of_change (C := Tryz.checked) Tryz.own started (by kernel_rfl) Tryz.func3
  (ChangeSpec.witness6 (enc := enc) (C := Tryz.checked) false ⟨#[], #[.slice none 0 0, .slice none 0 0], []⟩ 8 (by kernel_rfl) (by kernel_rfl) (by kernel_rfl) (by kernel_rfl)) ?_
 intro W base args ds gs before hval0 hW hcnd _
 have hval : ∀ (j : Nat) t v, Tryz.f3.params[j]? = some t -> args[j]? = some v -> Value.okWide Tryz.prog W .any base t v := hval0
 have hW' := hW
 obtain ⟨p, q, hA0, hV, rfl, hfz, hnd⟩ := hW
 have hA : DataW.TrodAll enc Tryz.prog W 0 (fun _ => true) true Tryz.f3.params.toList args.toList ds p := hA0
 rw [Tryz.params3] at hA hval
 obtain ⟨a0, vs0, d0, ds0, p0, q0, hargs, rfl, rfl, h0, r0⟩ := trodAll_cons hA
 obtain ⟨a1, vs1, d1, ds1, p1, q1, rfl, rfl, rfl, h1, r1⟩ := trodAll_cons r0
 obtain ⟨rfl, rfl, rfl⟩ := trodAll_nil r1
 obtain rfl : args = #[a0, a1] := by cases args; simp_all
 obtain ⟨rfl, rfl⟩ := trodVars_none hV
 have k0 := h0
 have lt0 : ∀ x ∈ p0, x.block < W.heap.size := by obtain ⟨m, hm⟩ := k0; exact DataW.trod_lt m _ _ _ hm
 obtain ⟨gs, hgs⟩ := bools_of_Trod (hval 0 _ a0 rfl rfl) h0; obtain ⟨ga, gc, rfl⟩ := hgs.form
 have k1 := h1
 have lt1 : ∀ x ∈ p1, x.block < W.heap.size := by obtain ⟨m, hm⟩ := k1; exact DataW.trod_lt m _ _ _ hm
 obtain ⟨nm, hnm⟩ := yat_of_Trod (hval 1 _ a1 rfl rfl) h1
 clear hA0 hval0
 refine (storeLine_walk (W := W) (gs := gs) (name := nm) hgs rfl hnm).mono fun e W' ⟨he, bel⟩ => ?_
 subst he
 exact ⟨_, rfl, _, _, _, [], _, [], hW', trodAll_mk1 (shut_bool Tryz.underlying4 _), (trodAll_cons_mk (Below.trod Tryz.laidOut (by kernel_rfl) (of_decide_eq_true (by kernel_rfl)) k0 bel lt0) (trodAll_cons_mk (Below.trod Tryz.laidOut (by kernel_rfl) (of_decide_eq_true (by kernel_rfl)) k1 bel lt1) trodAll_mk0)), rfl, bel.frame _, fun h => by cases h⟩
theorem StoreLine.over : Rows.storeLineRow.holds Tryz.pinned (OpenSpec.ofChange Rows.storeLineSpec) :=
 OpenClaim.holds_of_wide 3 Tryz.f3 rfl rfl rfl rfl rfl rfl rfl ⟨rfl, rfl, rfl, rfl, rfl⟩ rfl rfl rfl rfl rfl (by kernel_rfl) Tryz.func3 (by kernel_rfl)
  (of_decide_eq_true (by kernel_rfl)) (by unfold Func.isWrapper; first | (rw [if_pos (by decide +kernel)]; kernel_rfl) | (rw [if_neg (by decide +kernel)]; exact ⟨rfl, rfl⟩))
  (fun os started H enc _ => StoreLine.lifted os started H enc)
theorem storeLine_holds : Rows.StoreLineSaid := StoreLine.over
#print axioms storeLine_holds
end Go.Proofs.YtafilaiinbggoaaGreat
