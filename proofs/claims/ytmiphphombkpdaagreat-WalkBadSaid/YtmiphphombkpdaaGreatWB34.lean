import Derived.Test.YtmiphphombkpdaaGreatWB29
import Derived.Test.YtmiphphombkpdaaGreatWB33
namespace Go.Proofs.YtmiphphombkpdaaGreat
open Go.RowKit Go.Maps
def joinN (a : ND) (s : Bts) (b : ND) : ND := ⟨a.leaf, (if a.leaf = true then a.keys else a.keys ++ [s]) ++ b.keys, a.vals ++ b.vals, a.kids ++ b.kids⟩
def H0 : HS := ⟨fun _ => False, fun _ => False⟩
theorem nt0 {B : Nat} {w : World} {n : ND} {kv vv iv : Value} (h : NOwn B w n kv vv iv) : NT H0 B w n kv vv iv := ⟨h, fun _ _ e => e.elim id id⟩
theorem NOwn.edK {B : Nat} {w w' : World} {n : ND} {kv vv iv kv' : Value} {ks : List Bts} {cs' : List Value} (h : NOwn B w n kv vv iv) (hg : Grew w w' kv kv') (ho : OwnS 1 (RB (cfU w)) 23 B w' kv' ks.length ks cs') : NOwn B w' { n with keys := ks } kv' vv iv := ((nt0 h).edK hg (fun _ e => (e.elim id id : False).elim) ho).1.own
theorem two_rows {α : Type} {R : Rep α} {w w' : World} {s0 : Nat} {T : TypeId} {va vb : Value} {xs ys : List α} (hR : Mono R) (hc : CLe (cf w) (cf w')) (hs : w'.heap[s0]? = some (.cells #[va, vb] T (0, 0))) (hx : SAt 1 R (cf w) va xs) (hy : SAt 1 R (cf w) vb ys) (hxl : xs.length <= 20000) (hyl : ys.length <= 20000) : RowsJ R w' s0 T [va, vb] [xs, ys] :=
 ⟨hs, rfl, fun j v r hv hr => by
  match j, hv, hr with
  | 0, hv, hr => cases hv; cases hr; exact hx.mono hR hc
  | 1, hv, hr => cases hv; cases hr; exact hy.mono hR hc
  | j + 2, hv, hr => simp at hv, fun r hr => by
  rcases List.mem_cons.1 hr with rfl | hr
  ·exact hxl
  ·obtain rfl := List.mem_singleton.1 hr; exact hyl⟩
theorem own_row_below {B : Nat} {w w' : World} {sl : Value} {p : Nat} {xs : List Bts} {cs : List Value} (h : OwnS 1 (RB (cfU w)) 23 B w sl p xs cs) (hb : Below w.heap.size w w') : OwnS 1 (RB (cfU w')) 23 B w' sl p xs cs := (h.quiet (RB_mono _) hb).rep (RB_le (cfU_below hb))
def jdeps : Nat -> List Nat
 | 10 => [4, 9]
 | 16 => [15]
 | 17 => [4, 10, 16]
 | _ => []
def JF (B : Nat) (lf : Bool) (keys vals : List Bts) (kids : List Int) (va vb ia ib : Value) (i : Nat) (ds : List Value) (v : Value) (w : World) : Prop :=
 if i = 4 then ∃ g c cs, v = .slice g keys.length c /\ OwnS 1 (RB (cfU w)) 23 B w v keys.length keys cs
 else if i = 9 then ∃ s : Nat, v = .slice (some ⟨s, 0, none⟩) 2 2 /\ w.heap[s]? = some (.cells #[va, vb] 102 (0, 0))
 else if i = 10 then ∃ g c cs, v = .slice g vals.length c /\ OwnS 1 (RB (cfU w)) 23 B w v vals.length vals cs /\ ∀ x, ds.head? = some x -> ∀ q, x.ownBlock = some q -> v.ownBlock ≠ some q
 else if i = 15 then ∃ s : Nat, v = .slice (some ⟨s, 0, none⟩) 2 2 /\ w.heap[s]? = some (.cells #[ia, ib] 47 (0, 0))
 else if i = 16 then ∃ g c cs, v = .slice g kids.length c /\ OwnS 1 RI 3 B w v kids.length kids cs
 else if i = 17 then v = .agg #[.bool lf, ds.getD 0 undef, ds.getD 1 undef, ds.getD 2 undef]
 else ∃ q : Nat, v = .pointer (some ⟨q, 0, none⟩) /\ B <= q /\ w.heap[q]? = some (.cells #[.bool false, .slice none 0 0, .slice none 0 0, .slice none 0 0] 104 (0, 0))
theorem jf_below {B : Nat} {lf : Bool} {keys vals : List Bts} {kids : List Int} {va vb ia ib : Value} : ∀ i ds v (w w' : World), JF B lf keys vals kids va vb ia ib i ds v w -> Below w.heap.size w w' -> JF B lf keys vals kids va vb ia ib i ds v w' := fun i ds v w w' h hb => by
 unfold JF at h |-
 repeat' split
 all_goals simp only [*, if_true, if_false] at h
 ·obtain ⟨g, c, cs, e, h⟩ := h; exact ⟨g, c, cs, e, own_row_below h hb⟩
 ·obtain ⟨s, e, h⟩ := h; exact ⟨s, e, kept h hb⟩
 ·obtain ⟨g, c, cs, e, h, h2⟩ := h; exact ⟨g, c, cs, e, own_row_below h hb, h2⟩
 ·obtain ⟨s, e, h⟩ := h; exact ⟨s, e, kept h hb⟩
 ·obtain ⟨g, c, cs, e, h⟩ := h; exact ⟨g, c, cs, e, h.quiet RI_mono hb⟩
 ·exact h
 ·obtain ⟨q, e, h1, h⟩ := h; exact ⟨q, e, h1, kept h hb⟩
def JoinPost (n : ND) (w : World) (e : Ending) (w' : World) : Prop := Below w.heap.size w w' /\ ((sizeN n <= 1024 /\ ∃ kv vv iv, e = .returned (.tuple #[nodeV n kv vv iv, .bool true]) /\ NOwn w.heap.size w' n kv vv iv) \/ (1024 < sizeN n /\ e = .returned (.tuple #[nodeV ⟨false, [], [], []⟩ (.slice none 0 0) (.slice none 0 0) (.slice none 0 0), .bool false])))
set_option maxHeartbeats 16000000 in
set_option maxRecDepth 100000 in
theorem node_join {w : World} {a b : ND} {s : Bts} {ak av ai ks bk bv bi : Value} (ha : NAt w a ak av ai) (hb : NAt w b bk bv bi) (hy : YAt (cfU w) ks s) (hl : a.leaf = b.leaf) (hsh : ShN (joinN a s b)) (fa : FewN a) (fb : FewN b) :
  Calls Tryz.prog 96 #[nodeV a ak av ai, ks, nodeV b bk bv bi] w (JoinPost (joinN a s b) w) := by
 obtain ⟨xa, xc, rfl⟩ := hy.form
 obtain ⟨aka, akc, rfl⟩ := ha.keys.form
 obtain ⟨ava, avc, rfl⟩ := ha.vals.form
 obtain ⟨aia, aic, rfl⟩ := ha.kids.form
 obtain ⟨bka, bkc, rfl⟩ := hb.keys.form
 obtain ⟨bva, bvc, rfl⟩ := hb.vals.form
 obtain ⟨bia, bic, rfl⟩ := hb.kids.form
 obtain ⟨xl, hxl⟩ : ∃ m, m = s.length := ⟨_, rfl⟩
 obtain ⟨lf, hlf⟩ : ∃ m, m = a.leaf := ⟨_, rfl⟩
 obtain ⟨a1, ha1⟩ : ∃ m, m = a.keys.length := ⟨_, rfl⟩
 obtain ⟨a2, ha2⟩ : ∃ m, m = a.vals.length := ⟨_, rfl⟩
 obtain ⟨a3, ha3⟩ : ∃ m, m = (a.kids.map Int.ofNat).length := ⟨_, rfl⟩
 obtain ⟨b1, hb1⟩ : ∃ m, m = b.keys.length := ⟨_, rfl⟩
 obtain ⟨b2, hb2⟩ : ∃ m, m = b.vals.length := ⟨_, rfl⟩
 obtain ⟨b3, hb3⟩ : ∃ m, m = (b.kids.map Int.ofNat).length := ⟨_, rfl⟩
 unfold nodeV
 rw [<- hl]
 rw [<- ha1, <- ha2, <- ha3] at ha |-
 rw [<- hb1, <- hb2, <- hb3] at hb |-
 rw [<- hxl] at hy |-
 rw [<- hlf]
 have hlf2 : (joinN a s b).leaf = lf := by rw [hlf]; rfl
 have hkk : (joinN a s b).keys = (if lf = true then a.keys else a.keys ++ [s]) ++ b.keys := by rw [hlf]; rfl
 have hvv : (joinN a s b).vals = a.vals ++ b.vals := rfl
 have hii : (joinN a s b).kids = a.kids ++ b.kids := rfl
 have hal : lf = true -> s = s := fun _ => rfl
 obtain ⟨J, hJ⟩ : ∃ J, J = joinN a s b := ⟨_, rfl⟩
 rw [<- hJ] at hsh hlf2 hkk hvv hii |-
 have l1 : a1 <= 10000 := by rw [ha1]; exact fa.keys
 have l2 : b1 <= 10000 := by rw [hb1]; exact fb.keys
 have HH := HoldT.mk (And.intro ha (And.intro hb (And.intro hy (And.intro hsh (And.intro hlf2 (And.intro hkk (And.intro hvv (And.intro hii (And.intro fa fb)))))))))
 have HL := HoldT.mk (And.intro ha1 (And.intro ha2 (And.intro ha3 (And.intro hb1 (And.intro hb2 hb3)))))
 clear ha hb hy hl hsh fa fb hxl hlf ha1 ha2 ha3 hb1 hb2 hb3 hlf2 hkk hvv hii hal hJ
 obtain ⟨q, hq⟩ : ∃ q, q = w.heap.size := ⟨_, rfl⟩
 obtain ⟨q2, hq2⟩ : ∃ x, x = q + 1 := ⟨_, rfl⟩
 obtain ⟨q3, hq3⟩ : ∃ x, x = q2 + 1 := ⟨_, rfl⟩
 obtain ⟨w1, hw1⟩ : ∃ w1, w1 = w.alloc (.cells #[.bool lf, .slice aka a1 akc, .slice ava a2 avc, .slice aia a3 aic] 104) := ⟨_, rfl⟩
 obtain ⟨w2, hw2⟩ : ∃ w2, w2 = w1.alloc (.cells #[.bool lf, .slice bka b1 bkc, .slice bva b2 bvc, .slice bia b3 bic] 104) := ⟨_, rfl⟩
 obtain ⟨w3, hw3⟩ : ∃ w3, w3 = w2.alloc (.cells #[.bool false, .slice none 0 0, .slice none 0 0, .slice none 0 0] 104) := ⟨_, rfl⟩
 have hs1 : w1.heap.size = q2 := by rw [hw1, hq2, hq]; simp
 have hs2 : w2.heap.size = q3 := by rw [hw2, hq3, <- hs1]; simp
 have hs3 : w3.heap.size = q3 + 1 := by rw [hw3, <- hs2]; simp
 have hb1 : Below w.heap.size w w1 := by rw [hw1]; exact (Below.refl _ w).alloc (Nat.le_refl _) _
 have hb2 : Below w1.heap.size w1 w2 := by rw [hw2]; exact (Below.refl _ w1).alloc (Nat.le_refl _) _
 have hb3 : Below w2.heap.size w2 w3 := by rw [hw3]; exact (Below.refl _ w2).alloc (Nat.le_refl _) _
 have hbx : w3.heap[q]? = some (.cells #[.bool lf, .slice aka a1 akc, .slice ava a2 avc, .slice aia a3 aic] 104 (0, 0)) := kept (kept (by rw [hw1, hq]; exact heap_alloc_new w _) hb2) hb3
 have hbq2 : w3.heap[q2]? = some (.cells #[.bool lf, .slice bka b1 bkc, .slice bva b2 bvc, .slice bia b3 bic] 104 (0, 0)) := kept (by rw [hw2, <- hs1]; exact heap_alloc_new w1 _) hb3
 have hbq3 : w3.heap[q3]? = some (.cells #[.bool false, .slice none 0 0, .slice none 0 0, .slice none 0 0] 104 (0, 0)) := by rw [hw3, <- hs2]; exact heap_alloc_new w2 _
 have hbb : Below w.heap.size w w3 := (hb1.trans (hb2.mono hb1.size)).trans (hb3.mono (Nat.le_trans hb1.size hb2.size))
 have HB := HoldT.mk (And.intro hbb (And.intro hbx (And.intro hbq2 (And.intro hbq3 (And.intro hq (And.intro hq2 (And.intro hq3 hs3)))))))
 have HW := HoldT.mk (And.intro hw1 (And.intro hw2 hw3))
 have HX : HoldT (∀ (wz : World), Below w3.heap.size w3 wz -> (wz.cell? ⟨q, 0, none⟩ = some (.bool lf) /\ wz.cell? ⟨q, 1, none⟩ = some (.slice aka a1 akc) /\ wz.cell? ⟨q, 2, none⟩ = some (.slice ava a2 avc) /\ wz.cell? ⟨q, 3, none⟩ = some (.slice aia a3 aic)) /\ wz.cell? ⟨q2, 0, none⟩ = some (.bool lf) /\ wz.cell? ⟨q2, 1, none⟩ = some (.slice bka b1 bkc) /\ wz.cell? ⟨q2, 2, none⟩ = some (.slice bva b2 bvc) /\ wz.cell? ⟨q2, 3, none⟩ = some (.slice bia b3 bic)) := ⟨fun wz hz => by
  have hk := kept hbx hz
  have hk2 := kept hbq2 hz
  refine ⟨⟨?_, ?_, ?_, ?_⟩, ?_, ?_, ?_, ?_⟩ <;> simp [World.cell?, hk, hk2]⟩
 clear hs1 hs2 hs3 hb1 hb2 hb3 hbx hbq2 hbq3 hbb hw1 hw2 hw3
 obtain ⟨⟨x0, x1, x2, x3⟩, y0, y1, y2, y3⟩ := HX.out w3 (Below.refl _ _)
 have hff : (lf != lf) = false := by cases lf <;> rfl
 go_enter Tryz.func96, Tryz.ntmps96
 go_upto_region 1 with (fail)
 rw [<- HW.out.1, <- HW.out.2.1, <- HW.out.2.2, <- hq, <- hq2, <- hq3]
 clear hq hq2 hq3
 go_upto_region 3 with (fail)
 go_cut [8] (fun s8 wx => ∃ (q8 : Nat) (g1 : Option Addr) (c1 : Nat) (g2 : Option Addr) (m2 c2 : Nat) (g3 : Option Addr) (m3 c3 : Nat), s8 = .pointer (some ⟨q8, 0, none⟩) /\ HoldT (Below w3.heap.size w3 wx /\ w3.heap.size <= q8 /\ wx.heap[q8]? = some (.cells #[.bool lf, .slice g1 a1 c1, .slice g2 m2 c2, .slice g3 m3 c3] 104 (0, 0)) /\ NOwn w3.heap.size wx ⟨lf, a.keys, J.vals, J.kids⟩ (.slice g1 a1 c1) (.slice g2 m2 c2) (.slice g3 m3 c3)))
 case first =>
  have HK : HoldT (∀ wz : World, Below w3.heap.size w3 wz -> ∀ b, (b = q \/ b = q2) -> wz.heap[b]? = w3.heap[b]?) := ⟨fun wz hz b hb => hz.block b (by have h1 := heap_lt HB.out.2.1; have h2 := heap_lt HB.out.2.2.1; rcases hb with rfl | rfl <;> assumption)⟩
  have g0 := KeepS.cell (P := fun b => b = q \/ b = q2) x0 (.inl rfl)
  have g1 := KeepS.cell (P := fun b => b = q \/ b = q2) x1 (.inl rfl)
  have g2 := KeepS.cell (P := fun b => b = q \/ b = q2) x2 (.inl rfl)
  have g3 := KeepS.cell (P := fun b => b = q \/ b = q2) x3 (.inl rfl)
  have g4 := KeepS.cell (P := fun b => b = q \/ b = q2) y0 (.inr rfl)
  have g5 := KeepS.cell (P := fun b => b = q \/ b = q2) y1 (.inr rfl)
  have g6 := KeepS.cell (P := fun b => b = q \/ b = q2) y2 (.inr rfl)
  have g7 := KeepS.cell (P := fun b => b = q \/ b = q2) y3 (.inr rfl)
  clear x0 x1 x2 x3 y0 y1 y2 y3
  refine wp_region_mixC (KeepSC (fun b => b = q \/ b = q2) w3) 20 rfl (by kernel_rfl) ?_
  have HDR := HoldT.mk ((Below.refl w3.heap.size w3).drew)
  generalize w3.drew = v4 at HDR |-
  refine mixl_seg (by kernel_rfl) (fun _ _ d _ _ h => by cases d <;> exact h) [0, 1, 2, 3, 5, 6, 7, 8, 11, 12, 13, 14] [_, _, _, _, _, _, _, _, _, _, _, _] 8 20 rfl _ _ _ rfl (by kernel_rfl) (keepSC (HK.out _ HDR.out)) ?_
  repeat (go_big_quiet_step (fail))
  refine wpQuiet_nil ?_
  clear g0 g1 g2 g3 g4 g5 g6 g7
  have hc3 : ∀ wz, Below w3.heap.size w3 wz -> CLe (cf w) (cf wz) := fun wz hz => cle_below (HB.out.1.trans (hz.mono HB.out.1.size))
  have HC3 := HoldT.mk hc3
  clear hc3
  refine mixl_acts [4, 9, 10, 15, 16, 17, 18] jdeps (fun wz => Below w3.heap.size w3 wz) (JF w3.heap.size lf a.keys (a.vals ++ b.vals) ((a.kids ++ b.kids).map Int.ofNat) (.slice ava a2 avc) (.slice bva b2 bvc) (.slice aia a3 aic) (.slice bia b3 bic)) 1 8 rfl _ _ _ (fun wz hz => keepSC (HK.out _ hz)) (by kernel_rfl) jf_below ⟨⟨_, rfl, fun env v hv hd K hK => ?op4⟩, ⟨_, rfl, fun env v hv hd K hK => ?op9⟩, ⟨_, rfl, fun env v hv hd K hK => ?op10⟩, ⟨_, rfl, fun env v hv hd K hK => ?op15⟩, ⟨_, rfl, fun env v hv hd K hK => ?op16⟩, ⟨_, rfl, fun env v hv hd K hK => ?op17⟩, ⟨_, rfl, fun env v hv hd K hK => ?op18⟩, trivial⟩ HDR.out (fun env v hv hd => ?fin)
  case op4 =>
   have HC := HoldT.mk (cloneB_any (cfU w) a.keys (.slice aka a1 akc) (cf v) v (fun _ _ _ h => h) (HH.out.1.keys.mono (RB_mono _) (HC3.out v hv)) (by rw [<- HL.out.1]; omega))
   have HV := HoldT.mk hv
   simp only [jdeps, withD, Act.put, List.setIfInBounds_toArray, List.set_cons_succ, List.set_cons_zero] at hK |-
   clear hd hv
   go_wp2_with fail
   refine HC.out.mono ?_
   rintro e v' ⟨sv, cs, rfl, ho, hg, hb⟩
   obtain ⟨s1a, s1c, rfl⟩ := own_shape ho
   refine hK _ _ (HV.out.trans (hb.mono HV.out.size)) hb ?_
   exact ⟨s1a, s1c, cs, rfl, (own_base ⟨ho, rfl, hg, hb.size⟩ HV.out.size).rep (RB_le (cfU_below (HB.out.1.trans ((HV.out.trans (hb.mono HV.out.size)).mono HB.out.1.size))))⟩
  case op9 =>
   have HV := HoldT.mk hv
   simp only [jdeps, withD, Act.put, List.setIfInBounds_toArray, List.set_cons_succ, List.set_cons_zero] at hK |-
   clear hd hv
   go_wp2_with fail
   have hb : Below v.heap.size v (v.alloc (.cells #[.slice ava a2 avc, .slice bva b2 bvc] 102)) := (Below.refl _ v).alloc (Nat.le_refl _) _
   exact hK _ _ (HV.out.trans (hb.mono HV.out.size)) hb ⟨v.heap.size, rfl, heap_alloc_new v _⟩
  case op10 =>
   have HV := HoldT.mk hv
   obtain ⟨h4, h9, _⟩ := hd
   obtain ⟨g4, c4, cs4, e4, ho4⟩ : ∃ g c cs, env 4 = .slice g a.keys.length c /\ OwnS 1 (RB (cfU v)) 23 w3.heap.size v (env 4) a.keys.length a.keys cs := h4
   obtain ⟨s9, e9, h9⟩ : ∃ s : Nat, env 9 = .slice (some ⟨s, 0, none⟩) 2 2 /\ v.heap[s]? = some (.cells #[.slice ava a2 avc, .slice bva b2 bvc] 102 (0, 0)) := h9
   have HC := HoldT.mk (concatB_any (cfU w) [a.vals, b.vals] [.slice ava a2 avc, .slice bva b2 bvc] s9 2 v (two_rows (RB_mono _) (HC3.out v hv) h9 HH.out.1.vals HH.out.2.1.vals (by have := HH.out.2.2.2.2.2.2.2.2.1.vals; omega) (by have := HH.out.2.2.2.2.2.2.2.2.2.vals; omega)) rfl (by omega))
   have H4 := HoldT.mk (And.intro e4 ho4)
   simp only [jdeps, withD, dstD, opAt, Option.bind_some, Option.getD_some, e4, e9, Act.put, List.setIfInBounds_toArray, List.set_cons_succ, List.set_cons_zero] at hK |-
   clear h9 hv e4 ho4 e9
   go_wp2_with fail
   refine HC.out.mono ?_
   rintro e v' ⟨sv, cs, rfl, ho, hg, hb⟩
   simp only [List.flatten_cons, List.flatten_nil, List.append_nil] at ho hg
   obtain ⟨s1a, s1c, rfl⟩ := own_shape ho
   refine hK _ _ (HV.out.trans (hb.mono HV.out.size)) hb ?_
   have hO : OwnS 1 (RB (cfU w)) 23 v.heap.size v' (.slice s1a (a.vals ++ b.vals).length s1c) (a.vals ++ b.vals).length (a.vals ++ b.vals) cs := ⟨ho, rfl, hg, hb.size⟩
   refine ⟨s1a, s1c, cs, rfl, (own_base hO HV.out.size).rep (RB_le (cfU_below (HB.out.1.trans ((HV.out.trans (hb.mono HV.out.size)).mono HB.out.1.size)))), ?_⟩
   intro x hx p hp e
   obtain rfl : env 4 = x := by simpa using hx
   have h5 := (H4.out.2.low p hp).2
   have h6 := (hO.low p e).1
   omega
  case op15 =>
   have HV := HoldT.mk hv
   simp only [jdeps, withD, Act.put, List.setIfInBounds_toArray, List.set_cons_succ, List.set_cons_zero] at hK |-
   clear hd hv
   go_wp2_with fail
   have hb : Below v.heap.size v (v.alloc (.cells #[.slice aia a3 aic, .slice bia b3 bic] 47)) := (Below.refl _ v).alloc (Nat.le_refl _) _
   exact hK _ _ (HV.out.trans (hb.mono HV.out.size)) hb ⟨v.heap.size, rfl, heap_alloc_new v _⟩
  case op16 =>
   have HV := HoldT.mk hv
   obtain ⟨h9, _⟩ := hd
   obtain ⟨s9, e9, h9⟩ : ∃ s : Nat, env 15 = .slice (some ⟨s, 0, none⟩) 2 2 /\ v.heap[s]? = some (.cells #[.slice aia a3 aic, .slice bia b3 bic] 47 (0, 0)) := h9
   have HC := HoldT.mk (concatI_any [a.kids.map Int.ofNat, b.kids.map Int.ofNat] [.slice aia a3 aic, .slice bia b3 bic] s9 2 v (two_rows RI_mono (HC3.out v hv) h9 HH.out.1.kids HH.out.2.1.kids (by rw [List.length_map]; have := HH.out.2.2.2.2.2.2.2.2.1.kids; omega) (by rw [List.length_map]; have := HH.out.2.2.2.2.2.2.2.2.2.kids; omega)) rfl (by omega))
   simp only [jdeps, withD, dstD, opAt, Option.bind_some, Option.getD_some, e9, Act.put, List.setIfInBounds_toArray, List.set_cons_succ, List.set_cons_zero] at hK |-
   clear h9 hv e9
   go_wp2_with fail
   refine HC.out.mono ?_
   rintro e v' ⟨sv, cs, rfl, ho, hg, hb⟩
   simp only [List.flatten_cons, List.flatten_nil, List.append_nil, <- List.map_append] at ho hg
   obtain ⟨s1a, s1c, rfl⟩ := own_shape ho
   refine hK _ _ (HV.out.trans (hb.mono HV.out.size)) hb ?_
   exact ⟨s1a, s1c, cs, rfl, own_base ⟨ho, rfl, hg, hb.size⟩ HV.out.size⟩
  case op17 =>
   simp only [jdeps, withD, dstD, opAt, Option.bind_some, Option.getD_some, Act.put, List.setIfInBounds_toArray, List.set_cons_succ, List.set_cons_zero] at hK |-
   obtain ⟨h4, h10, h16, _⟩ := hd
   obtain ⟨g1, c1, cs1, e4, ho4⟩ : ∃ g c cs, env 4 = .slice g a.keys.length c /\ OwnS 1 (RB (cfU v)) 23 w3.heap.size v (env 4) a.keys.length a.keys cs := h4
   obtain ⟨g2, c2, cs2, e10, ho10, hap⟩ : ∃ g c cs, env 10 = .slice g (a.vals ++ b.vals).length c /\ OwnS 1 (RB (cfU v)) 23 w3.heap.size v (env 10) (a.vals ++ b.vals).length (a.vals ++ b.vals) cs /\ ∀ x, ([env 4, env 9] : List Value).head? = some x -> ∀ q, x.ownBlock = some q -> (env 10).ownBlock ≠ some q := h10
   obtain ⟨g3, c3, cs3, e16, ho16⟩ : ∃ g c cs, env 16 = .slice g ((a.kids ++ b.kids).map Int.ofNat).length c /\ OwnS 1 RI 3 w3.heap.size v (env 16) ((a.kids ++ b.kids).map Int.ofNat).length ((a.kids ++ b.kids).map Int.ofNat) cs := h16
   simp only [List.map_cons, List.map_nil] at hK
   rw [e4, e10, e16] at hK |-
   obtain ⟨m1, hm1⟩ : ∃ m, m = a.keys.length := ⟨_, rfl⟩
   obtain ⟨m2, hm2⟩ : ∃ m, m = (a.vals ++ b.vals).length := ⟨_, rfl⟩
   obtain ⟨m3, hm3⟩ : ∃ m, m = ((a.kids ++ b.kids).map Int.ofNat).length := ⟨_, rfl⟩
   rw [<- hm1, <- hm2, <- hm3] at hK |-
   have HV := HoldT.mk hv
   clear hm1 hm2 hm3 ho4 ho10 ho16 hap e4 e10 e16 hv
   go_wp2_with fail
   exact hK (.agg #[.bool lf, .slice g1 m1 c1, .slice g2 m2 c2, .slice g3 m3 c3]) _ HV.out (Below.refl _ _) rfl
  case op18 =>
   have HV := HoldT.mk hv
   simp only [jdeps, withD, Act.put, List.setIfInBounds_toArray, List.set_cons_succ, List.set_cons_zero] at hK |-
   clear hd hv
   go_wp2_with fail
   have hb : Below v.heap.size v (v.alloc (.cells #[.bool false, .slice none 0 0, .slice none 0 0, .slice none 0 0] 104)) := (Below.refl _ v).alloc (Nat.le_refl _) _
   exact hK _ _ (HV.out.trans (hb.mono HV.out.size)) hb ⟨v.heap.size, rfl, HV.out.size, heap_alloc_new v _⟩
  case fin =>
   obtain ⟨h4, _, h10, _, h16, h17, h18, _⟩ := hd
   obtain ⟨g1, c1, cs1, e4, ho4⟩ : ∃ g c cs, env 4 = .slice g a.keys.length c /\ OwnS 1 (RB (cfU v)) 23 w3.heap.size v (env 4) a.keys.length a.keys cs := h4
   obtain ⟨g2, c2, cs2, e10, ho10, hap⟩ : ∃ g c cs, env 10 = .slice g (a.vals ++ b.vals).length c /\ OwnS 1 (RB (cfU v)) 23 w3.heap.size v (env 10) (a.vals ++ b.vals).length (a.vals ++ b.vals) cs /\ ∀ x, ([env 4, env 9] : List Value).head? = some x -> ∀ q, x.ownBlock = some q -> (env 10).ownBlock ≠ some q := h10
   obtain ⟨g3, c3, cs3, e16, ho16⟩ : ∃ g c cs, env 16 = .slice g ((a.kids ++ b.kids).map Int.ofNat).length c /\ OwnS 1 RI 3 w3.heap.size v (env 16) ((a.kids ++ b.kids).map Int.ofNat).length ((a.kids ++ b.kids).map Int.ofNat) cs := h16
   have e17 : env 17 = .agg #[.bool lf, env 4, env 10, env 16] := h17
   obtain ⟨q8, e18, hq8, hbq8⟩ : ∃ q : Nat, env 18 = .pointer (some ⟨q, 0, none⟩) /\ w3.heap.size <= q /\ v.heap[q]? = some (.cells #[.bool false, .slice none 0 0, .slice none 0 0, .slice none 0 0] 104 (0, 0)) := h18
   have hap' := hap _ rfl
   rw [e4, e10] at hap'
   rw [e4, e10, e16] at e17
   rw [e4, <- HL.out.1] at ho4
   rw [<- HL.out.1] at e4 e17 hap'
   rw [e10] at ho10
   rw [e16] at ho16
   obtain ⟨m2, hm2⟩ : ∃ m, m = (a.vals ++ b.vals).length := ⟨_, rfl⟩
   obtain ⟨m3, hm3⟩ : ∃ m, m = ((a.kids ++ b.kids).map Int.ofNat).length := ⟨_, rfl⟩
   rw [<- hm2] at e10 ho10 e17 hap'
   rw [<- hm3] at e16 ho16 e17
   have h5 : (a.kids ++ b.kids).length = m3 := by rw [hm3, List.length_map]
   have hno : NOwn w3.heap.size v ⟨lf, a.keys, J.vals, J.kids⟩ (.slice g1 a1 c1) (.slice g2 m2 c2) (.slice g3 m3 c3) := ⟨⟨cs1, by rw [<- HL.out.1]; exact ho4⟩, ⟨cs2, by rw [HH.out.2.2.2.2.2.2.1, <- hm2]; exact ho10⟩, ⟨cs3, by rw [HH.out.2.2.2.2.2.2.2.1, h5]; exact ho16⟩, hap'⟩
   have HF := HoldT.mk (And.intro hno (And.intro hq8 hbq8))
   have HV := HoldT.mk hv
   have z0 : v.cell? ⟨q8, 0, none⟩ = some (.bool false) := by simp [World.cell?, hbq8]
   have z1 : v.cell? ⟨q8, 1, none⟩ = some (.slice none 0 0) := by simp [World.cell?, hbq8]
   have z2 : v.cell? ⟨q8, 2, none⟩ = some (.slice none 0 0) := by simp [World.cell?, hbq8]
   have z3 : v.cell? ⟨q8, 3, none⟩ = some (.slice none 0 0) := by simp [World.cell?, hbq8]
   have f0 : v.frozen? ⟨q8, 0, none⟩ = false := by simp [World.frozen?, hbq8]
   have f1 : v.frozen? ⟨q8, 1, none⟩ = false := by simp [World.frozen?, hbq8]
   have f2 : v.frozen? ⟨q8, 2, none⟩ = false := by simp [World.frozen?, hbq8]
   have f3 : v.frozen? ⟨q8, 3, none⟩ = false := by simp [World.frozen?, hbq8]
   simp only [withD, dstD, opAt, Option.bind_some, Option.getD_some, e4, e10, e16, e17, e18, Act.put, List.setIfInBounds_toArray, List.set_cons_succ, List.set_cons_zero]
   clear ho4 ho10 ho16 hap hap' e4 e10 e16 e17 e18 hm2 hm3 hno hq8 hbq8 hv
   refine mixl_act (i := 19) rfl (by kernel_rfl) (keepSC (HK.out _ HV.out)) rfl (fun K hK => ?_)
   go_wp2_with fail
   clear z0 z1 z2 z3 f0 f1 f2 f3
   obtain ⟨u4, hu4⟩ : ∃ u, u = set4 v q8 (.bool lf) (.slice g1 a1 c1) (.slice g2 m2 c2) (.slice g3 m3 c3) := ⟨_, rfl⟩
   have hu4' := hu4
   unfold set4 at hu4'
   rw [<- hu4']
   have hg4 : v.grownBy u4 (some q8) := by rw [hu4]; exact set4_grown _ _ _ _ _ _
   have h44 : u4.heap[q8]? = some (.cells #[.bool lf, .slice g1 a1 c1, .slice g2 m2 c2, .slice g3 m3 c3] 104 (0, 0)) := by rw [hu4]; exact set4_heap HF.out.2.2
   have hbu : Below w3.heap.size w3 u4 := HV.out.grown hg4 HV.out.size (fun x e => by cases e; exact HF.out.2.1)
   have HU := HoldT.mk (And.intro hbu (And.intro HF.out.2.1 (And.intro h44 (HF.out.1.grown HF.out.2.2 hg4).1)))
   clear hu4 hu4' hg4 h44 hbu
   refine mix_done (by kernel_rfl) (keepSC (HK.out _ HU.out.1)) ?_
   go_wp2_with fail
   go_meet
   exact ⟨q8, g1, c1, g2, m2, c2, g3, m3, c3, rfl, HU⟩
 case rest =>
  obtain ⟨q8, g1, c1, g2, m2, c2, g3, m3, c3, rfl, HU⟩ := hcut
  generalize wc = v at *
  clear x0 x1 x2 x3 y0 y1 y2 y3
  have hbx := HU.out.2.2.1
  have hq88 := HU.out.2.1
  cases lf with
  | false =>
   have hk2 := HH.out.2.2.2.2.2.1
   rw [if_neg (by decide)] at hk2
   obtain ⟨cs1, ho1⟩ := HU.out.2.2.2.keys
   have ho1' : OwnS 1 (RB (cfU v)) 23 w3.heap.size v (.slice g1 a1 c1) a1 a.keys cs1 := by have h := ho1; rw [<- HL.out.1] at h; exact h
   have hyv := HH.out.2.2.1.mono RY_mono (cfU_below (HB.out.1.trans (HU.out.1.mono HB.out.1.size)))
   have HO1 := HoldT.mk (And.intro ho1' (And.intro hyv hbx))
   have z0 : v.cell? ⟨q8, 0, none⟩ = some (.bool false) := by simp [World.cell?, hbx]
   have z1 : v.cell? ⟨q8, 1, none⟩ = some (.slice g1 a1 c1) := by simp [World.cell?, hbx]
   clear ho1 ho1' hyv hbx
   go_wp2_with (at_builtin; refine push_new (RB_mono _) rfl _ _ rfl infoB1 Tryz.underlying102 rfl (by decide) w3.heap.size _ _ a1 _ _ HO1.out.1 rfl _ [.slice xa xl xc] rfl rfl (by simp [Value.oneCell']) s ⟨_, rfl, HO1.out.2.1⟩ _ rfl rfl (by omega) (by decide) ?_)
   intro sl2 v2 ho2 hg2
   obtain ⟨g1', c1', rfl⟩ := ho2.shape
   have hne : ∀ g, (Value.slice g1 a1 c1).ownBlock = some g -> q8 ≠ g := fun g e e2 => by
    obtain ⟨cur, T, e3, e4⟩ := HU.out.2.2.2.kind (.inl e)
    rw [<- e2, HO1.out.2.2] at e3
    cases e3
    rcases e4 with e4 | e4 <;> exact absurd e4 (by decide)
   have hbx2 := hg2.kept HO1.out.2.2 hne
   have hno2 := NOwn.edK (ks := a.keys ++ [s]) HU.out.2.2.2 hg2 (by rw [List.length_append, <- HL.out.1]; exact ho2)
   have hb2 : Below w3.heap.size w3 v2 := HU.out.1.trans (hg2.below HU.out.1.size fun g hg => (HU.out.2.2.2.low (.inl hg)).1)
   have z0 : v2.cell? ⟨q8, 0, none⟩ = some (.bool false) := by simp [World.cell?, hbx2]
   have z1 : v2.cell? ⟨q8, 1, none⟩ = some (.slice g1 a1 c1) := by simp [World.cell?, hbx2]
   have f1 : v2.frozen? ⟨q8, 1, none⟩ = false := by simp [World.frozen?, hbx2]
   have H2 := HoldT.mk (And.intro hbx2 (And.intro hno2 hb2))
   clear ho2 hg2 hne hbx2 hno2 hb2
   go_upto_region 6 with (fail)
   obtain ⟨v3, hv3⟩ : ∃ x, x = v2.setCell ⟨q8, 1, none⟩ (.slice g1' (a1 + 1) c1') := ⟨_, rfl⟩
   rw [<- hv3]
   have hg3 : v2.grownBy v3 (some q8) := by rw [hv3]; exact set6_grown _ _
   have hbx3 : v3.heap[q8]? = some (.cells #[.bool false, .slice g1' (a1 + 1) c1', .slice g2 m2 c2, .slice g3 m3 c3] 104 (0, 0)) := by rw [hv3, set_selfT H2.out.1]; rfl
   have H3 : HoldT (Below w3.heap.size w3 v3 /\ v3.heap[q8]? = some (.cells #[.bool false, .slice g1' (a1 + 1) c1', .slice g2 m2 c2, .slice g3 m3 c3] 104 (0, 0)) /\ NOwn w3.heap.size v3 ⟨false, a.keys ++ [s], J.vals, J.kids⟩ (.slice g1' (a1 + 1) c1') (.slice g2 m2 c2) (.slice g3 m3 c3)) := ⟨H2.out.2.2.grown hg3 H2.out.2.2.size (fun x e => by cases e; exact hq88), hbx3, (H2.out.2.1.grown H2.out.1 hg3).1⟩
   obtain ⟨K1, hK1⟩ : ∃ K, K = a.keys ++ [s] := ⟨_, rfl⟩
   obtain ⟨n1, hn1⟩ : ∃ n, n = a1 + 1 := ⟨_, rfl⟩
   have hnl : n1 = K1.length := by rw [hn1, hK1, List.length_append, <- HL.out.1]; rfl
   rw [<- hK1, <- hn1] at H3
   rw [<- hK1] at hk2
   have hn9 : n1 <= 10001 := by omega
   have HK1 := HoldT.mk (And.intro hk2 hnl)
   clear hv3 hg3 hbx3 hK1 hn1 hnl hk2 z0 z1 f1 H2 HO1
   have hbw := HB.out.1.trans (H3.out.1.mono HB.out.1.size)
   obtain ⟨⟨x0, x1, x2, x3⟩, y0, y1, y2, y3⟩ := HX.out v3 H3.out.1
   have hbx3 := H3.out.2.1
   have z0 : v3.cell? ⟨q8, 0, none⟩ = some (.bool false) := by simp [World.cell?, hbx3]
   have z1 : v3.cell? ⟨q8, 1, none⟩ = some (.slice g1' n1 c1') := by simp [World.cell?, hbx3]
   obtain ⟨cs3, ho3⟩ := H3.out.2.2.keys
   have ho3' : OwnS 1 (RB (cfU v3)) 23 w3.heap.size v3 (.slice g1' n1 c1') n1 K1 cs3 := by have h := ho3; rw [<- HK1.out.2] at h; exact h
   have HO3 := HoldT.mk ho3'
   have HS3 := HoldT.mk ((HH.out.2.1.keys.mono (RB_mono _) (cle_cfN_old (s := .slice g1' n1 c1') hbw fun g hg => Nat.le_trans HB.out.1.size (H3.out.2.2.low (.inl hg)).1)).rep (RB_le (cfU_below hbw)))
   have hbl : b.keys.length = b1 := HL.out.2.2.2.1.symm
   have HBL := HoldT.mk hbl
   clear ho3 ho3' hbw hbl x0 x1 x2 x3 hbx3
   go_wp2_with (at_builtin; refine push_src (RB_mono _) (RB_one _) rfl _ _ rfl infoB1 Tryz.underlying102 rfl (by decide) _ _ _ n1 _ _ HO3.out rfl _ b.keys HS3.out rfl (by have := HBL.out; omega) (by decide) ?_)
   intro sl4 v4 cs4 ho4 hg4
   rw [HBL.out] at ho4
   obtain ⟨g4, c4, rfl⟩ := ho4.shape
   obtain ⟨n4, hn4⟩ : ∃ n, n = n1 + b1 := ⟨_, rfl⟩
   rw [<- hn4] at ho4 hg4 |-
   have hn49 : n4 <= 20001 := by omega
   have hne : ∀ g, (Value.slice g1' n1 c1').ownBlock = some g -> q8 ≠ g := fun g e e2 => by
    obtain ⟨cur, T, e3, e4⟩ := H3.out.2.2.kind (.inl e)
    rw [<- e2, H3.out.2.1] at e3
    cases e3
    rcases e4 with e4 | e4 <;> exact absurd e4 (by decide)
   have hbx4 := hg4.kept H3.out.2.1 hne
   have hno4 := NOwn.edK (ks := K1 ++ b.keys) H3.out.2.2 hg4 (by rw [List.length_append, <- HK1.out.2, HBL.out, <- hn4]; exact ho4)
   have hb4 : Below w3.heap.size w3 v4 := H3.out.1.trans (hg4.below H3.out.1.size fun g hg => (H3.out.2.2.low (.inl hg)).1)
   have f1 : v4.frozen? ⟨q8, 1, none⟩ = false := by simp [World.frozen?, hbx4]
   have z1 : v4.cell? ⟨q8, 1, none⟩ = some (.slice g1' n1 c1') := by simp [World.cell?, hbx4]
   have H4 := HoldT.mk (And.intro hbx4 (And.intro hno4 hb4))
   have HN4 : HoldT (n4 = J.keys.length) := ⟨by rw [HK1.out.1, List.length_append, <- HK1.out.2, HBL.out, hn4]⟩
   clear ho4 hg4 hne hbx4 hno4 hb4 hn4 y0 y1 y2 y3 HO3 HS3
   go_upto_region 7 with (fail)
   obtain ⟨v5, hv5⟩ : ∃ x, x = v4.setCell ⟨q8, 1, none⟩ (.slice g4 n4 c4) := ⟨_, rfl⟩
   rw [<- hv5]
   have hg5 : v4.grownBy v5 (some q8) := by rw [hv5]; exact set6_grown _ _
   have hbx5 : v5.heap[q8]? = some (.cells #[.bool false, .slice g4 n4 c4, .slice g2 m2 c2, .slice g3 m3 c3] 104 (0, 0)) := by rw [hv5, set_selfT H4.out.1]; rfl
   have hJ : (⟨false, K1 ++ b.keys, J.vals, J.kids⟩ : ND) = J := by rw [<- HK1.out.1, <- HH.out.2.2.2.2.1]
   have hno5 := (H4.out.2.1.grown H4.out.1 hg5).1
   rw [show (({ leaf := false, keys := K1 ++ b.keys, vals := J.vals, kids := J.kids } : ND)) = J from hJ] at hno5
   have hbv5 : Below w3.heap.size w3 v5 := H4.out.2.2.grown hg5 H4.out.2.2.size (fun x e => by cases e; exact hq88)
   have HF := node_formed hno5.nat HH.out.2.2.2.1
   unfold nodeV at HF
   rw [HH.out.2.2.2.2.1] at HF
   have HF := HoldT.mk HF
   have y0 : v5.cell? ⟨q8, 0, none⟩ = some (.bool false) := by simp [World.cell?, hbx5]
   have y1 : v5.cell? ⟨q8, 1, none⟩ = some (.slice g4 n4 c4) := by simp [World.cell?, hbx5]
   have y2 : v5.cell? ⟨q8, 2, none⟩ = some (.slice g2 m2 c2) := by simp [World.cell?, hbx5]
   have y3 : v5.cell? ⟨q8, 3, none⟩ = some (.slice g3 m3 c3) := by simp [World.cell?, hbx5]
   have H5 := HoldT.mk (And.intro hbx5 (And.intro hno5 hbv5))
   clear hv5 hg5 hbx5 hJ hno5 hbv5 z0 z1 f1
   go_wp2_with fail
   refine HF.out.mono ?_
   rintro e v6 ⟨rfl, hb6⟩
   clear y0 y1 y2 y3
   have hb36 := H5.out.2.2.trans (hb6.mono H5.out.2.2.size)
   have hbq := kept HB.out.2.2.2.1 hb36
   have hbn := kept H5.out.1 hb6
   have H6 := HoldT.mk (And.intro hb6 (And.intro hb36 (And.intro hbq hbn)))
   have HSH : HoldT (∃ d, d = decide (sizeN J <= 1024)) := ⟨_, rfl⟩
   obtain ⟨d, hd⟩ := HSH.out
   rw [<- hd]
   have HD := HoldT.mk hd
   clear hd hb6 hb36
   cases d with
   | false =>
    have z0 : v6.cell? ⟨q3, 0, none⟩ = some (.bool false) := by simp [World.cell?, hbq]
    have z1 : v6.cell? ⟨q3, 1, none⟩ = some (.slice none 0 0) := by simp [World.cell?, hbq]
    have z2 : v6.cell? ⟨q3, 2, none⟩ = some (.slice none 0 0) := by simp [World.cell?, hbq]
    have z3 : v6.cell? ⟨q3, 3, none⟩ = some (.slice none 0 0) := by simp [World.cell?, hbq]
    have f0 : v6.frozen? ⟨q3, 0, none⟩ = false := by simp [World.frozen?, hbq]
    have f1 : v6.frozen? ⟨q3, 1, none⟩ = false := by simp [World.frozen?, hbq]
    have f2 : v6.frozen? ⟨q3, 2, none⟩ = false := by simp [World.frozen?, hbq]
    have f3 : v6.frozen? ⟨q3, 3, none⟩ = false := by simp [World.frozen?, hbq]
    clear hbq hbn
    go_wp2_with fail
    obtain ⟨u4, hu4⟩ : ∃ u, u = set4 v6 q3 (.bool false) (.slice none 0 0) (.slice none 0 0) (.slice none 0 0) := ⟨_, rfl⟩
    have hu4' := hu4
    unfold set4 at hu4'
    rw [<- hu4']
    have hg4 : v6.grownBy u4 (some q3) := by rw [hu4]; exact set4_grown _ _ _ _ _ _
    have h44 : u4.heap[q3]? = some (.cells #[.bool false, .slice none 0 0, .slice none 0 0, .slice none 0 0] 104 (0, 0)) := by rw [hu4]; exact set4_heap H6.out.2.2.1
    have c0 : u4.cell? ⟨q3, 0, none⟩ = some (.bool false) := by simp [World.cell?, h44]
    have c1 : u4.cell? ⟨q3, 1, none⟩ = some (.slice none 0 0) := by simp [World.cell?, h44]
    have c2 : u4.cell? ⟨q3, 2, none⟩ = some (.slice none 0 0) := by simp [World.cell?, h44]
    have c3 : u4.cell? ⟨q3, 3, none⟩ = some (.slice none 0 0) := by simp [World.cell?, h44]
    refine bodyPost_ret (v := .tuple #[.agg #[.bool false, .slice none 0 0, .slice none 0 0, .slice none 0 0], .bool false]) (by simp [results, Tryz.results96, go_sem, c0, c1, c2, c3]) rfl ?_
    have hq3w : w.heap.size <= q3 := by have h1 := HB.out.2.2.2.2.1; have h2 := HB.out.2.2.2.2.2.1; have h3 := HB.out.2.2.2.2.2.2.1; omega
    exact ⟨(HB.out.1.trans (H6.out.2.1.mono HB.out.1.size)).grown hg4 (Nat.le_trans HB.out.1.size H6.out.2.1.size) (fun x e => by cases e; exact hq3w), .inr ⟨by have := of_decide_eq_false HD.out.symm; omega, rfl⟩⟩
   | true =>
    have hN6 := H5.out.2.1.below H6.out.1
    have HO := node_own hN6.nat HH.out.2.2.2.1.fewN
    unfold nodeV at HO
    rw [HH.out.2.2.2.2.1] at HO
    have HO := HoldT.mk HO
    have y0 : v6.cell? ⟨q8, 0, none⟩ = some (.bool false) := by simp [World.cell?, hbn]
    have y1 : v6.cell? ⟨q8, 1, none⟩ = some (.slice g4 n4 c4) := by simp [World.cell?, hbn]
    have y2 : v6.cell? ⟨q8, 2, none⟩ = some (.slice g2 m2 c2) := by simp [World.cell?, hbn]
    have y3 : v6.cell? ⟨q8, 3, none⟩ = some (.slice g3 m3 c3) := by simp [World.cell?, hbn]
    clear hbq hbn hN6
    go_wp2_with fail
    refine HO.out.mono ?_
    rintro e v7 ⟨kv, vv, iv, rfl, hno7, hb7⟩
    obtain ⟨k7a, k7c, rfl⟩ := hno7.nat.keys.form
    obtain ⟨w7a, w7c, rfl⟩ := hno7.nat.vals.form
    obtain ⟨i7a, i7c, rfl⟩ := hno7.nat.kids.form
    have hbq := kept H6.out.2.2.1 hb7
    obtain ⟨l7, hl7⟩ : ∃ m, m = J.keys.length := ⟨_, rfl⟩
    obtain ⟨l8, hl8⟩ : ∃ m, m = J.vals.length := ⟨_, rfl⟩
    obtain ⟨l9, hl9⟩ : ∃ m, m = (J.kids.map Int.ofNat).length := ⟨_, rfl⟩
    unfold nodeV
    rw [HH.out.2.2.2.2.1, <- hl7, <- hl8, <- hl9]
    rw [<- hl7, <- hl8, <- hl9] at hno7
    have H7 := HoldT.mk (And.intro hb7 (And.intro hno7 (And.intro hbq (And.intro hl7 (And.intro hl8 hl9)))))
    have z0 : v7.cell? ⟨q3, 0, none⟩ = some (.bool false) := by simp [World.cell?, hbq]
    have z1 : v7.cell? ⟨q3, 1, none⟩ = some (.slice none 0 0) := by simp [World.cell?, hbq]
    have z2 : v7.cell? ⟨q3, 2, none⟩ = some (.slice none 0 0) := by simp [World.cell?, hbq]
    have z3 : v7.cell? ⟨q3, 3, none⟩ = some (.slice none 0 0) := by simp [World.cell?, hbq]
    have f0 : v7.frozen? ⟨q3, 0, none⟩ = false := by simp [World.frozen?, hbq]
    have f1 : v7.frozen? ⟨q3, 1, none⟩ = false := by simp [World.frozen?, hbq]
    have f2 : v7.frozen? ⟨q3, 2, none⟩ = false := by simp [World.frozen?, hbq]
    have f3 : v7.frozen? ⟨q3, 3, none⟩ = false := by simp [World.frozen?, hbq]
    clear hbq hno7 hb7 hl7 hl8 hl9 y0 y1 y2 y3
    go_wp2_with fail
    obtain ⟨u4, hu4⟩ : ∃ u, u = set4 v7 q3 (.bool false) (.slice k7a l7 k7c) (.slice w7a l8 w7c) (.slice i7a l9 i7c) := ⟨_, rfl⟩
    have hu4' := hu4
    unfold set4 at hu4'
    rw [<- hu4']
    have hg4 : v7.grownBy u4 (some q3) := by rw [hu4]; exact set4_grown _ _ _ _ _ _
    have h44 : u4.heap[q3]? = some (.cells #[.bool false, .slice k7a l7 k7c, .slice w7a l8 w7c, .slice i7a l9 i7c] 104 (0, 0)) := by rw [hu4]; exact set4_heap H7.out.2.2.1
    have c0 : u4.cell? ⟨q3, 0, none⟩ = some (.bool false) := by simp [World.cell?, h44]
    have c1 : u4.cell? ⟨q3, 1, none⟩ = some (.slice k7a l7 k7c) := by simp [World.cell?, h44]
    have c2 : u4.cell? ⟨q3, 2, none⟩ = some (.slice w7a l8 w7c) := by simp [World.cell?, h44]
    have c3 : u4.cell? ⟨q3, 3, none⟩ = some (.slice i7a l9 i7c) := by simp [World.cell?, h44]
    refine bodyPost_ret (v := .tuple #[.agg #[.bool false, .slice k7a l7 k7c, .slice w7a l8 w7c, .slice i7a l9 i7c], .bool true]) (by simp [results, Tryz.results96, go_sem, c0, c1, c2, c3]) rfl ?_
    have hq3w : w.heap.size <= q3 := by have h1 := HB.out.2.2.2.2.1; have h2 := HB.out.2.2.2.2.2.1; have h3 := HB.out.2.2.2.2.2.2.1; omega
    have hb07 := HB.out.1.trans ((H6.out.2.1.trans (H7.out.1.mono H6.out.2.1.size)).mono HB.out.1.size)
    have hw6 := Nat.le_trans HB.out.1.size H6.out.2.1.size
    refine ⟨hb07.grown hg4 hb07.size (fun x e => by cases e; exact hq3w), .inl ⟨of_decide_eq_true HD.out.symm, _, _, _, ?_, ((H7.out.2.1.base hw6).grown H7.out.2.2.1 hg4).1⟩⟩
    unfold nodeV
    rw [HH.out.2.2.2.2.1]
  | true =>
   have hk2 := HH.out.2.2.2.2.2.1
   rw [if_pos rfl] at hk2
   have z0 : v.cell? ⟨q8, 0, none⟩ = some (.bool true) := by simp [World.cell?, hbx]
   go_upto_region 6 with (fail)
   obtain ⟨v3, hv3⟩ : ∃ x, x = v := ⟨_, rfl⟩
   obtain ⟨g1', hg1'⟩ : ∃ x, x = g1 := ⟨_, rfl⟩
   obtain ⟨c1', hc1'⟩ : ∃ x, x = c1 := ⟨_, rfl⟩
   obtain ⟨n1, hn1⟩ : ∃ n, n = a1 := ⟨_, rfl⟩
   obtain ⟨K1, hK1⟩ : ∃ K, K = a.keys := ⟨_, rfl⟩
   have H3 : HoldT (Below w3.heap.size w3 v3 /\ v3.heap[q8]? = some (.cells #[.bool true, .slice g1' n1 c1', .slice g2 m2 c2, .slice g3 m3 c3] 104 (0, 0)) /\ NOwn w3.heap.size v3 ⟨true, K1, J.vals, J.kids⟩ (.slice g1' n1 c1') (.slice g2 m2 c2) (.slice g3 m3 c3)) := by rw [hv3, hg1', hc1', hn1, hK1]; exact ⟨HU.out.1, hbx, HU.out.2.2.2⟩
   have hnl : n1 = K1.length := by rw [hn1, hK1, <- HL.out.1]
   rw [<- hv3]
   rw [<- hK1] at hk2
   have hn9 : n1 <= 10001 := by omega
   have HK1 := HoldT.mk (And.intro hk2 hnl)
   clear hv3 hK1 hn1 hnl hk2 z0 hg1' hc1' hbx
   have hbw := HB.out.1.trans (H3.out.1.mono HB.out.1.size)
   obtain ⟨⟨x0, x1, x2, x3⟩, y0, y1, y2, y3⟩ := HX.out v3 H3.out.1
   have hbx3 := H3.out.2.1
   have z0 : v3.cell? ⟨q8, 0, none⟩ = some (.bool true) := by simp [World.cell?, hbx3]
   have z1 : v3.cell? ⟨q8, 1, none⟩ = some (.slice g1' n1 c1') := by simp [World.cell?, hbx3]
   obtain ⟨cs3, ho3⟩ := H3.out.2.2.keys
   have ho3' : OwnS 1 (RB (cfU v3)) 23 w3.heap.size v3 (.slice g1' n1 c1') n1 K1 cs3 := by have h := ho3; rw [<- HK1.out.2] at h; exact h
   have HO3 := HoldT.mk ho3'
   have HS3 := HoldT.mk ((HH.out.2.1.keys.mono (RB_mono _) (cle_cfN_old (s := .slice g1' n1 c1') hbw fun g hg => Nat.le_trans HB.out.1.size (H3.out.2.2.low (.inl hg)).1)).rep (RB_le (cfU_below hbw)))
   have hbl : b.keys.length = b1 := HL.out.2.2.2.1.symm
   have HBL := HoldT.mk hbl
   clear ho3 ho3' hbw hbl x0 x1 x2 x3 hbx3
   go_wp2_with (at_builtin; refine push_src (RB_mono _) (RB_one _) rfl _ _ rfl infoB1 Tryz.underlying102 rfl (by decide) _ _ _ n1 _ _ HO3.out rfl _ b.keys HS3.out rfl (by have := HBL.out; omega) (by decide) ?_)
   intro sl4 v4 cs4 ho4 hg4
   rw [HBL.out] at ho4
   obtain ⟨g4, c4, rfl⟩ := ho4.shape
   obtain ⟨n4, hn4⟩ : ∃ n, n = n1 + b1 := ⟨_, rfl⟩
   rw [<- hn4] at ho4 hg4 |-
   have hn49 : n4 <= 20001 := by omega
   have hne : ∀ g, (Value.slice g1' n1 c1').ownBlock = some g -> q8 ≠ g := fun g e e2 => by
    obtain ⟨cur, T, e3, e4⟩ := H3.out.2.2.kind (.inl e)
    rw [<- e2, H3.out.2.1] at e3
    cases e3
    rcases e4 with e4 | e4 <;> exact absurd e4 (by decide)
   have hbx4 := hg4.kept H3.out.2.1 hne
   have hno4 := NOwn.edK (ks := K1 ++ b.keys) H3.out.2.2 hg4 (by rw [List.length_append, <- HK1.out.2, HBL.out, <- hn4]; exact ho4)
   have hb4 : Below w3.heap.size w3 v4 := H3.out.1.trans (hg4.below H3.out.1.size fun g hg => (H3.out.2.2.low (.inl hg)).1)
   have f1 : v4.frozen? ⟨q8, 1, none⟩ = false := by simp [World.frozen?, hbx4]
   have z1 : v4.cell? ⟨q8, 1, none⟩ = some (.slice g1' n1 c1') := by simp [World.cell?, hbx4]
   have H4 := HoldT.mk (And.intro hbx4 (And.intro hno4 hb4))
   have HN4 : HoldT (n4 = J.keys.length) := ⟨by rw [HK1.out.1, List.length_append, <- HK1.out.2, HBL.out, hn4]⟩
   clear ho4 hg4 hne hbx4 hno4 hb4 hn4 y0 y1 y2 y3 HO3 HS3
   go_upto_region 7 with (fail)
   obtain ⟨v5, hv5⟩ : ∃ x, x = v4.setCell ⟨q8, 1, none⟩ (.slice g4 n4 c4) := ⟨_, rfl⟩
   rw [<- hv5]
   have hg5 : v4.grownBy v5 (some q8) := by rw [hv5]; exact set6_grown _ _
   have hbx5 : v5.heap[q8]? = some (.cells #[.bool true, .slice g4 n4 c4, .slice g2 m2 c2, .slice g3 m3 c3] 104 (0, 0)) := by rw [hv5, set_selfT H4.out.1]; rfl
   have hJ : (⟨true, K1 ++ b.keys, J.vals, J.kids⟩ : ND) = J := by rw [<- HK1.out.1, <- HH.out.2.2.2.2.1]
   have hno5 := (H4.out.2.1.grown H4.out.1 hg5).1
   rw [show (({ leaf := true, keys := K1 ++ b.keys, vals := J.vals, kids := J.kids } : ND)) = J from hJ] at hno5
   have hbv5 : Below w3.heap.size w3 v5 := H4.out.2.2.grown hg5 H4.out.2.2.size (fun x e => by cases e; exact hq88)
   have HF := node_formed hno5.nat HH.out.2.2.2.1
   unfold nodeV at HF
   rw [HH.out.2.2.2.2.1] at HF
   have HF := HoldT.mk HF
   have y0 : v5.cell? ⟨q8, 0, none⟩ = some (.bool true) := by simp [World.cell?, hbx5]
   have y1 : v5.cell? ⟨q8, 1, none⟩ = some (.slice g4 n4 c4) := by simp [World.cell?, hbx5]
   have y2 : v5.cell? ⟨q8, 2, none⟩ = some (.slice g2 m2 c2) := by simp [World.cell?, hbx5]
   have y3 : v5.cell? ⟨q8, 3, none⟩ = some (.slice g3 m3 c3) := by simp [World.cell?, hbx5]
   have H5 := HoldT.mk (And.intro hbx5 (And.intro hno5 hbv5))
   clear hv5 hg5 hbx5 hJ hno5 hbv5 z0 z1 f1
   go_wp2_with fail
   refine HF.out.mono ?_
   rintro e v6 ⟨rfl, hb6⟩
   clear y0 y1 y2 y3
   have hb36 := H5.out.2.2.trans (hb6.mono H5.out.2.2.size)
   have hbq := kept HB.out.2.2.2.1 hb36
   have hbn := kept H5.out.1 hb6
   have H6 := HoldT.mk (And.intro hb6 (And.intro hb36 (And.intro hbq hbn)))
   have HSH : HoldT (∃ d, d = decide (sizeN J <= 1024)) := ⟨_, rfl⟩
   obtain ⟨d, hd⟩ := HSH.out
   rw [<- hd]
   have HD := HoldT.mk hd
   clear hd hb6 hb36
   cases d with
   | false =>
    have z0 : v6.cell? ⟨q3, 0, none⟩ = some (.bool false) := by simp [World.cell?, hbq]
    have z1 : v6.cell? ⟨q3, 1, none⟩ = some (.slice none 0 0) := by simp [World.cell?, hbq]
    have z2 : v6.cell? ⟨q3, 2, none⟩ = some (.slice none 0 0) := by simp [World.cell?, hbq]
    have z3 : v6.cell? ⟨q3, 3, none⟩ = some (.slice none 0 0) := by simp [World.cell?, hbq]
    have f0 : v6.frozen? ⟨q3, 0, none⟩ = false := by simp [World.frozen?, hbq]
    have f1 : v6.frozen? ⟨q3, 1, none⟩ = false := by simp [World.frozen?, hbq]
    have f2 : v6.frozen? ⟨q3, 2, none⟩ = false := by simp [World.frozen?, hbq]
    have f3 : v6.frozen? ⟨q3, 3, none⟩ = false := by simp [World.frozen?, hbq]
    clear hbq hbn
    go_wp2_with fail
    obtain ⟨u4, hu4⟩ : ∃ u, u = set4 v6 q3 (.bool false) (.slice none 0 0) (.slice none 0 0) (.slice none 0 0) := ⟨_, rfl⟩
    have hu4' := hu4
    unfold set4 at hu4'
    rw [<- hu4']
    have hg4 : v6.grownBy u4 (some q3) := by rw [hu4]; exact set4_grown _ _ _ _ _ _
    have h44 : u4.heap[q3]? = some (.cells #[.bool false, .slice none 0 0, .slice none 0 0, .slice none 0 0] 104 (0, 0)) := by rw [hu4]; exact set4_heap H6.out.2.2.1
    have c0 : u4.cell? ⟨q3, 0, none⟩ = some (.bool false) := by simp [World.cell?, h44]
    have c1 : u4.cell? ⟨q3, 1, none⟩ = some (.slice none 0 0) := by simp [World.cell?, h44]
    have c2 : u4.cell? ⟨q3, 2, none⟩ = some (.slice none 0 0) := by simp [World.cell?, h44]
    have c3 : u4.cell? ⟨q3, 3, none⟩ = some (.slice none 0 0) := by simp [World.cell?, h44]
    refine bodyPost_ret (v := .tuple #[.agg #[.bool false, .slice none 0 0, .slice none 0 0, .slice none 0 0], .bool false]) (by simp [results, Tryz.results96, go_sem, c0, c1, c2, c3]) rfl ?_
    have hq3w : w.heap.size <= q3 := by have h1 := HB.out.2.2.2.2.1; have h2 := HB.out.2.2.2.2.2.1; have h3 := HB.out.2.2.2.2.2.2.1; omega
    exact ⟨(HB.out.1.trans (H6.out.2.1.mono HB.out.1.size)).grown hg4 (Nat.le_trans HB.out.1.size H6.out.2.1.size) (fun x e => by cases e; exact hq3w), .inr ⟨by have := of_decide_eq_false HD.out.symm; omega, rfl⟩⟩
   | true =>
    have hN6 := H5.out.2.1.below H6.out.1
    have HO := node_own hN6.nat HH.out.2.2.2.1.fewN
    unfold nodeV at HO
    rw [HH.out.2.2.2.2.1] at HO
    have HO := HoldT.mk HO
    have y0 : v6.cell? ⟨q8, 0, none⟩ = some (.bool true) := by simp [World.cell?, hbn]
    have y1 : v6.cell? ⟨q8, 1, none⟩ = some (.slice g4 n4 c4) := by simp [World.cell?, hbn]
    have y2 : v6.cell? ⟨q8, 2, none⟩ = some (.slice g2 m2 c2) := by simp [World.cell?, hbn]
    have y3 : v6.cell? ⟨q8, 3, none⟩ = some (.slice g3 m3 c3) := by simp [World.cell?, hbn]
    clear hbq hbn hN6
    go_wp2_with fail
    refine HO.out.mono ?_
    rintro e v7 ⟨kv, vv, iv, rfl, hno7, hb7⟩
    obtain ⟨k7a, k7c, rfl⟩ := hno7.nat.keys.form
    obtain ⟨w7a, w7c, rfl⟩ := hno7.nat.vals.form
    obtain ⟨i7a, i7c, rfl⟩ := hno7.nat.kids.form
    have hbq := kept H6.out.2.2.1 hb7
    obtain ⟨l7, hl7⟩ : ∃ m, m = J.keys.length := ⟨_, rfl⟩
    obtain ⟨l8, hl8⟩ : ∃ m, m = J.vals.length := ⟨_, rfl⟩
    obtain ⟨l9, hl9⟩ : ∃ m, m = (J.kids.map Int.ofNat).length := ⟨_, rfl⟩
    unfold nodeV
    rw [HH.out.2.2.2.2.1, <- hl7, <- hl8, <- hl9]
    rw [<- hl7, <- hl8, <- hl9] at hno7
    have H7 := HoldT.mk (And.intro hb7 (And.intro hno7 (And.intro hbq (And.intro hl7 (And.intro hl8 hl9)))))
    have z0 : v7.cell? ⟨q3, 0, none⟩ = some (.bool false) := by simp [World.cell?, hbq]
    have z1 : v7.cell? ⟨q3, 1, none⟩ = some (.slice none 0 0) := by simp [World.cell?, hbq]
    have z2 : v7.cell? ⟨q3, 2, none⟩ = some (.slice none 0 0) := by simp [World.cell?, hbq]
    have z3 : v7.cell? ⟨q3, 3, none⟩ = some (.slice none 0 0) := by simp [World.cell?, hbq]
    have f0 : v7.frozen? ⟨q3, 0, none⟩ = false := by simp [World.frozen?, hbq]
    have f1 : v7.frozen? ⟨q3, 1, none⟩ = false := by simp [World.frozen?, hbq]
    have f2 : v7.frozen? ⟨q3, 2, none⟩ = false := by simp [World.frozen?, hbq]
    have f3 : v7.frozen? ⟨q3, 3, none⟩ = false := by simp [World.frozen?, hbq]
    clear hbq hno7 hb7 hl7 hl8 hl9 y0 y1 y2 y3
    go_wp2_with fail
    obtain ⟨u4, hu4⟩ : ∃ u, u = set4 v7 q3 (.bool true) (.slice k7a l7 k7c) (.slice w7a l8 w7c) (.slice i7a l9 i7c) := ⟨_, rfl⟩
    have hu4' := hu4
    unfold set4 at hu4'
    rw [<- hu4']
    have hg4 : v7.grownBy u4 (some q3) := by rw [hu4]; exact set4_grown _ _ _ _ _ _
    have h44 : u4.heap[q3]? = some (.cells #[.bool true, .slice k7a l7 k7c, .slice w7a l8 w7c, .slice i7a l9 i7c] 104 (0, 0)) := by rw [hu4]; exact set4_heap H7.out.2.2.1
    have c0 : u4.cell? ⟨q3, 0, none⟩ = some (.bool true) := by simp [World.cell?, h44]
    have c1 : u4.cell? ⟨q3, 1, none⟩ = some (.slice k7a l7 k7c) := by simp [World.cell?, h44]
    have c2 : u4.cell? ⟨q3, 2, none⟩ = some (.slice w7a l8 w7c) := by simp [World.cell?, h44]
    have c3 : u4.cell? ⟨q3, 3, none⟩ = some (.slice i7a l9 i7c) := by simp [World.cell?, h44]
    refine bodyPost_ret (v := .tuple #[.agg #[.bool true, .slice k7a l7 k7c, .slice w7a l8 w7c, .slice i7a l9 i7c], .bool true]) (by simp [results, Tryz.results96, go_sem, c0, c1, c2, c3]) rfl ?_
    have hq3w : w.heap.size <= q3 := by have h1 := HB.out.2.2.2.2.1; have h2 := HB.out.2.2.2.2.2.1; have h3 := HB.out.2.2.2.2.2.2.1; omega
    have hb07 := HB.out.1.trans ((H6.out.2.1.trans (H7.out.1.mono H6.out.2.1.size)).mono HB.out.1.size)
    have hw6 := Nat.le_trans HB.out.1.size H6.out.2.1.size
    refine ⟨hb07.grown hg4 hb07.size (fun x e => by cases e; exact hq3w), .inl ⟨of_decide_eq_true HD.out.symm, _, _, _, ?_, ((H7.out.2.1.base hw6).grown H7.out.2.2.1 hg4).1⟩⟩
    unfold nodeV
    rw [HH.out.2.2.2.2.1]
end Go.Proofs.YtmiphphombkpdaaGreat
