import Derived.Test.YtafilaiinbggoaaGreatQT43
namespace Go.Proofs.YtafilaiinbggoaaGreat
open Go.RowKit Go.Maps
def cntL : (h : Nat) -> Tree h -> List (Nat × Nat)
 | 0, t => [(t.1, t.2.length)]
 | h + 1, t => (t.1, 0) :: t.2.1.flatMap (cntL h)
def cntO : Top -> List (Nat × Nat)
 | none => []
 | some ⟨h, t⟩ => cntL h t
theorem cntL_pages : ∀ (h : Nat) (t : Tree h), (cntL h t).map (·.1) = pagesT h t
 | 0, _ => rfl
 | h + 1, t => by
  show t.1 :: (t.2.1.flatMap (cntL h)).map (·.1) = t.1 :: t.2.1.flatMap (pagesT h)
  rw [List.map_flatMap]
  have : ∀ l : List (Tree h), (l.flatMap fun x => (cntL h x).map (·.1)) = l.flatMap (pagesT h) := fun l => by
   induction l with
   | nil => rfl
   | cons x l ih => rw [List.flatMap_cons, List.flatMap_cons, ih, cntL_pages h x]
  rw [this]
theorem cntL_sum : ∀ (h : Nat) (t : Tree h), ((cntL h t).map (·.2)).sum = (esT h t).length
 | 0, t => by
  show t.2.length + 0 = t.2.length
  omega
 | h + 1, t => by
  show 0 + ((t.2.1.flatMap (cntL h)).map (·.2)).sum = (t.2.1.flatMap (esT h)).length
  rw [List.length_flatMap, List.map_flatMap, Nat.zero_add]
  have : ∀ l : List (Tree h), (l.flatMap fun x => (cntL h x).map (·.2)).sum = (l.map fun x => (esT h x).length).sum := fun l => by
   induction l with
   | nil => rfl
   | cons x l ih => rw [List.flatMap_cons, List.sum_append, List.map_cons, List.sum_cons, ih, cntL_sum h x]
  exact this _
theorem cntL_sub {S : PS} : ∀ (h : Nat) {t : Tree h}, TreeIn S h t -> ∀ x ∈ cntL h t, ∃ (g : Nat) (u : Tree g), pgT g u = x.1 /\ TreeIn S g u /\ (ndT g u).vals.length = x.2
 | 0, t, ht, x, hx => by
  obtain rfl := List.mem_singleton.1 (show x ∈ [(t.1, t.2.length)] from hx)
  exact ⟨0, t, rfl, ht, by show (t.2.map (·.2)).length = _; rw [List.length_map]⟩
 | h + 1, t, ht, x, hx => by
  rcases List.mem_cons.1 (show x ∈ (t.1, 0) :: t.2.1.flatMap (cntL h) from hx) with rfl | hx
  ·exact ⟨h + 1, t, rfl, ht, rfl⟩
  ·obtain ⟨y, hy, hxy⟩ := List.mem_flatMap.1 hx
   obtain ⟨i, hi⟩ := List.mem_iff_getElem?.1 hy
   exact cntL_sub h (ht.kid hi) x hxy
theorem perm_lift : ∀ {l : List Int} {m : List (Nat × Nat)}, l.Perm (m.map fun x => Int.ofNat x.1) -> ∃ m' : List (Nat × Nat), m'.Perm m /\ (m'.map fun x => Int.ofNat x.1) = l
 | [], m, h => by
  have : m = [] := by
   have := h.length_eq
   rw [List.length_map] at this
   exact List.length_eq_zero_iff.1 this.symm
  exact ⟨[], by rw [this], rfl⟩
 | a :: l, m, h => by
  obtain ⟨x, hx, hxa⟩ := List.mem_map.1 (h.subset (List.mem_cons_self ..))
  have hp : m.Perm (x :: m.erase x) := List.perm_cons_erase hx
  have h2 : (a :: l).Perm (Int.ofNat x.1 :: (m.erase x).map fun x => Int.ofNat x.1) := h.trans (hp.map _)
  rw [hxa] at h2
  obtain ⟨m', h3, h4⟩ := perm_lift h2.cons_inv
  exact ⟨x :: m', (h3.cons x).trans hp.symm, by rw [List.map_cons, h4, hxa]⟩
theorem sum_lt {l : List (Nat × Nat)} {j : Nat} {x : Nat × Nat} (h : l[j]? = some x) : ((l.take (j + 1)).map (·.2)).sum = ((l.take j).map (·.2)).sum + x.2 := by
 rw [take_succ h, List.map_append, List.sum_append]
 simp
def sumN (m : List (Nat × Nat)) (j : Nat) : Nat := ((m.take j).map (·.2)).sum
def CountPost (Q : PQ) (R : Int -> Option Bts) (H : HS) (S : PS) (p tb : Nat) (root : Int) (o : Top) (w : World) (e : Ending) (w' : World) : Prop :=
 ∃ (H' : HS) (S' : PS) (p' : Nat), e = .returned (.tuple #[.int .i64 ((esO o).length : Int), .int .i64 0]) /\ PG Q R H' S' p' w' /\ SameP S S' /\ TB H' w' tb Q.pb root /\ TurnS H.all w H'.all w' /\ p' <= p + 8 * (pagesO o).length
structure CN (Q : PQ) (R : Int -> Option Bts) (H : HS) (S : PS) (tb : Nat) (root : Int) (sv : Value) (l : List Int) (w : World) (pm : Nat) (H' : HS) (S' : PS) (p' : Nat) (wr : World) : Prop where
 pg : PG Q R H' S' p' wr
 same : SameP S S'
 tbx : TB H' wr tb Q.pb root
 turn : TurnS H.all w H'.all wr
 row : ∃ cs, OwnS 1 RI 3 w.heap.size wr sv l.length l cs
 off : ∀ g, sv.ownBlock = some g -> ¬ H'.all g
 few : p' <= pm
set_option maxHeartbeats 8000000 in
set_option maxRecDepth 100000 in
theorem tree_count {Q : PQ} {R : Int -> Option Bts} {H : HS} {S : PS} {p tb : Nat} {root : Int} {o : Top} {w : World} (h : PG Q R H S p w) (ht : TB H w tb Q.pb root) (ho : TopIn S o root) (hh : heightO o <= 19) (hn : (pagesO o).length <= 900) (hp : p + 8 * (pagesO o).length <= 999990000) (hes : (esO o).length <= 1000000) :
  Calls Tryz.prog 17 #[.pointer (some ⟨tb, 0, none⟩)] w (CountPost Q R H S p tb root o w) := by
 have HP := HoldT.mk (tree_pages h ht ho hh hn (by omega))
 obtain ⟨m, hm⟩ : ∃ m, m = cntO o := ⟨_, rfl⟩
 have hmp : m.map (·.1) = pagesO o := by
  rw [hm]
  match o with
  | none => rfl
  | some ⟨g, t⟩ => exact cntL_pages g t
 have hms : (m.map (·.2)).sum = (esO o).length := by
  rw [hm]
  match o with
  | none => rfl
  | some ⟨g, t⟩ => exact cntL_sum g t
 have hsub : ∀ x ∈ m, ∃ (g : Nat) (u : Tree g), pgT g u = x.1 /\ TreeIn S g u /\ (ndT g u).vals.length = x.2 := by
  rw [hm]
  match o, ho with
  | none, _ => exact fun x hx => by cases hx
  | some ⟨g, t⟩, ho => exact cntL_sub g ho.2
 have HM := HoldT.mk (And.intro hmp (And.intro hms hsub))
 have HH := HoldT.mk (And.intro hn (And.intro hp hes))
 clear h ht ho hh hn hp hes hm hmp hms hsub
 go_enter Tryz.func17, Tryz.ntmps17
 go_wp2_with fail
 refine HP.out.mono ?_
 rintro e w2 ⟨sv, l, cs, H2, S2, p2, rfl, hpm, hor, hoff, hG2, hS2, hTB2, hT2, hp2⟩
 obtain ⟨m', hmm, hml⟩ := perm_lift (l := l) (m := m) (by rw [<- HM.out.1, List.map_map] at hpm; exact hpm)
 obtain ⟨sa, sc, rfl⟩ := hor.shape
 obtain ⟨n, hnn⟩ : ∃ n, n = l.length := ⟨_, rfl⟩
 rw [<- hnn] at hor hoff |-
 have hn9 : n <= 900 := by
  rw [hnn, hpm.length_eq, List.length_map]
  exact HH.out.1
 have HC0 := HoldT.mk (show CN Q R H S tb root (.slice sa n sc) l w (p + 4 * (pagesO o).length) H2 S2 p2 w2 from ⟨hG2, hS2, hTB2, hT2, ⟨cs, by rw [<- hnn]; exact hor⟩, hoff, hp2⟩)
 have HL := HoldT.mk (And.intro hnn (And.intro hmm hml))
 have hmn : m'.length = n := by rw [hnn, <- hml, List.length_map]
 have HMN := HoldT.mk hmn
 have hsm : (m'.map (·.2)).sum = (esO o).length := by rw [<- HM.out.2.1]; exact (hmm.map _).sum_nat
 have HSM := HoldT.mk hsm
 have hpl : n = (pagesO o).length := by rw [hnn, hpm.length_eq, List.length_map]
 have HPL := HoldT.mk hpl
 clear hpm hor hoff hG2 hS2 hTB2 hT2 hp2 hnn hmm hml hmn hsm hpl HP
 go_wp2_with fail
 go_loopw [6, 8, 9, 10, 18] (fun s6 s8 s9 s10 s18 wr => ∃ (j : Nat) (H' : HS) (S' : PS) (p' : Nat), s6 = .int .i64 (sumN m' j : Int) /\ s18 = .int .i64 (j : Int) /\ j <= n /\ HoldT (CN Q R H S tb root (.slice sa n sc) l w (p + 4 * (pagesO o).length + 4 * j) H' S' p' wr)) (fun _ _ _ _ s18 _ => n - (intOf s18).toNat)
 case atStart => exact ⟨0, H2, S2, p2, rfl, rfl, Nat.zero_le _, HC0⟩
 case round =>
  obtain ⟨j, H', S', p', rfl, rfl, hj, HJ⟩ := hrel
  by_cases hlt : j < n
  ·obtain ⟨x, hx⟩ : ∃ x, m'[j]? = some x := ⟨m'[j]'(by rw [HMN.out]; exact hlt), List.getElem?_eq_getElem _⟩
   have hlx : l[j]? = some (x.1 : Int) := by rw [<- HL.out.2.2, List.getElem?_map, hx]; rfl
   obtain ⟨g, u, hgu, hin0, hvl⟩ := HM.out.2.2 x (HL.out.2.1.mem_iff.1 (List.mem_of_getElem? hx))
   have hin1 := hin0.same HJ.out.same
   have hfr := hin1.fresh _ (pg_mem g u)
   have hfew := HJ.out.few
   have hpl := HPL.out
   have hpb := HH.out.2.1
   have HRD := HoldT.mk (tree_read (deep := 1) HJ.out.pg HJ.out.tbx (by omega) hfr (.inr rfl) (by omega) (shT hin1.wf fun q hq => low_page HJ.out.pg (hin1.fresh q hq)) (sz_tree hin1.wf) (sitsN hin1.wf hin1.sits))
   rw [hgu] at HRD
   obtain ⟨cs, hor⟩ := HJ.out.row
   obtain ⟨_, _, e9, _, _, hel⟩ := hor.at_ RI_mono
   simp only [Value.slice.injEq] at e9
   obtain ⟨b, off, d, ea, hdl, hc, hrd⟩ := hel j _ hlx
   obtain rfl : sa = some ⟨b, off, none⟩ := e9.1.trans ea
   have hrd' : d = [.int .i64 (x.1 : Int)] := hrd
   subst hrd'
   have c0 := hc 0 _ rfl
   unfold cf at c0
   rw [Nat.mul_one, Nat.add_zero] at c0
   have hsl : sumN m' (j + 1) = sumN m' j + x.2 := sum_lt hx
   have hle : sumN m' (j + 1) <= 1000000 := by
    unfold sumN
    have h1 := sum_take_drop (m'.map (·.2)) (j + 1)
    rw [<- List.map_take, HSM.out] at h1
    have := HH.out.2.2
    omega
   obtain ⟨su, hsu⟩ : ∃ su, su = sumN m' j := ⟨_, rfl⟩
   rw [<- hsu] at hsl |-
   have hsl9 : su + x.2 <= 1000000 := by omega
   obtain ⟨x1, hx1⟩ : ∃ x1, x1 = x.1 := ⟨_, rfl⟩
   obtain ⟨x2, hx2⟩ : ∃ x2, x2 = x.2 := ⟨_, rfl⟩
   rw [<- hx1] at c0 HRD
   rw [<- hx2] at hsl hsl9 hvl
   have HSL := HoldT.mk (And.intro hsl hvl)
   have b1 : decide ((j : Int) < (n : Int)) = true := decide_eq_true (by omega)
   have b2 : (j : Int) < (n : Int) := by omega
   clear hx hlx hgu hin0 hin1 hfr hfew hpl hpb hor e9 hel ea hdl hc hrd hsl hle hsu hx1 hx2 hvl
   go_wp2_with fail
   refine HRD.out.mono ?_
   rintro e w5 ⟨kv, vv, iv, H5, S5, p5, rfl, hN, hG5, hS5, hT5, hp5⟩
   obtain ⟨ka, kc, rfl⟩ := hN.own.nat.keys.form
   obtain ⟨va, vc, rfl⟩ := hN.own.nat.vals.form
   obtain ⟨ia, ic, rfl⟩ := hN.own.nat.kids.form
   obtain ⟨m1, hm1⟩ : ∃ m, m = (ndT g u).keys.length := ⟨_, rfl⟩
   obtain ⟨m3, hm3⟩ : ∃ m, m = ((ndT g u).kids.map Int.ofNat).length := ⟨_, rfl⟩
   obtain ⟨lf, hlf⟩ : ∃ l, l = (ndT g u).leaf := ⟨_, rfl⟩
   unfold nodeV
   rw [<- hm1, <- hm3, <- hlf, HSL.out.2]
   have hCN : CN Q R H S tb root (.slice (some ⟨b, off, none⟩) n sc) l w (p + 4 * (pagesO o).length + 4 * (j + 1)) H5 S5 p5 w5 := by
    obtain ⟨cs, hor⟩ := HJ.out.row
    have hk : ∀ q, (Value.slice (some ⟨b, off, none⟩) n sc).ownBlock = some q -> w5.heap[q]? = wr.heap[q]? /\ ¬ H5.all q := fun q hq => hT5.out q (hor.low q hq).2 (HJ.out.off q hq)
    exact ⟨hG5, HJ.out.same.trans hS5, HJ.out.tbx.turn hT5, HJ.out.turn.trans hT5, ⟨cs, own_stand (fun _ _ _ _ h => h) hor hT5.size fun q hq => (hk q hq).1⟩, fun q hq => (hk q hq).2, by have := HJ.out.few; omega⟩
   obtain ⟨r, hr⟩ : ∃ r, r = w5.heap.size := ⟨_, rfl⟩
   obtain ⟨w6, hw6⟩ : ∃ w6, w6 = w5.alloc (.cells #[.bool lf, .slice ka m1 kc, .slice va x2 vc, .slice ia m3 ic] 107) := ⟨_, rfl⟩
   have hb6 : Below w5.heap.size w5 w6 := by rw [hw6]; exact (Below.refl _ w5).alloc (Nat.le_refl _) _
   have hbr : w6.heap[r]? = some (.cells #[.bool lf, .slice ka m1 kc, .slice va x2 vc, .slice ia m3 ic] 107 (0, 0)) := by rw [hw6, hr]; exact heap_alloc_new w5 _
   have y2 : w6.cell? ⟨r, 2, none⟩ = some (.slice va x2 vc) := by simp [World.cell?, hbr]
   have HE := HoldT.mk (show CN Q R H S tb root (.slice (some ⟨b, off, none⟩) n sc) l w (p + 4 * (pagesO o).length + 4 * (j + 1)) H5 S5 p5 w6 by
    obtain ⟨cs, hor⟩ := hCN.row
    exact ⟨hCN.pg.below hb6, hCN.same, hCN.tbx.below hb6, hCN.turn.then hb6, ⟨cs, hor.quiet RI_mono hb6⟩, hCN.off, hCN.few⟩)
   have HW := HoldT.mk (And.intro hr hw6)
   clear hN hG5 hS5 hT5 hp5 hm1 hm3 hlf hCN hr hw6 hb6 hbr HRD c0
   go_upto_region 7 with (fail)
   rw [<- HW.out.1, <- HW.out.2]
   clear HW
   go_wp2_with fail
   exact ⟨⟨j + 1, H5, S5, p5, by rw [HSL.out.1]; go_num, by go_num, hlt, HE⟩, by simp [intOf]; omega⟩
  ·obtain rfl : j = n := by omega
   have b1 : ¬ (j : Int) < (j : Int) := by omega
   have hes : sumN m' j = (esO o).length := by unfold sumN; rw [List.take_of_length_le (by rw [HMN.out]; exact Nat.le_refl _)]; exact HSM.out
   rw [hes]
   have HE := HoldT.mk (show CountPost Q R H S p tb root o w (.returned (.tuple #[.int .i64 ((esO o).length : Int), .int .i64 0])) wr from ⟨H', S', p', rfl, HJ.out.pg, HJ.out.same, HJ.out.tbx, HJ.out.turn, by have := HJ.out.few; have := HPL.out; omega⟩)
   clear hes
   obtain ⟨en, hen⟩ : ∃ en, en = (esO o).length := ⟨_, rfl⟩
   rw [<- hen] at HE |-
   clear hen
   go_wp2_with fail
   refine bodyPost_ret (v := .tuple #[.int .i64 (en : Int), .int .i64 0]) (by simp [results, Tryz.results17, go_sem]) rfl ?_
   exact HE.out
end Go.Proofs.YtafilaiinbggoaaGreat
