import Derived.Test.YtafilaiinbggoaaGreatQS33
namespace Go.Proofs.YtafilaiinbggoaaGreat
open Go.RowKit Go.Maps
theorem tree_put {Q : PQ} {R : Int -> Option Bts} {tb : Nat} {root : Int} {k v : Bts} : ∀ (h : Nat) {H : HS} {S : PS} {p deep : Nat} {t : Tree h} {ks vs : Value} {w : World}, PutIn Q R H S p tb root deep h t k v ks vs w -> Calls Tryz.prog 31 #[.pointer (some ⟨tb, 0, none⟩), .int .i64 (pgT h t : Int), .int .i64 (deep : Int), ks, vs] w (TPutPost Q R H S p (20 * (h + 1)) h t k v w)
 | 0, _, _, _, _, _, _, _, _, hi => tree_put_leaf hi.pg hi.tb (by have := hi.few; omega) (by have := hi.deep; omega) hi.tree hi.key hi.val hi.yk hi.yv (by have := hi.free; omega)
 | h + 1, _, _, _, _, _, _, _, _, hi => tree_put_node (tree_put h) hi
end Go.Proofs.YtafilaiinbggoaaGreat
namespace Go.Proofs.YtafilaiinbggoaaGreat
open Go.RowKit Go.Maps
def Looked (Q : PQ) (R : Int -> Option Bts) (H : HS) (S : PS) (p c : Nat) (w w' : World) : Prop := ∃ H' S' p', PG Q R H' S' p' w' /\ SameP S S' /\ TurnS H.all w H'.all w' /\ p' <= p + c
theorem Looked.refl {Q : PQ} {R : Int -> Option Bts} {H : HS} {S : PS} {p c : Nat} {w : World} (h : PG Q R H S p w) : Looked Q R H S p c w w := ⟨H, S, p, h, SameP.refl S, TurnS.refl _ _, by omega⟩
theorem Looked.below {Q : PQ} {R : Int -> Option Bts} {H : HS} {S : PS} {p c : Nat} {w w' w2 : World} (h : Looked Q R H S p c w w') (hb : Below w'.heap.size w' w2) : Looked Q R H S p c w w2 := by
 obtain ⟨H', S', p', h1, h2, h3, h4⟩ := h
 exact ⟨H', S', p', h1.below hb, h2, h3.then hb, h4⟩
def RootIn (S : PS) (root : Int) (hh : Nat) : Prop := (root = -1 /\ hh = 0) \/ ∃ (g : Nat) (t : Tree g), root = (pgT g t : Int) /\ hh = g + 1 /\ TreeIn S g t
theorem low_page {Q : PQ} {R : Int -> Option Bts} {H : HS} {S : PS} {p : Nat} {w : World} (h : PG Q R H S p w) {n s : Nat} (hn : S.is[n]? = some s) : n <= 2147483647 := by
 have h1 := (List.getElem?_eq_some_iff.1 hn).1
 have h2 := h.len
 have h3 := h.small.1
 omega
set_option maxHeartbeats 8000000 in
set_option maxRecDepth 100000 in
theorem tree_height {Q : PQ} {R : Int -> Option Bts} {H : HS} {S : PS} {p tb hh : Nat} {root : Int} {w : World} (h : PG Q R H S p w) (ht : TB H w tb Q.pb root) (hr : RootIn S root hh) (hp : p <= 999999000) (hhh : hh <= 20) :
  Calls Tryz.prog 69 #[.pointer (some ⟨tb, 0, none⟩)] w fun e w' => e = .returned (.tuple #[.int .i64 (hh : Int), .int .i64 0]) /\ Looked Q R H S p (4 * hh) w w' := by
 obtain ⟨x0, x1⟩ := ht.cells
 have HH := HoldT.mk (And.intro h (And.intro ht (And.intro hr hp)))
 clear h ht hr hp
 go_enter Tryz.func69, Tryz.ntmps69
 go_wp2_with fail
 go_loopw [4, 5, 6, 7] (fun s4 s5 s6 s7 wr => ∃ (st : Nat) (n : Int), s4 = .int .i64 (st : Int) /\ s5 = .int .i64 n /\ st <= hh /\ HoldT (RootIn S n (hh - st) /\ Looked Q R H S p (4 * st) w wr)) (fun s4 _ _ _ _ => hh - (intOf s4).toNat)
 case atStart => exact ⟨0, root, rfl, rfl, Nat.zero_le _, ⟨HH.out.2.2.1, Looked.refl HH.out.1⟩⟩
 case round =>
  obtain ⟨st, n, rfl, rfl, hst, HJ⟩ := hrel
  rcases HJ.out.1 with ⟨rfl, he⟩ | ⟨g, t, rfl, he, hin⟩
  ·obtain rfl : st = hh := by omega
   go_wp2_with fail
   refine bodyPost_ret (v := .tuple #[.int .i64 (st : Int), .int .i64 0]) (by simp [results, Tryz.results69, go_sem]) rfl ?_
   exact ⟨rfl, HJ.out.2⟩
  ·obtain ⟨H1, S1, p1, hG1, hS1, hT1, hp1⟩ := HJ.out.2
   have hin1 := hin.same hS1
   have hfr := hin1.fresh _ (pg_mem g t)
   have HRD := HoldT.mk (tree_read (deep := st + 1) hG1 (HH.out.2.1.turn hT1) (by have := HH.out.2.2.2; omega) hfr (.inr rfl) (by omega) (shT hin1.wf fun q hq => low_page hG1 (hin1.fresh q hq)) (sz_tree hin1.wf) (sitsN hin1.wf hin1.sits))
   rw [show ((st + 1 : Nat) : Int) = (st : Int) + 1 by omega] at HRD
   obtain ⟨pn, hpn⟩ : ∃ pn, pn = pgT g t := ⟨_, rfl⟩
   rw [<- hpn] at HRD |-
   have HG1 := HoldT.mk (And.intro hG1 (And.intro hS1 (And.intro hT1 (And.intro hp1 (And.intro hin1 hpn)))))
   have hb1 : decide ((pn : Int) = -1) = false := decide_eq_false (by omega)
   have hst2 : st < hh := by omega
   clear hG1 hS1 hT1 hp1 hin1 hfr hin hpn
   go_wp2_with fail
   refine HRD.out.mono ?_
   rintro e w2 ⟨kv, vv, iv, H2, S2, p2, rfl, hN, hG2, hS2, hT2, hp2⟩
   obtain ⟨ka, kc, rfl⟩ := hN.own.nat.keys.form
   obtain ⟨va, vc, rfl⟩ := hN.own.nat.vals.form
   obtain ⟨ia, ic, rfl⟩ := hN.own.nat.kids.form
   have HLK : HoldT (Looked Q R H S p (4 * (st + 1)) w w2) := ⟨H2, S2, p2, hG2, HG1.out.2.1.trans hS2, HG1.out.2.2.1.trans hT2, by have := HG1.out.2.2.2.1; omega⟩
   have HN := HoldT.mk hN
   clear hG2 hS2 hT2 hp2
   obtain ⟨m1, hm1⟩ : ∃ m, m = (ndT g t).keys.length := ⟨_, rfl⟩
   obtain ⟨m2, hm2⟩ : ∃ m, m = (ndT g t).vals.length := ⟨_, rfl⟩
   obtain ⟨m3, hm3⟩ : ∃ m, m = ((ndT g t).kids.map Int.ofNat).length := ⟨_, rfl⟩
   unfold nodeV
   rw [<- hm1, <- hm2, <- hm3]
   have HM := HoldT.mk hm3
   have hHN := HN.out
   rw [<- hm1, <- hm2, <- hm3] at hHN
   have HN := HoldT.mk hHN
   clear hm1 hm2 hm3 hHN
   cases g with
   | zero =>
    rw [show (ndT 0 t).leaf = true from rfl]
    go_wp2_with fail
    exact ⟨⟨st + 1, -1, by go_num, rfl, by omega, ⟨.inl ⟨rfl, by omega⟩, HLK.out.below ((Below.refl _ w2).alloc (Nat.le_refl _) _)⟩⟩, by simp [intOf]; omega⟩
   | succ g =>
    rw [show (ndT (g + 1) t).leaf = false from rfl]
    obtain ⟨z, hz⟩ : ∃ z, t.2.1[0]? = some z := by
     have h1 : t.2.1.length = t.2.2.length + 1 := HG1.out.2.2.2.2.1.wf.2.1
     exact ⟨_, List.getElem?_eq_getElem (by omega)⟩
    have hk0 : (ndT (g + 1) t).kids[0]? = some (pgT g z) := by
     show (t.2.1.map (pgT g))[0]? = _
     rw [List.getElem?_map, hz]; rfl
    obtain ⟨jb, jo, rfl, hkc⟩ := sat_cell HN.out.own.nat.kids (mem_map_nat.2 hk0)
    have hm30 : (0 : Int) < (m3 : Int) := by
     have := HM.out
     rw [List.length_map] at this
     have h1 := (List.getElem?_eq_some_iff.1 hk0).1
     omega
    have hkc2 : w2.cell? ⟨jb, jo, none⟩ = some (.int .i64 (pgT g z : Int)) := hkc
    have hkc3 : (w2.alloc (.cells #[.bool false, .slice ka m1 kc, .slice va m2 vc, .slice (some ⟨jb, jo, none⟩) m3 ic] 107)).cell? ⟨jb, jo, none⟩ = some (.int .i64 (pgT g z : Int)) := Lib.cell?_alloc_some _ hkc2
    have HZ := HoldT.mk hz
    clear hkc hkc2 hk0 hz
    go_wp2_with fail
    exact ⟨⟨st + 1, (pgT g z : Int), by go_num, rfl, by omega, ⟨.inr ⟨g, z, rfl, by omega, (HG1.out.2.2.2.2.1.kid HZ.out).same ⟨HG1.out.2.1.1.symm, fun m => (HG1.out.2.1.2 m).symm⟩⟩, HLK.out.below ((Below.refl _ w2).alloc (Nat.le_refl _) _)⟩⟩, by simp [intOf]; omega⟩
set_option maxHeartbeats 4000000 in
theorem tree_need {Q : PQ} {R : Int -> Option Bts} {H : HS} {S : PS} {p tb hh : Nat} {root : Int} {w : World} (h : PG Q R H S p w) (ht : TB H w tb Q.pb root) (hr : RootIn S root hh) (hp : p <= 999999000) (hhh : hh <= 20) :
  Calls Tryz.prog 46 #[.pointer (some ⟨tb, 0, none⟩)] w fun e w' => e = .returned (.tuple #[.int .i64 (2 * (hh : Int) + 3), .int .i64 0]) /\ Looked Q R H S p (4 * hh) w w' := by
 have HHT := HoldT.mk (tree_height h ht hr hp hhh)
 clear h ht hr hp
 go_enter Tryz.func46, Tryz.ntmps46
 go_wp2_with fail
 refine HHT.out.mono ?_
 rintro e w1 ⟨rfl, hl⟩
 have HL := HoldT.mk hl
 clear hl
 go_wp2_with fail
 refine bodyPost_ret (v := .tuple #[.int .i64 (2 * (hh : Int) + 3), .int .i64 0]) (by simp [results, Tryz.results46, go_sem]) rfl ?_
 exact ⟨rfl, HL.out⟩
theorem pages_room' {w : World} {H : BS} {Q : PQ} {S : PS} (h : PP H Q S w) (hl : S.is.length <= 1000000) : Calls Tryz.prog 47 #[.pointer (some ⟨Q.pb, 0, none⟩)] w fun e w' => e = .returned (.int .i64 (freeP S : Int)) /\ w' = w := by
 obtain ⟨⟨_, _, _, _, _, h1, h2, _⟩, _⟩ := h
 exact pages_room h1 h2 hl
set_option maxHeartbeats 4000000 in
theorem tree_room {Q : PQ} {R : Int -> Option Bts} {H : HS} {S : PS} {p tb hh : Nat} {root : Int} {w : World} (h : PG Q R H S p w) (ht : TB H w tb Q.pb root) (hr : RootIn S root hh) (hp : p <= 999999000) (hhh : hh <= 20) (hf : 2 * hh + 3 <= freeP S) :
  Calls Tryz.prog 28 #[.pointer (some ⟨tb, 0, none⟩)] w fun e w' => e = .returned (.int .i64 0) /\ Looked Q R H S p (4 * hh) w w' := by
 have HND := HoldT.mk (tree_need h ht hr hp hhh)
 have HT := HoldT.mk (And.intro ht hf)
 clear h ht hr hp hf
 go_enter Tryz.func28, Tryz.ntmps28
 go_wp2_with fail
 refine HND.out.mono ?_
 rintro e w1 ⟨rfl, hl⟩
 obtain ⟨H1, S1, p1, hG1, hS1, hT1, hp1⟩ := id hl
 obtain ⟨x0, x1⟩ := (HT.out.1.turn hT1).cells
 have hfr : 2 * hh + 3 <= freeP S1 := by rw [free_same hS1]; exact HT.out.2
 have HRM := HoldT.mk (pages_room' hG1.own (by rw [hG1.len]; have := hG1.small.1; omega))
 obtain ⟨fr, hfe⟩ : ∃ f, f = freeP S1 := ⟨_, rfl⟩
 rw [<- hfe] at HRM hfr
 have bf : decide ((fr : Int) < 2 * (hh : Int) + 3) = false := decide_eq_false (by omega)
 have HL := HoldT.mk hl
 clear hl hG1 hS1 hT1 hp1 hfe hfr
 go_wp2_with fail
 refine HRM.out.mono ?_
 rintro e w2 ⟨rfl, hw⟩
 obtain rfl := hw.symm
 clear hw
 go_wp2_with fail
 go_ret
 exact ⟨rfl, HL.out⟩
end Go.Proofs.YtafilaiinbggoaaGreat
