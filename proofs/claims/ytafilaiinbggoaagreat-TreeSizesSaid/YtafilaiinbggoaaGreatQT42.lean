import Derived.Test.YtafilaiinbggoaaGreatQT40
namespace Go.Proofs.YtafilaiinbggoaaGreat
def PutLv (h : Nat) (t : Tree h) (r : PRes h) : Prop := match r.2 with
 | none => lvT h r.1 <= lvT h t + 1
 | some (_, y) => lvT h r.1 + lvT h y <= lvT h t + 1
theorem put_lv : ∀ (h : Nat) {t : Tree h} {k v : Bts} {r : PRes h}, PutR h t k v r -> PutLv h t r
 | 0, t, k, v, r, hr => by
  rcases hr with ⟨_, rfl⟩ | ⟨_, j, m, s, _, _, rfl⟩
  ·show (1 : Nat) <= 1 + 1
   omega
  ·show (1 : Nat) + 1 <= 1 + 1
   omega
 | h + 1, t, k, v, r, hr => by
  obtain ⟨x, c, hx, hc, hr⟩ := hr
  have ih := put_lv h hc
  have hil := (List.getElem?_eq_some_iff.1 hx).1
  have hall := split_list hx
  generalize kidB k t.2.2 = i at *
  have hphi : lvT (h + 1) t = ((t.2.1.take i).map (lvT h)).sum + (lvT h x + ((t.2.1.drop (i + 1)).map (lvT h)).sum) := by
   show (t.2.1.map (lvT h)).sum = _
   conv => lhs; rw [hall]
   rw [List.map_append, List.map_cons, List.sum_append, List.sum_cons]
  obtain ⟨c1, c2⟩ := c
  cases c2 with
  | none =>
   have i2 : lvT h c1 <= lvT h x + 1 := ih
   obtain rfl : r = ((t.1, t.2.1.set i c1, t.2.2), none) := hr
   show lvT (h + 1) (t.1, t.2.1.set i c1, t.2.2) <= _
   rw [hphi]
   show ((t.2.1.set i c1).map (lvT h)).sum <= _
   rw [set_list hil, List.map_append, List.map_cons, List.sum_append, List.sum_cons]
   omega
  | some sy =>
   obtain ⟨s, y⟩ := sy
   have i4 : lvT h c1 + lvT h y <= lvT h x + 1 := ih
   have hr' : layNode h t.1 (insAt (i + 1) y (t.2.1.set i c1)) (insAt i s t.2.2) r := hr
   rw [ins_list hil] at hr'
   have hsum : ((t.2.1.take i ++ c1 :: y :: t.2.1.drop (i + 1)).map (lvT h)).sum <= lvT (h + 1) t + 1 := by
    rw [hphi, List.map_append, List.map_cons, List.map_cons, List.sum_append, List.sum_cons, List.sum_cons]
    omega
   generalize t.2.1.take i ++ c1 :: y :: t.2.1.drop (i + 1) = ks at *
   generalize insAt i s t.2.2 = keys at *
   rcases hr' with ⟨_, rfl⟩ | ⟨_, j, m, q, _, _, rfl⟩
   ·exact hsum
   ·have h4 := sum_take_drop (ks.map (lvT h)) (j + 1)
    rw [<- List.map_take, <- List.map_drop] at h4
    show ((ks.take (j + 1)).map (lvT h)).sum + ((ks.drop (j + 1)).map (lvT h)).sum <= _
    omega
def okW (n : Nat) : Top -> Prop
 | none => True
 | some ⟨h, t⟩ => WFT h t /\ lvT h t <= n
theorem put_topW {n : Nat} {o o' : Top} {k v : Bts} (ho : okW n o) (hk : keyOk k) (hv : v.length <= 260) (hr : PutTop o k v o') : okW (n + 1) o' /\ esO o' = putE k v (esO o) := by
 cases o with
 | none =>
  obtain ⟨m, rfl⟩ := hr
  refine ⟨⟨⟨by simp, List.pairwise_singleton _ _, fun e he => ?_, ?_⟩, ?_⟩, rfl⟩
  ·obtain rfl := List.mem_singleton.1 he
   exact ⟨hk, hv⟩
  ·show 3 + ([(k, v)].map szE).sum <= 1024
   have := szE_le (e := (k, v)) ⟨hk, hv⟩
   simp only [List.map_cons, List.map_nil, List.sum_cons, List.sum_nil]
   omega
  ·show 1 <= n + 1
   omega
 | some ht =>
  obtain ⟨h, t⟩ := ht
  obtain ⟨w, hp⟩ := ho
  obtain ⟨r, hr, ho'⟩ := hr
  have h1 := put_ok h w hk hv hr
  have h2 := put_lv h hr
  obtain ⟨a, b⟩ := r
  cases b with
  | none =>
   obtain rfl : o' = some ⟨h, a⟩ := ho'
   obtain ⟨w1, e1⟩ : WFT h a /\ esT h a = putE k v (esT h t) := h1
   have p1 : lvT h a <= lvT h t + 1 := h2
   exact ⟨⟨w1, by omega⟩, e1⟩
  | some sy =>
   obtain ⟨s, y⟩ := sy
   obtain ⟨m, rfl⟩ : ∃ m, o' = some ⟨h + 1, mkT h m [a, y] [s]⟩ := ho'
   obtain ⟨wa, wy, hso, hes, ha, hy⟩ : WFT h a /\ WFT h y /\ keyOk s /\ esT h a ++ esT h y = putE k v (esT h t) /\ (∀ e ∈ esT h a, ltB e.1 s = true) /\ ∀ e ∈ esT h y, ltB e.1 s = false := h1
   have hph : lvT h a + lvT h y <= lvT h t + 1 := h2
   have hes2 : esT (h + 1) (mkT h m [a, y] [s]) = putE k v (esT h t) := by
    show [a, y].flatMap (esT h) = _
    rw [List.flatMap_cons, List.flatMap_cons, List.flatMap_nil, List.append_nil]
    exact hes
   refine ⟨⟨⟨by simp [mkT], rfl, List.pairwise_singleton _ _, fun p hp => ?_, ?_, fun z hz => ?_, fun i z hz e he => ?_⟩, ?_⟩, hes2⟩
   ·obtain rfl := List.mem_singleton.1 hp
    exact hso
   ·show 7 + ([s].map szK).sum <= 1024
    have := szK_le hso
    simp only [List.map_cons, List.map_nil, List.sum_cons, List.sum_nil]
    omega
   ·rcases List.mem_cons.1 hz with rfl | hz
    ·exact wa
    ·obtain rfl := List.mem_singleton.1 hz
     exact wy
   ·have hz' : [a, y][i]? = some z := hz
    rcases i with _ | _ | i
    ·obtain rfl := Option.some.inj hz'
     refine ⟨fun j p hj _ => by omega, fun p hp => ?_⟩
     obtain rfl := Option.some.inj hp
     exact ha e he
    ·obtain rfl := Option.some.inj hz'
     refine ⟨fun j p hj hp => ?_, fun p hp => ?_⟩
     ·obtain rfl : j = 0 := by omega
      obtain rfl := Option.some.inj hp
      exact hy e he
     ·simp [mkT] at hp
    ·simp at hz'
   ·show ([a, y].map (lvT h)).sum <= n + 1
    simp only [List.map_cons, List.map_nil, List.sum_cons, List.sum_nil]
    omega
theorem okW_few {n : Nat} {o : Top} (h : okW n o) (hn : n <= 63) : heightO o <= 6 /\ (pagesO o).length <= 2 * n := by
 match o, h with
 | none, _ => exact ⟨Nat.zero_le _, Nat.zero_le _⟩
 | some ⟨g, t⟩, h =>
  have h2 := lv_pow g h.1
  have h3 := pages_lv g h.1
  have h4 := h.2
  refine ⟨Nat.succ_le_of_lt (Nat.lt_of_not_le fun h5 => ?_), by show (pagesT g t).length <= _; omega⟩
  have h6 : 2 ^ 6 <= 2 ^ g := Nat.pow_le_pow_right (by omega) h5
  omega
end Go.Proofs.YtafilaiinbggoaaGreat
namespace Go.Proofs.YtafilaiinbggoaaGreat
open Go.RowKit Go.Maps
set_option maxHeartbeats 4000000 in
set_option maxRecDepth 100000 in
theorem tree_put_bad {tb xl xc vl vc : Nat} {xa va : Option Addr} {w : World} (h : xl < 1 \/ 240 < xl \/ 260 < vl) :
  Calls Tryz.prog 14 #[.pointer (some ⟨tb, 0, none⟩), .slice xa xl xc, .slice va vl vc] w fun e w' => e = .returned (.int .i64 1) /\ w' = w := by
 by_cases h1 : xl < 1
 ·have b1 : decide ((xl : Int) < 1) = true := decide_eq_true (by omega)
  have b2 : decide (xl < 1) = true := decide_eq_true (by omega)
  clear h h1
  go_enter Tryz.func14, Tryz.ntmps14
  go_wp2_with fail
  go_ret
  exact ⟨rfl, rfl⟩
 ·have b1 : decide ((xl : Int) < 1) = false := decide_eq_false (by omega)
  have b2 : decide (xl < 1) = false := decide_eq_false (by omega)
  by_cases h2 : 240 < xl
  ·have b3 : decide (240 < (xl : Int)) = true := decide_eq_true (by omega)
   have b4 : decide (240 < xl) = true := decide_eq_true (by omega)
   clear h h1 h2
   go_enter Tryz.func14, Tryz.ntmps14
   go_wp2_with fail
   go_ret
   exact ⟨rfl, rfl⟩
  ·have h3 : 260 < vl := by omega
   have b3 : decide (240 < (xl : Int)) = false := decide_eq_false (by omega)
   have b4 : decide (240 < xl) = false := decide_eq_false (by omega)
   have b5 : decide (260 < (vl : Int)) = true := decide_eq_true (by omega)
   have b6 : decide (260 < vl) = true := decide_eq_true (by omega)
   clear h h1 h2 h3
   go_enter Tryz.func14, Tryz.ntmps14
   go_wp2_with fail
   go_ret
   exact ⟨rfl, rfl⟩
def seenF (L : List Nat) : Int -> Option Value := fun k => if 0 <= k /\ k.toNat ∈ L then some (.bool true) else none
theorem seenF_put (L : List Nat) (n : Nat) : (fun j => if j = (n : Int) then some (.bool true) else seenF L j) = seenF (L ++ [n]) := by
 funext j
 unfold seenF
 by_cases e : j = (n : Int)
 ·rw [if_pos e, if_pos ⟨by omega, List.mem_append_right _ (by rw [e]; exact List.mem_singleton.2 rfl)⟩]
 ·rw [if_neg e]
  by_cases h : 0 <= j /\ j.toNat ∈ L
  ·rw [if_pos h, if_pos ⟨h.1, List.mem_append_left _ h.2⟩]
  ·rw [if_neg h, if_neg]
   rintro ⟨h0, h1⟩
   rcases List.mem_append.1 h1 with h1 | h1
   ·exact h ⟨h0, h1⟩
   ·have := List.mem_singleton.1 h1
    omega
theorem seenF_some {L : List Nat} {k : Int} (h : (seenF L k).isSome = true) : k ∈ L.map Int.ofNat := by
 unfold seenF at h
 split at h
 ·rename_i e
  exact List.mem_map.2 ⟨k.toNat, e.2, by rw [Int.ofNat_eq_natCast]; omega⟩
 ·cases h
theorem seenF_iff {L : List Nat} {k : Int} : k ∈ L.map Int.ofNat ↔ (seenF L k).isSome = true := by
 refine ⟨fun h => ?_, seenF_some⟩
 obtain ⟨n, hn, rfl⟩ := List.mem_map.1 h
 unfold seenF
 rw [if_pos ⟨by rw [Int.ofNat_eq_natCast]; omega, hn⟩]
 rfl
theorem seenF_not {L : List Nat} {n : Nat} (h : n ∉ L) : seenF L (n : Int) = none := by
 unfold seenF
 rw [if_neg]
 rintro ⟨_, h2⟩
 exact h h2
theorem NT.turnM {H H' : HS} {B sb : Nat} {f : Int -> Option Value} {w w' : World} {n : ND} {kv vv iv : Value} (h : NT H B w n kv vv iv) (hm : MapI sb f w) (ht : TurnS (fun b => H.all b \/ b = sb) w (fun b => H'.all b \/ b = sb) w') (hu : ∀ b, H.all b -> ¬ IsU w b) : NT H' B w' n kv vv iv := by
 have hx : ∀ g, kv.ownBlock = some g \/ vv.ownBlock = some g \/ iv.ownBlock = some g -> ¬ (H.all g \/ g = sb) := fun g hg e => by
  rcases e with e | e
  ·exact h.off g hg e
  ·obtain ⟨cur, T2, e4, _⟩ := h.own.kind hg
   rw [e] at e4
   exact map_not hm e4
 have hn : ∀ b, H.all b \/ b = sb -> ¬ IsU w b := fun b hb => hb.elim (hu b) (fun e ⟨_, _, e2⟩ => by rw [e] at e2; exact map_not hm e2)
 exact ⟨h.own.stand ht.size (fun g hg => (ht.out g (h.own.low hg).2.1 (hx g hg)).1) (cfU_turn ht hn), fun g hg e => (ht.out g (h.own.low hg).2.1 (hx g hg)).2 (.inl e)⟩
def CollPost (Q : PQ) (R : Int -> Option Bts) (H : HS) (S : PS) (p sb : Nat) (L ps : List Nat) (w : World) (e : Ending) (w' : World) : Prop :=
 ∃ H' S' p', e = .returned (.int .i64 0) /\ PG Q R H' S' p' w' /\ SameP S S' /\ MapI sb (seenF (L ++ ps)) w' /\ ¬ H'.all sb /\ TurnS (fun b => H.all b \/ b = sb) w (fun b => H'.all b \/ b = sb) w' /\ p' <= p + 4 * ps.length
def CollC (Q : PQ) (R : Int -> Option Bts) (tb sb : Nat) (S0 : PS) (deep n : Nat) (ps : List Nat) : Prop :=
 ∀ (H : HS) (S : PS) (p : Nat) (root : Int) (L : List Nat) (w : World), PG Q R H S p w -> TB H w tb Q.pb root -> SameP S0 S -> ¬ H.all sb -> MapI sb (seenF L) w -> (∀ q ∈ ps, q ∉ L) -> L.length + ps.length <= 1000 -> p + 4 * ps.length <= 999990000 -> Calls Tryz.prog 63 #[.pointer (some ⟨tb, 0, none⟩), .int .i64 (n : Int), .int .i64 (deep : Int), .map (some sb)] w (CollPost Q R H S p sb L ps w)
def kidP : (h : Nat) -> Tree h -> List (Nat × List Nat)
 | 0, _ => []
 | h + 1, t => t.2.1.map fun x => (pgT h x, pagesT h x)
theorem kidP_pages : ∀ (h : Nat) (t : Tree h), pagesT h t = pgT h t :: (kidP h t).flatMap (·.2)
 | 0, _ => rfl
 | h + 1, t => by
  show t.1 :: t.2.1.flatMap (pagesT h) = t.1 :: (t.2.1.map fun x => (pgT h x, pagesT h x)).flatMap (·.2)
  rw [List.flatMap_map]
theorem kidP_kids : ∀ (h : Nat) (t : Tree h), (ndT h t).kids = (kidP h t).map (·.1)
 | 0, _ => rfl
 | h + 1, t => by
  show t.2.1.map (pgT h) = (t.2.1.map fun x => (pgT h x, pagesT h x)).map (·.1)
  rw [List.map_map]
  rfl
end Go.Proofs.YtafilaiinbggoaaGreat
namespace Go.Proofs.YtafilaiinbggoaaGreat
open Go.RowKit Go.Maps
structure CS (Q : PQ) (R : Int -> Option Bts) (H0 : HS) (S0 : PS) (tb sb B : Nat) (root : Int) (nd : ND) (kv vv iv : Value) (L : List Nat) (w0 : World) (pm : Nat) (H : HS) (S : PS) (p : Nat) (w : World) : Prop where
 pg : PG Q R H S p w
 same : SameP S0 S
 tbx : TB H w tb Q.pb root
 sbH : ¬ H.all sb
 map : MapI sb (seenF L) w
 turn : TurnS (fun b => H0.all b \/ b = sb) w0 (fun b => H.all b \/ b = sb) w
 nt : NT H B w nd kv vv iv
 few : p <= pm
theorem TB.turnM {H H' : HS} {tb pb sb : Nat} {root : Int} {f : Int -> Option Value} {w w' : World} (h : TB H w tb pb root) (hm : MapI sb f w) (ht : TurnS (fun b => H.all b \/ b = sb) w (fun b => H'.all b \/ b = sb) w') : TB H' w' tb pb root := by
 have hx : ¬ (H.all tb \/ tb = sb) := fun e => by
  rcases e with e | e
  ·exact h.off e
  ·have := h.box
   rw [e] at this
   exact map_not hm this
 obtain ⟨h1, h2⟩ := ht.kept h.box hx
 exact ⟨h1, fun e => h2 (.inl e)⟩
theorem CS.next {Q : PQ} {R : Int -> Option Bts} {H0 H : HS} {S0 S : PS} {tb sb B : Nat} {root : Int} {nd : ND} {kv vv iv : Value} {L ps : List Nat} {w0 w w' : World} {pm p : Nat} {e : Ending} (h : CS Q R H0 S0 tb sb B root nd kv vv iv L w0 pm H S p w) (hp : CollPost Q R H S p sb L ps w e w') : e = .returned (.int .i64 0) /\ ∃ H' S' p', CS Q R H0 S0 tb sb B root nd kv vv iv (L ++ ps) w0 (pm + 4 * ps.length) H' S' p' w' := by
 obtain ⟨H', S', p', rfl, hG, hS, hM, hs, hT, hq⟩ := hp
 have := h.few
 exact ⟨rfl, H', S', p', hG, h.same.trans hS, h.tbx.turnM h.map hT, hs, hM, h.turn.trans hT, h.nt.turnM h.map hT h.pg.noU, by omega⟩
theorem flat_len : ∀ {l : List (Nat × List Nat)}, (∀ x ∈ l, 1 <= x.2.length) -> l.length <= (l.flatMap (·.2)).length
 | [], _ => Nat.le_refl _
 | x :: l, h => by
  have h1 := h x (List.mem_cons_self ..)
  have h2 := flat_len fun y hy => h y (List.mem_cons_of_mem _ hy)
  rw [List.flatMap_cons, List.length_append, List.length_cons]
  omega
theorem kidP_one : ∀ (h : Nat) (t : Tree h), ∀ x ∈ kidP h t, 1 <= x.2.length
 | 0, _, x, hx => by cases hx
 | h + 1, t, x, hx => by
  obtain ⟨y, _, rfl⟩ := List.mem_map.1 (show x ∈ t.2.1.map fun x => (pgT h x, pagesT h x) from hx)
  exact List.length_pos_of_mem (pg_mem h y)
theorem zeroB (w : World) : (zeroValue 4).run Tryz.prog w = .ok (.bool false) w := by kernel_rfl
set_option maxHeartbeats 8000000 in
set_option maxRecDepth 100000 in
theorem coll_step {Q : PQ} {R : Int -> Option Bts} {tb sb : Nat} {S0 : PS} {deep h : Nat} {t : Tree h} (hin : TreeIn S0 h t) (hd : deep + h <= 20) (hd1 : 1 <= deep) (IH : ∀ x ∈ kidP h t, CollC Q R tb sb S0 (deep + 1) x.1 x.2) : CollC Q R tb sb S0 deep (pgT h t) (pagesT h t) := by
 intro H S p root L w hG hTB hS hsb hM hL hLn hp
 have hin1 := hin.same hS
 have hfr := hin1.fresh _ (pg_mem h t)
 have hlow := low_page hG hfr
 have HRD := HoldT.mk (tree_read (deep := deep) hG hTB (by omega) hfr (.inr rfl) (by omega) (shT hin1.wf fun q hq => low_page hG (hin1.fresh q hq)) (sz_tree hin1.wf) (sitsN hin1.wf hin1.sits))
 obtain ⟨pn, hpn⟩ : ∃ pn, pn = pgT h t := ⟨_, rfl⟩
 obtain ⟨ps, hps⟩ : ∃ ps, ps = pagesT h t := ⟨_, rfl⟩
 obtain ⟨kp, hkp⟩ : ∃ kp, kp = kidP h t := ⟨_, rfl⟩
 have hpk : ps = pn :: kp.flatMap (·.2) := by rw [hps, hpn, hkp]; exact kidP_pages h t
 have hkk : (ndT h t).kids = kp.map (·.1) := by rw [hkp]; exact kidP_kids h t
 have hnd : ps.Nodup := by rw [hps]; exact hin1.nd
 rw [<- hpn] at HRD hlow |-
 rw [<- hps] at hL hLn hp |-
 rw [<- hkp] at IH
 have hkl := flat_len (kidP_one h t)
 rw [<- hkp] at hkl
 have hkl2 : kp.length <= 1000 := by have h1 := congrArg List.length hpk; rw [List.length_cons] at h1; omega
 have hnL : pn ∉ L := hL pn (by rw [hpk]; exact List.mem_cons_self ..)
 have HH := HoldT.mk (And.intro hG (And.intro hTB (And.intro hsb (And.intro hM (And.intro hL (And.intro hLn (And.intro hp (And.intro hnL (And.intro hnd hpk)))))))))
 have HIH := HoldT.mk (And.intro IH (And.intro hS hkk))
 have e1 : ((pn : Int) == -1) = false := by rw [beq_eq_false_iff_ne]; omega
 have e2 : decide ((pn : Int) = -1) = false := decide_eq_false (by omega)
 have hd2 : deep <= 20 := by omega
 clear hG hTB hS hsb hM hL hLn hp hkl hnL hnd hpk IH hkk hin hin1 hfr hpn hps hkp hd
 go_enter Tryz.func63, Tryz.ntmps63
 go_wp2_with fail
 refine HRD.out.mono ?_
 rintro e w2 ⟨kv, vv, iv, H2, S2, p2, rfl, hN, hG2, hS2, hT2, hp2⟩
 obtain ⟨ka, kc, rfl⟩ := hN.own.nat.keys.form
 obtain ⟨va, vc, rfl⟩ := hN.own.nat.vals.form
 obtain ⟨ia, ic, rfl⟩ := hN.own.nat.kids.form
 obtain ⟨m1, hm1⟩ : ∃ m, m = (ndT h t).keys.length := ⟨_, rfl⟩
 obtain ⟨m2, hm2⟩ : ∃ m, m = (ndT h t).vals.length := ⟨_, rfl⟩
 obtain ⟨m3, hm3⟩ : ∃ m, m = ((ndT h t).kids.map Int.ofNat).length := ⟨_, rfl⟩
 obtain ⟨lf, hlf⟩ : ∃ l, l = (ndT h t).leaf := ⟨_, rfl⟩
 unfold nodeV
 rw [<- hm1, <- hm2, <- hm3] at hN
 rw [<- hm1, <- hm2, <- hm3, <- hlf]
 have hmw : MapI sb (seenF L) w2 := HH.out.2.2.2.1.same (hT2.out sb HH.out.2.2.2.1.lt HH.out.2.2.1).1
 obtain ⟨r, hr⟩ : ∃ r, r = w2.heap.size := ⟨_, rfl⟩
 obtain ⟨w3, hw3⟩ : ∃ w3, w3 = w2.alloc (.cells #[.bool lf, .slice ka m1 kc, .slice va m2 vc, .slice ia m3 ic] 107) := ⟨_, rfl⟩
 have hb3 : Below w2.heap.size w2 w3 := by rw [hw3]; exact (Below.refl _ w2).alloc (Nat.le_refl _) _
 have hbr : w3.heap[r]? = some (.cells #[.bool lf, .slice ka m1 kc, .slice va m2 vc, .slice ia m3 ic] 107 (0, 0)) := by rw [hw3, hr]; exact heap_alloc_new w2 _
 have hm3w : MapI sb (seenF L) w3 := hmw.same (hb3.block sb hmw.lt)
 have hwf : WfI (pn : Int) := WfI_small (by omega) (by omega)
 have hlk := hm3w.look Tryz.underlying144 (zeroB w3) hwf
 rw [seenF_not HH.out.2.2.2.2.2.2.2.1] at hlk
 have hlk2 : (Instr.lookup 144 (.map (some sb)) (.int .i64 (pn : Int)) false).run Tryz.prog w3 = .ok (.bool false) w3 := hlk
 obtain ⟨w4, hup, hm4, htn⟩ := hm3w.put Tryz.underlying144 hwf (.bool true) (l := L.map Int.ofNat) (fun k hk => seenF_some hk) (by rw [List.length_map]; have := HH.out.2.2.2.2.2.1; omega)
 rw [seenF_put] at hm4
 have hg4 := World.mapTurned.grown htn
 have hrs : r ≠ sb := fun e => by rw [e] at hbr; exact map_not hm3w hbr
 have hbr4 : w4.heap[r]? = some (.cells #[.bool lf, .slice ka m1 kc, .slice va m2 vc, .slice ia m3 ic] 107 (0, 0)) := (hg4.block r (heap_lt hbr) (fun e => hrs (Option.some.inj e))).trans hbr
 have hnsU : ∀ b, some sb = some b -> ¬ IsU w3 b := fun b e => by
  cases e
  exact fun ⟨_, _, e2⟩ => map_not hm3w e2
 have hG4 : PG Q R H2 S2 p2 w4 := (hG2.below hb3).beside hg4 fun b e => by
  cases e
  exact ⟨fun e2 => (hT2.out sb HH.out.2.2.2.1.lt HH.out.2.2.1).2 e2, hnsU sb rfl⟩
 have hT24 : TurnS (fun b => H2.all b \/ b = sb) w2 (fun b => H2.all b \/ b = sb) w4 := (TurnS.quiet hb3).trans (TurnS.grown hg4 fun b e => .inl (.inr (Option.some.inj e).symm))
 have hTw : TurnS (fun b => H.all b \/ b = sb) w (fun b => H2.all b \/ b = sb) w4 := hT2.wide.trans hT24
 have hCS : CS Q R H S tb sb w.heap.size root (ndT h t) (.slice ka m1 kc) (.slice va m2 vc) (.slice ia m3 ic) (L ++ [pn]) w (p + 4) H2 S2 p2 w4 :=
  ⟨hG4, hS2, (HH.out.2.1.turn hT2).turnM hmw hT24, fun e2 => (hT2.out sb HH.out.2.2.2.1.lt HH.out.2.2.1).2 e2, hm4, hTw, hN.turnM hmw hT24 hG2.noU, hp2⟩
 have x3 : w4.cell? ⟨r, 3, none⟩ = some (.slice ia m3 ic) := by simp [World.cell?, hbr4]
 have hm39 : m3 <= 1000 := by rw [hm3, List.length_map, HIH.out.2.2, List.length_map]; exact hkl2
 have HC := HoldT.mk (And.intro hCS hm3)
 clear hkl2
 have HW := HoldT.mk (And.intro hr hw3)
 clear hN hG2 hS2 hT2 hp2 hmw hr hw3 hb3 hbr hm3w hlk hm4 htn hg4 hrs hbr4 hnsU hG4 hT24 hTw hCS hm1 hm2 hm3 hlf
 go_upto_region 4 with (fail)
 rw [<- HW.out.1, <- HW.out.2]
 clear HW
 go_upto_region 9 with (fail)
 clear hlk2 hup
 go_wp2_with fail
 clear x3
 go_loopw [12, 13, 34] (fun s12 s13 s34 wr => ∃ (j : Nat) (H' : HS) (S' : PS) (p' : Nat), s34 = .int .i64 (j : Int) /\ j <= m3 /\ HoldT (CS Q R H S tb sb w.heap.size root (ndT h t) (.slice ka m1 kc) (.slice va m2 vc) (.slice ia m3 ic) (L ++ [pn] ++ (kp.take j).flatMap (·.2)) w (p + 4 + 4 * ((kp.take j).flatMap (·.2)).length) H' S' p' wr)) (fun _ _ s34 _ => m3 - (intOf s34).toNat)
 case atStart => exact ⟨0, H2, S2, p2, rfl, Nat.zero_le _, ⟨by simpa using HC.out.1⟩⟩
 case round =>
  obtain ⟨j, H', S', p', rfl, hj, HJ⟩ := hrel
  by_cases hlt : j < m3
  ·obtain ⟨x, hx⟩ : ∃ x, kp[j]? = some x := ⟨kp[j]'(by have := HC.out.2; rw [List.length_map, HIH.out.2.2, List.length_map] at this; omega), List.getElem?_eq_getElem _⟩
   have hkx : ((ndT h t).kids.map Int.ofNat)[j]? = some (x.1 : Int) := by rw [HIH.out.2.2, List.getElem?_map, List.getElem?_map, hx]; rfl
   obtain ⟨_, _, e9, _, _, hel⟩ := HJ.out.nt.own.nat.kids
   simp only [Value.slice.injEq] at e9
   obtain ⟨b, off, d, ea, hdl, hc, hrd⟩ := hel j _ hkx
   obtain rfl : ia = some ⟨b, off, none⟩ := e9.1.trans ea
   have hrd' : d = [.int .i64 (x.1 : Int)] := hrd
   subst hrd'
   have c0 := hc 0 _ rfl
   unfold cf at c0
   rw [Nat.mul_one, Nat.add_zero] at c0
   have hfl : (kp.take (j + 1)).flatMap (·.2) = (kp.take j).flatMap (·.2) ++ x.2 := by
    rw [take_succ hx, List.flatMap_append]
    simp
   have hall : kp.flatMap (·.2) = (kp.take j).flatMap (·.2) ++ (x.2 ++ (kp.drop (j + 1)).flatMap (·.2)) := flat_at hx (·.2)
   have hlen : ps.length = 1 + ((kp.take j).flatMap (·.2)).length + x.2.length + ((kp.drop (j + 1)).flatMap (·.2)).length := by
    rw [HH.out.2.2.2.2.2.2.2.2.2, hall]
    simp only [List.length_cons, List.length_append]
    omega
   have hn1 : L.length + ps.length <= 1000 := HH.out.2.2.2.2.2.1
   have hn2 : p + 4 * ps.length <= 999990000 := HH.out.2.2.2.2.2.2.1
   have hfew := HJ.out.few
   have hnd := HH.out.2.2.2.2.2.2.2.2.1
   rw [HH.out.2.2.2.2.2.2.2.2.2, hall] at hnd
   obtain ⟨n1, n2⟩ := List.nodup_cons.1 hnd
   obtain ⟨_, n3, n4⟩ := List.nodup_append.1 n2
   have hdis : ∀ y ∈ x.2, y ∉ L ++ [pn] ++ (kp.take j).flatMap (·.2) := fun y hy e => by
    have hyp : y ∈ ps := by
     rw [HH.out.2.2.2.2.2.2.2.2.2, hall]
     exact List.mem_cons_of_mem _ (List.mem_append_right _ (List.mem_append_left _ hy))
    rcases List.mem_append.1 e with e | e
    ·rcases List.mem_append.1 e with e | e
     ·exact HH.out.2.2.2.2.1 y hyp e
     ·rw [List.mem_singleton.1 e] at hy
      exact n1 (List.mem_append_right _ (List.mem_append_left _ hy))
    ·exact n4 y e y (List.mem_append_left _ hy) rfl
   have HCA := HoldT.mk (HIH.out.1 x (List.mem_of_getElem? hx) H' S' p' root (L ++ [pn] ++ (kp.take j).flatMap (·.2)) wr HJ.out.pg HJ.out.tbx (HIH.out.2.1.trans HJ.out.same) HJ.out.sbH HJ.out.map hdis (by simp only [List.length_append, List.length_singleton]; omega) (by omega))
   rw [show ((deep + 1 : Nat) : Int) = (deep : Int) + 1 by omega] at HCA
   have HFL := HoldT.mk hfl
   obtain ⟨kn, hkn⟩ : ∃ kn, kn = x.1 := ⟨_, rfl⟩
   rw [<- hkn] at c0 HCA
   have b1 : decide ((j : Int) < (m3 : Int)) = true := decide_eq_true (by omega)
   have b2 : (j : Int) < (m3 : Int) := by omega
   clear hx hkx e9 hel ea hdl hc hrd hfl hall hlen hn1 hn2 hfew hnd n1 n2 n3 n4 hdis hkn
   go_wp2_with fail
   refine HCA.out.mono ?_
   intro e w6 hpost
   obtain ⟨rfl, H6, S6, p6, hcs⟩ := HJ.out.next hpost
   have HE := HoldT.mk (show CS Q R H S tb sb w.heap.size root (ndT h t) (.slice ka m1 kc) (.slice va m2 vc) (.slice (some ⟨b, off, none⟩) m3 ic) (L ++ [pn] ++ (kp.take (j + 1)).flatMap (·.2)) w (p + 4 + 4 * ((kp.take (j + 1)).flatMap (·.2)).length) H6 S6 p6 w6 by
    rw [HFL.out, <- List.append_assoc, List.length_append, Nat.mul_add, <- Nat.add_assoc]
    exact hcs)
   clear hpost hcs HCA c0
   go_wp2_with fail
   exact ⟨⟨j + 1, H6, S6, p6, by go_num, hlt, HE⟩, by simp [intOf]; omega⟩
  ·obtain rfl : j = m3 := by omega
   have b1 : ¬ (j : Int) < (j : Int) := by omega
   have HE := HoldT.mk (show CollPost Q R H S p sb L ps w (.returned (.int .i64 0)) wr by
    have hc := HJ.out
    have hl := HC.out.2
    rw [List.length_map, HIH.out.2.2, List.length_map] at hl
    rw [List.take_of_length_le (by omega)] at hc
    refine ⟨H', S', p', rfl, hc.pg, hc.same, ?_, hc.sbH, hc.turn, ?_⟩
    ·rw [HH.out.2.2.2.2.2.2.2.2.2, List.append_cons]
     exact hc.map
    ·have := hc.few
     rw [HH.out.2.2.2.2.2.2.2.2.2, List.length_cons]
     omega)
   go_wp2_with fail
   go_ret
   exact HE.out
theorem tree_collect {Q : PQ} {R : Int -> Option Bts} {tb sb : Nat} {S0 : PS} : ∀ (h : Nat) {t : Tree h} {deep : Nat}, TreeIn S0 h t -> deep + h <= 20 -> 1 <= deep -> CollC Q R tb sb S0 deep (pgT h t) (pagesT h t)
 | 0, t, deep, hin, hd, h1 => coll_step hin hd h1 fun x hx => by cases hx
 | h + 1, t, deep, hin, hd, h1 => coll_step hin hd h1 fun x hx => by
  obtain ⟨y, hy, rfl⟩ := List.mem_map.1 (show x ∈ t.2.1.map fun x => (pgT h x, pagesT h x) from hx)
  obtain ⟨i, hi⟩ := List.mem_iff_getElem?.1 hy
  exact tree_collect h (hin.kid hi) (by omega) (by omega)
end Go.Proofs.YtafilaiinbggoaaGreat
