import Derived.Test.YtafilaiinbggoaaGreatQS18
import Derived.Laws.Bits64b
import Derived.Laws.IdiomStrings
import Derived.Laws.BytesString
namespace Go.Proofs.YtafilaiinbggoaaGreat
open Go.RowKit Go.Maps
theorem bits_or_i64_nat (a b : Nat) (ha : a < 9223372036854775808) (hb : b < 9223372036854775808) : bits .or .i64 (a : Int) (b : Int) = ((a ||| b : Nat) : Int) := by
 have hx : a ||| b < 2 ^ 63 := Nat.or_lt_two_pow (by omega) (by omega)
 have h1 : (BitVec.ofInt 64 (a : Int)).toNat = a := by
  rw [BitVec.ofInt_natCast, BitVec.toNat_ofNat]; exact Nat.mod_eq_of_lt (by omega)
 have h2 : (BitVec.ofInt 64 (b : Int)).toNat = b := by
  rw [BitVec.ofInt_natCast, BitVec.toNat_ofNat]; exact Nat.mod_eq_of_lt (by omega)
 show IntKind.i64.wrap ((BitVec.ofInt 64 (a : Int) ||| BitVec.ofInt 64 (b : Int)).toNat : Int) = _
 rw [BitVec.toNat_or, h1, h2, IntKind.wrap_i64]
 omega
def numB (l : Bts) : Nat := l.foldl (fun x d => x * 256 + d.toNat) 0
theorem numB_snoc (l : Bts) (x : UInt8) : numB (l ++ [x]) = numB l * 256 + x.toNat := by unfold numB; rw [List.foldl_append]; rfl
theorem numB_lt : ∀ (j : Nat) {l : Bts}, l.length = j -> numB l < 256 ^ j
 | 0, l, h => by
  obtain rfl := List.length_eq_zero_iff.1 h
  decide
 | j + 1, l, h => by
  have hne : l ≠ [] := fun e => by rw [e] at h; simp at h
  obtain ⟨m, x, rfl⟩ : ∃ m x, l = m ++ [x] := ⟨l.dropLast, l.getLast hne, (List.dropLast_concat_getLast hne).symm⟩
  rw [numB_snoc]
  have := numB_lt j (l := m) (by simpa using h)
  have := x.toNat_lt
  rw [Nat.pow_succ]
  omega
theorem next_byte {z xn j : Nat} (hz : z < 256 ^ j) (hj : j < 4) (hx : xn < 256) : bits BinOp.or IntKind.i64 ((z : Int) * 256) (xn : Int) = ((z * 256 + xn : Nat) : Int) := by
 have h2 : (256 : Nat) ^ j <= 256 ^ 3 := Nat.pow_le_pow_right (by decide) (by omega)
 have h3 : (256 : Nat) ^ 3 = 16777216 := by decide
 have e1 : ((z : Int) * 256) = ((z * 256 : Nat) : Int) := (Int.natCast_mul z 256).symm
 rw [e1, bits_or_i64_nat _ _ (by omega) (by omega)]
 have e2 := Nat.shiftLeft_add_eq_or_of_lt (show xn < 2 ^ 8 from hx) z
 rw [Nat.shiftLeft_eq] at e2
 rw [<- e2]
def RestAt (c : CF) (w : World) (rb : Nat) (l : Bts) : Prop := ∃ g off cap, w.heap[rb]? = some (.cells #[.slice (some ⟨g, off, none⟩) l.length cap] 23 (0, 0)) /\ YAt c (.slice (some ⟨g, off, none⟩) l.length cap) l
theorem RestAt.keep {c : CF} {w w' : World} {rb : Nat} {l : Bts} (h : RestAt c w rb l) (hk : w'.heap[rb]? = w.heap[rb]?) : RestAt c w' rb l := by
 obtain ⟨g, off, cap, h1, h2⟩ := h
 exact ⟨g, off, cap, hk.trans h1, h2⟩
def TakePost (c : CF) (rb : Nat) (l : Bts) (n : Nat) (w : World) (e : Ending) (w' : World) : Prop :=
 ∃ sv cs, e = .returned (.tuple #[sv, .bool true]) /\ OwnS 1 RY 5 w.heap.size w' sv n (l.take n) cs /\ RestAt c w' rb (l.drop n) /\ w.grownBy w' (some rb)
set_option maxRecDepth 100000 in
set_option maxHeartbeats 8000000 in
theorem node_take {c : CF} {rb n : Nat} {l : Bts} {w : World} (hr : RestAt c w rb l) (hc : CLe c (cfU w)) (hn : n <= l.length) (hl : l.length <= 100000) :
  Calls Tryz.prog 88 #[.pointer (some ⟨rb, 0, none⟩), .int .i64 (n : Int)] w (TakePost c rb l n w) := by
 obtain ⟨g, off, cap, hbox, hy⟩ := hr
 have hcap : l.length <= cap /\ cap <= 9223372036854775807 := by
  obtain ⟨_, _, e, h1, h2, _⟩ := hy
  simp only [Value.slice.injEq] at e
  rw [<- e.2.2] at h1 h2
  exact ⟨h1, h2⟩
 have y0 : w.cell? ⟨rb, 0, none⟩ = some (.slice (some ⟨g, off, none⟩) l.length cap) := by simp [World.cell?, hbox]
 have f0 : w.frozen? ⟨rb, 0, none⟩ = false := by simp [World.frozen?, hbox]
 have hkl : (n : Int) <= (l.length : Int) := by omega
 have b1 : decide ((l.length : Int) < (n : Int)) = false := decide_eq_false (by omega)
 have hkc : (n : Int) <= (cap : Int) := by omega
 have hlc : (l.length : Int) <= (cap : Int) := by omega
 have HY := HoldT.mk (And.intro hy (And.intro hbox hc))
 have hru : ¬ IsU w rb := fun ⟨cs, fr, e⟩ => by rw [hbox] at e; cases e
 have HRU := HoldT.mk hru
 clear hy hbox hc hru
 have main : ∀ (off2 : Nat) (cap2 : Nat), YAt c (.slice (some ⟨g, off2, none⟩) (l.length - n) cap2) (l.drop n) -> ∀ (w1 : World), w1 = w.setCell ⟨rb, 0, none⟩ (.slice (some ⟨g, off2, none⟩) (l.length - n) cap2) ->
   Calls Tryz.prog 29 #[.slice (some ⟨g, off, none⟩) n n] w1 fun e w' => ∃ sv, e = .returned sv /\ ∃ cs, OwnS 1 RY 5 w.heap.size w' sv n (l.take n) cs /\ RestAt c w' rb (l.drop n) /\ w.grownBy w' (some rb) := by
  intro off2 cap2 hy2 w1 hw1
  have hg : w.grownBy w1 (some rb) := by rw [hw1]; exact set6_grown _ _
  have hln : (l.take n).length = n := by rw [List.length_take]; omega
  have h1 := yat_part HY.out.1 (i := 0) (j := n) (Nat.zero_le _) hn (cap' := n) (by omega) (by omega)
  rw [Nat.add_zero, Nat.sub_zero, List.drop_zero] at h1
  have h2 : YAt (cfU w1) (.slice (some ⟨g, off, none⟩) n n) (l.take n) := by rw [hw1]; exact (h1.mono RY_mono HY.out.2.2).mono RY_mono (cfU_set HRU.out)
  refine (cloneY_any (l.take n) _ (cf w1) w1 (fun _ _ _ h => h) (h2.mono RY_mono (cfU_cf _)) (by omega)).mono ?_
  rintro e w2 ⟨sv, cs, rfl, ho, hgr, hbl⟩
  refine ⟨sv, rfl, cs, ⟨by rw [<- hln]; exact row_base ho hg.size, hln, hgr, Nat.le_trans hg.size hbl.size⟩, ?_, grown_below hg hbl⟩
  have hk : w1.heap[rb]? = some (.cells #[.slice (some ⟨g, off2, none⟩) (l.drop n).length cap2] 23 (0, 0)) := by
   rw [hw1, set_selfT HY.out.2.1, List.length_drop]; rfl
  exact ⟨g, off2, cap2, kept hk hbl, by rw [List.length_drop]; exact hy2⟩
 have HM := HoldT.mk main
 clear main
 by_cases hcn : cap = n
 ·have hln : l.length = n := by omega
  have hy2 : YAt c (.slice (some ⟨g, off, none⟩) (l.length - n) 0) (l.drop n) := by
   rw [List.drop_eq_nil_of_le (by omega), show l.length - n = 0 by omega]
   exact SAt.empty (by omega)
  have HZ := HoldT.mk (HM.out off 0 hy2 _ rfl)
  clear hln hy2
  go_enter Tryz.func88, Tryz.ntmps88
  go_wp2_with fail
  refine HZ.out.mono ?_
  rintro e w2 ⟨sv, rfl, cs, h1, h2, h3⟩
  have HP := HoldT.mk (And.intro h1 (And.intro h2 h3))
  clear h1 h2 h3
  go_wp2_with fail
  go_ret2
  exact ⟨sv, cs, rfl, HP.out.1, HP.out.2.1, HP.out.2.2⟩
 ·have hy2 : YAt c (.slice (some ⟨g, off + n, none⟩) (l.length - n) (cap - n)) (l.drop n) := by
   have := yat_part HY.out.1 (i := n) (j := l.length) hn (Nat.le_refl _) (cap' := cap - n) (by omega) (by omega)
   rw [List.take_of_length_le (by rw [List.length_drop]; exact Nat.le_refl _)] at this
   exact this
  have HZ := HoldT.mk (HM.out (off + n) (cap - n) hy2 _ rfl)
  clear hy2
  go_enter Tryz.func88, Tryz.ntmps88
  go_wp2_with fail
  refine HZ.out.mono ?_
  rintro e w2 ⟨sv, rfl, cs, h1, h2, h3⟩
  have HP := HoldT.mk (And.intro h1 (And.intro h2 h3))
  clear h1 h2 h3
  go_wp2_with fail
  go_ret2
  exact ⟨sv, cs, rfl, HP.out.1, HP.out.2.1, HP.out.2.2⟩
def NumPost (c : CF) (rb : Nat) (l : Bts) (n : Nat) (w : World) (e : Ending) (w' : World) : Prop :=
 e = .returned (.int .i64 (numB (l.take n) : Int)) /\ RestAt c w' rb (l.drop n) /\ w.grownBy w' (some rb)
set_option maxRecDepth 100000 in
set_option maxHeartbeats 8000000 in
theorem node_number {c : CF} {rb n : Nat} {l : Bts} {w : World} (hr : RestAt c w rb l) (hc : CLe c (cfU w)) (hn : n <= l.length) (hl : l.length <= 100000) (h4 : n <= 4) :
  Calls Tryz.prog 87 #[.pointer (some ⟨rb, 0, none⟩), .int .i64 (n : Int)] w (NumPost c rb l n w) := by
 have HT := HoldT.mk (node_take hr hc hn hl)
 have hml : (l.take n).length = n := by rw [List.length_take]; omega
 clear hr hc
 go_enter Tryz.func87, Tryz.ntmps87
 go_wp2_with fail
 refine HT.out.mono ?_
 rintro e w1 ⟨sv, cs, rfl, ho, hr1, hg1⟩
 obtain ⟨m, hm⟩ : ∃ m, m = l.take n := ⟨_, rfl⟩
 rw [<- hm] at ho hml
 obtain ⟨a, cap, rfl⟩ := ho.shape
 have HO := HoldT.mk (And.intro ho (And.intro hr1 (And.intro hg1 hml)))
 have HM := HoldT.mk hm
 clear ho hr1 hg1 hm HT hml
 go_wp2_with fail
 go_loopw [5, 9, 18] (fun x d i wr => ∃ (j : Nat), i = .int .i64 j /\ x = .int .i64 (numB (m.take j) : Int) /\ j <= n /\ wr = w1) (fun _ _ i _ => n - (intOf i).toNat)
 case atStart => exact ⟨0, rfl, rfl, Nat.zero_le _, rfl⟩
 case round =>
  obtain ⟨j, rfl, rfl, hj, hwr⟩ := hrel
  obtain rfl := hwr.symm
  by_cases hlt : j < n
  ·have hml := HO.out.2.2.2
   obtain ⟨x, hx⟩ : ∃ x, m[j]? = some x := ⟨m[j]'(by omega), List.getElem?_eq_getElem (by omega)⟩
   obtain ⟨a2, cap2, e2, _, _, h3⟩ := HO.out.1.at_ RY_mono
   simp only [Value.slice.injEq] at e2
   obtain ⟨b, off, d, ea, hd, hcd, hR⟩ := h3 j x hx
   have hR' : d = [.int .u8 (x.toNat : Int)] := hR
   have hc0 := hcd 0 _ (by rw [hR']; rfl)
   rw [Nat.mul_one, Nat.add_zero] at hc0
   unfold cf at hc0
   rw [<- e2.1] at ea
   subst ea
   have hnj : numB (m.take (j + 1)) = numB (m.take j) * 256 + x.toNat := by rw [take_succ hx, numB_snoc]
   have hlt256 : numB (m.take j) < 256 ^ j := numB_lt j (by rw [List.length_take]; omega)
   have hnb := next_byte hlt256 (by omega : j < 4) x.toNat_lt
   have hb256 : numB (m.take j) < 16777216 := Nat.lt_of_lt_of_le hlt256 (Nat.le_trans (Nat.pow_le_pow_right (by decide) (by omega : j <= 3)) (by decide))
   obtain ⟨z, hz⟩ : ∃ z, z = numB (m.take j) := ⟨_, rfl⟩
   obtain ⟨xn, hxn⟩ : ∃ xn, xn = x.toNat := ⟨_, rfl⟩
   have hxl : xn < 256 := by rw [hxn]; exact x.toNat_lt
   rw [<- hz] at hnj hnb hb256 |-
   rw [<- hxn] at hnj hnb hc0
   have HNB := HoldT.mk hnb
   have HNJ := HoldT.mk hnj
   have b4 : (j : Int) < (n : Int) := by omega
   clear hx hd hcd hR hR' hlt256 hnb hnj h3 hml e2 hz hxn
   go_wp2_with fail
   exact ⟨⟨j + 1, by go_num, by rw [HNB.out, HNJ.out], hlt, trivial⟩, by simp [intOf]; omega⟩
  ·obtain rfl : j = n := by omega
   have hmt : m.take j = m := List.take_of_length_le (by have := HO.out.2.2.2; omega)
   rw [hmt]
   clear hmt
   go_wp2_with fail
   go_ret
   exact ⟨by rw [HM.out]; rfl, HO.out.2.1, HO.out.2.2.1⟩
end Go.Proofs.YtafilaiinbggoaaGreat
namespace Go.Proofs.YtafilaiinbggoaaGreat
open Go.RowKit Go.Maps
structure NOwn (B : Nat) (w : World) (n : ND) (kv vv iv : Value) : Prop where
 keys : ∃ cs, OwnS 1 (RB (cfU w)) 23 B w kv n.keys.length n.keys cs
 vals : ∃ cs, OwnS 1 (RB (cfU w)) 23 B w vv n.vals.length n.vals cs
 kids : ∃ cs, OwnS 1 RI 3 B w iv n.kids.length (n.kids.map Int.ofNat) cs
 apart : ∀ g, kv.ownBlock = some g -> vv.ownBlock ≠ some g
theorem NOwn.nat {B : Nat} {w : World} {n : ND} {kv vv iv : Value} (h : NOwn B w n kv vv iv) : NAt w n kv vv iv := by
 obtain ⟨⟨_, h1⟩, ⟨_, h2⟩, ⟨_, h3⟩, _⟩ := h
 exact ⟨h1.at_ (RB_mono _), h2.at_ (RB_mono _), h3.at_ RI_mono⟩
theorem own_base {n : Nat} {α : Type} {R : Rep α} {T : TypeId} {B B' : Nat} {w : World} {sl : Value} {p : Nat} {xs : List α} {cs : List Value} (h : OwnS n R T B w sl p xs cs) (hB : B' <= B) : OwnS n R T B' w sl p xs cs := ⟨row_base h.own hB, h.len, h.row, Nat.le_trans hB h.le⟩
theorem own_stand {n : Nat} {α : Type} {R : Rep α} (hR : ∀ c c' x d, R c x d -> R c' x d) {T : TypeId} {B : Nat} {w w' : World} {sl : Value} {p : Nat} {xs : List α} {cs : List Value} (h : OwnS n R T B w sl p xs cs) (hs : w.heap.size <= w'.heap.size) (hk : ∀ g, sl.ownBlock = some g -> w'.heap[g]? = w.heap[g]?) : OwnS n R T B w' sl p xs cs := by
 refine ⟨⟨h.own.1, ?_⟩, h.len, ⟨h.row.1, fun i x hx => ?_⟩, Nat.le_trans h.le hs⟩
 ·rcases id h.own.2 with e | ⟨g, cap, cur, e, e1, e2, e3⟩
  ·exact .inl e
  ·exact .inr ⟨g, cap, cur, e, e1, (hk g (by rw [e]; rfl)).trans e2, e3⟩
 ·obtain ⟨d, h1, h2, h3⟩ := h.row.2 i x hx
  exact ⟨d, h1, h2, hR _ _ _ _ h3⟩
theorem NOwn.stand {B : Nat} {w w' : World} {n : ND} {kv vv iv : Value} (h : NOwn B w n kv vv iv) (hs : w.heap.size <= w'.heap.size) (hk : ∀ g, kv.ownBlock = some g \/ vv.ownBlock = some g \/ iv.ownBlock = some g -> w'.heap[g]? = w.heap[g]?) (hu : CLe (cfU w) (cfU w')) : NOwn B w' n kv vv iv := by
 obtain ⟨⟨_, h1⟩, ⟨_, h2⟩, ⟨_, h3⟩, h4⟩ := h
 exact ⟨⟨_, (own_stand (fun _ _ _ _ h => h) h1 hs fun g e => hk g (.inl e)).rep (RB_le hu)⟩, ⟨_, (own_stand (fun _ _ _ _ h => h) h2 hs fun g e => hk g (.inr (.inl e))).rep (RB_le hu)⟩, ⟨_, own_stand (fun _ _ _ _ h => h) h3 hs fun g e => hk g (.inr (.inr e))⟩, h4⟩
theorem NOwn.low {B : Nat} {w : World} {n : ND} {kv vv iv : Value} (h : NOwn B w n kv vv iv) {g : Nat} (hg : kv.ownBlock = some g \/ vv.ownBlock = some g \/ iv.ownBlock = some g) : B <= g /\ g < w.heap.size /\ ¬ IsU w g := by
 obtain ⟨⟨_, h1⟩, ⟨_, h2⟩, ⟨_, h3⟩, _⟩ := h
 rcases hg with hg | hg | hg
 ·obtain ⟨cur, hc⟩ := own_kind h1 hg
  exact ⟨(h1.low g hg).1, (h1.low g hg).2, fun ⟨_, _, e⟩ => by rw [hc] at e; cases e⟩
 ·obtain ⟨cur, hc⟩ := own_kind h2 hg
  exact ⟨(h2.low g hg).1, (h2.low g hg).2, fun ⟨_, _, e⟩ => by rw [hc] at e; cases e⟩
 ·obtain ⟨cur, hc⟩ := own_kind h3 hg
  exact ⟨(h3.low g hg).1, (h3.low g hg).2, fun ⟨_, _, e⟩ => by rw [hc] at e; cases e⟩
structure RU (c : CF) (w0 w : World) (nb rb : Nat) (n : ND) (kv vv iv : Value) (T : Bts) : Prop where
 bel : Below w0.heap.size w0 w
 box : NBox w nb n kv vv iv
 rest : RestAt c w rb T
 own : NOwn w0.heap.size w n kv vv iv
 nge : w0.heap.size <= nb
 rge : w0.heap.size <= rb
 mem : CLe c (cfU w)
 apt : ∀ g, kv.ownBlock = some g \/ vv.ownBlock = some g -> g ≠ rb
theorem RU.ne {c : CF} {w0 w : World} {nb rb : Nat} {n : ND} {kv vv iv : Value} {T : Bts} (h : RU c w0 w nb rb n kv vv iv T) : nb ≠ rb := by
 obtain ⟨g, off, cap, e, _⟩ := h.rest
 exact kind_ne h.box e (by decide)
theorem RU.restU {c : CF} {w0 w : World} {nb rb : Nat} {n : ND} {kv vv iv : Value} {T : Bts} (h : RU c w0 w nb rb n kv vv iv T) : ¬ IsU w rb := by
 obtain ⟨g, off, cap, e, _⟩ := h.rest
 rintro ⟨_, _, e2⟩
 rw [e] at e2
 cases e2
theorem RU.rows {c : CF} {w0 w : World} {nb rb : Nat} {n : ND} {kv vv iv : Value} {T : Bts} (h : RU c w0 w nb rb n kv vv iv T) {g : Nat} (hg : kv.ownBlock = some g \/ vv.ownBlock = some g \/ iv.ownBlock = some g) : g ≠ nb /\ g ≠ rb := by
 obtain ⟨g2, off, cap, e, _⟩ := h.rest
 obtain ⟨⟨_, h1⟩, ⟨_, h2⟩, ⟨_, h3⟩, _⟩ := h.own
 rcases hg with hg | hg | hg
 ·obtain ⟨cur, hc⟩ := own_kind h1 hg
  exact ⟨kind_ne hc h.box (by decide), h.apt g (.inl hg)⟩
 ·obtain ⟨cur, hc⟩ := own_kind h2 hg
  exact ⟨kind_ne hc h.box (by decide), h.apt g (.inr hg)⟩
 ·obtain ⟨cur, hc⟩ := own_kind h3 hg
  exact ⟨kind_ne hc h.box (by decide), kind_ne hc e (by decide)⟩
theorem RU.took {c : CF} {w0 w w' : World} {nb rb : Nat} {n : ND} {kv vv iv : Value} {T T' : Bts} (h : RU c w0 w nb rb n kv vv iv T) (hg : w.grownBy w' (some rb)) (hr : RestAt c w' rb T') : RU c w0 w' nb rb n kv vv iv T' := by
 have hu : CLe (cfU w) (cfU w') := cfU_grown hg fun b e => by cases e; exact h.restU
 refine ⟨h.bel.grown hg h.bel.size (fun q e => by cases e; exact h.rge), (hg.block nb (heap_lt h.box) (fun e => h.ne (Option.some.inj e))).trans h.box, hr, h.own.stand hg.size (fun g hgr => hg.block g (h.own.low hgr).2.1 (fun e => (h.rows hgr).2 (Option.some.inj e))) hu, h.nge, h.rge, fun b o u hu2 => hu _ _ _ (h.mem _ _ _ hu2), h.apt⟩
theorem RU.below {c : CF} {w0 w w' : World} {nb rb : Nat} {n : ND} {kv vv iv : Value} {T : Bts} (h : RU c w0 w nb rb n kv vv iv T) (hb : Below w.heap.size w w') : RU c w0 w' nb rb n kv vv iv T := by
 have hu := cfU_below hb
 obtain ⟨g, off, cap, e, _⟩ := id h.rest
 exact ⟨h.bel.trans (hb.mono h.bel.size), kept h.box hb, h.rest.keep (hb.block rb (heap_lt e)), h.own.stand hb.size (fun g hgr => hb.block g (h.own.low hgr).2.1) hu, h.nge, h.rge, fun b o u hu2 => hu _ _ _ (h.mem _ _ _ hu2), h.apt⟩
theorem RU.set {c : CF} {w0 w w' : World} {nb rb : Nat} {n n' : ND} {kv vv iv kv' vv' iv' : Value} {T : Bts} (h : RU c w0 w nb rb n kv vv iv T) {sl sl' : Value} (hsl : ∀ g, sl.ownBlock = some g -> kv.ownBlock = some g \/ vv.ownBlock = some g \/ iv.ownBlock = some g) (hg : Grew w w' sl sl') (hu : CLe (cfU w) (cfU w')) {i : Nat} {u : Value}
  (hbx : NBox (w'.setCell ⟨nb, i, none⟩ u) nb n' kv' vv' iv') (hown : NOwn w0.heap.size w' n' kv' vv' iv') (hapt : ∀ g, kv'.ownBlock = some g \/ vv'.ownBlock = some g -> g ≠ rb) : RU c w0 (w'.setCell ⟨nb, i, none⟩ u) nb rb n' kv' vv' iv' T := by
 have hb0 : Below w0.heap.size w0 w' := h.bel.grown hg.by_ h.bel.size (fun q e => (h.own.low (hsl q e)).1)
 have hg2 : w'.grownBy (w'.setCell ⟨nb, i, none⟩ u) (some nb) := set6_grown _ _
 obtain ⟨g, off, cap, e, _⟩ := id h.rest
 have hnbU : ¬ IsU w' nb := fun ⟨cs, fr, e2⟩ => by
  have h1 := hg.kept h.box (fun q hq e3 => (h.rows (hsl q hq)).1 e3.symm)
  rw [h1] at e2
  cases e2
 have hu2 := cfU_set (o := i) (v := u) hnbU
 have hr1 : w'.heap[rb]? = w.heap[rb]? := hg.by_.block rb (heap_lt e) (fun e2 => (h.rows (hsl rb e2.symm)).2 rfl)
 refine ⟨hb0.grown hg2 hb0.size (fun q e => by cases e; exact h.nge), hbx, (h.rest.keep hr1).keep (Below.heap_setCell _ _ _ _ (fun e => h.ne e.symm)), hown.stand hg2.size (fun q hq => hg2.block q (hown.low hq).2.1 (fun e2 => ?_)) hu2, h.nge, h.rge, fun b o u hu3 => hu2 _ _ _ (hu _ _ _ (h.mem _ _ _ hu3)), hapt⟩
 obtain rfl := Option.some.inj e2
 have hnb' : ∃ cs, w'.heap[q]? = some (.cells cs 107 (0, 0)) := ⟨_, hg.kept h.box (fun q2 hq2 e3 => (h.rows (hsl q2 hq2)).1 e3.symm)⟩
 obtain ⟨cs, hcs⟩ := hnb'
 obtain ⟨⟨_, h1⟩, ⟨_, h2⟩, ⟨_, h3⟩, _⟩ := hown
 rcases hq with hq | hq | hq
 ·obtain ⟨cur, hc⟩ := own_kind h1 hq
  exact kind_ne hc hcs (by decide) rfl
 ·obtain ⟨cur, hc⟩ := own_kind h2 hq
  exact kind_ne hc hcs (by decide) rfl
 ·obtain ⟨cur, hc⟩ := own_kind h3 hq
  exact kind_ne hc hcs (by decide) rfl
end Go.Proofs.YtafilaiinbggoaaGreat
namespace Go.Proofs.YtafilaiinbggoaaGreat
open Go.RowKit Go.Maps
theorem grew_cfU {n : Nat} {α : Type} {R : Rep α} {T : TypeId} {B : Nat} {w w' : World} {sl sl' : Value} {p : Nat} {xs : List α} {cs : List Value} (h : OwnS n R T B w sl p xs cs) (hT : T ≠ 5) (hg : Grew w w' sl sl') : CLe (cfU w) (cfU w') :=
 cfU_grown hg.by_ fun b e ⟨c2, fr, e2⟩ => by
  obtain ⟨cur, hc⟩ := own_kind h e
  exact kind_ne hc e2 hT rfl
theorem NOwn.pushK {B : Nat} {w w' : World} {n : ND} {kv vv iv kv' : Value} {k : Bts} {cs' : List Value} (h : NOwn B w n kv vv iv) (hg : Grew w w' kv kv') (ho : OwnS 1 (RB (cfU w)) 23 B w' kv' (n.keys.length + 1) (n.keys ++ [k]) cs') : NOwn B w' { n with keys := n.keys ++ [k] } kv' vv iv := by
 obtain ⟨⟨_, h1⟩, ⟨_, h2⟩, ⟨_, h3⟩, h4⟩ := h
 have hu := grew_cfU h1 (by decide) hg
 refine ⟨⟨cs', ?_⟩, ⟨_, (own_stand (fun _ _ _ _ h => h) h2 hg.by_.size (fun g e => hg.by_.block g (h2.low g e).2 (fun e2 => h4 g e2.symm e))).rep (RB_le hu)⟩, ⟨_, own_stand (fun _ _ _ _ h => h) h3 hg.by_.size (fun g e => hg.by_.block g (h3.low g e).2 (fun e2 => ?_))⟩, fun g e e2 => ?_⟩
 ·show OwnS 1 (RB (cfU w')) 23 B w' kv' (n.keys ++ [k]).length (n.keys ++ [k]) cs'
  rw [List.length_append]
  exact ho.rep (RB_le hu)
 ·obtain ⟨c1, e1⟩ := own_kind h1 e2.symm
  obtain ⟨c3, e3⟩ := own_kind h3 e
  exact kind_ne e1 e3 (by decide) rfl
 ·rcases hg.own g e with e1 | e1
  ·exact h4 g e1 e2
  ·have := (h2.low g e2).2
   omega
theorem NOwn.pushV {B : Nat} {w w' : World} {n : ND} {kv vv iv vv' : Value} {k : Bts} {cs' : List Value} (h : NOwn B w n kv vv iv) (hg : Grew w w' vv vv') (ho : OwnS 1 (RB (cfU w)) 23 B w' vv' (n.vals.length + 1) (n.vals ++ [k]) cs') : NOwn B w' { n with vals := n.vals ++ [k] } kv vv' iv := by
 obtain ⟨⟨_, h1⟩, ⟨_, h2⟩, ⟨_, h3⟩, h4⟩ := h
 have hu := grew_cfU h2 (by decide) hg
 refine ⟨⟨_, (own_stand (fun _ _ _ _ h => h) h1 hg.by_.size (fun g e => hg.by_.block g (h1.low g e).2 (fun e2 => h4 g e e2.symm))).rep (RB_le hu)⟩, ⟨cs', ?_⟩, ⟨_, own_stand (fun _ _ _ _ h => h) h3 hg.by_.size (fun g e => hg.by_.block g (h3.low g e).2 (fun e2 => ?_))⟩, fun g e e2 => ?_⟩
 ·show OwnS 1 (RB (cfU w')) 23 B w' vv' (n.vals ++ [k]).length (n.vals ++ [k]) cs'
  rw [List.length_append]
  exact ho.rep (RB_le hu)
 ·obtain ⟨c1, e1⟩ := own_kind h2 e2.symm
  obtain ⟨c3, e3⟩ := own_kind h3 e
  exact kind_ne e1 e3 (by decide) rfl
 ·rcases hg.own g e2 with e1 | e1
  ·exact h4 g e e1
  ·have := (h1.low g e).2
   omega
theorem NOwn.pushI {B : Nat} {w w' : World} {n : ND} {kv vv iv iv' : Value} {k : Nat} {cs' : List Value} (h : NOwn B w n kv vv iv) (hg : Grew w w' iv iv') (ho : OwnS 1 RI 3 B w' iv' (n.kids.length + 1) (n.kids.map Int.ofNat ++ [(k : Int)]) cs') : NOwn B w' { n with kids := n.kids ++ [k] } kv vv iv' := by
 obtain ⟨⟨_, h1⟩, ⟨_, h2⟩, ⟨_, h3⟩, h4⟩ := h
 have hu := grew_cfU h3 (by decide) hg
 have hne : ∀ {v : Value} {p : Nat} {xs : List Bts} {cs : List Value}, OwnS 1 (RB (cfU w)) 23 B w v p xs cs -> ∀ g, v.ownBlock = some g -> iv.ownBlock ≠ some g := fun hv g e e2 => by
  obtain ⟨c1, e1⟩ := own_kind hv e
  obtain ⟨c3, e3⟩ := own_kind h3 e2
  exact kind_ne e1 e3 (by decide) rfl
 refine ⟨⟨_, (own_stand (fun _ _ _ _ h => h) h1 hg.by_.size (fun g e => hg.by_.block g (h1.low g e).2 (fun e2 => hne h1 g e e2.symm))).rep (RB_le hu)⟩, ⟨_, (own_stand (fun _ _ _ _ h => h) h2 hg.by_.size (fun g e => hg.by_.block g (h2.low g e).2 (fun e2 => hne h2 g e e2.symm))).rep (RB_le hu)⟩, ⟨cs', ?_⟩, h4⟩
 show OwnS 1 RI 3 B w' iv' (n.kids ++ [k]).length ((n.kids ++ [k]).map Int.ofNat) cs'
 rw [List.length_append, List.map_append]
 exact ho
def tailJ (n : ND) (j : Nat) : Bts := (encN n).drop (sizeJ n j)
theorem raw_pre {n : ND} {j : Nat} (hj : j <= n.keys.length) : ∃ t, encN n = rawJ n j ++ t := by
 have h1 : ∃ t, rawJ n n.keys.length = rawJ n j ++ t := by
  obtain ⟨d, hd⟩ : ∃ d, n.keys.length = j + d := ⟨n.keys.length - j, by omega⟩
  rw [hd]
  clear hd hj
  induction d with
  | zero => exact ⟨[], by simp⟩
  | succ d ih =>
   obtain ⟨t, ht⟩ := ih
   exact ⟨t ++ entBy n (j + d), by rw [<- Nat.add_assoc, rawJ_succ, ht, List.append_assoc]⟩
 obtain ⟨t, ht⟩ := h1
 exact ⟨t ++ List.replicate (1024 - (rawJ n n.keys.length).length) 0, by unfold encN padTo; rw [ht]; simp⟩
theorem tailJ_eq {n : ND} {j : Nat} (hj : j <= n.keys.length) : encN n = rawJ n j ++ tailJ n j := by
 obtain ⟨t, ht⟩ := raw_pre hj
 unfold tailJ
 rw [ht, <- rawJ_len, List.drop_left]
theorem tailJ_succ {n : ND} {j : Nat} (hj : j < n.keys.length) : tailJ n j = entBy n j ++ tailJ n (j + 1) := by
 have h1 := tailJ_eq (n := n) (j := j) (Nat.le_of_lt hj)
 have h2 := tailJ_eq (n := n) (j := j + 1) hj
 rw [rawJ_succ, List.append_assoc] at h2
 exact List.append_cancel_left (h1.symm.trans h2)
theorem numB_one (x : UInt8) : numB [x] = x.toNat := by unfold numB; simp
theorem numB_be16 {v : Nat} (h : v < 65536) : numB (be16 v) = v := by
 unfold numB be16
 simp
 omega
theorem numB_be32 {v : Nat} (h : v < 4294967296) : numB (be32 v) = v := by
 unfold numB be32
 simp
 omega
end Go.Proofs.YtafilaiinbggoaaGreat
namespace Go.Proofs.YtafilaiinbggoaaGreat
open Go.RowKit Go.Maps
theorem run_bytes_strY (w : World) (v : Value) (l : Bts) (h : YAt (cf w) v l) : (convert 23 9 v).run Tryz.prog w = .ok (.string ⟨l.toArray⟩) w := by
 obtain ⟨a, cap, rfl, h2, h3, h4⟩ := h
 cases a with
 | none =>
  have e : l = [] := by
   cases l with
   | nil => rfl
   | cons x l => obtain ⟨b, off, d, e, _⟩ := h4 0 x rfl; cases e
  subst e
  rw [run_convert_bytes_string w _ _ 5 none _ _ Tryz.underlying23 Tryz.underlying5 Tryz.underlying9]
  simp [Conv.bytesToString]
  rfl
 | some p =>
  refine run_convert_bytes_back w _ _ 5 p cap l Tryz.underlying23 Tryz.underlying5 Tryz.underlying9 (fun j hj => ?_)
  obtain ⟨b, off, d, e, hd, hcd, hR⟩ := h4 j l[j] (List.getElem?_eq_getElem hj)
  cases e
  have hR' : d = [.int .u8 ((l[j]).toNat : Int)] := hR
  have := hcd 0 _ (by rw [hR']; rfl)
  rw [Nat.mul_one, Nat.add_zero] at this
  unfold cf at this
  rw [<- this]
  congr 1
  unfold Addr.add; split
  ·simp_all
  ·rfl
set_option maxHeartbeats 1000000 in
theorem bEqualY {u v : Value} {l m : Bts} {w : World} (h1 : YAt (cf w) u l) (h2 : YAt (cf w) v m) :
  Calls Tryz.prog 45 #[u, v] w fun e w' => e = .returned (.bool (decide (l = m))) /\ w' = w := by
 have e1 := run_bytes_strY w u l h1
 have e2 := run_bytes_strY w v m h2
 clear h1 h2
 by_cases h : l = m
 ·subst h
  go_enter Tryz.func45, Tryz.ntmps45
  go_wp2_with fail
  go_ret
  exact ⟨by simp, rfl⟩
 ·have hne : (l == m) = false := by rw [beq_eq_false_iff_ne]; exact h
  have HD : HoldT (decide (l = m) = false) := ⟨decide_eq_false h⟩
  clear h
  go_enter Tryz.func45, Tryz.ntmps45
  go_wp2_with fail
  go_ret
  exact ⟨by rw [HD.out] <;> rfl, rfl⟩
theorem num_of {c : CF} {rb n : Nat} {l d r : Bts} {w : World} (hr : RestAt c w rb l) (hc : CLe c (cfU w)) (hl : l = d ++ r) (hd : d.length = n) (hll : l.length <= 100000) (h4 : n <= 4) :
  Calls Tryz.prog 87 #[.pointer (some ⟨rb, 0, none⟩), .int .i64 (n : Int)] w fun e w' => e = .returned (.int .i64 (numB d : Int)) /\ RestAt c w' rb r /\ w.grownBy w' (some rb) := by
 have h := node_number (n := n) hr hc (by rw [hl, List.length_append]; omega) hll h4
 unfold NumPost at h
 subst hl
 subst hd
 rw [List.take_left, List.drop_left] at h
 exact h
theorem take_of {c : CF} {rb n : Nat} {l d r : Bts} {w : World} (hr : RestAt c w rb l) (hc : CLe c (cfU w)) (hl : l = d ++ r) (hd : d.length = n) (hll : l.length <= 100000) :
  Calls Tryz.prog 88 #[.pointer (some ⟨rb, 0, none⟩), .int .i64 (n : Int)] w fun e w' => ∃ sv cs, e = .returned (.tuple #[sv, .bool true]) /\ OwnS 1 RY 5 w.heap.size w' sv n d cs /\ RestAt c w' rb r /\ w.grownBy w' (some rb) := by
 have h := node_take (n := n) hr hc (by rw [hl, List.length_append]; omega) hll
 unfold TakePost at h
 subst hl
 subst hd
 rw [List.take_left, List.drop_left] at h
 exact h
def set4 (w : World) (q : Nat) (a b c d : Value) : World := (((w.setCell ⟨q, 0, none⟩ a).setCell ⟨q, 1, none⟩ b).setCell ⟨q, 2, none⟩ c).setCell ⟨q, 3, none⟩ d
theorem set4_heap {w : World} {q : Nat} {a b c d a' b' c' d' : Value} {T : TypeId} (h : w.heap[q]? = some (.cells #[a, b, c, d] T (0, 0))) : (set4 w q a' b' c' d').heap[q]? = some (.cells #[a', b', c', d'] T (0, 0)) := by
 have h1 := set_selfT (o := 0) (c := a') h
 have h2 := set_selfT (o := 1) (c := b') h1
 have h3 := set_selfT (o := 2) (c := c') h2
 have h4 := set_selfT (o := 3) (c := d') h3
 exact h4
theorem set4_grown (w : World) (q : Nat) (a b c d : Value) : w.grownBy (set4 w q a b c d) (some q) :=
 (((set6_grown (w := w) (db := q) a 0).trans (set6_grown b 1)).trans (set6_grown c 2)).trans (set6_grown d 3)
def RdPost (n : ND) (w : World) (e : Ending) (w' : World) : Prop := ∃ kv vv iv, e = .returned (.tuple #[nodeV n kv vv iv, .int .i64 0]) /\ NOwn w.heap.size w' n kv vv iv /\ Below w.heap.size w w'
end Go.Proofs.YtafilaiinbggoaaGreat
