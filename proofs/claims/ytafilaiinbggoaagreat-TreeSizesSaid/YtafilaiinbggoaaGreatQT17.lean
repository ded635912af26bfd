import Derived.Test.YtafilaiinbggoaaGreatQT16
import Derived.Deep.DeepCutAuto
namespace Go.Proofs.YtafilaiinbggoaaGreat
open Go.RowKit Go.Maps
def KeepS (P : BS) (w : World) : Type := { w' : World // ∀ b, P b -> w'.heap[b]? = w.heap[b]? }
instance (P : BS) (w : World) : Nonempty (KeepS P w) := ⟨⟨w, fun _ _ => rfl⟩⟩
theorem KeepS.cell {P : BS} {w : World} {b o : Nat} {v : Value} (h : w.cell? ⟨b, o, none⟩ = some v) (hb : P b) (e : KeepS P w) : e.val.cell? ⟨b, o, none⟩ = some v := by
 rw [World.cell?_of_block (w := w) (e.property b hb)]; exact h
abbrev KeepSC (P : BS) (w : World) : World -> Prop := fun w' => ∃ e : KeepS P w, w' = e.val
theorem keepSC {P : BS} {w w' : World} (h : ∀ b, P b -> w'.heap[b]? = w.heap[b]?) : KeepSC P w w' := ⟨⟨w', h⟩, rfl⟩
def secW (s0 : Int) (b : Bts) (j : Nat) (D : Int -> Option Bts) : Int -> Option Bts := fun k => if s0 <= k /\ k < s0 + j then some ((b.drop (256 * (k - s0).toNat)).take 256) else D k
theorem secW_zero (s0 : Int) (b : Bts) (D : Int -> Option Bts) : secW s0 b 0 D = D := funext fun k => by
 unfold secW
 rw [if_neg (by omega)]
theorem secW_succ (s0 : Int) (b : Bts) (j : Nat) (D : Int -> Option Bts) : (fun k => if k = s0 + j then some ((b.drop (256 * j)).take 256) else secW s0 b j D k) = secW s0 b (j + 1) D := funext fun k => by
 unfold secW
 by_cases e : k = s0 + j
 ·rw [if_pos e, if_pos (by omega), e]
  have : (s0 + (j : Int) - s0).toNat = j := by omega
  rw [this]
 ·rw [if_neg e]
  by_cases e2 : s0 <= k /\ k < s0 + j
  ·rw [if_pos e2, if_pos (by omega)]
  ·rw [if_neg e2, if_neg (by omega)]
theorem DG.drew {H : BS} {db size : Nat} {D : Int -> Option Bts} {p : Nat} {w : World} (h : DG H db size D p w) : DG H db size D p w.drew := h.below ((Below.refl _ w).drew)
theorem yat_part {c : CF} {g off n cap : Nat} {l : Bts} (h : YAt c (.slice (some ⟨g, off, none⟩) n cap) l) {i j : Nat} (hij : i <= j) (hj : j <= l.length) {cap' : Nat} (hc : j - i <= cap') (hc2 : cap' <= 9223372036854775807) : YAt c (.slice (some ⟨g, off + i, none⟩) (j - i) cap') ((l.drop i).take (j - i)) := by
 obtain ⟨a, cap2, e, h1, h2, h3⟩ := h
 cases e
 have hl : ((l.drop i).take (j - i)).length = j - i := by rw [List.length_take, List.length_drop]; omega
 refine ⟨some ⟨g, off + i, none⟩, cap', by rw [hl], by omega, hc2, fun k x hx => ?_⟩
 rw [List.getElem?_take] at hx
 split at hx
 ·rw [List.getElem?_drop] at hx
  obtain ⟨b2, off2, d, e, hd, hcd, hR⟩ := h3 (i + k) x hx
  cases e
  refine ⟨g, off + i, d, rfl, hd, fun q u hu => ?_, hR⟩
  have := hcd q u hu
  rw [Nat.mul_one] at this |-
  rw [show off + i + k + q = off + (i + k) + q by omega]
  exact this
 ·cases hx
set_option maxHeartbeats 8000000 in
set_option maxRecDepth 100000 in
theorem pages_write {HD : BS} {db size pb fb n : Nat} {D : Int -> Option Bts} {p : Nat} {w : World} {fr0 : Nat} {pool : Int} {isv uv : Value} {fm g off cap : Nat} {b : Bts} {d : Bool} (hb : PBox w pb db (fr0 : Int) pool isv fm uv) (hD : DG HD db size D p w) (hpb : ¬ HD pb)
  (hf : w.heap[fb]? = some (.cells #[.int .i64 n, .slice (some ⟨g, off, none⟩) 1024 cap, .bool d] 173 (0, 0))) (hfb : ¬ HD fb) (hy : YAt (cfU w) (.slice (some ⟨g, off, none⟩) 1024 cap) b) (hlen : b.length = 1024) (hfit : fr0 + 4 * n + 4 <= size) (hp : p <= 999999990) :
  Calls Tryz.prog 102 #[.pointer (some ⟨pb, 0, none⟩), .pointer (some ⟨fb, 0, none⟩)] w fun e w' => e = .returned (.bool true) /\ ∃ HD' w1, DG HD' db size (secW ((fr0 : Int) + 4 * n) b 4 D) (p + 4) w1 /\ TurnS HD w HD' w1 /\ w' = w1.setCell ⟨fb, 2, none⟩ (.bool false) := by
 have hcap : 1024 <= cap /\ cap <= 9223372036854775807 := by
  obtain ⟨_, _, e, h1, h2, _⟩ := hy
  simp only [Value.slice.injEq] at e
  rw [<- e.2.2] at h1 h2
  exact ⟨by rw [hlen] at h1; exact h1, h2⟩
 have hsz : size <= 65536 := hD.few
 have HB := HoldT.mk hb
 have HF := HoldT.mk hf
 have HY := HoldT.mk hy
 have HD0 := HoldT.mk (And.intro hD (And.intro hpb hfb))
 have HP := HoldT.mk (And.intro hlen (And.intro hfit (And.intro hp hsz)))
 clear hb hf hy hD hpb hfb hlen hp
 go_enter Tryz.func102, Tryz.ntmps102
 go_wp2
 go_loopw [5, 6] (fun y i wr => ∃ j : Nat, i = .int .i64 j /\ j <= 4 /\ ∃ HDj, HoldT (DG HDj db size (secW ((fr0 : Int) + 4 * n) b j D) (p + j) wr /\ TurnS HD w HDj wr)) (fun _ i _ => 4 - (intOf i).toNat)
 case atStart => exact ⟨0, rfl, Nat.zero_le _, HD, ⟨by rw [secW_zero]; exact HD0.out.1, TurnS.refl _ _⟩⟩
 case round =>
  obtain ⟨j, rfl, hj, HDj, HJ⟩ := hrel
  by_cases hlt : j < 4
  ·have b1 : decide ((j : Int) < 4) = true := decide_eq_true (by omega)
   have hbx : PBox wr pb db (fr0 : Int) pool isv fm uv := (HJ.out.2.kept HB.out HD0.out.2.1).1
   have hfx : wr.heap[fb]? = some (.cells #[.int .i64 n, .slice (some ⟨g, off, none⟩) 1024 cap, .bool d] 173 (0, 0)) := (HJ.out.2.kept HF.out HD0.out.2.2).1
   have c0 := hbx.cell.1
   have c1 := hbx.cell.2.1
   have f0 : wr.cell? ⟨fb, 0, none⟩ = some (.int .i64 n) := by simp [World.cell?, hfx]
   have f1 : wr.cell? ⟨fb, 1, none⟩ = some (.slice (some ⟨g, off, none⟩) 1024 cap) := by simp [World.cell?, hfx]
   have g0 := KeepS.cell (P := fun q => q = pb \/ q = fb) c0 (.inl rfl)
   have g1 := KeepS.cell (P := fun q => q = pb \/ q = fb) c1 (.inl rfl)
   have g2 := KeepS.cell (P := fun q => q = pb \/ q = fb) f0 (.inr rfl)
   have g3 := KeepS.cell (P := fun q => q = pb \/ q = fb) f1 (.inr rfl)
   have HX := HoldT.mk (And.intro hbx hfx)
   clear c0 c1 f0 f1 hbx hfx
   go_upto_region 4 with (fail)
   refine wp_region_mixC (KeepSC (fun q => q = pb \/ q = fb) wr) 28 rfl (by kernel_rfl) ?_
   have HDR := HoldT.mk (And.intro ((Below.refl wr.heap.size wr).drew) HJ.out.1.drew)
   have HST : HoldT (∀ q : Nat, wr.drew.heap[q]? = wr.heap[q]?) := ⟨fun _ => rfl⟩
   generalize wr.drew = v9 at HDR HST |-
   refine mixl_seg (by kernel_rfl) (fun _ _ d _ _ h => by cases d <;> exact h) [0, 1, 2, 3, 4, 5, 6, 7, 8, 9, 10, 11, 12, 13, 14, 15, 16, 17, 18, 19, 20, 21, 22, 23, 24, 25] [_, _, _, _, _, _, _, _, _, _, _, _, _, _, _, _, _, _, _, _, _, _, _, _, _, _] 2 28 rfl _ _ _ rfl (by kernel_rfl) (keepSC fun q _ => HST.out q) ?_
   repeat (go_big_quiet_step (fail))
   refine wpQuiet_nil ?_
   clear g0 g1 g2 g3
   have e256 : (j + 1) * 256 - j * 256 = 256 := by omega
   have HPUT := HoldT.mk (disk_put (s := (fr0 : Int) + 4 * (n : Int) + (j : Int)) (va := some ⟨g, off + j * 256, none⟩) (vc := cap - j * 256) HDR.out.2 (by omega) (by have := HP.out.2.1; omega) (b := (b.drop (j * 256)).take 256) (by
    have h1 := (HY.out.mono RY_mono (cfU_turn HJ.out.2 HD0.out.1.noU)).mono RY_mono (cfU_below HDR.out.1)
    have h2 := yat_part h1 (i := j * 256) (j := (j + 1) * 256) (by omega) (by rw [HP.out.1]; omega) (cap' := cap - j * 256) (by omega) (by omega)
    rw [e256] at h2
    exact h2) (by rw [List.length_take, List.length_drop, HP.out.1]; omega) (by have := HP.out.2.2.1; omega))
   refine mixl_act (i := 26) rfl (by kernel_rfl) (keepSC fun q _ => HST.out q) rfl (fun K hK => ?_)
   rw [e256]
   go_wp2_with fail
   refine HPUT.out.mono ?_
   rintro e w4 ⟨rfl, HDk, hdk, htk⟩
   simp only
   have HJ2 : HoldT (DG HDk db size (secW ((fr0 : Int) + 4 * n) b (j + 1) D) (p + (j + 1)) w4 /\ TurnS HD w HDk w4) := ⟨by
    rw [show b.drop (j * 256) = b.drop (256 * j) by rw [Nat.mul_comm], secW_succ] at hdk
    exact ⟨hdk, (HJ.out.2.trans (TurnS.quiet HDR.out.1)).trans htk⟩⟩
   have HW4 : HoldT (∀ q, q = pb \/ q = fb -> w4.heap[q]? = wr.heap[q]?) := ⟨fun q hq => by
    have hb9 := HST.out q
    rcases hq with rfl | rfl
    ·exact (((htk.kept (hb9.trans HX.out.1) (HJ.out.2.kept HB.out HD0.out.2.1).2).1).trans HX.out.1.symm)
    ·exact (((htk.kept (hb9.trans HX.out.2) (HJ.out.2.kept HF.out HD0.out.2.2).2).1).trans HX.out.2.symm)⟩
   clear hdk htk
   go_wp2_with fail
   refine mixl_seg (by kernel_rfl) (fun _ _ d _ _ h => by cases d <;> exact h) [27] [_] 0 1 rfl _ _ _ rfl (by kernel_rfl) (keepSC HW4.out) ?_
   repeat (go_big_quiet_step (fail))
   refine wpQuiet_nil ?_
   refine mix_done (by kernel_rfl) (keepSC HW4.out) ?_
   go_wp2_with fail
   exact ⟨⟨j + 1, by go_num, by omega, HDk, HJ2⟩, by simp [intOf]; omega⟩
  ·obtain rfl : j = 4 := by omega
   have hfx : wr.heap[fb]? = some (.cells #[.int .i64 n, .slice (some ⟨g, off, none⟩) 1024 cap, .bool d] 173 (0, 0)) := (HJ.out.2.kept HF.out HD0.out.2.2).1
   have hz : wr.frozen? ⟨fb, 2, none⟩ = false := by simp [World.frozen?, hfx]
   have hc2 : wr.cell? ⟨fb, 2, none⟩ = some (.bool d) := by simp [World.cell?, hfx]
   clear hfx
   go_wp2_with fail
   go_ret
   exact ⟨rfl, HDj, wr, HJ.out.1, HJ.out.2, rfl⟩
end Go.Proofs.YtafilaiinbggoaaGreat
namespace Go.Proofs.YtafilaiinbggoaaGreat
open Go.RowKit Go.Maps
structure HS where
 d : BS
 p : BS
def HS.all (H : HS) : BS := fun b => H.d b \/ H.p b
def dOf (Q : PQ) (R : Int -> Option Bts) (S : PS) : Int -> Option Bts := fun k => if (Q.fr0 : Int) <= k /\ k < Q.fr0 + 4 * Q.count then S.now (k - Q.fr0).toNat else R k
structure PG (Q : PQ) (R : Int -> Option Bts) (H : HS) (S : PS) (p : Nat) (w : World) : Prop where
 disk : DG H.d Q.db Q.size (dOf Q R S) p w
 own : PP H.p Q S w
 apart : ∀ b, H.d b -> ¬ H.p b
 inv : PInv Q.pool S
 len : S.is.length = Q.count
 fit : Q.fr0 + 4 * Q.count <= Q.size
 pool1 : 1 <= Q.pool
 poolm : Q.pool <= 1000000
 inside : ∀ n ∈ S.used, n < Q.count
theorem PG.small {Q : PQ} {R : Int -> Option Bts} {H : HS} {S : PS} {p : Nat} {w : World} (h : PG Q R H S p w) : Q.count <= 16384 /\ Q.fr0 <= 65536 /\ S.used.length <= 1000000 := by
 have h1 := h.disk.few
 have h2 := h.fit
 have h3 := h.inv.few
 have h4 := h.poolm
 omega
theorem PG.noU {Q : PQ} {R : Int -> Option Bts} {H : HS} {S : PS} {p : Nat} {w : World} (h : PG Q R H S p w) : ∀ b, H.all b -> ¬ IsU w b := fun b hb => hb.elim (h.disk.noU b) (h.own.noU b)
theorem PG.lt {Q : PQ} {R : Int -> Option Bts} {H : HS} {S : PS} {p : Nat} {w : World} (h : PG Q R H S p w) : ∀ b, H.all b -> b < w.heap.size := fun b hb => hb.elim (h.disk.lt b) (h.own.lt b)
theorem PG.stand {Q : PQ} {R : Int -> Option Bts} {H : HS} {S : PS} {p : Nat} {w w' : World} (h : PG Q R H S p w) (hs : w.heap.size <= w'.heap.size) (hk : ∀ b, H.all b -> w'.heap[b]? = w.heap[b]?) (hu : CLe (cfU w) (cfU w')) : PG Q R H S p w' :=
 ⟨h.disk.stand hs (fun b hb => hk b (.inl hb)) hu, h.own.stand hs (fun b hb => hk b (.inr hb)) hu, h.apart, h.inv, h.len, h.fit, h.pool1, h.poolm, h.inside⟩
theorem PG.below {Q : PQ} {R : Int -> Option Bts} {H : HS} {S : PS} {p : Nat} {w w' : World} (h : PG Q R H S p w) (hb : Below w.heap.size w w') : PG Q R H S p w' :=
 h.stand hb.size (fun b hk => hb.block b (h.lt b hk)) (cfU_below hb)
theorem PG.beside {Q : PQ} {R : Int -> Option Bts} {H : HS} {S : PS} {p : Nat} {w w' : World} (h : PG Q R H S p w) {r : Option Nat} (hg : w.grownBy w' r) (hr : ∀ b, r = some b -> ¬ H.all b /\ ¬ IsU w b) : PG Q R H S p w' :=
 h.stand hg.size (fun b hk => hg.block b (h.lt b hk) (fun e => (hr b e.symm).1 hk)) (cfU_grown hg fun b e => (hr b e).2)
theorem dOf_write {Q : PQ} {R : Int -> Option Bts} {S : PS} {l : Nat} {b : Bts} (hl : l < Q.count) : dOf Q R (writeP l b S) = secW ((Q.fr0 : Int) + 4 * l) b 4 (dOf Q R S) := funext fun k => by
 unfold secW
 show (if (Q.fr0 : Int) <= k /\ k < Q.fr0 + 4 * Q.count then (if (k - Q.fr0).toNat / 4 = l then some ((b.drop (256 * ((k - Q.fr0).toNat % 4))).take 256) else S.now (k - Q.fr0).toNat) else R k) = if _ then _ else (if (Q.fr0 : Int) <= k /\ k < Q.fr0 + 4 * Q.count then S.now (k - Q.fr0).toNat else R k)
 by_cases h1 : (Q.fr0 : Int) <= k /\ k < Q.fr0 + 4 * Q.count
 ·rw [if_pos h1, if_pos h1]
  by_cases h2 : (k - Q.fr0).toNat / 4 = l
  ·rw [if_pos h2, if_pos (by omega)]
   have : (k - Q.fr0).toNat % 4 = (k - ((Q.fr0 : Int) + 4 * l)).toNat := by omega
   rw [this]
  ·rw [if_neg h2, if_neg (by omega)]
 ·rw [if_neg h1, if_neg (by omega), if_neg h1]
theorem yat_addr {c : CF} {a : Option Addr} {n cap : Nat} {b : Bts} (h : YAt c (.slice a n cap) b) (hb : 0 < b.length) : ∃ g off, a = some ⟨g, off, none⟩ := by
 obtain ⟨a2, cap2, e, _, _, h3⟩ := h
 simp only [Value.slice.injEq] at e
 obtain ⟨g, off, d, ea, _⟩ := h3 0 b[0] (List.getElem?_eq_getElem hb)
 exact ⟨g, off, by rw [e.1, ea]⟩
theorem FrAt.clean {w : World} {g : Int -> Option Value} {fr : Nat -> Option (Bts × Bool)} (h : FrAt w g fr) {l fl : Nat} {b : Bts} {d : Bool} (hl : fr l = some (b, d)) (hg : g l = some (.pointer (some ⟨fl, 0, none⟩))) : FrAt (w.setCell ⟨fl, 2, none⟩ (.bool false)) g (fun m => if m = l then some (b, false) else fr m) := by
 obtain ⟨hb, fb, a, cap, q1, q2, q3⟩ := frat_some h hl
 rw [hg] at q1
 obtain rfl : fl = fb := by cases q1; rfl
 have hu : ¬ IsU w fl := fun ⟨cs, fr, e⟩ => by rw [q2] at e; cases e
 refine frat_mk h.1 (fun n hn => ?_) (fun n b2 d2 hn => ?_)
 ·by_cases e : n = l
  ·simp only [if_pos e] at hn; cases hn
  ·simp only [if_neg e] at hn
   exact frat_none h hn
 ·by_cases e : n = l
  ·subst e
   simp only [if_true] at hn
   cases hn
   refine ⟨hb, fl, a, cap, hg, ?_, q3.mono RY_mono (cfU_set hu)⟩
   rw [set_selfT q2]; rfl
  ·simp only [if_neg e] at hn
   obtain ⟨hb2, fb2, a2, cap2, r1, r2, r3⟩ := frat_some h hn
   refine ⟨hb2, fb2, a2, cap2, r1, ?_, r3.mono RY_mono (cfU_set hu)⟩
   have hne : fb2 ≠ fl := fun e2 => by
    subst e2
    rw [r2] at q2
    simp only [Option.some.injEq, Obj.cells.injEq, Array.mk.injEq, List.cons.injEq, Value.int.injEq] at q2
    omega
   exact (Below.heap_setCell _ _ _ _ hne).trans r2
structure PPg (H : BS) (Q : PQ) (S : PS) (fm : Nat) (g : Int -> Option Value) (w : World) : Prop where
 ex : ∃ ib uv us, PBox w Q.pb Q.db Q.fr0 Q.pool (.slice (some ⟨ib, 0, none⟩) S.is.length S.is.length) fm uv /\ IsRow w ib S.is /\ OwnS 1 RI 3 0 w uv S.used.length (S.used.map Int.ofNat) us /\ H ib /\ ∀ gb, uv.ownBlock = some gb -> H gb
 map : MapI fm g w
 fr : FrAt w g S.fr
 hm : H fm
 hfr : ∀ k fb, g k = some (.pointer (some ⟨fb, 0, none⟩)) -> H fb
 box : H Q.pb
 lt : ∀ b, H b -> b < w.heap.size
 noU : ∀ b, H b -> ¬ IsU w b
theorem PP.open {H : BS} {Q : PQ} {S : PS} {w : World} (h : PP H Q S w) : ∃ fm g, PPg H Q S fm g w := by
 obtain ⟨⟨ib, fm, uv, g, us, h1, h2, h3, h4, h5, h6, h7, h8, h9⟩, d1, d2, d3⟩ := h
 exact ⟨fm, g, ⟨ib, uv, us, h1, h2, h4, h6, h8⟩, h3, h5, h7, h9, d1, d2, d3⟩
theorem PPg.pp {H : BS} {Q : PQ} {S : PS} {fm : Nat} {g : Int -> Option Value} {w : World} (h : PPg H Q S fm g w) : PP H Q S w := by
 obtain ⟨⟨ib, uv, us, h1, h2, h4, h6, h8⟩, h3, h5, h7, h9, d1, d2, d3⟩ := h
 exact ⟨⟨ib, fm, uv, g, us, h1, h2, h3, h4, h5, h6, h7, h8, h9⟩, d1, d2, d3⟩
theorem PPg.stand {H : BS} {Q : PQ} {S : PS} {fm : Nat} {g : Int -> Option Value} {w w' : World} (h : PPg H Q S fm g w) (hs : w.heap.size <= w'.heap.size) (hk : ∀ b, H b -> w'.heap[b]? = w.heap[b]?) (hu : CLe (cfU w) (cfU w')) : PPg H Q S fm g w' := by
 obtain ⟨⟨ib, uv, us, h1, h2, h4, h6, h8⟩, h3, h5, h7, h9, d1, d2, d3⟩ := h
 refine ⟨⟨ib, uv, us, (hk _ d1).trans h1, (hk ib h6).trans h2, ?_, h6, h8⟩, h3.same (hk fm h7), h5.keep (fun n fb e => hk fb (h9 n fb e)) hu, h7, h9, d1, fun b hb => Nat.lt_of_lt_of_le (d2 b hb) hs, fun b hb hu2 => d3 b hb ?_⟩
 ·refine ⟨⟨h4.own.1, ?_⟩, h4.len, h4.row, Nat.zero_le _⟩
  rcases id h4.own.2 with e | ⟨g, cap, cur, e, e1, e2, e3⟩
  ·exact .inl e
  ·exact .inr ⟨g, cap, cur, e, e1, (hk g (h8 g (by rw [e]; rfl))).trans e2, e3⟩
 ·obtain ⟨cs, fr, e⟩ := hu2
  exact ⟨cs, fr, (hk b hb).symm.trans e⟩
theorem PPg.clean {H : BS} {Q : PQ} {S : PS} {fm : Nat} {g : Int -> Option Value} {w : World} (h : PPg H Q S fm g w) {l fl : Nat} {b : Bts} {d : Bool} (hl : S.fr l = some (b, d)) (hg : g l = some (.pointer (some ⟨fl, 0, none⟩))) : PPg H Q (writeP l b S) fm g (w.setCell ⟨fl, 2, none⟩ (.bool false)) := by
 obtain ⟨hb, fb, a, cap, q1, q2, q3⟩ := frat_some h.fr hl
 rw [hg] at q1
 obtain rfl : fl = fb := by cases q1; rfl
 obtain ⟨⟨ib, uv, us, h1, h2, h4, h6, h8⟩, h3, h5, h7, h9, d1, d2, d3⟩ := h
 have hgr : w.grownBy (w.setCell ⟨fl, 2, none⟩ (.bool false)) (some fl) := set6_grown _ _
 refine ⟨⟨ib, uv, us, (Below.heap_setCell _ _ _ _ (kind_ne h1 q2 (by decide))).trans h1, (Below.heap_setCell _ _ _ _ (kind_ne h2 q2 (by decide))).trans h2, own_keep (fun _ _ _ _ h => h) h4 hgr (fun gb e e2 => ?_), h6, h8⟩, h3.same (Below.heap_setCell _ _ _ _ (fun e => by subst e; exact map_not h3 q2)), h5.clean hl hg, h7, h9, d1, fun b hb => Nat.lt_of_lt_of_le (d2 b hb) hgr.size, fun b hb hu => d3 b hb (isU_set hu (d3 fl (h9 _ _ hg))).1⟩
 obtain ⟨cur, hc⟩ := own_kind h4 e
 exact kind_ne hc q2 (by decide) (Option.some.inj e2).symm
theorem PG.cleaned {Q : PQ} {R : Int -> Option Bts} {H : HS} {S : PS} {p : Nat} {w : World} (h : PG Q R H S p w) {fm : Nat} {g : Int -> Option Value} (hx : PPg H.p Q S fm g w) {l fl : Nat} {b : Bts} {d : Bool} (hlt : l < Q.count) (hl : S.fr l = some (b, d)) (hg : g l = some (.pointer (some ⟨fl, 0, none⟩))) {HD' : BS} {w1 : World}
  (hD : DG HD' Q.db Q.size (secW ((Q.fr0 : Int) + 4 * l) b 4 (dOf Q R S)) (p + 4) w1) (hT : TurnS H.d w HD' w1) :
  PG Q R ⟨HD', H.p⟩ (writeP l b S) (p + 4) (w1.setCell ⟨fl, 2, none⟩ (.bool false)) /\ PPg H.p Q (writeP l b S) fm g (w1.setCell ⟨fl, 2, none⟩ (.bool false)) /\ TurnS H.all w (HS.mk HD' H.p).all (w1.setCell ⟨fl, 2, none⟩ (.bool false)) := by
 have hk : ∀ b, H.p b -> w1.heap[b]? = w.heap[b]? /\ ¬ HD' b := fun b hb => hT.out b (h.own.lt b hb) (fun e => h.apart b e hb)
 have h1 := (hx.stand hT.size (fun b hb => (hk b hb).1) (cfU_turn hT h.disk.noU)).clean hl hg
 have hfl : H.p fl := hx.hfr _ _ hg
 have hgr : w1.grownBy (w1.setCell ⟨fl, 2, none⟩ (.bool false)) (some fl) := set6_grown _ _
 have hnu : ¬ IsU w1 fl := fun ⟨cs, fr, e⟩ => hx.noU fl hfl ⟨cs, fr, (hk fl hfl).1.symm.trans e⟩
 refine ⟨⟨?_, h1.pp, fun b hb hp => (hk b hp).2 hb, (write_inv h.inv hl).1, h.len, h.fit, h.pool1, h.poolm, h.inside⟩, h1, ?_⟩
 ·rw [dOf_write hlt]
  refine hD.stand hgr.size (fun b hb => hgr.block b (hD.lt b hb) (fun e => ?_)) (cfU_grown hgr fun b e => by cases e; exact hnu)
  obtain rfl := Option.some.inj e
  exact (hk _ hfl).2 hb
 ·have h2 : TurnS H.all w (HS.mk HD' H.p).all w1 := hT.wide
  exact h2.trans (TurnS.grown hgr fun b e => .inl (by cases e; exact .inr hfl))
end Go.Proofs.YtafilaiinbggoaaGreat
