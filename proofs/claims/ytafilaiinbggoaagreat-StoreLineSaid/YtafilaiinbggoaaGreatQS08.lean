import Derived.Test.YtafilaiinbggoaaGreatQS07
import Derived.Laws.OwnMore
namespace Go.Proofs.YtafilaiinbggoaaGreat
open Go.RowKit
theorem set_selfT {w : World} {k o : Nat} {cs : Array Value} {t : TypeId} {fr : Nat × Nat} {c : Value} (h : w.heap[k]? = some (.cells cs t fr)) : (w.setCell ⟨k, o, none⟩ c).heap[k]? = some (.cells (cs.set! o c) t fr) := by
 simp [World.setCell, Array.getElem?_modify, h]
theorem set9_box {w : World} {db : Nat} {size : Int} {nb lb : Nat} {pend : Value} {a0 a1 a2 y : Int} (h : DBox w db size nb lb pend a0 a1 a2) : DBox (w.setCell ⟨db, 6, none⟩ (.int .i64 y)) db size nb lb pend y a1 a2 := by
 have h1 := set_selfT (o := 6) (c := .int .i64 y) h
 unfold DBox
 rw [h1]
 rfl
abbrev YAt (c : CF) (v : Value) (l : Bts) : Prop := SAt 1 RY c v l
theorem YAt.bytes {c : CF} {v : Value} {l : Bts} (h : YAt c v l) : BytesAt c v l := by
 obtain ⟨a, cap, rfl, h1, h2, h3⟩ := h
 refine ⟨a, cap, rfl, by omega, fun i x hx => ?_⟩
 obtain ⟨b, off, d, e, hd, hc, hr⟩ := h3 i x hx
 refine ⟨b, off, e, ?_⟩
 have : d = [.int .u8 (x.toNat : Int)] := hr
 have h0 := hc 0 (.int .u8 (x.toNat : Int)) (by rw [this]; rfl)
 simpa using h0
def ReadPost (b : Bts) (db : Nat) (size : Int) (nb lb : Nat) (pend : Value) (a1 a2 : Int) (c : CF) (w : World) (e : Ending) (w' : World) : Prop :=
 ∃ sv cs y, e = .returned (.tuple #[sv, .int .i64 0]) /\ w'.ownsRow w.heap.size 5 1 sv b.length cs /\ GRow 1 RY c b cs /\ DBox w' db size nb lb pend y a1 a2 /\ w.grownBy w' (some db)
theorem set6_grown {w : World} {db : Nat} (u : Value) (o : Nat) : w.grownBy (w.setCell ⟨db, o, none⟩ u) (some db) :=
 ⟨rfl, rfl, rfl, by simp [World.setCell], fun q hq hne => Below.heap_setCell _ _ _ _ (fun e => hne (by rw [e]))⟩
theorem DBox.below {w w' : World} {db : Nat} {size : Int} {nb lb : Nat} {pend : Value} {a0 a1 a2 : Int} (h : DBox w db size nb lb pend a0 a1 a2) (hb : Below w.heap.size w w') : DBox w' db size nb lb pend a0 a1 a2 := kept h hb
theorem grown_below {w w1 w2 : World} {r : Option Nat} (h : w.grownBy w1 r) (hb : Below w1.heap.size w1 w2) : w.grownBy w2 r :=
 ⟨hb.os.trans h.os, hb.tape.trans h.tape, hb.output.trans h.output, Nat.le_trans h.size hb.size, fun q hq hne => (hb.block q (Nat.lt_of_lt_of_le hq h.size)).trans (h.block q hq hne)⟩
set_option maxHeartbeats 4000000 in
set_option maxRecDepth 100000 in
theorem disk_read_there {w : World} {db : Nat} {size : Int} {nb lb : Nat} {pend : Value} {a0 a1 a2 : Int} {f : Int -> Option Value} {b : Bts} {v : Value} {s : Int} (h : DBox w db size nb lb pend a0 a1 a2) (hm : MapI nb f w) (hne : nb ≠ db) (hs0 : 0 <= s) (hs1 : s < size) (hwf : WfI s)
  (hf : f s = some v) (hv : ∀ y, YAt (cf (w.setCell ⟨db, 6, none⟩ (.int .i64 y))) v b) (hb : b.length <= 1000000) :
  Calls Tryz.prog 86 #[.pointer (some ⟨db, 0, none⟩), .int .i64 s] w (ReadPost b db size nb lb pend a1 a2 (cf w) w) := by
 have HD := HoldT.mk (disk_down h)
 have HA := HoldT.mk (counter_add h.cell.2.2.2.2.2.1 (h.free 6))
 have hc0 := h.cell.1
 have hc1 : ∀ y, (w.setCell ⟨db, 6, none⟩ (.int .i64 y)).cell? ⟨db, 1, none⟩ = some (.map (some nb)) := fun y => (set9_box (y := y) h).cell.2.1
 have HB := HoldT.mk h
 have HM := HoldT.mk hm
 have b1 : decide (s < 0) = false := decide_eq_false (by omega)
 have b2 : decide (size <= s) = false := decide_eq_false (by omega)
 go_enter Tryz.func86, Tryz.ntmps86
 go_wp2_with (go_at_call 105; refine HD.out.mono ?_; rintro e w' ⟨rfl, rfl⟩)
 go_wp2_with fail
 refine HA.out.mono ?_
 rintro e w1 ⟨y, rfl, hw1⟩
 have h1 : DBox w1 db size nb lb pend y a1 a2 := by rw [hw1]; exact set9_box HB.out
 have hm1 : MapI nb f w1 := by rw [hw1]; exact HM.out.same (Below.heap_setCell _ _ _ _ hne)
 have hv1 : YAt (cf w1) v b := by rw [hw1]; exact hv y
 have hg1 : w.grownBy w1 (some db) := by rw [hw1]; exact set6_grown _ _
 have hsz : w1.heap.size = w.heap.size := by rw [hw1]; simp [World.setCell]
 clear hw1 hv
 have hl := hm1.look_ok Tryz.underlying81 (show (zeroValue 23).run Tryz.prog w1 = .ok (.slice none 0 0) w1 by kernel_rfl) hwf
 rw [hf] at hl
 have hcell := h1.cell.2.1
 have HCL := HoldT.mk (cloneY_any b v (cf w1) w1 (fun _ _ _ h => h) hv1 hb)
 have H1 := HoldT.mk h1
 have HG := HoldT.mk hg1
 have HS := HoldT.mk hsz
 have hl2 : (Instr.lookup 81 (.map (some nb)) (.int .i64 s) true).run Tryz.prog w1 = .ok (.tuple #[v, .bool true]) w1 := hl
 clear h1 hg1 hm1 hl hm hv1 hf hc0 HD HA hsz
 go_wp2_with fail
 refine HCL.out.mono ?_
 rintro e w2 ⟨sv, cs, rfl, ho, hgr, hbl⟩
 have HP : HoldT (ReadPost b db size nb lb pend a1 a2 (cf w) w (.returned (.tuple #[sv, .int .i64 0])) w2) := ⟨⟨sv, cs, y, rfl, by rw [<- HS.out]; exact ho, hgr, H1.out.below hbl, grown_below HG.out hbl⟩⟩
 clear ho hgr hbl
 go_wp2_with fail
 go_ret2
 exact HP.out
def zeros256 : Bts := List.replicate 256 0
theorem run_make_zeros {base : Nat} (n : Nat) (hn : n <= 1000000000) (w : World) (hb : base <= w.heap.size) : ∃ w', (Instr.makeSlice 23 (.int .i64 (n : Int)) (.int .i64 (n : Int))).run Tryz.prog w = .ok (.slice (some ⟨w.heap.size, 0, none⟩) n n) w' /\
  w'.ownsRow base 5 1 (.slice (some ⟨w.heap.size, 0, none⟩) n n) n (List.replicate n (.int .u8 0)) /\ w.grownBy w' none := by
 obtain ⟨i0, hi, hz0, hz1, hz2⟩ := info_parts infoY
 have h := run_make_full w base 23 5 i0 (.int .u8 0) 1 Tryz.underlying23 hi hz0 hz1 .i64 .i64 n (by rw [hz2]; omega) (by unfold maxLen; omega) hb
 have e : (madeCells (Value.int .u8 0).cells (n * 1)).toList = List.replicate n (.int .u8 0) := by rw [Nat.mul_one]; exact toList_madeCells_one _ _
 rw [e] at h
 exact h
theorem zeros_row (c : CF) : GRow 1 RY c zeros256 (List.replicate 256 (.int .u8 0)) := by
 refine ⟨by unfold zeros256; rw [List.length_replicate, List.length_replicate], fun i x hx => ?_⟩
 have hi := (List.getElem?_eq_some_iff.1 hx).1
 have hx' : x = 0 := by
  unfold zeros256 at hx
  exact List.eq_of_mem_replicate (List.mem_of_getElem? hx)
 have hi' : i < 256 := by unfold zeros256 at hi; rwa [List.length_replicate] at hi
 subst hx'
 refine ⟨[.int .u8 0], rfl, fun j u hu => ?_, rfl⟩
 match j, hu with
 | 0, hu =>
  cases hu
  rw [List.getElem?_replicate, if_pos (by omega)]
set_option maxHeartbeats 4000000 in
set_option maxRecDepth 100000 in
theorem disk_read_zero {w : World} {db : Nat} {size : Int} {nb lb : Nat} {pend : Value} {a0 a1 a2 : Int} {f : Int -> Option Value} {s : Int} (h : DBox w db size nb lb pend a0 a1 a2) (hm : MapI nb f w) (hne : nb ≠ db) (hs0 : 0 <= s) (hs1 : s < size) (hwf : WfI s)
  (hf : f s = none) :
  Calls Tryz.prog 86 #[.pointer (some ⟨db, 0, none⟩), .int .i64 s] w (ReadPost zeros256 db size nb lb pend a1 a2 (cf w) w) := by
 have HD := HoldT.mk (disk_down h)
 have HA := HoldT.mk (counter_add h.cell.2.2.2.2.2.1 (h.free 6))
 have hc0 := h.cell.1
 have hc1 : ∀ y, (w.setCell ⟨db, 6, none⟩ (.int .i64 y)).cell? ⟨db, 1, none⟩ = some (.map (some nb)) := fun y => (set9_box (y := y) h).cell.2.1
 have HB := HoldT.mk h
 have HM := HoldT.mk hm
 have b1 : decide (s < 0) = false := decide_eq_false (by omega)
 have b2 : decide (size <= s) = false := decide_eq_false (by omega)
 go_enter Tryz.func86, Tryz.ntmps86
 go_wp2_with (go_at_call 105; refine HD.out.mono ?_; rintro e w' ⟨rfl, rfl⟩)
 go_wp2_with fail
 refine HA.out.mono ?_
 rintro e w1 ⟨y, rfl, hw1⟩
 have h1 : DBox w1 db size nb lb pend y a1 a2 := by rw [hw1]; exact set9_box HB.out
 have hm1 : MapI nb f w1 := by rw [hw1]; exact HM.out.same (Below.heap_setCell _ _ _ _ hne)
 have hg1 : w.grownBy w1 (some db) := by rw [hw1]; exact set6_grown _ _
 have hsz : w1.heap.size = w.heap.size := by rw [hw1]; simp [World.setCell]
 clear hw1
 have hl := hm1.look_ok Tryz.underlying81 (show (zeroValue 23).run Tryz.prog w1 = .ok (.slice none 0 0) w1 by kernel_rfl) hwf
 rw [hf] at hl
 have hcell := h1.cell.2.1
 have H1 := HoldT.mk h1
 have HG := HoldT.mk hg1
 have HS := HoldT.mk hsz
 have hl2 : (Instr.lookup 81 (.map (some nb)) (.int .i64 s) true).run Tryz.prog w1 = .ok (.tuple #[.slice none 0 0, .bool false]) w1 := hl
 clear h1 hg1 hm1 hl hm hf hc0 HD HA hsz
 go_wp2_with fail
 obtain ⟨w2, hmk, hown, hgr⟩ := run_make_zeros (base := w.heap.size) 256 (by omega) w1 (by rw [HS.out]; exact Nat.le_refl _)
 rw [show ((256 : Nat) : Int) = 256 from rfl] at hmk
 have hbl : Below w1.heap.size w1 w2 := ⟨hgr.os, hgr.tape, hgr.output, hgr.size, fun q hq => hgr.block q hq (by simp)⟩
 have HP : HoldT (ReadPost zeros256 db size nb lb pend a1 a2 (cf w) w (.returned (.tuple #[.slice (some ⟨w1.heap.size, 0, none⟩) 256 256, .int .i64 0])) w2) := ⟨⟨_, _, y, rfl, hown, zeros_row _, H1.out.below hbl, grown_below HG.out hbl⟩⟩
 clear hown hgr hbl
 rw [hmk]
 go_wp2_with fail
 go_ret2
 exact HP.out
end Go.Proofs.YtafilaiinbggoaaGreat
namespace Go.Proofs.YtafilaiinbggoaaGreat
open Go.RowKit Go.Maps
def RAny : Rep (Value × Value) := fun _ x d => d = [x.1, x.2]
theorem RAny_mono : Mono RAny := fun _ _ _ _ _ h => h
theorem infoWr : (Tryz.prog.info? 214).map (fun i => (i.zero, i.size, i.bytes)) = some (some (.agg #[.int .i64 0, .slice none 0 0]), 2, 32) := by kernel_rfl
theorem set7_box {w : World} {db : Nat} {size : Int} {nb lb : Nat} {pend : Value} {a0 a1 a2 y : Int} (h : DBox w db size nb lb pend a0 a1 a2) : DBox (w.setCell ⟨db, 7, none⟩ (.int .i64 y)) db size nb lb pend a0 y a2 := by
 have h1 := set_selfT (o := 7) (c := .int .i64 y) h
 unfold DBox
 rw [h1]
 rfl
theorem set3_box {w : World} {db : Nat} {size : Int} {nb lb : Nat} {pend p' : Value} {a0 a1 a2 : Int} (h : DBox w db size nb lb pend a0 a1 a2) : DBox (w.setCell ⟨db, 3, none⟩ p') db size nb lb p' a0 a1 a2 := by
 have h1 := set_selfT (o := 3) (c := p') h
 unfold DBox
 rw [h1]
 rfl
theorem own_keep {n : Nat} {α : Type} {R : Rep α} (hR : ∀ c c' x d, R c x d -> R c' x d) {B : Nat} {row : Option Nat} {w w' : World} {sl : Value} {p : Nat} {xs : List α} {cs : List Value} {T : TypeId} (h : OwnS n R T B w sl p xs cs) (hg : w.grownBy w' row) (hne : ∀ g, sl.ownBlock = some g -> row ≠ some g) : OwnS n R T B w' sl p xs cs :=
 ⟨h.own.kept hg (by
  cases e : sl.ownBlock with
  | none => exact .inl rfl
  | some g => exact .inr (fun e2 => hne g e e2.symm)), h.len, ⟨h.row.1, fun i x hx => by
   obtain ⟨d, h1, h2, h3⟩ := h.row.2 i x hx
   exact ⟨d, h1, h2, hR _ _ _ _ h3⟩⟩, Nat.le_trans h.le hg.size⟩
structure WritePost (s : Int) (b : Bts) (db : Nat) (size : Int) (nb lb : Nat) (pend : Value) (p : Nat) (xs : List (Value × Value)) (a0 a2 : Int) (f : Int -> Option Value) (w : World) (e : Ending) (w' : World) : Prop where
 ret : e = .returned (.int .i64 0)
 ex : ∃ sa sc y p4 cs, DBox w' db size nb lb p4 a0 y a2 /\ MapI nb (fun j => if j = s then some (.slice sa 256 sc) else f j) w' /\ OwnS 2 RAny 214 0 w' p4 (p + 1) (xs ++ [(.int .i64 s, .slice sa 256 sc)]) cs /\ (∀ g, p4.ownBlock = some g -> pend.ownBlock = some g \/ w.heap.size <= g) /\ ∃ ds, OwnS 1 RY 5 w.heap.size w' (.slice sa 256 sc) b.length b ds
 os : w'.os = w.os
 tape : w'.tape = w.tape
 output : w'.output = w.output
 size_ : w.heap.size <= w'.heap.size
 block : ∀ q, q < w.heap.size -> q ≠ db -> q ≠ nb -> pend.ownBlock ≠ some q -> w'.heap[q]? = w.heap[q]?
theorem own_shape {B : Nat} {w : World} {T : TypeId} {n m : Nat} {sv : Value} {cs : List Value} (h : w.ownsRow B T n sv m cs) : ∃ a cap, sv = .slice a m cap := by
 rcases id h.2 with ⟨hv, hn⟩ | ⟨g, cap, cur, hv, _⟩
 ·exact ⟨_, _, by rw [hv, hn]⟩
 ·exact ⟨_, _, hv⟩
set_option maxHeartbeats 4000000 in
set_option maxRecDepth 100000 in
theorem disk_write {w : World} {db : Nat} {size : Int} {nb lb : Nat} {pend : Value} {a0 a1 a2 : Int} {f : Int -> Option Value} {b : Bts} {va : Option Addr} {vc : Nat} {s : Int} (h : DBox w db size nb lb pend a0 a1 a2) (hm : MapI nb f w) (hne : nb ≠ db) (hs0 : 0 <= s) (hs1 : s < size) (hwf : WfI s)
  (hv : ∀ y, YAt (cf (w.setCell ⟨db, 7, none⟩ (.int .i64 y))) (.slice va 256 vc) b) (hb : b.length = 256) {l : List Int} (hdom : ∀ k, (f k).isSome = true -> k ∈ l) (hll : l.length <= 1000000) {p : Nat} {xs : List (Value × Value)} {cs : List Value} (hpd : OwnS 2 RAny 214 0 w pend p xs cs) (hp : p <= 1000000000) (hpb : ∀ g, pend.ownBlock = some g -> g ≠ db /\ g ≠ nb) :
  Calls Tryz.prog 124 #[.pointer (some ⟨db, 0, none⟩), .int .i64 s, .slice va 256 vc] w (WritePost s b db size nb lb pend p xs a0 a2 f w) := by
 have HD := HoldT.mk (disk_down h)
 have HU := HoldT.mk (disk_burn h)
 have HA := HoldT.mk (counter_add h.cell.2.2.2.2.2.2.1 (h.free 7))
 have hc0 := h.cell.1
 have HB := HoldT.mk h
 have HM := HoldT.mk hm
 have b1 : decide (s < 0) = false := decide_eq_false (by omega)
 have b2 : decide (size <= s) = false := decide_eq_false (by omega)
 go_enter Tryz.func124, Tryz.ntmps124
 go_wp2_with (go_at_call 105; refine HD.out.mono ?_; rintro e w' ⟨rfl, rfl⟩)
 go_wp2_with fail
 refine HU.out.mono ?_
 rintro e w' ⟨rfl, hww⟩
 subst hww
 go_wp2_with fail
 refine HA.out.mono ?_
 rintro e w1 ⟨y, rfl, hw1⟩
 have h1 : DBox w1 db size nb lb pend a0 y a2 := by rw [hw1]; exact set7_box HB.out
 have hm1 : MapI nb f w1 := by rw [hw1]; exact HM.out.same (Below.heap_setCell _ _ _ _ hne)
 have hv1 : YAt (cf w1) (.slice va 256 vc) b := by rw [hw1]; exact hv y
 have hp1 : OwnS 2 RAny 214 0 w1 pend p xs cs := by rw [hw1]; exact own_keep (fun _ _ _ _ h => h) hpd (set6_grown _ _) (fun g hg e => (hpb g hg).1 (Option.some.inj e).symm)
 have hsz1 : w1.heap.size = w.heap.size := by rw [hw1]; simp [World.setCell]
 have hg1 : w.grownBy w1 (some db) := by rw [hw1]; exact set6_grown _ _
 have hcell := h1.cell.2.1
 have hcell3 := h1.cell.2.2.1
 have HCL := HoldT.mk (cloneY_any b (.slice va 256 vc) (cf w1) w1 (fun _ _ _ h => h) hv1 (by omega))
 clear hw1 hv hc0 HD HA HU
 go_wp2_with fail
 refine HCL.out.mono ?_
 rintro e w2 ⟨sv, ds, rfl, ho, hgr, hbl⟩
 obtain ⟨sa, sc, rfl⟩ := own_shape ho
 have hm2 : MapI nb f w2 := hm1.same (hbl.block nb hm1.lt)
 have h2 := h1.below hbl
 obtain ⟨w3, hup, hm3, htu⟩ := hm2.put Tryz.underlying81 hwf (.slice sa 256 sc) hdom hll
 have hg3 := World.mapTurned.grown htu
 have h3 : DBox w3 db size nb lb pend a0 y a2 := (hg3.block db (heap_lt h2) (fun e => hne (by cases e; rfl))).trans h2
 have hcell4 := h3.cell.2.2.1
 have hcell5 := h3.cell.2.1
 have hp3 := own_keep (fun _ _ _ _ h => h) (hp1.quiet RAny_mono hbl) hg3 (fun g hg e => (hpb g hg).2 (Option.some.inj e).symm)
 have HO := HoldT.mk hp3
 clear hcell hcell3
 have hcell2 := h2.cell.2.1
 go_wp2_with (at_builtin; refine push_new RAny_mono rfl _ _ rfl infoWr Tryz.underlying82 rfl (by decide) 0 _ _ p _ _ HO.out rfl _ [_, _] rfl rfl (by simp [Value.oneCell']) (.int .i64 s, .slice sa 256 sc) rfl _ rfl rfl (by omega) (by decide) ?_)
 have hyo : OwnS 1 RY 5 w.heap.size w2 (.slice sa b.length sc) b.length b ds := ⟨by rw [<- hsz1]; exact ho, rfl, hgr, Nat.le_trans hg1.size hbl.size⟩
 have hlow : ∀ g, pend.ownBlock = some g -> g < w.heap.size := fun g hg => (hpd.low g hg).2
 have hy3 := own_keep (fun _ _ _ _ h => h) hyo hg3 (fun g hg e => by have := (hyo.low g hg).1; have := HM.out.lt; cases e; omega)
 have HX := HoldT.mk (And.intro hy3 (And.intro hm3 (And.intro h3 (And.intro hg3 (And.intro hbl (And.intro hg1 hsz1))))))
 clear hy3 hyo hm3 hg3 hbl hg1 hsz1 ho hgr hp3 hm2 h2 htu hup
 intro p4 w4 ho4 hg4
 obtain ⟨pa, pc, rfl⟩ := ho4.shape
 have h4 : DBox w4 db size nb lb pend a0 y a2 := hg4.kept h3 (fun g hg e => (hpb g hg).1 e.symm)
 have hfz := h4.free 3
 have hcell6 := h4.cell.2.2.1
 have HO4 := HoldT.mk (And.intro ho4 (And.intro hg4 h4))
 clear ho4 hg4 h4 h3
 go_wp2_with fail
 go_ret
 obtain ⟨hy3, hm3, h3, hg3, hbl, hg1, hsz1⟩ := HX.out
 obtain ⟨ho4, hg4, h4⟩ := HO4.out
 have e0 : (Value.slice sa b.length sc) = .slice sa 256 sc := by rw [hb]
 rw [e0] at hy3
 have g4 := hg4.by_
 have g5 : w4.grownBy (w4.setCell ⟨db, 3, none⟩ (.slice pa (p + 1) pc)) (some db) := set6_grown _ _
 have hs3 : w.heap.size <= w3.heap.size := Nat.le_trans hg1.size (Nat.le_trans hbl.size hg3.size)
 have hdb := heap_lt HB.out
 have hnb := HM.out.lt
 have hyl := hy3.low
 have hy4 := own_keep (fun _ _ _ _ h => h) hy3 g4 (fun g hg e => by have := (hyl g hg).1; have := hlow g e; omega)
 have hy5 := own_keep (fun _ _ _ _ h => h) hy4 g5 (fun g hg e => by have := (hyl g hg).1; cases e; omega)
 have hnew := hg4.2
 refine ⟨rfl, ⟨sa, sc, y, .slice pa (p + 1) pc, _, set3_box h4, ?_, own_keep (fun _ _ _ _ h => h) ho4 g5 (fun g hg e => ?_), fun g hg => ?_, ds, hy5⟩, ?_, ?_, ?_, ?_, fun q hq h6 h7 h8 => ?_⟩
 ·exact (hm3.same (g4.block nb hm3.lt (fun e => (hpb nb e.symm).2 rfl))).same (Below.heap_setCell _ _ _ _ hne)
 ·rcases hnew g hg with h5 | h5
  ·exact (hpb g h5).1 (Option.some.inj e).symm
  ·cases e; omega
 ·rcases hnew g hg with h5 | h5
  ·exact .inl h5
  ·exact .inr (by omega)
 ·exact g5.os.trans (g4.os.trans (hg3.os.trans (hbl.os.trans hg1.os)))
 ·exact g5.tape.trans (g4.tape.trans (hg3.tape.trans (hbl.tape.trans hg1.tape)))
 ·exact g5.output.trans (g4.output.trans (hg3.output.trans (hbl.output.trans hg1.output)))
 ·exact Nat.le_trans hs3 (Nat.le_trans g4.size g5.size)
 ·have q1 := hg1.block q hq (fun e => h6 (Option.some.inj e))
  have q2 := hbl.block q (by omega)
  have q3 := hg3.block q (by have := hbl.size; omega) (fun e => h7 (Option.some.inj e))
  have q4 := g4.block q (by omega) (fun e => h8 e.symm)
  have q5 := g5.block q (by have := g4.size; omega) (fun e => h6 (Option.some.inj e))
  exact q5.trans (q4.trans (q3.trans (q2.trans q1)))
end Go.Proofs.YtafilaiinbggoaaGreat
namespace Go.Proofs.YtafilaiinbggoaaGreat
open Go.RowKit Go.Maps
def PBox (w : World) (pb db : Nat) (from_ pool : Int) (isv : Value) (fm : Nat) (uv : Value) : Prop :=
 w.heap[pb]? = some (.cells #[.pointer (some ⟨db, 0, none⟩), .int .i64 from_, .int .i64 pool, isv, .map (some fm), uv, .bool false] 96 (0, 0))
theorem PBox.cell {w : World} {pb db : Nat} {from_ pool : Int} {isv : Value} {fm : Nat} {uv : Value} (h : PBox w pb db from_ pool isv fm uv) :
  w.cell? ⟨pb, 0, none⟩ = some (.pointer (some ⟨db, 0, none⟩)) /\ w.cell? ⟨pb, 1, none⟩ = some (.int .i64 from_) /\ w.cell? ⟨pb, 2, none⟩ = some (.int .i64 pool) /\ w.cell? ⟨pb, 3, none⟩ = some isv /\ w.cell? ⟨pb, 4, none⟩ = some (.map (some fm)) /\ w.cell? ⟨pb, 5, none⟩ = some uv /\ w.cell? ⟨pb, 6, none⟩ = some (.bool false) := by
 unfold PBox at h
 refine ⟨?_, ?_, ?_, ?_, ?_, ?_, ?_⟩ <;> simp [World.cell?, h]
theorem PBox.free {w : World} {pb db : Nat} {from_ pool : Int} {isv : Value} {fm : Nat} {uv : Value} (h : PBox w pb db from_ pool isv fm uv) (i : Nat) : w.frozen? ⟨pb, i, none⟩ = false := by
 unfold PBox at h
 simp [World.frozen?, h]
def IsRow (w : World) (ib : Nat) (is : List Nat) : Prop := w.heap[ib]? = some (.cells (is.map fun (s : Nat) => Value.int .i64 (s : Int)).toArray 97 (0, 0))
theorem IsRow.cell {w : World} {ib : Nat} {is : List Nat} (h : IsRow w ib is) {n s : Nat} (hn : is[n]? = some s) : w.cell? ⟨ib, n, none⟩ = some (.int .i64 (s : Int)) := by
 unfold IsRow at h
 simp [World.cell?, h, hn]
set_option maxHeartbeats 400000 in
theorem pages_lost {w : World} {pb db : Nat} {from_ pool : Int} {isv : Value} {fm : Nat} {uv : Value} (h : PBox w pb db from_ pool isv fm uv) :
  Calls Tryz.prog 82 #[.pointer (some ⟨pb, 0, none⟩)] w fun e w' => e = .returned (.bool false) /\ w' = w := by
 have hc := h.cell.2.2.2.2.2.2
 clear h
 go_enter Tryz.func82, Tryz.ntmps82
 go_wp2
 go_ret
 exact ⟨rfl, rfl⟩
set_option maxHeartbeats 1000000 in
theorem pages_of {w : World} {pb db ib : Nat} {from_ pool : Int} {is : List Nat} {fm : Nat} {uv : Value} {n s : Nat} (h : PBox w pb db from_ pool (.slice (some ⟨ib, 0, none⟩) is.length is.length) fm uv) (hi : IsRow w ib is) (hn : is[n]? = some s) :
  Calls Tryz.prog 81 #[.pointer (some ⟨pb, 0, none⟩), .int .i64 (n : Int)] w fun e w' => e = .returned (.int .i64 (s : Int)) /\ w' = w := by
 have hc := h.cell.2.2.2.1
 have hlt := (List.getElem?_eq_some_iff.1 hn).1
 have hv := hi.cell hn
 have b1 : decide ((n : Int) < 0) = false := decide_eq_false (by omega)
 have b2 : decide ((is.length : Int) <= (n : Int)) = false := decide_eq_false (by omega)
 have b3 : (n : Int) < (is.length : Int) := by omega
 clear h hi hn
 go_enter Tryz.func81, Tryz.ntmps81
 go_wp2
 go_ret
 exact ⟨rfl, rfl⟩
set_option maxHeartbeats 1000000 in
theorem pages_fresh {w : World} {pb db ib : Nat} {from_ pool : Int} {is : List Nat} {fm : Nat} {uv : Value} {n s : Nat} (h : PBox w pb db from_ pool (.slice (some ⟨ib, 0, none⟩) is.length is.length) fm uv) (hi : IsRow w ib is) (hn : is[n]? = some s) :
  Calls Tryz.prog 53 #[.pointer (some ⟨pb, 0, none⟩), .int .i64 (n : Int)] w fun e w' => e = .returned (.bool (decide (s = 2))) /\ w' = w := by
 have HO := Lib.hid (pages_of h hi hn)
 have e1 : ((s : Int) == 2) = decide (s = 2) := by
  by_cases e : s = 2
  ·subst e; rfl
  ·rw [decide_eq_false e, beq_eq_false_iff_ne]; omega
 clear h hi hn
 go_enter Tryz.func53, Tryz.ntmps53
 go_wp2_with (go_at_call 81; refine HO.out.mono ?_; rintro e w' ⟨rfl, rfl⟩)
 go_ret
 refine ⟨?_, rfl⟩
 rw [<- e1]
 rfl
end Go.Proofs.YtafilaiinbggoaaGreat
namespace Go.Proofs.YtafilaiinbggoaaGreat
open Go.RowKit Go.Maps
theorem count_take (is : List Nat) {j s : Nat} (h : is[j]? = some s) : (is.take (j + 1)).countP (fun s => s == 0) = (is.take j).countP (fun s => s == 0) + if s = 0 then 1 else 0 := by
 rw [List.take_add_one, h, List.countP_append]
 by_cases e : s = 0
 ·subst e; rfl
 ·simp [e]
set_option maxHeartbeats 4000000 in
set_option maxRecDepth 100000 in
theorem pages_room {w : World} {pb db ib : Nat} {from_ pool : Int} {is : List Nat} {fm : Nat} {uv : Value} (h : PBox w pb db from_ pool (.slice (some ⟨ib, 0, none⟩) is.length is.length) fm uv) (hi : IsRow w ib is) (hl : is.length <= 1000000) :
  Calls Tryz.prog 47 #[.pointer (some ⟨pb, 0, none⟩)] w fun e w' => e = .returned (.int .i64 ((is.countP (fun s => s == 0) : Nat) : Int)) /\ w' = w := by
 have hc := h.cell.2.2.2.1
 have HI := HoldT.mk hi
 have HL := HoldT.mk hl
 clear h hi hl
 go_enter Tryz.func47, Tryz.ntmps47
 go_wp2
 go_loopw [3, 5, 13] (fun c x i wr => ∃ j : Nat, i = .int .i64 j /\ j <= is.length /\ c = .int .i64 (((is.take j).countP (fun s => s == 0) : Nat) : Int) /\ wr = w) (fun _ _ i _ => is.length - (intOf i).toNat)
 case atStart => exact ⟨0, rfl, Nat.zero_le _, rfl, rfl⟩
 case round =>
  obtain ⟨j, rfl, hj, rfl, rfl⟩ := hrel
  have hlen := HL.out
  by_cases hlt : j < is.length
  ·obtain ⟨s, hs⟩ : ∃ s, is[j]? = some s := ⟨is[j], List.getElem?_eq_getElem hlt⟩
   have hv := HI.out.cell hs
   have b1 : decide ((j : Int) < (is.length : Int)) = true := decide_eq_true (by omega)
   have b3 : (j : Int) < (is.length : Int) := by omega
   have hct := count_take is hs
   have hle : (is.take j).countP (fun s => s == 0) <= 1000000 := Nat.le_trans List.countP_le_length (by rw [List.length_take]; have := HL.out; omega)
   by_cases h0 : s = 0
   ·have e1 : ((s : Int) == 0) = true := by rw [h0]; rfl
    rw [h0, if_pos rfl] at hct
    go_wp2_with fail
    exact ⟨⟨j + 1, by go_num, hlt, by rw [hct]; go_num, trivial⟩, by simp [intOf]; omega⟩
   ·have e1 : ((s : Int) == 0) = false := by rw [beq_eq_false_iff_ne]; omega
    rw [if_neg h0, Nat.add_zero] at hct
    go_wp2_with fail
    exact ⟨⟨j + 1, by go_num, hlt, by rw [hct]; rfl, trivial⟩, by simp [intOf]; omega⟩
  ·obtain rfl : j = is.length := by omega
   rw [List.take_of_length_le (Nat.le_refl _)]
   go_wp2_with fail
   go_ret
   exact ⟨rfl, rfl⟩
end Go.Proofs.YtafilaiinbggoaaGreat
