import Derived.Test.YtafilaiinbggoaaGreatQT01
import Derived.Test.YtafilaiinbggoaaGreatQT09
import Derived.Test.YtafilaiinbggoaaGreatQT10
import Derived.Lib.Hide
import Derived.StillTailTactics
import Derived.Laws.LoneSync
import Derived.Lib.Bytealg
import Derived.Lib.BytesEntry
namespace Go.Proofs.YtafilaiinbggoaaGreat
open Go.RowKit Go.Maps Go.WideMaps
set_option maxHeartbeats 400000 in
theorem disk_new (n : Int) (w : World) (h0 : 0 <= n) (h1 : n <= 60000) :
  Calls Tryz.prog 11 #[.int .i64 n] w fun e w' => e = .returned (.pointer (some ⟨w.heap.size+2, 0, none⟩)) /\
   w' = ((w.alloc (.map #[] 0)).alloc (.map #[] 0)).alloc (.cells #[.int .i64 n, .map (some w.heap.size), .map (some (w.heap.size + 1)), .slice none 0 0, .int .i64 (-1), .bool false, .int .i64 0, .int .i64 0, .int .i64 0] 90) := by
 have hmm := @run_makeMap Tryz.prog
 have e1 : (if n < 0 then (0 : Int) else n) = n := if_neg (by omega)
 have e2 : min (max n 0) 65536 = n := by omega
 go_enter Tryz.func11, Tryz.ntmps11
 go_wp2
 go_ret
 exact ⟨rfl, rfl⟩
def DBox (w : World) (db : Nat) (size : Int) (nb lb : Nat) (pend : Value) (a0 a1 a2 : Int) : Prop :=
 w.heap[db]? = some (.cells #[.int .i64 size, .map (some nb), .map (some lb), pend, .int .i64 (-1), .bool false, .int .i64 a0, .int .i64 a1, .int .i64 a2] 90 (0, 0))
theorem DBox.cell {w : World} {db : Nat} {size : Int} {nb lb : Nat} {pend : Value} {a0 a1 a2 : Int} (h : DBox w db size nb lb pend a0 a1 a2) :
  w.cell? ⟨db, 0, none⟩ = some (.int .i64 size) /\ w.cell? ⟨db, 1, none⟩ = some (.map (some nb)) /\ w.cell? ⟨db, 3, none⟩ = some pend /\ w.cell? ⟨db, 4, none⟩ = some (.int .i64 (-1)) /\ w.cell? ⟨db, 5, none⟩ = some (.bool false) /\ w.cell? ⟨db, 6, none⟩ = some (.int .i64 a0) /\ w.cell? ⟨db, 7, none⟩ = some (.int .i64 a1) /\ w.cell? ⟨db, 8, none⟩ = some (.int .i64 a2) := by
 unfold DBox at h
 refine ⟨?_, ?_, ?_, ?_, ?_, ?_, ?_, ?_⟩ <;> simp [World.cell?, h]
theorem DBox.free {w : World} {db : Nat} {size : Int} {nb lb : Nat} {pend : Value} {a0 a1 a2 : Int} (h : DBox w db size nb lb pend a0 a1 a2) (i : Nat) : w.frozen? ⟨db, i, none⟩ = false := by
 unfold DBox at h
 simp [World.frozen?, h]
set_option maxHeartbeats 400000 in
theorem disk_size {w : World} {db : Nat} {size : Int} {nb lb : Nat} {pend : Value} {a0 a1 a2 : Int} (h : DBox w db size nb lb pend a0 a1 a2) :
  Calls Tryz.prog 27 #[.pointer (some ⟨db, 0, none⟩)] w fun e w' => e = .returned (.int .i64 size) /\ w = w' := by
 have hc := h.cell.1
 clear h
 go_enter Tryz.func27, Tryz.ntmps27
 go_wp2
 go_ret
 exact ⟨rfl, rfl⟩
set_option maxHeartbeats 400000 in
theorem disk_down {w : World} {db : Nat} {size : Int} {nb lb : Nat} {pend : Value} {a0 a1 a2 : Int} (h : DBox w db size nb lb pend a0 a1 a2) :
  Calls Tryz.prog 105 #[.pointer (some ⟨db, 0, none⟩)] w fun e w' => e = .returned (.bool false) /\ w = w' := by
 have hc := h.cell.2.2.2.2.1
 clear h
 go_enter Tryz.func105, Tryz.ntmps105
 go_wp2
 go_ret
 exact ⟨rfl, rfl⟩
set_option maxHeartbeats 400000 in
theorem disk_burn {w : World} {db : Nat} {size : Int} {nb lb : Nat} {pend : Value} {a0 a1 a2 : Int} (h : DBox w db size nb lb pend a0 a1 a2) :
  Calls Tryz.prog 132 #[.pointer (some ⟨db, 0, none⟩)] w fun e w' => e = .returned (.bool true) /\ w = w' := by
 have hc := h.cell.2.2.2.1
 clear h
 go_enter Tryz.func132, Tryz.ntmps132
 go_wp2
 go_ret
 exact ⟨rfl, rfl⟩
end Go.Proofs.YtafilaiinbggoaaGreat
namespace Go.Proofs.YtafilaiinbggoaaGreat
open Go.RowKit
set_option maxHeartbeats 1000000 in
set_option maxRecDepth 100000 in
theorem counter_add {w : World} {b i : Nat} {x : Int} (hc : w.cell? ⟨b, i, none⟩ = some (.int .i64 x)) (hz : w.frozen? ⟨b, i, none⟩ = false) :
  Calls Tryz.prog 106 #[.pointer (some ⟨b, i, none⟩), .int .i64 1] w fun e w' => ∃ y, e = .returned (.int .i64 y) /\ w' = w.setCell ⟨b, i, none⟩ (.int .i64 y) := by
 have HC := Lib.hid hc
 have HZ := Lib.hid hz
 clear hc hz
 go_enter Tryz.func106, Tryz.ntmps106
 go_wp2
 rw [run_call_add Tryz.func125 (by kernel_rfl) (by kernel_rfl) (by kernel_rfl) .i64 (by kernel_rfl) HC.out HZ.out (s := IntKind.i64.wrap (x + 1)) rfl]
 rw [Oper.upon_value]
 go_wp2
 go_ret
 exact ⟨_, rfl, rfl⟩
end Go.Proofs.YtafilaiinbggoaaGreat
namespace Go.Proofs.YtafilaiinbggoaaGreat
open Go.RowKit
def BytesAt (c : CF) (v : Value) (l : List UInt8) : Prop :=
 ∃ a cap, v = .slice a l.length cap /\ l.length <= 9223372036854775807 /\ ∀ (i : Nat) x, l[i]? = some x -> ∃ b off, a = some ⟨b, off, none⟩ /\ c b (off + i) = some (.int .u8 (x.toNat : Int))
theorem BytesAt.mono {c d : CF} {v : Value} {l : List UInt8} (h : BytesAt c v l) (hl : CLe c d) : BytesAt d v l := by
 obtain ⟨a, cap, hv, hm, hs⟩ := h
 refine ⟨a, cap, hv, hm, fun i s hi => ?_⟩
 obtain ⟨b, off, h2, h3⟩ := hs i s hi
 exact ⟨b, off, h2, hl _ _ _ h3⟩
theorem compareB_lex : ∀ l m : List UInt8, Lib.compareBytes l m = lexC l m
 | [], [] => rfl
 | [], _ :: _ => rfl
 | _ :: _, [] => rfl
 | a :: l, b :: m => by
  rw [Lib.compareBytes, lexC, compareB_lex l m]
  simp only [UInt8.lt_iff_toNat_lt]
theorem run_bytesB {P : Program} {w : World} {v : Value} {l : List UInt8} (h : BytesAt (cf w) v l) : (Extern.Bytes.bytesOf v).run P w = .ok ⟨l.toArray⟩ w := by
 obtain ⟨a, cap, rfl, _, hc⟩ := h
 have hxs : Lib.bytesOf (l.map fun x => (x.toNat : Int)) = l := by
  unfold Lib.bytesOf
  rw [List.map_map]
  conv => rhs; rw [<- List.map_id l]
  exact List.map_congr_left fun x _ => by simp
 cases a with
 | none =>
  have : l = [] := by
   cases l with
   | nil => rfl
   | cons x l => obtain ⟨b, off, e, _⟩ := hc 0 x rfl; cases e
  subst this
  rfl
 | some a =>
  have hl := Lib.run_loadBytesX (P := P) w (l.map fun x => (x.toNat : Int)) a .empty (fun j x hj => by
   rw [List.getElem?_map] at hj
   cases hx : l[j]? with
   | none => rw [hx] at hj; cases hj
   | some y =>
    rw [hx] at hj
    cases hj
    obtain ⟨b, off, e, hcell⟩ := hc j y hx
    cases e
    have e : (⟨b, off, Option.none⟩ : Addr).add j = ⟨b, off + j, Option.none⟩ := by unfold Addr.add; split <;> simp_all
    rw [e]
    exact hcell)
  rw [List.length_map, hxs] at hl
  show (Extern.Bytes.loadBytes a l.length .empty).run P w = _
  rw [hl]
  congr 1
  apply ByteArray.ext
  show (#[] : Array UInt8) ++ l.toArray = l.toArray
  simp
theorem run_compareB {P : Program} {w : World} {u v : Value} {l m : List UInt8} (hu : BytesAt (cf w) u l) (hv : BytesAt (cf w) v m) : (Extern.BytealgCompare.compare #[u, v]).run P w = .ok (.int .i64 (lexC l m)) w := by
 change Sem.run P (do pure (goInt (Extern.BytealgCompare.cmp (<- Extern.Bytes.bytesOf u) (<- Extern.Bytes.bytesOf v)))) w = _
 simp only [Sem.run_bind, run_bytesB hu, run_bytesB hv, Sem.run_pure, Result.andThen]
 rw [Lib.cmp_eq, compareB_lex]
 rfl
set_option maxHeartbeats 1000000 in
set_option maxRecDepth 100000 in
theorem CompareB_any (l m : List UInt8) (u v : Value) (w : World) (hu : BytesAt (cf w) u l) (hv : BytesAt (cf w) v m) :
  Calls Tryz.prog 60 #[u, v] w fun e w' => e = .returned (.int .i64 (lexC l m)) /\ w' = w := by
 have HU := Lib.hid hu
 have HV := Lib.hid hv
 clear hu hv
 go_enter Tryz.func60, Tryz.ntmps60
 go_wp2
 rw [run_callFunc_extern Tryz.func89 (by kernel_rfl) (by kernel_rfl) (by kernel_rfl) (e := Extern.BytealgCompare.compare) (by kernel_rfl), run_compareB HU.out HV.out]
 simp only [Result.andThen]
 rw [Oper.upon_value]
 go_wp2
 go_ret
 exact ⟨rfl, rfl⟩
end Go.Proofs.YtafilaiinbggoaaGreat
namespace Go.Proofs.YtafilaiinbggoaaGreat
open Go.RowKit
structure HoldT (p : Prop) : Prop where
 out : p
def RY : Rep UInt8 := fun _ x d => d = [.int .u8 (x.toNat : Int)]
theorem RY_mono : Mono RY := fun _ _ _ _ _ h => h
theorem RY_one : ∀ (c : CF) (x : UInt8) (d : List Value), RY c x d -> ∀ u ∈ d, u.oneCell' = true := fun _ _ _ h u hu => by rw [h] at hu; simp at hu; rw [hu]; rfl
def RI : Rep Int := fun _ x d => d = [.int .i64 x]
theorem RI_mono : Mono RI := fun _ _ _ _ _ h => h
theorem RI_one : ∀ (c : CF) (x : Int) (d : List Value), RI c x d -> ∀ u ∈ d, u.oneCell' = true := fun _ _ _ h u hu => by rw [h] at hu; simp at hu; rw [hu]; rfl
def ClonePost {α : Type} (n : Nat) (R : Rep α) (T : TypeId) (c : CF) (xs : List α) (w : World) (e : Ending) (w' : World) : Prop := ∃ sv cs, e = .returned sv /\ w'.ownsRow w.heap.size T n sv xs.length cs /\ GRow n R c xs cs /\ Below w.heap.size w w'
theorem clone_post {α : Type} {n : Nat} {R : Rep α} {T : TypeId} {c : CF} {xs : List α} {w w' : World} {sv : Value} {cs : List Value} (hown : w'.ownsRow w.heap.size T n sv xs.length cs) (hg : GRow n R c xs cs) (hb : Below w.heap.size w w') : ClonePost n R T c xs w (.returned sv) w' :=
 ⟨sv, cs, rfl, hown, hg, hb⟩
theorem infoY : (Tryz.prog.info? 5).map (fun i => (i.zero, i.size, i.bytes)) = some (some (.int .u8 0), 1, 1) := by kernel_rfl
set_option maxRecDepth 100000 in
set_option maxHeartbeats 8000000 in
theorem cloneY_any (xs : List UInt8) (sv : Value) (c : CF) (w : World) (hcl : CLe c (cf w)) (hl : SAt 1 RY c sv xs) (hlen : xs.length <= 1000000) :
  Calls Tryz.prog 29 #[sv] w (ClonePost 1 RY 5 c xs w) := by
 obtain ⟨i0, hi, hz0, hz1, hz2⟩ := info_parts infoY
 have HI := HoldT.mk (And.intro hi (And.intro hz0 (And.intro hz1 hz2)))
 have HLEN := HoldT.mk hlen
 have q22 : ∀ (w : World) (a : Option Addr) (n c n' c' : Nat), (binOp .eql 23 (.slice a n c) (.slice none n' c')).run Tryz.prog w = .ok (.bool a.isNone) w := fun w a n c n' c' => Lib.run_eql_slice_nil w _ _ a n c n' c' Tryz.underlying23
 clear hi hz0 hz1 hz2 hlen
 by_cases h0 : 0 < xs.length
 ·obtain ⟨b, off, cap, news, rfl, hg, hc, ho⟩ := sat_cells RY_one hl h0
  have HG := HoldT.mk hg
  have HGL := HoldT.mk hg.1
  have HC : HoldT (∀ (j : Nat) u, news[j]? = some u -> (w.alloc (.cells #[] 5)).cell? (Addr.add ⟨b, off, none⟩ j) = some u) := ⟨fun j u hu => by
   have h := hcl _ _ _ (hc j u hu)
   unfold cf at h
   have e : Addr.add ⟨b, off, none⟩ j = ⟨b, off + j, none⟩ := by unfold Addr.add; split <;> simp_all
   rw [e]; exact Lib.cell?_alloc_some _ h⟩
  have H1 := HoldT.mk ho
  clear hg hc ho hl
  go_enter Tryz.func29, Tryz.ntmps29
  go_wp2_with (at_builtin; refine wpList_append_own _ rfl _ _ 23 rfl w.heap.size 5 i0 (.int .u8 0) 1 1 Tryz.underlying23 HI.out.1 HI.out.2.1 HI.out.2.2.1 HI.out.2.2.2 rfl (by decide) _ _ _ rfl (World.ownsRow_made w #[] 0 (Nat.le_refl _) (Nat.zero_le _) (by simp)) ⟨b, off, none⟩ xs.length cap news rfl ?qc1 ?qc2 ?qc3 ?qc4 ?qc5 ?qc6 ?_)
  case qc1 => exact HGL.out
  case qc2 => exact HC.out
  case qc3 => exact H1.out
  case qc4 => have := HLEN.out; unfold maxLen; omega
  case qc5 => have := HLEN.out; omega
  case qc6 => simp
  intro v' w1 hown hgrow hnil
  have hb := ((Below.refl _ w).alloc (Nat.le_refl _) (.cells #[] 5)).grown hgrow (by simp) (by intro k hk; simp [Value.ownBlock] at hk; omega)
  have HP : HoldT (ClonePost 1 RY 5 c xs w (.returned v') w1) := ⟨clone_post (by simpa using hown) HG.out hb⟩
  clear hown hgrow hb
  go_wp2_with fail
  go_ret
  exact HP.out
 ·obtain rfl : xs = [] := List.length_eq_zero_iff.1 (by omega)
  obtain ⟨a, cap, rfl, hle, _⟩ := hl
  have HP0 : HoldT (ClonePost 1 RY 5 c ([] : List UInt8) w (.returned (.slice none 0 0)) w) := ⟨clone_post (World.ownsRow_nil _ _ _ _) (GRow.nil _ _ _) (Below.refl _ _)⟩
  cases a with
  | none =>
   go_enter Tryz.func29, Tryz.ntmps29
   go_wp2_with fail
   go_ret
   exact HP0.out
  | some a =>
   go_enter Tryz.func29, Tryz.ntmps29
   go_wp2_with (at_builtin; refine wpList_append_own _ rfl _ _ 23 rfl w.heap.size 5 i0 (.int .u8 0) 1 1 Tryz.underlying23 HI.out.1 HI.out.2.1 HI.out.2.2.1 HI.out.2.2.2 rfl (by decide) _ _ _ rfl (World.ownsRow_made w #[] 0 (Nat.le_refl _) (Nat.zero_le _) (by simp)) a 0 cap [] rfl ?qc1 ?qc2 ?qc3 ?qc4 ?qc5 ?qc6 ?_)
   case qc1 => rfl
   case qc2 => intro j u hj; simp at hj
   case qc3 => intro u hu; simp at hu
   case qc4 => unfold maxLen; omega
   case qc5 => omega
   case qc6 => simp
   intro v' w1 hown hgrow hnil
   have hb := ((Below.refl _ w).alloc (Nat.le_refl _) (.cells #[] 5)).grown hgrow (by simp) (by intro k hk; simp [Value.ownBlock] at hk; omega)
   have HP : HoldT (ClonePost 1 RY 5 c ([] : List UInt8) w (.returned v') w1) := ⟨clone_post (by simpa using hown) (GRow.nil _ _ _) hb⟩
   clear hown hgrow hb
   go_wp2_with fail
   go_ret
   exact HP.out
theorem infoI : (Tryz.prog.info? 3).map (fun i => (i.zero, i.size, i.bytes)) = some (some (.int .i64 0), 1, 8) := by kernel_rfl
set_option maxRecDepth 100000 in
set_option maxHeartbeats 8000000 in
theorem cloneI_any (xs : List Int) (sv : Value) (c : CF) (w : World) (hcl : CLe c (cf w)) (hl : SAt 1 RI c sv xs) (hlen : xs.length <= 1000000) :
  Calls Tryz.prog 99 #[sv] w (ClonePost 1 RI 3 c xs w) := by
 obtain ⟨i0, hi, hz0, hz1, hz2⟩ := info_parts infoI
 have HI := HoldT.mk (And.intro hi (And.intro hz0 (And.intro hz1 hz2)))
 have HLEN := HoldT.mk hlen
 have q22 : ∀ (w : World) (a : Option Addr) (n c n' c' : Nat), (binOp .eql 91 (.slice a n c) (.slice none n' c')).run Tryz.prog w = .ok (.bool a.isNone) w := fun w a n c n' c' => Lib.run_eql_slice_nil w _ _ a n c n' c' Tryz.underlying91
 clear hi hz0 hz1 hz2 hlen
 by_cases h0 : 0 < xs.length
 ·obtain ⟨b, off, cap, news, rfl, hg, hc, ho⟩ := sat_cells RI_one hl h0
  have HG := HoldT.mk hg
  have HGL := HoldT.mk hg.1
  have HC : HoldT (∀ (j : Nat) u, news[j]? = some u -> (w.alloc (.cells #[] 3)).cell? (Addr.add ⟨b, off, none⟩ j) = some u) := ⟨fun j u hu => by
   have h := hcl _ _ _ (hc j u hu)
   unfold cf at h
   have e : Addr.add ⟨b, off, none⟩ j = ⟨b, off + j, none⟩ := by unfold Addr.add; split <;> simp_all
   rw [e]; exact Lib.cell?_alloc_some _ h⟩
  have H1 := HoldT.mk ho
  clear hg hc ho hl
  go_enter Tryz.func99, Tryz.ntmps99
  go_wp2_with (at_builtin; refine wpList_append_own _ rfl _ _ 91 rfl w.heap.size 3 i0 (.int .i64 0) 1 8 Tryz.underlying91 HI.out.1 HI.out.2.1 HI.out.2.2.1 HI.out.2.2.2 rfl (by decide) _ _ _ rfl (World.ownsRow_made w #[] 0 (Nat.le_refl _) (Nat.zero_le _) (by simp)) ⟨b, off, none⟩ xs.length cap news rfl ?qc1 ?qc2 ?qc3 ?qc4 ?qc5 ?qc6 ?_)
  case qc1 => exact HGL.out
  case qc2 => exact HC.out
  case qc3 => exact H1.out
  case qc4 => have := HLEN.out; unfold maxLen; omega
  case qc5 => have := HLEN.out; omega
  case qc6 => simp
  intro v' w1 hown hgrow hnil
  have hb := ((Below.refl _ w).alloc (Nat.le_refl _) (.cells #[] 3)).grown hgrow (by simp) (by intro k hk; simp [Value.ownBlock] at hk; omega)
  have HP : HoldT (ClonePost 1 RI 3 c xs w (.returned v') w1) := ⟨clone_post (by simpa using hown) HG.out hb⟩
  clear hown hgrow hb
  go_wp2_with fail
  go_ret
  exact HP.out
 ·obtain rfl : xs = [] := List.length_eq_zero_iff.1 (by omega)
  obtain ⟨a, cap, rfl, hle, _⟩ := hl
  have HP0 : HoldT (ClonePost 1 RI 3 c ([] : List Int) w (.returned (.slice none 0 0)) w) := ⟨clone_post (World.ownsRow_nil _ _ _ _) (GRow.nil _ _ _) (Below.refl _ _)⟩
  cases a with
  | none =>
   go_enter Tryz.func99, Tryz.ntmps99
   go_wp2_with fail
   go_ret
   exact HP0.out
  | some a =>
   go_enter Tryz.func99, Tryz.ntmps99
   go_wp2_with (at_builtin; refine wpList_append_own _ rfl _ _ 91 rfl w.heap.size 3 i0 (.int .i64 0) 1 8 Tryz.underlying91 HI.out.1 HI.out.2.1 HI.out.2.2.1 HI.out.2.2.2 rfl (by decide) _ _ _ rfl (World.ownsRow_made w #[] 0 (Nat.le_refl _) (Nat.zero_le _) (by simp)) a 0 cap [] rfl ?qc1 ?qc2 ?qc3 ?qc4 ?qc5 ?qc6 ?_)
   case qc1 => rfl
   case qc2 => intro j u hj; simp at hj
   case qc3 => intro u hu; simp at hu
   case qc4 => unfold maxLen; omega
   case qc5 => omega
   case qc6 => simp
   intro v' w1 hown hgrow hnil
   have hb := ((Below.refl _ w).alloc (Nat.le_refl _) (.cells #[] 3)).grown hgrow (by simp) (by intro k hk; simp [Value.ownBlock] at hk; omega)
   have HP : HoldT (ClonePost 1 RI 3 c ([] : List Int) w (.returned v') w1) := ⟨clone_post (by simpa using hown) (GRow.nil _ _ _) hb⟩
   clear hown hgrow hb
   go_wp2_with fail
   go_ret
   exact HP.out
end Go.Proofs.YtafilaiinbggoaaGreat
