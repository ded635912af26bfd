/- Indexes: Same of the reference. -/
import Derived.Test.YticlnijkfclgcaaGreatDoorZ01
import Derived.Test.YticlnijkfclgcaaGreatDoorZ02
import Derived.Test.YticlnijkfclgcaaGreatDoorZ03
import Derived.Test.YticlnijkfclgcaaGreatDoorZ09
import Derived.Test.YticlnijkfclgcaaGreatDoorZ22
import Derived.Test.YticlnijkfclgcaaGreatDoorZ26
import Derived.Test.YticlnijkfclgcaaGreatDoorZ32
import Derived.Test.YticlnijkfclgcaaGreatDoorZ34
import Derived.Test.YticlnijkfclgcaaGreatDoorZ35
import Derived.Test.YticlnijkfclgcaaGreatDoorZ37
namespace Go.Proofs.YticlnijkfclgcaaGreatDoor
open Go.RowKit

theorem twoEM (w : World) (o0 o1 : Obj) : ∃ W, W = ((w.alloc o0).alloc o1) ∧ Below w.heap.size w W ∧ W.heap[w.heap.size]? = some o0 ∧ W.heap[w.heap.size + 1]? = some o1 :=
  ⟨_, rfl, ((Below.refl _ w).alloc (Nat.le_refl _) o0).alloc (by simp) o1, kept (heap_alloc_new w o0) ((Below.refl _ _).alloc (Nat.le_refl _) o1), by have := heap_alloc_new (w.alloc o0) o1; simpa using this⟩
end Go.Proofs.YticlnijkfclgcaaGreatDoor

/- Catalogs: a row as a value (printed by genXCBB.py). -/
namespace Go.Proofs.YticlnijkfclgcaaGreatDoor
open Go.Shelf Go.RowKit

def intJ (n : Int) : JV := .mk 3 n ⟨#[]⟩ [] []
def rowJ (s : ByteArray) (sp : Int) (more : List JV) : JV := .mk 5 0 ⟨#[]⟩ [] (strJ s :: intJ sp :: more)
def rowsX (x : CX) : List JV := rowJ x.name x.sp [] :: x.ixs.map fun p => rowJ x.name p.sp [showJ p.ix]
/-- a catalog's value -/
def showC (l : List CX) : JV := .mk 5 0 ⟨#[]⟩ [] (l.flatMap rowsX)
/-- a value that lies as it lay in w, from block B0 on -/
def RJ (B0 : Nat) (w : World) : Rep JV := fun _ x d => d.length = 5 ∧ JAt (cfA B0 w) x (.agg d.toArray)
theorem RJ_mono {B0 : Nat} {w : World} : Mono (RJ B0 w) := fun _ _ _ _ _ h => h
theorem RJ_one {B0 : Nat} {w : World} : ∀ (c : CF) (x : JV) (d : List Value), RJ B0 w c x d → ∀ u ∈ d, u.oneCell' = true := fun _ x d h u hu => by
  obtain ⟨k, n, t, nm, it, na, ncap, ia, icap, _, e, _⟩ := h.2.open
  have e2 : d = [.int .i64 k, .int .i64 n, .string t, .slice na nm.length ncap, .slice ia it.length icap] := by
    have := Value.agg.inj e
    exact congrArg Array.toList this
  subst e2
  simp only [List.mem_cons, List.not_mem_nil, or_false] at hu
  rcases hu with rfl | rfl | rfl | rfl | rfl <;> rfl
theorem cfA_below {B : Nat} {w w' : World} (h : Below w.heap.size w w') : CLe (cfA B w) (cfA B w') := fun b o u e => by
  unfold cfA at e ⊢
  split at e
  · rename_i hb; rw [if_pos hb]; exact cle_below h b o u e
  · cases e
theorem vrow_of_RJ {B0 : Nat} {w w' : World} {c : CF} {xs : List JV} {cs : List Value} (h : GRow 5 (RJ B0 w) c xs cs) (hb : Below w.heap.size w w') : VRow (cfA B0 w') xs cs := by
  refine ⟨h.1, fun i x hx => ?_⟩
  obtain ⟨d, h1, h2, h3⟩ := h.2 i x hx
  obtain ⟨c0, c1, c2, c3, c4, rfl⟩ : ∃ c0 c1 c2 c3 c4, d = [c0, c1, c2, c3, c4] := by
    match d, h1 with
    | [a, b, c, d, e], _ => exact ⟨a, b, c, d, e, rfl⟩
  exact ⟨c0, c1, c2, c3, c4, h2 0 _ rfl, h2 1 _ rfl, h2 2 _ rfl, h2 3 _ rfl, h2 4 _ rfl, h3.2.mono (cfA_below hb)⟩
set_option maxRecDepth 100000 in
set_option maxHeartbeats 16000000 in
theorem row_any (s : ByteArray) (sp : Int) (mv : Value) (more : List JV) (B0 : Nat) (w : World) (hs : s.size ≤ 9223372036854775807) (hw : (Lit.int .i64 sp).wf = true) (hB : B0 ≤ w.heap.size) (hm : SAt 5 (RJ B0 w) (cf w) mv more) (hml : more.length ≤ 1000) :
    Calls Tryz.prog 48 #[.string s, .int .i64 sp, mv] w fun e w' => ∃ ia icap, e = .returned (.agg #[.int .i64 5, .int .i64 0, .string ⟨#[]⟩, .slice none 0 0, .slice ia (2 + more.length) icap]) ∧ ItemsAt (cfA B0 w') (.slice ia (2 + more.length) icap) (strJ s :: intJ sp :: more) ∧ Below w.heap.size w w' := by
  obtain ⟨ma, mcap, rfl, _⟩ := id hm
  obtain ⟨W0, hW0⟩ : ∃ W0, W0 = w.alloc (.cells zero5 58) := ⟨_, rfl⟩
  have hb0 : Below w.heap.size w W0 := by rw [hW0]; exact (Below.refl _ w).alloc (Nat.le_refl _) _
  have hz0 : W0.heap.size = w.heap.size + 1 := by rw [hW0]; simp
  have HK0 : Hold (W0.heap[w.heap.size]? = some (.cells zero5 58 (0, 0))) := ⟨by rw [hW0]; exact heap_alloc_new w _⟩
  obtain ⟨H, hH⟩ : ∃ H, H = W0.heap.size := ⟨_, rfl⟩
  have hb1 : Below W0.heap.size W0 (W0.alloc (.cells #[.int .i64 4, .int .i64 0, .string s, .slice none 0 0, .slice none 0 0, .int .i64 3, .int .i64 sp, .string ⟨#[]⟩, .slice none 0 0, .slice none 0 0] 58)) := (Below.refl _ W0).alloc (Nat.le_refl _) _
  have HO : Hold (OwnS 5 (RJ B0 w) 58 (w.heap.size + 1) (W0.alloc (.cells #[.int .i64 4, .int .i64 0, .string s, .slice none 0 0, .slice none 0 0, .int .i64 3, .int .i64 sp, .string ⟨#[]⟩, .slice none 0 0, .slice none 0 0] 58)) (.slice (some ⟨W0.heap.size, 0, none⟩) 2 2) 2 [strJ s, intJ sp] (([] ++ [.int .i64 4, .int .i64 0, .string s, .slice none 0 0, .slice none 0 0]) ++ [.int .i64 3, .int .i64 sp, .string ⟨#[]⟩, .slice none 0 0, .slice none 0 0])) := ⟨by
    refine ⟨⟨rfl, .inr ⟨_, 2, _, rfl, by omega, heap_alloc_new W0 _, Nat.le_refl _, by unfold maxLen; decide, rfl, rfl⟩⟩, rfl, ?_, by simp; omega⟩
    have h1 := ((GRow.nil 5 (RJ B0 w) (cfN (.slice (some ⟨W0.heap.size, 0, none⟩) 2 2) (W0.alloc (.cells #[.int .i64 4, .int .i64 0, .string s, .slice none 0 0, .slice none 0 0, .int .i64 3, .int .i64 sp, .string ⟨#[]⟩, .slice none 0 0, .slice none 0 0] 58)))).snoc (d := [.int .i64 4, .int .i64 0, .string s, .slice none 0 0, .slice none 0 0]) (x := strJ s) rfl ⟨rfl, JAt.shut (by kernel_rfl) (by kernel_rfl) hs (strs_no _) (items_no _)⟩).snoc (d := [.int .i64 3, .int .i64 sp, .string ⟨#[]⟩, .slice none 0 0, .slice none 0 0]) (x := intJ sp) rfl ⟨rfl, JAt.shut (by kernel_rfl) hw (by decide) (strs_no _) (items_no _)⟩
    exact h1⟩
  have HM : Hold (SAt 5 (RJ B0 w) (cfN (.slice (some ⟨W0.heap.size, 0, none⟩) 2 2) (W0.alloc (.cells #[.int .i64 4, .int .i64 0, .string s, .slice none 0 0, .slice none 0 0, .int .i64 3, .int .i64 sp, .string ⟨#[]⟩, .slice none 0 0, .slice none 0 0] 58))) (.slice ma more.length mcap) more) := ⟨hm.mono RJ_mono (cle_cfN_old (hb0.trans (hb1.mono hb0.size)) (fun g hg => by
    have := Option.some.inj hg
    simp only at this
    omega))⟩
  have HML := Hold.mk hml
  have HB0 := Hold.mk hb0
  have HZ0 := Hold.mk hz0
  have HBB := Hold.mk hB
  clear hm hb0 hz0 hb1 hml hH hB
  go_enter Tryz.func48, Tryz.ntmps48
  go_upto_region 1 with (fail)
  rw [← hW0]
  clear hW0
  go_wp2_with (at_builtin; refine push_src RJ_mono RJ_one rfl _ _ rfl infoVal Tryz.underlying56 rfl (by decide) _ _ _ 2 _ _ HO.out rfl _ more HM.out rfl (by have := HML.out; omega) (by decide) ?_)
  intro sl2 w2 cs ho hg
  obtain ⟨pa, pc, rfl⟩ := ho.shape
  have HO2 := Hold.mk ho
  have HB1 : Hold (Below (w.heap.size + 1) (W0.alloc (.cells #[.int .i64 4, .int .i64 0, .string s, .slice none 0 0, .slice none 0 0, .int .i64 3, .int .i64 sp, .string ⟨#[]⟩, .slice none 0 0, .slice none 0 0] 58)) w2) := ⟨HO.out.below hg⟩
  have HB2 : Hold (Below (w.heap.size + 1) W0 w2) := ⟨by
    have h1 : Below W0.heap.size W0 (W0.alloc (.cells #[.int .i64 4, .int .i64 0, .string s, .slice none 0 0, .slice none 0 0, .int .i64 3, .int .i64 sp, .string ⟨#[]⟩, .slice none 0 0, .slice none 0 0] 58)) := (Below.refl _ W0).alloc (Nat.le_refl _) _
    rw [HZ0.out] at h1
    exact h1.trans HB1.out⟩
  have HRB : Hold (w2.heap[w.heap.size]? = some (.cells zero5 58 (0, 0))) := ⟨by rw [HB2.out.block _ (by omega)]; exact HK0.out⟩
  have HBW : Hold (Below w.heap.size w w2) := ⟨HB0.out.trans (HB2.out.mono (by omega))⟩
  obtain ⟨r0, r1, r2, r3, r4⟩ := cells_five HRB.out
  have f0 := free_box HRB.out 0
  have f1 := free_box HRB.out 1
  have f2 := free_box HRB.out 2
  have f3 := free_box HRB.out 3
  have f4 := free_box HRB.out 4
  clear ho hg HO HM
  go_wp2_with fail
  obtain ⟨W3, hW3⟩ : ∃ W3, W3 = (((((w2.setCell ⟨w.heap.size, 0, none⟩ (.int .i64 5)).setCell ⟨w.heap.size, 1, none⟩ (.int .i64 0)).setCell ⟨w.heap.size, 2, none⟩ (.string ⟨#[]⟩)).setCell ⟨w.heap.size, 3, none⟩ (.slice none 0 0)).setCell ⟨w.heap.size, 4, none⟩ (.slice pa (2 + more.length) pc)) := ⟨_, rfl⟩
  rw [← hW3]
  have hbk : W3.heap[w.heap.size]? = some (.cells #[.int .i64 5, .int .i64 0, .string ⟨#[]⟩, .slice none 0 0, .slice pa (2 + more.length) pc] 58 (0, 0)) := by rw [hW3]; exact set5_self HRB.out
  have hbw : Below w.heap.size w W3 := by rw [hW3]; exact set5_below HBW.out (Nat.le_refl _)
  have how : W3.ownsRow (w.heap.size + 1) 58 5 (.slice pa (2 + more.length) pc) (2 + more.length) cs := by rw [hW3]; exact own_set5 HO2.out.own (by omega)
  clear hW3 r0 r1 r2 r3 r4 f0 f1 f2 f3 f4
  obtain ⟨c0, c1, c2, c3, c4⟩ := cells_five hbk
  have hlen : (strJ s :: intJ sp :: more).length = 2 + more.length := by simp; omega
  refine bodyPost_ret (v := .agg #[.int .i64 5, .int .i64 0, .string ⟨#[]⟩, .slice none 0 0, .slice pa (2 + more.length) pc]) (by simp [results, Tryz.results48, go_sem, c0, c1, c2, c3, c4]) rfl ⟨pa, pc, rfl, ?_, hbw⟩
  have hv : VRow (cfA B0 W3) (strJ s :: intJ sp :: more) cs := vrow_of_RJ HO2.out.row hbw
  rw [← hlen] at how ⊢
  exact items_of_ownA (by have := HBB.out; omega) how hv
end Go.Proofs.YticlnijkfclgcaaGreatDoor

/- Indexes: Parse of the reference. -/
namespace Go.Proofs.YticlnijkfclgcaaGreatDoor
open Go.RowKit

theorem threeE (w : World) (o0 o1 o2 : Obj) : ∃ W, W = (((w.alloc o0).alloc o1).alloc o2) ∧ Below w.heap.size w W ∧ W.heap[w.heap.size]? = some o0 ∧ W.heap[w.heap.size + 1]? = some o1 ∧ W.heap[w.heap.size + 1 + 1]? = some o2 := by
  obtain ⟨W, hW, hB, e0, e1⟩ := twoE w o0 o1
  have hb := (Below.refl W.heap.size W).alloc (Nat.le_refl _) o2
  have hs : W.heap.size = w.heap.size + 1 + 1 := by rw [hW]; simp
  refine ⟨W.alloc o2, by rw [hW], hB.trans (hb.mono hB.size), kept e0 hb, kept e1 hb, ?_⟩
  rw [← hs]; exact heap_alloc_new W o2
end Go.Proofs.YticlnijkfclgcaaGreatDoor

/- Indexes: what is shown and read, plainly. -/
namespace Go.Proofs.YticlnijkfclgcaaGreatDoor
open Go.RowKit

def zeroX : IX := ⟨⟨#[]⟩, [], false⟩
noncomputable def parseX (v : JV) : IX := (parseF v).getD zeroX
end Go.Proofs.YticlnijkfclgcaaGreatDoor

/- Catalogs: what Parse answers, plainly; what is shown is read as it was. -/
namespace Go.Proofs.YticlnijkfclgcaaGreatDoor
open Go.RowKit

/-- the last collection has a further index -/
def addLast (p : PX) : List CX → List CX
  | [] => []
  | [x] => [⟨x.name, x.sp, x.ixs ++ [p]⟩]
  | x :: y :: l => x :: addLast p (y :: l)
/-- a row read onto what was read ahead -/
noncomputable def parseR (acc : List CX) (r : JV) : Option (List CX) := match r.items with
  | [a, b] => some (acc ++ [⟨a.text, b.n, []⟩])
  | [_, b, c] => if acc = [] then none else some (addLast ⟨parseX c, b.n⟩ acc)
  | _ => none
noncomputable def parseL : List CX → List JV → Option (List CX)
  | acc, [] => some acc
  | acc, r :: l => match parseR acc r with
    | some acc2 => parseL acc2 l
    | none => none
open Classical in
/-- what Parse answers -/
noncomputable def parseC (v : JV) : List CX × Int := match parseL [] v.items with
  | some c => if formC c = true ∧ v = showC c then (c, 0) else ([], 2)
  | none => ([], 2)
theorem parseL_app : ∀ (l m : List JV) (acc : List CX), parseL acc (l ++ m) = (parseL acc l).bind fun a => parseL a m
  | [], m, acc => rfl
  | r :: l, m, acc => by
    show (match parseR acc r with | some acc2 => parseL acc2 (l ++ m) | none => none) = (match parseR acc r with | some acc2 => parseL acc2 l | none => none).bind fun a => parseL a m
    cases parseR acc r with
    | none => rfl
    | some a => exact parseL_app l m a
end Go.Proofs.YticlnijkfclgcaaGreatDoor

/- Records, plainly: their bytes; no beginning of a record's bytes is one's. -/
namespace Go.Proofs.YticlnijkfclgcaaGreatDoor
open Go.RowKit

/-- a record -/
structure RCD where
  time : Nat
  cat : ByteArray
  ws : List WR
def be16 (x : Nat) : List UInt8 := [(x / 256).toUInt8, x.toUInt8]
def goneB (b : Bool) : UInt8 := if b then 1 else 0
def encW (x : WR) : List UInt8 := [x.sp.toNat.toUInt8, goneB x.gone, x.id.size.toUInt8] ++ x.id.data.toList ++ be16 x.text.size ++ x.text.data.toList
def be64R (x : Nat) : List UInt8 := [(x / 72057594037927936).toUInt8, (x / 281474976710656).toUInt8, (x / 1099511627776).toUInt8, (x / 4294967296).toUInt8, (x / 16777216).toUInt8, (x / 65536).toUInt8, (x / 256).toUInt8, x.toUInt8]
/-- a record's bytes -/
def encR (r : RCD) : List UInt8 := be64R r.time ++ be16 r.cat.size ++ r.cat.data.toList ++ [r.ws.length.toUInt8] ++ r.ws.flatMap encW
/-- a catalog's text -/
noncomputable def textC (s : ByteArray) : Bool := decide ((readF s.data.toList).2 = 0) && decide ((parseC (readF s.data.toList).1).2 = 0) && decide (printS (readF s.data.toList).1 = s) && decide ((readF s.data.toList).1.kind = 5)
noncomputable def formedR (r : RCD) : Bool := if r.cat.size = 0 then decide (0 < r.ws.length) && formedW r.ws else decide (r.ws.length = 0) && textC r.cat
/-- sizes that the fields of the bytes hold -/
def SizeR (r : RCD) : Prop := r.cat.size < 65536 ∧ r.ws.length < 256 ∧ ∀ x ∈ r.ws, x.id.size < 256 ∧ x.text.size < 65536
theorem u8_nat {n : Nat} (h : n < 256) : (n.toUInt8).toNat = n := by simp; omega
theorem be16_nat {n : Nat} (h : n < 65536) : ((n / 256).toUInt8).toNat * 256 + (n.toUInt8).toNat = n := by
  simp; omega
/-- behind the bytes of a write -/
def skipW : List UInt8 → Option (List UInt8)
  | _ :: _ :: n :: r => match r.drop n.toNat with
    | a :: b :: q => some (q.drop (a.toNat * 256 + b.toNat))
    | _ => none
  | _ => none
def skipLV : Nat → List UInt8 → Option (List UInt8)
  | 0, l => some l
  | n + 1, l => (skipW l).bind (skipLV n)
/-- behind the bytes of a record -/
def skipR (l : List UInt8) : Option (List UInt8) := match l.drop 8 with
  | a :: b :: q => match q.drop (a.toNat * 256 + b.toNat) with
    | n :: p => skipLV n.toNat p
    | [] => none
  | _ => none
theorem len_list (s : ByteArray) : s.data.toList.length = s.size := by simp
theorem drop_len {α : Type} (l m : List α) {n : Nat} (h : l.length = n) : (l ++ m).drop n = m := by subst h; simp
theorem skip_write {x : WR} (h1 : x.id.size < 256) (h2 : x.text.size < 65536) (t : List UInt8) : skipW (encW x ++ t) = some t := by
  unfold encW
  have e : [x.sp.toNat.toUInt8, goneB x.gone, x.id.size.toUInt8] ++ x.id.data.toList ++ be16 x.text.size ++ x.text.data.toList ++ t = x.sp.toNat.toUInt8 :: goneB x.gone :: x.id.size.toUInt8 :: (x.id.data.toList ++ ((x.text.size / 256).toUInt8 :: x.text.size.toUInt8 :: (x.text.data.toList ++ t))) := by simp [be16]
  rw [e]
  show (match (x.id.data.toList ++ ((x.text.size / 256).toUInt8 :: x.text.size.toUInt8 :: (x.text.data.toList ++ t))).drop (x.id.size.toUInt8).toNat with
    | a :: b :: q => some (q.drop (a.toNat * 256 + b.toNat))
    | _ => none) = some t
  rw [u8_nat h1, drop_len _ _ (len_list _)]
  simp only
  rw [be16_nat h2, drop_len _ _ (len_list _)]
theorem skip_writes : ∀ (l : List WR), (∀ x ∈ l, x.id.size < 256 ∧ x.text.size < 65536) → ∀ t, skipLV l.length (l.flatMap encW ++ t) = some t
  | [], _, t => rfl
  | x :: l, h, t => by
    rw [List.flatMap_cons, List.append_assoc, List.length_cons]
    show (skipW _).bind (skipLV l.length) = _
    have h1 := h x (List.mem_cons_self ..)
    rw [skip_write h1.1 h1.2]
    exact skip_writes l (fun y hy => h y (List.mem_cons_of_mem _ hy)) t
theorem skip_record {r : RCD} (h : SizeR r) (t : List UInt8) : skipR (encR r ++ t) = some t := by
  obtain ⟨h1, h2, h3⟩ := h
  have e : encR r ++ t = be64R r.time ++ ((r.cat.size / 256).toUInt8 :: r.cat.size.toUInt8 :: (r.cat.data.toList ++ (r.ws.length.toUInt8 :: (r.ws.flatMap encW ++ t)))) := by simp [encR, be16]
  rw [e]
  unfold skipR
  rw [drop_len _ _ (show (be64R r.time).length = 8 from rfl)]
  simp only
  rw [be16_nat h1, drop_len _ _ (len_list _)]
  simp only
  rw [u8_nat h2, skip_writes _ h3]
/-- no record's bytes are a beginning of another's -/
theorem record_whole {r s : RCD} (hr : SizeR r) (hs : SizeR s) {t : List UInt8} (h : encR r ++ t = encR s) : t = [] := by
  have h1 := skip_record hr t
  have h2 := skip_record hs []
  rw [List.append_nil, ← h, h1] at h2
  exact Option.some.inj h2
theorem record_cut {r s : RCD} (hr : SizeR r) (hs : SizeR s) {k : Nat} (hk : k < (encR r).length) (h : (encR r).take k = encR s) : False := by
  have := record_whole hs hr (t := (encR r).drop k) (by rw [← h, List.take_append_drop])
  rw [List.drop_eq_nil_iff] at this
  omega
theorem record_long {r s : RCD} (hr : SizeR r) (hs : SizeR s) {c : UInt8} (h : encR r ++ [c] = encR s) : False := by
  have := record_whole hr hs h
  cases this
theorem encR_pos (r : RCD) : 11 ≤ (encR r).length := by
  unfold encR be16 be64R
  simp only [List.length_append, List.length_cons, List.length_nil]
  omega
end Go.Proofs.YticlnijkfclgcaaGreatDoor
