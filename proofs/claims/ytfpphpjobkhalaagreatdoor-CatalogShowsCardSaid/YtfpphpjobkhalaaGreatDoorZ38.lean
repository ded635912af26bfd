/- Catalogs: a row as a value (printed by genXCBB.py). -/
import Derived.Test.YtfpphpjobkhalaaGreatDoorZ25
import Derived.Test.YtfpphpjobkhalaaGreatDoorZ37
namespace Go.Proofs.YtfpphpjobkhalaaGreatDoor
open Go.Shelf Go.RowKit

def intJ (n : Int) : JV := .mk 3 n ⟨#[]⟩ [] []
def rowJ (s : ByteArray) (sp : Int) (more : List JV) : JV := .mk 5 0 ⟨#[]⟩ [] (strJ s :: intJ sp :: more)
def rowsX (x : CX) : List JV := rowJ x.name x.sp [] :: x.ixs.map fun p => rowJ x.name p.sp [showJ p.ix]
/-- a catalog's value -/
def showC (l : List CX) : JV := .mk 5 0 ⟨#[]⟩ [] (l.flatMap rowsX)
/-- a value that lies as it lay in w, from block B0 on -/
def RJ (B0 : Nat) (w : World) : Rep JV := fun _ x d => d.length = 5 ∧ JAt (cfA B0 w) x (.agg d.toArray)
theorem RJ_mono {B0 : Nat} {w : World} : Mono (RJ B0 w) := fun _ _ _ _ _ h => h
theorem RJ_one {B0 : Nat} {w : World} : ∀ (c : CF) (x : JV) (d : List Value), RJ B0 w c x d → ∀ u ∈ d, u.oneCell' = true := fun _ x d h u hu => by
  obtain ⟨k, n, t, nm, it, na, ncap, ia, icap, _, e, _⟩ := h.2.open
  have e2 : d = [.int .i64 k, .int .i64 n, .string t, .slice na nm.length ncap, .slice ia it.length icap] := by
    have := Value.agg.inj e
    exact congrArg Array.toList this
  subst e2
  simp only [List.mem_cons, List.not_mem_nil, or_false] at hu
  rcases hu with rfl | rfl | rfl | rfl | rfl <;> rfl
theorem cfA_below {B : Nat} {w w' : World} (h : Below w.heap.size w w') : CLe (cfA B w) (cfA B w') := fun b o u e => by
  unfold cfA at e ⊢
  split at e
  · rename_i hb; rw [if_pos hb]; exact cle_below h b o u e
  · cases e
theorem vrow_of_RJ {B0 : Nat} {w w' : World} {c : CF} {xs : List JV} {cs : List Value} (h : GRow 5 (RJ B0 w) c xs cs) (hb : Below w.heap.size w w') : VRow (cfA B0 w') xs cs := by
  refine ⟨h.1, fun i x hx => ?_⟩
  obtain ⟨d, h1, h2, h3⟩ := h.2 i x hx
  obtain ⟨c0, c1, c2, c3, c4, rfl⟩ : ∃ c0 c1 c2 c3 c4, d = [c0, c1, c2, c3, c4] := by
    match d, h1 with
    | [a, b, c, d, e], _ => exact ⟨a, b, c, d, e, rfl⟩
  exact ⟨c0, c1, c2, c3, c4, h2 0 _ rfl, h2 1 _ rfl, h2 2 _ rfl, h2 3 _ rfl, h2 4 _ rfl, h3.2.mono (cfA_below hb)⟩
set_option maxRecDepth 100000 in
set_option maxHeartbeats 16000000 in
theorem row_any (s : ByteArray) (sp : Int) (mv : Value) (more : List JV) (B0 : Nat) (w : World) (hs : s.size ≤ 9223372036854775807) (hw : (Lit.int .i64 sp).wf = true) (hB : B0 ≤ w.heap.size) (hm : SAt 5 (RJ B0 w) (cf w) mv more) (hml : more.length ≤ 1000) :
    Calls Tryz.prog 53 #[.string s, .int .i64 sp, mv] w fun e w' => ∃ ia icap, e = .returned (.agg #[.int .i64 5, .int .i64 0, .string ⟨#[]⟩, .slice none 0 0, .slice ia (2 + more.length) icap]) ∧ ItemsAt (cfA B0 w') (.slice ia (2 + more.length) icap) (strJ s :: intJ sp :: more) ∧ Below w.heap.size w w' := by
  obtain ⟨ma, mcap, rfl, _⟩ := id hm
  obtain ⟨W0, hW0⟩ : ∃ W0, W0 = w.alloc (.cells zero5 55) := ⟨_, rfl⟩
  have hb0 : Below w.heap.size w W0 := by rw [hW0]; exact (Below.refl _ w).alloc (Nat.le_refl _) _
  have hz0 : W0.heap.size = w.heap.size + 1 := by rw [hW0]; simp
  have HK0 : Hold (W0.heap[w.heap.size]? = some (.cells zero5 55 (0, 0))) := ⟨by rw [hW0]; exact heap_alloc_new w _⟩
  obtain ⟨H, hH⟩ : ∃ H, H = W0.heap.size := ⟨_, rfl⟩
  have hb1 : Below W0.heap.size W0 (W0.alloc (.cells #[.int .i64 4, .int .i64 0, .string s, .slice none 0 0, .slice none 0 0, .int .i64 3, .int .i64 sp, .string ⟨#[]⟩, .slice none 0 0, .slice none 0 0] 55)) := (Below.refl _ W0).alloc (Nat.le_refl _) _
  have HO : Hold (OwnS 5 (RJ B0 w) 55 (w.heap.size + 1) (W0.alloc (.cells #[.int .i64 4, .int .i64 0, .string s, .slice none 0 0, .slice none 0 0, .int .i64 3, .int .i64 sp, .string ⟨#[]⟩, .slice none 0 0, .slice none 0 0] 55)) (.slice (some ⟨W0.heap.size, 0, none⟩) 2 2) 2 [strJ s, intJ sp] (([] ++ [.int .i64 4, .int .i64 0, .string s, .slice none 0 0, .slice none 0 0]) ++ [.int .i64 3, .int .i64 sp, .string ⟨#[]⟩, .slice none 0 0, .slice none 0 0])) := ⟨by
    refine ⟨⟨rfl, .inr ⟨_, 2, _, rfl, by omega, heap_alloc_new W0 _, Nat.le_refl _, by unfold maxLen; decide, rfl, rfl⟩⟩, rfl, ?_, by simp; omega⟩
    have h1 := ((GRow.nil 5 (RJ B0 w) (cfN (.slice (some ⟨W0.heap.size, 0, none⟩) 2 2) (W0.alloc (.cells #[.int .i64 4, .int .i64 0, .string s, .slice none 0 0, .slice none 0 0, .int .i64 3, .int .i64 sp, .string ⟨#[]⟩, .slice none 0 0, .slice none 0 0] 55)))).snoc (d := [.int .i64 4, .int .i64 0, .string s, .slice none 0 0, .slice none 0 0]) (x := strJ s) rfl ⟨rfl, JAt.shut (by kernel_rfl) (by kernel_rfl) hs (strs_no _) (items_no _)⟩).snoc (d := [.int .i64 3, .int .i64 sp, .string ⟨#[]⟩, .slice none 0 0, .slice none 0 0]) (x := intJ sp) rfl ⟨rfl, JAt.shut (by kernel_rfl) hw (by decide) (strs_no _) (items_no _)⟩
    exact h1⟩
  have HM : Hold (SAt 5 (RJ B0 w) (cfN (.slice (some ⟨W0.heap.size, 0, none⟩) 2 2) (W0.alloc (.cells #[.int .i64 4, .int .i64 0, .string s, .slice none 0 0, .slice none 0 0, .int .i64 3, .int .i64 sp, .string ⟨#[]⟩, .slice none 0 0, .slice none 0 0] 55))) (.slice ma more.length mcap) more) := ⟨hm.mono RJ_mono (cle_cfN_old (hb0.trans (hb1.mono hb0.size)) (fun g hg => by
    have := Option.some.inj hg
    simp only at this
    omega))⟩
  have HML := Hold.mk hml
  have HB0 := Hold.mk hb0
  have HZ0 := Hold.mk hz0
  have HBB := Hold.mk hB
  clear hm hb0 hz0 hb1 hml hH hB
  go_enter Tryz.func53, Tryz.ntmps53
  go_upto_region 1 with (fail)
  rw [← hW0]
  clear hW0
  go_wp2_with (at_builtin; refine push_src RJ_mono RJ_one rfl _ _ rfl infoVal Tryz.underlying53 rfl (by decide) _ _ _ 2 _ _ HO.out rfl _ more HM.out rfl (by have := HML.out; omega) (by decide) ?_)
  intro sl2 w2 cs ho hg
  obtain ⟨pa, pc, rfl⟩ := ho.shape
  have HO2 := Hold.mk ho
  have HB1 : Hold (Below (w.heap.size + 1) (W0.alloc (.cells #[.int .i64 4, .int .i64 0, .string s, .slice none 0 0, .slice none 0 0, .int .i64 3, .int .i64 sp, .string ⟨#[]⟩, .slice none 0 0, .slice none 0 0] 55)) w2) := ⟨HO.out.below hg⟩
  have HB2 : Hold (Below (w.heap.size + 1) W0 w2) := ⟨by
    have h1 : Below W0.heap.size W0 (W0.alloc (.cells #[.int .i64 4, .int .i64 0, .string s, .slice none 0 0, .slice none 0 0, .int .i64 3, .int .i64 sp, .string ⟨#[]⟩, .slice none 0 0, .slice none 0 0] 55)) := (Below.refl _ W0).alloc (Nat.le_refl _) _
    rw [HZ0.out] at h1
    exact h1.trans HB1.out⟩
  have HRB : Hold (w2.heap[w.heap.size]? = some (.cells zero5 55 (0, 0))) := ⟨by rw [HB2.out.block _ (by omega)]; exact HK0.out⟩
  have HBW : Hold (Below w.heap.size w w2) := ⟨HB0.out.trans (HB2.out.mono (by omega))⟩
  obtain ⟨r0, r1, r2, r3, r4⟩ := cells_five HRB.out
  have f0 := free_box HRB.out 0
  have f1 := free_box HRB.out 1
  have f2 := free_box HRB.out 2
  have f3 := free_box HRB.out 3
  have f4 := free_box HRB.out 4
  clear ho hg HO HM
  go_wp2_with fail
  obtain ⟨W3, hW3⟩ : ∃ W3, W3 = (((((w2.setCell ⟨w.heap.size, 0, none⟩ (.int .i64 5)).setCell ⟨w.heap.size, 1, none⟩ (.int .i64 0)).setCell ⟨w.heap.size, 2, none⟩ (.string ⟨#[]⟩)).setCell ⟨w.heap.size, 3, none⟩ (.slice none 0 0)).setCell ⟨w.heap.size, 4, none⟩ (.slice pa (2 + more.length) pc)) := ⟨_, rfl⟩
  rw [← hW3]
  have hbk : W3.heap[w.heap.size]? = some (.cells #[.int .i64 5, .int .i64 0, .string ⟨#[]⟩, .slice none 0 0, .slice pa (2 + more.length) pc] 55 (0, 0)) := by rw [hW3]; exact set5_self HRB.out
  have hbw : Below w.heap.size w W3 := by rw [hW3]; exact set5_below HBW.out (Nat.le_refl _)
  have how : W3.ownsRow (w.heap.size + 1) 55 5 (.slice pa (2 + more.length) pc) (2 + more.length) cs := by rw [hW3]; exact own_set5 HO2.out.own (by omega)
  clear hW3 r0 r1 r2 r3 r4 f0 f1 f2 f3 f4
  obtain ⟨c0, c1, c2, c3, c4⟩ := cells_five hbk
  have hlen : (strJ s :: intJ sp :: more).length = 2 + more.length := by simp; omega
  refine bodyPost_ret (v := .agg #[.int .i64 5, .int .i64 0, .string ⟨#[]⟩, .slice none 0 0, .slice pa (2 + more.length) pc]) (by simp [results, Tryz.results53, go_sem, c0, c1, c2, c3, c4]) rfl ⟨pa, pc, rfl, ?_, hbw⟩
  have hv : VRow (cfA B0 W3) (strJ s :: intJ sp :: more) cs := vrow_of_RJ HO2.out.row hbw
  rw [← hlen] at how ⊢
  exact items_of_ownA (by have := HBB.out; omega) how hv
end Go.Proofs.YtfpphpjobkhalaaGreatDoor
