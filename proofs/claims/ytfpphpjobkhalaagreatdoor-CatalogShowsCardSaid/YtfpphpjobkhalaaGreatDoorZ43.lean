/- Catalogs: row and Show of the reference (printed by genXCBD.py). -/
import Derived.Test.YtfpphpjobkhalaaGreatDoorZ39
import Derived.Test.YtfpphpjobkhalaaGreatDoorZ40
namespace Go.Proofs.YtfpphpjobkhalaaGreatDoor
open Go.Shelf Go.RowKit

set_option maxRecDepth 100000 in
set_option maxHeartbeats 16000000 in
theorem rrow_any (s : ByteArray) (sp : Int) (w : World) :
    Calls Tryz.prog 55 #[.string s, .int .i64 sp] w fun e w' => ∃ ia icap, e = .returned (.agg #[.int .i64 5, .int .i64 0, .string ⟨#[]⟩, .slice none 0 0, .slice ia 2 icap]) ∧ w'.ownsRow w.heap.size 55 5 (.slice ia 2 icap) 2 [.int .i64 4, .int .i64 0, .string s, .slice none 0 0, .slice none 0 0, .int .i64 3, .int .i64 sp, .string ⟨#[]⟩, .slice none 0 0, .slice none 0 0] ∧ Below w.heap.size w w' := by
  obtain ⟨W0, hW0, hb0, e0, e1⟩ := twoEM w (.cells zero5 55) (.cells #[.int .i64 5, .int .i64 0, .string ⟨#[]⟩, .slice none 0 0, .slice none 0 0] 55)
  have HB0 := Hold.mk hb0
  have HK0 := Hold.mk e0
  have HK1 := Hold.mk e1
  have HZ0 : Hold (W0.heap.size = w.heap.size + 2) := ⟨by rw [hW0]; simp⟩
  have HO0 := Hold.mk (own_triv (B := w.heap.size + 1 + 1) (n := 5) (T := 55) (sv := .slice none 0 0) (cs := []) (World.ownsRow_nil W0 _ _ _) (by simp) (by decide) (by have := HZ0.out; omega))
  obtain ⟨_, _, _, _, v4⟩ := cells_five e1
  clear hb0 e0 e1
  go_enter Tryz.func55, Tryz.ntmps55
  go_upto_region 2 with (fail)
  rw [← hW0]
  clear hW0
  go_wp2_with (at_builtin; refine push_new (R := RTriv) (fun _ _ _ _ _ h => h) rfl _ _ rfl infoVal Tryz.underlying53 rfl (by decide) _ _ _ 0 _ _ HO0.out rfl _ [.int .i64 4, .int .i64 0, .string s, .slice none 0 0, .slice none 0 0] rfl rfl (by simp [Value.oneCell']) () trivial _ rfl rfl (by decide) (by decide) ?_)
  intro sl2 w2 ho hg
  obtain ⟨pa, pc, rfl⟩ := ho.shape
  have HO2 := Hold.mk ho
  have HB2 : Hold (Below (w.heap.size + 1 + 1) W0 w2) := ⟨HO0.out.below hg⟩
  have HK2 : Hold (w2.heap[w.heap.size + 1]? = some (.cells #[.int .i64 5, .int .i64 0, .string ⟨#[]⟩, .slice none 0 0, .slice none 0 0] 55 (0, 0))) := ⟨by rw [HB2.out.block _ (by omega)]; exact HK1.out⟩
  obtain ⟨_, _, _, _, u4⟩ := cells_five HK2.out
  have f4 := free_box HK2.out 4
  clear ho hg v4
  go_upto_region 3 with (fail)
  clear u4 f4
  obtain ⟨W3, hW3⟩ : ∃ W3, W3 = w2.setCell ⟨w.heap.size + 1, 4, none⟩ (.slice pa 1 pc) := ⟨_, rfl⟩
  first | rw [← hW3] | (simp only [Nat.zero_add]; rw [← hW3])
  have HK3 : Hold (W3.heap[w.heap.size + 1]? = some (.cells #[.int .i64 5, .int .i64 0, .string ⟨#[]⟩, .slice none 0 0, .slice pa 1 pc] 55 (0, 0))) := ⟨by
    rw [hW3]
    have := set_self (o := 4) (c := .slice pa 1 pc) HK2.out
    simpa using this⟩
  have HO3 : Hold (OwnS 5 RTriv 55 (w.heap.size + 1 + 1) W3 (.slice pa 1 pc) 1 (List.replicate 1 ()) [.int .i64 4, .int .i64 0, .string s, .slice none 0 0, .slice none 0 0]) := ⟨own_triv (by rw [hW3]; exact own_set (by simpa using HO2.out.own) (show w.heap.size + 1 < w.heap.size + 1 + 1 by omega)) (by simp) (by decide) (by rw [hW3]; simp; have := HO2.out.le; omega)⟩
  have HB3 : Hold (Below (w.heap.size + 1) W0 W3) := ⟨by rw [hW3]; exact (HB2.out.mono (show w.heap.size + 1 ≤ w.heap.size + 1 + 1 by omega)).setCell (p := ⟨w.heap.size + 1, 4, none⟩) (Nat.le_refl _) _⟩
  clear hW3
  obtain ⟨_, _, _, _, v4⟩ := cells_five HK3.out
  go_wp2_with (at_builtin; refine push_new (R := RTriv) (fun _ _ _ _ _ h => h) rfl _ _ rfl infoVal Tryz.underlying53 rfl (by decide) _ _ _ 1 _ _ HO3.out rfl _ [.int .i64 3, .int .i64 sp, .string ⟨#[]⟩, .slice none 0 0, .slice none 0 0] rfl rfl (by simp [Value.oneCell']) () trivial _ rfl rfl (by decide) (by decide) ?_)
  intro sl4 w4 ho4 hg4
  obtain ⟨qa, qc, rfl⟩ := ho4.shape
  have HO4 := Hold.mk ho4
  have HB4 : Hold (Below (w.heap.size + 1 + 1) W3 w4) := ⟨HO3.out.below hg4⟩
  have HK4 : Hold (w4.heap[w.heap.size + 1]? = some (.cells #[.int .i64 5, .int .i64 0, .string ⟨#[]⟩, .slice none 0 0, .slice pa 1 pc] 55 (0, 0))) := ⟨by rw [HB4.out.block _ (by omega)]; exact HK3.out⟩
  obtain ⟨_, _, _, _, u4⟩ := cells_five HK4.out
  have f4 := free_box HK4.out 4
  clear ho4 hg4 v4
  go_upto_region 4 with (fail)
  clear u4 f4
  obtain ⟨W5, hW5⟩ : ∃ W5, W5 = w4.setCell ⟨w.heap.size + 1, 4, none⟩ (.slice qa 2 qc) := ⟨_, rfl⟩
  first | rw [← hW5] | (simp only [Nat.reduceAdd]; rw [← hW5])
  have HK5 : Hold (W5.heap[w.heap.size + 1]? = some (.cells #[.int .i64 5, .int .i64 0, .string ⟨#[]⟩, .slice none 0 0, .slice qa 2 qc] 55 (0, 0))) := ⟨by
    rw [hW5]
    have := set_self (o := 4) (c := .slice qa 2 qc) HK4.out
    simpa using this⟩
  have HO5 : Hold (W5.ownsRow (w.heap.size + 1 + 1) 55 5 (.slice qa 2 qc) 2 [.int .i64 4, .int .i64 0, .string s, .slice none 0 0, .slice none 0 0, .int .i64 3, .int .i64 sp, .string ⟨#[]⟩, .slice none 0 0, .slice none 0 0]) := ⟨by rw [hW5]; exact own_set (by simpa using HO4.out.own) (show w.heap.size + 1 < w.heap.size + 1 + 1 by omega)⟩
  have HB5 : Hold (Below (w.heap.size + 1) W0 W5) := ⟨by rw [hW5]; exact (HB3.out.trans (HB4.out.mono (by omega))).setCell (p := ⟨w.heap.size + 1, 4, none⟩) (Nat.le_refl _) _⟩
  have HR5 : Hold (W5.heap[w.heap.size]? = some (.cells zero5 55 (0, 0))) := ⟨by rw [HB5.out.block _ (by omega)]; exact HK0.out⟩
  have HBW : Hold (Below w.heap.size w W5) := ⟨HB0.out.trans (HB5.out.mono (by omega))⟩
  clear hW5
  obtain ⟨v0, v1, v2, v3, v4⟩ := cells_five HK5.out
  obtain ⟨r0, r1, r2, r3, r4⟩ := cells_five HR5.out
  have f0 := free_box HR5.out 0
  have f1 := free_box HR5.out 1
  have f2 := free_box HR5.out 2
  have f3 := free_box HR5.out 3
  have f4 := free_box HR5.out 4
  go_wp2_with fail
  obtain ⟨W6, hW6⟩ : ∃ W6, W6 = (((((W5.setCell ⟨w.heap.size, 0, none⟩ (.int .i64 5)).setCell ⟨w.heap.size, 1, none⟩ (.int .i64 0)).setCell ⟨w.heap.size, 2, none⟩ (.string ⟨#[]⟩)).setCell ⟨w.heap.size, 3, none⟩ (.slice none 0 0)).setCell ⟨w.heap.size, 4, none⟩ (.slice qa 2 qc)) := ⟨_, rfl⟩
  rw [← hW6]
  have hbk : W6.heap[w.heap.size]? = some (.cells #[.int .i64 5, .int .i64 0, .string ⟨#[]⟩, .slice none 0 0, .slice qa 2 qc] 55 (0, 0)) := by rw [hW6]; exact set5_self HR5.out
  have hbw : Below w.heap.size w W6 := by rw [hW6]; exact set5_below HBW.out (Nat.le_refl _)
  have how : W6.ownsRow (w.heap.size + 1 + 1) 55 5 (.slice qa 2 qc) 2 [.int .i64 4, .int .i64 0, .string s, .slice none 0 0, .slice none 0 0, .int .i64 3, .int .i64 sp, .string ⟨#[]⟩, .slice none 0 0, .slice none 0 0] := by rw [hW6]; exact own_set5 HO5.out (by omega)
  clear hW6 r0 r1 r2 r3 r4 f0 f1 f2 f3 f4 v0 v1 v2 v3 v4
  obtain ⟨c0, c1, c2, c3, c4⟩ := cells_five hbk
  exact bodyPost_ret (v := .agg #[.int .i64 5, .int .i64 0, .string ⟨#[]⟩, .slice none 0 0, .slice qa 2 qc]) (by simp [results, Tryz.results55, go_sem, c0, c1, c2, c3, c4]) rfl ⟨qa, qc, rfl, own_lowZ how (by omega), hbw⟩
theorem row_items {w : World} {B0 : Nat} {s : ByteArray} {sp : Int} (hs : s.size ≤ 9223372036854775807) (hw : (Lit.int .i64 sp).wf = true) : VRow (cfA B0 w) [strJ s, intJ sp] [.int .i64 4, .int .i64 0, .string s, .slice none 0 0, .slice none 0 0, .int .i64 3, .int .i64 sp, .string ⟨#[]⟩, .slice none 0 0, .slice none 0 0] :=
  ((VRow.nil _).snoc (x := strJ s) (JAt.shut (by kernel_rfl) (by kernel_rfl) hs (strs_no _) (items_no _))).snoc (x := intJ sp) (JAt.shut (by kernel_rfl) hw (by decide) (strs_no _) (items_no _))
end Go.Proofs.YtfpphpjobkhalaaGreatDoor
