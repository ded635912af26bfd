/- Keys of the program: put, at an Array and an Object. -/
import Derived.Test.YtcmfanfkcbjeoaaGreatDoorKA
import Derived.Test.YtcmfanfkcbjeoaaGreatDoorJGrow
namespace Go.Proofs.YtcmfanfkcbjeoaaGreatDoor
open Go.RowKit

/-- the worlds in which all but a row's block stands as it stood -/
def GrewW (w : World) (sv : Value) : Type := { w' : World // w.grownBy w' sv.ownBlock }
instance (w : World) (sv : Value) : Nonempty (GrewW w sv) := ⟨⟨w, (Grew.refl w sv).by_⟩⟩
theorem GrewW.cell {w : World} {sv : Value} {b o : Nat} {v : Value} (h : w.cell? ⟨b, o, none⟩ = some v) (hne : ∀ g, sv.ownBlock = some g → b ≠ g) (e : GrewW w sv) : e.val.cell? ⟨b, o, none⟩ = some v :=
  e.property.cell h (fun e2 => hne b e2.symm rfl)
abbrev GrewC (w : World) (sv : Value) : World → Prop := fun w' => ∃ e : GrewW w sv, w' = e.val
theorem grewC {w w' : World} {sv s : Value} (h : Grew w w' sv s) : GrewC w sv w' := ⟨⟨w', h.by_⟩, rfl⟩
theorem wp_region_mixG {P : Program} {id : Nat} {Q : Exit → Act → World → Prop} {a : Act} {w : World} {l : List Oper} (sv : Value) (n : Nat) (hn : l.length = n) (hm : P.follows .mixedOrders = true)
    (h : ∀ w1, w1 = w.drew → wpAnyC P .any l.toArray (fun w' => ∃ e : GrewW w sv, w' = e.val) Q n (Array.replicate n false) a w1) : (Code.region id l.toArray true).wp P Q a w := by
  subst hn
  refine wp_region_any hm ?_
  have := wpAny_of_C _ _ _ _ (h { w with drawn := w.drawn + 1 } rfl)
  simpa using this

theorem keyB_succ (d : Nat) : keyB (d + 1) = 200 + 24 * (keyB d + 200) := rfl
theorem mK_fits {d : Nat} {L : Nat} {k : Int} {nm : List ByteArray} {it : List JV} {j : Nat} (hl : L + keyB (d + 1) ≤ 140737488355328) (hn : ∀ s ∈ nm, textF s = true) (hf : ∀ x ∈ it, formedF d x = true) (h24 : it.length ≤ 24) (hj : j < it.length) :
    L + (1 + (membK k nm 0 (it.take j)).length) + (keyB d + 200) ≤ 140737488355328 := by
  have h1 := membK_len (k := k) (L := keyB d) hn (it.take j) 0 (fun x hx => putF_len d x (hf x (List.mem_of_mem_take hx)))
  rw [List.length_take] at h1
  have h2 : min j it.length * (keyB d + 200) ≤ 23 * (keyB d + 200) := Nat.mul_le_mul_right _ (by omega)
  rw [keyB_succ] at hl
  generalize keyB d + 200 = q at *
  omega
theorem mK_end {d : Nat} {L : Nat} {k : Int} {nm : List ByteArray} {it : List JV} (hl : L + keyB (d + 1) ≤ 140737488355328) (hn : ∀ s ∈ nm, textF s = true) (hf : ∀ x ∈ it, formedF d x = true) (h24 : it.length ≤ 24) :
    L + (1 + (membK k nm 0 it).length) + 1 ≤ 140737488355328 := by
  have h1 := membK_len (k := k) (L := keyB d) hn it 0 (fun x hx => putF_len d x (hf x hx))
  have h2 : it.length * (keyB d + 200) ≤ 24 * (keyB d + 200) := Nat.mul_le_mul_right _ h24
  rw [keyB_succ] at hl
  generalize keyB d + 200 = q at *
  omega

set_option maxRecDepth 100000 in
set_option maxHeartbeats 8000000 in
theorem put_array (d : Nat) (IH : PutAt d) (n : Int) (t : ByteArray) (nm : List ByteArray) (it : List JV) (na : Option Addr) (ncap : Nat) (ia : Option Addr) (icap : Nat) (c : CF) (B : Nat) (sv : Value) (l : List UInt8) (w : World)
    (h24 : it.length ≤ 24) (hnl : nm.length = 0) (hnm : ∀ s ∈ nm, textF s = true) (hfi : ∀ x ∈ it, formedF d x = true) (hst : StrsAt c (.slice na nm.length ncap) nm) (hit : ItemsAt c (.slice ia it.length icap) it) (hc : CLe c (cfU B w)) (hb : BRow B w sv l) (hl : l.length + keyB (d + 1) ≤ 140737488355328) :
    Calls Tryz.prog 174 #[sv, .agg #[.int .i64 5, .int .i64 n, .string t, .slice na nm.length ncap, .slice ia it.length icap]] w (PutPostK B sv (l ++ (6 :: (membK 5 nm 0 it ++ [0]))) w) := by
  obtain ⟨sa, scap, rfl, _⟩ := hb.shape
  have HLOW := Hold.mk hb.low
  have HBW := Hold.mk hb.le
  have HB := Hold.mk (PutIn.start hb #[.int .i64 5, .int .i64 n, .string t, .slice na nm.length ncap, .slice ia it.length icap])
  have HL := Hold.mk hl
  have hl1 : l.length + 1 ≤ 140737488355328 := by rw [keyB_succ] at hl; omega
  have HL1 := Hold.mk hl1
  obtain ⟨ia', icap', e, hlen, hel⟩ := hit
  cases e
  obtain ⟨na', ncap', e, hnlen, hnel⟩ := hst
  cases e
  have HS := Hold.mk hnel
  have HNL := Hold.mk hnl
  have HE := Hold.mk hel
  have HIH := Hold.mk IH
  have HC := Hold.mk hc
  have HFI := Hold.mk hfi
  have HNM := Hold.mk hnm
  have H24 := Hold.mk h24
  clear hb hl hl1 hnel hnl hel IH hc hfi hnm h24
  go_enter Tryz.func174, Tryz.ntmps174
  go_wp2_with (at_builtin; refine app_new rfl _ _ rfl B _ _ _ HB.out.row rfl _ [6] rfl _ rfl (by simp) (Nat.succ_pos _) (by have := HL1.out; simp; omega) ?_)
  intro sv2 w2 hb2 hg2
  obtain ⟨l2, hl2⟩ : ∃ l2, l2 = l ++ [6] := ⟨_, rfl⟩
  rw [← hl2] at hb2
  have HL2 := Hold.mk hl2
  replace HB := Hold.mk (HB.out.next hb2 hg2)
  obtain ⟨sa2, scap2, rfl, _⟩ := hb2.shape
  obtain ⟨y0, y1, y2, y3, y4⟩ := cells_five HB.out.box
  clear hb2 hg2 hl2 HL1
  go_wp2_with fail
  clear y0 y1 y2 y3 y4
  go_loopw [0, 36] (fun v i wr => ∃ j : Nat, i = .int .i64 j ∧ j ≤ it.length ∧ PutIn B w wr (.slice sa l.length scap) v #[.int .i64 5, .int .i64 n, .string t, .slice na nm.length ncap, .slice ia it.length icap] (l ++ ([6] ++ membK 5 nm 0 (it.take j)))) (fun _ i _ => it.length - (intOf i).toNat)
  case atStart =>
    have e : l ++ ([6] ++ membK 5 nm 0 (it.take 0)) = l2 := by rw [HL2.out]; simp [membK]
    exact ⟨0, rfl, Nat.zero_le _, by rw [e]; exact HB.out⟩
  case round =>
    obtain ⟨j, rfl, hj, hpi⟩ := hrel
    clear HB
    obtain ⟨l3, hl3⟩ : ∃ l3, l3 = l ++ ([6] ++ membK 5 nm 0 (it.take j)) := ⟨_, rfl⟩
    rw [← hl3] at hpi
    obtain ⟨ja, jcap, rfl, _⟩ := hpi.row.shape
    have HB := Hold.mk hpi
    have HL3 := Hold.mk hl3
    clear hpi hl3
    by_cases hlt : j < it.length
    · obtain ⟨x, hx⟩ : ∃ x, it[j]? = some x := ⟨it[j], List.getElem?_eq_getElem hlt⟩
      obtain ⟨bb, off, k2, n2, t2, nm2, it2, na2, ncap2, ia2, icap2, rfl, hxe, x0, x1, x2, x3, x4, hxj⟩ := HE.out j x hx
      have hcu := HB.out.low_cells HC.out HBW.out (fun g hg => (HLOW.out g hg).1)
      have hcl := hcu.trans (cfU_cf B wr)
      have z0 := hcl _ _ _ x0
      have z1 := hcl _ _ _ x1
      have z2 := hcl _ _ _ x2
      have z3 := hcl _ _ _ x3
      have z4 := hcl _ _ _ x4
      unfold cf at z0 z1 z2 z3 z4
      have HX := Hold.mk hxj
      have HFX := Hold.mk (HFI.out x (List.mem_of_getElem? hx))
      have HFIT : Hold (l3.length + (keyB d + 200) ≤ 140737488355328) := ⟨by
        have h1 := mK_fits (k := 5) HL.out HNM.out HFI.out H24.out hlt
        rw [HL3.out, List.length_append, List.length_append, List.length_singleton]; exact h1⟩
      have HST := Hold.mk (membK_step (k := 5) (nm := nm) hx)
      obtain ⟨y0, y1, y2, y3, y4⟩ := cells_five HB.out.box
      have hwl := heap_lt HB.out.box
      have HI := Hold.mk (PutIn.start HB.out.row #[.int .i64 k2, .int .i64 n2, .string t2, .slice na2 nm2.length ncap2, .slice ia2 it2.length icap2])
      have HC2 := Hold.mk hcu
      have HBWR := Hold.mk HB.out.row.le
      have HLW := Hold.mk HB.out.row.low
      clear x0 x1 x2 x3 x4 hx hxe hxj hcu hcl
      go_wp2_with fail
      clear y0 y1 y2 y3 y4 z0 z1 z2 z3 z4
      refine (HIH.out x _ B _ l3 c _ HFX.out HX.out (HC2.out.trans (cfU_cfU ((Below.refl B wr).alloc HBWR.out _))) HI.out.row (by have := HFIT.out; omega)).mono ?_
      rintro e w3 ⟨s3, rfl, hb3, hg3⟩
      replace HI := Hold.mk (HI.out.next hb3 hg3)
      have hn := HB.out.next HI.out.row (((Grew.refl wr _).alloc _).trans HI.out.grew)
      rw [show l3 ++ putF x = l ++ ([6] ++ membK 5 nm 0 (it.take (j + 1))) by rw [HST.out, HL3.out]; simp [nameK]] at hn
      have HN := Hold.mk hn
      clear hn
      clear hb3 hg3
      go_wp2_with fail
      exact ⟨⟨j + 1, by go_num, hlt, HN.out⟩, by simp [intOf]; omega⟩
    · obtain rfl : j = it.length := by omega
      rw [List.take_of_length_le (Nat.le_refl _)] at HL3
      have HEND := Hold.mk (mK_end (k := 5) HL.out HNM.out HFI.out H24.out)
      go_wp2_with (at_builtin; refine app_new rfl _ _ rfl B _ _ _ HB.out.row rfl _ [0] rfl _ rfl (by simp) (Nat.succ_pos _) (by have := HEND.out; have e := HL3.out; rw [e]; simp; omega) ?_)
      intro sv4 w4 hb4 hg4
      have HP : Hold (PutPostK B (.slice sa l.length scap) (l ++ (6 :: (membK 5 nm 0 it ++ [0]))) w (.returned sv4) w4) := ⟨by
        have e : l3 ++ [0] = l ++ (6 :: (membK 5 nm 0 it ++ [0])) := by rw [HL3.out]; simp
        have h := (HB.out.next hb4 hg4).post
        rw [e] at h; exact h⟩
      clear hb4 hg4
      go_wp2_with fail
      go_ret
      exact HP.out

set_option maxRecDepth 100000 in
set_option maxHeartbeats 8000000 in
theorem put_object (d : Nat) (IH : PutAt d) (n : Int) (t : ByteArray) (nm : List ByteArray) (it : List JV) (na : Option Addr) (ncap : Nat) (ia : Option Addr) (icap : Nat) (c : CF) (B : Nat) (sv : Value) (l : List UInt8) (w : World)
    (h24 : it.length ≤ 24) (hnl : nm.length = it.length) (hnm : ∀ s ∈ nm, textF s = true) (hfi : ∀ x ∈ it, formedF d x = true) (hst : StrsAt c (.slice na nm.length ncap) nm) (hit : ItemsAt c (.slice ia it.length icap) it) (hc : CLe c (cfU B w)) (hb : BRow B w sv l) (hl : l.length + keyB (d + 1) ≤ 140737488355328) :
    Calls Tryz.prog 174 #[sv, .agg #[.int .i64 6, .int .i64 n, .string t, .slice na nm.length ncap, .slice ia it.length icap]] w (PutPostK B sv (l ++ (7 :: (membK 6 nm 0 it ++ [0]))) w) := by
  obtain ⟨sa, scap, rfl, _⟩ := hb.shape
  have HLOW := Hold.mk hb.low
  have HBW := Hold.mk hb.le
  have HB := Hold.mk (PutIn.start hb #[.int .i64 6, .int .i64 n, .string t, .slice na nm.length ncap, .slice ia it.length icap])
  have HL := Hold.mk hl
  have hl1 : l.length + 1 ≤ 140737488355328 := by rw [keyB_succ] at hl; omega
  have HL1 := Hold.mk hl1
  obtain ⟨ia', icap', e, hlen, hel⟩ := hit
  cases e
  obtain ⟨na', ncap', e, hnlen, hnel⟩ := hst
  cases e
  have HS := Hold.mk hnel
  have HNL := Hold.mk hnl
  have HE := Hold.mk hel
  have HIH := Hold.mk IH
  have HC := Hold.mk hc
  have HFI := Hold.mk hfi
  have HNM := Hold.mk hnm
  have H24 := Hold.mk h24
  clear hb hl hl1 hnel hnl hel IH hc hfi hnm h24
  go_enter Tryz.func174, Tryz.ntmps174
  go_wp2_with (at_builtin; refine app_new rfl _ _ rfl B _ _ _ HB.out.row rfl _ [7] rfl _ rfl (by simp) (Nat.succ_pos _) (by have := HL1.out; simp; omega) ?_)
  intro sv2 w2 hb2 hg2
  obtain ⟨l2, hl2⟩ : ∃ l2, l2 = l ++ [7] := ⟨_, rfl⟩
  rw [← hl2] at hb2
  have HL2 := Hold.mk hl2
  replace HB := Hold.mk (HB.out.next hb2 hg2)
  obtain ⟨sa2, scap2, rfl, _⟩ := hb2.shape
  obtain ⟨y0, y1, y2, y3, y4⟩ := cells_five HB.out.box
  clear hb2 hg2 hl2 HL1
  go_wp2_with fail
  clear y0 y1 y2 y3 y4
  go_loopw [0, 36] (fun v i wr => ∃ j : Nat, i = .int .i64 j ∧ j ≤ it.length ∧ PutIn B w wr (.slice sa l.length scap) v #[.int .i64 6, .int .i64 n, .string t, .slice na nm.length ncap, .slice ia it.length icap] (l ++ ([7] ++ membK 6 nm 0 (it.take j)))) (fun _ i _ => it.length - (intOf i).toNat)
  case atStart =>
    have e : l ++ ([7] ++ membK 6 nm 0 (it.take 0)) = l2 := by rw [HL2.out]; simp [membK]
    exact ⟨0, rfl, Nat.zero_le _, by rw [e]; exact HB.out⟩
  case round =>
    obtain ⟨j, rfl, hj, hpi⟩ := hrel
    clear HB
    obtain ⟨l3, hl3⟩ : ∃ l3, l3 = l ++ ([7] ++ membK 6 nm 0 (it.take j)) := ⟨_, rfl⟩
    rw [← hl3] at hpi
    obtain ⟨ja, jcap, rfl, _⟩ := hpi.row.shape
    have HB := Hold.mk hpi
    have HL3 := Hold.mk hl3
    clear hpi hl3
    by_cases hlt : j < it.length
    · obtain ⟨x, hx⟩ : ∃ x, it[j]? = some x := ⟨it[j], List.getElem?_eq_getElem hlt⟩
      obtain ⟨bb, off, k2, n2, t2, nm2, it2, na2, ncap2, ia2, icap2, rfl, hxe, x0, x1, x2, x3, x4, hxj⟩ := HE.out j x hx
      have hcu := HB.out.low_cells HC.out HBW.out (fun g hg => (HLOW.out g hg).1)
      have hcl := hcu.trans (cfU_cf B wr)
      have z0 := hcl _ _ _ x0
      have z1 := hcl _ _ _ x1
      have z2 := hcl _ _ _ x2
      have z3 := hcl _ _ _ x3
      have z4 := hcl _ _ _ x4
      unfold cf at z0 z1 z2 z3 z4
      have HX := Hold.mk hxj
      have HFX := Hold.mk (HFI.out x (List.mem_of_getElem? hx))
      have HFIT : Hold (l3.length + (keyB d + 200) ≤ 140737488355328) := ⟨by
        have h1 := mK_fits (k := 6) HL.out HNM.out HFI.out H24.out hlt
        rw [HL3.out, List.length_append, List.length_append, List.length_singleton]; exact h1⟩
      have HST := Hold.mk (membK_step (k := 6) (nm := nm) hx)
      obtain ⟨y0, y1, y2, y3, y4⟩ := cells_five HB.out.box
      have hwl := heap_lt HB.out.box
      obtain ⟨s, hs⟩ : ∃ s, nm[j]? = some s := ⟨nm[j]'(by rw [HNL.out]; exact hlt), List.getElem?_eq_getElem (by rw [HNL.out]; exact hlt)⟩
      have hsj : j < nm.length := by rw [HNL.out]; exact hlt
      obtain ⟨hsz, sb, so, rfl, hsc⟩ := HS.out j s hs
      have HSZ := Hold.mk (text_size (HNM.out s (List.mem_of_getElem? hs)))
      have z5 := hcl _ _ _ hsc
      unfold cf at z5
      have HNES : Hold (∀ g, (Value.slice ja l3.length jcap).ownBlock = some g → sb ≠ g) := ⟨fun g hg e => by
        have h1 := HB.out.row.low g hg
        have h2 := hcu _ _ _ hsc
        unfold cfU at h2; split at h2
        · omega
        · cases h2⟩
      have HNEB : Hold (∀ g, (Value.slice ja l3.length jcap).ownBlock = some g → w.heap.size ≠ g) := ⟨HB.out.ne⟩
      have HALLOC : Hold (CLe (cf wr) (cf (wr.alloc (.cells #[.int .i64 k2, .int .i64 n2, .string t2, .slice na2 nm2.length ncap2, .slice ia2 it2.length icap2] 25)))) := ⟨cle_alloc _ _⟩
      have HNK : Hold (nameK 6 nm j = 1 :: textK s.data.toList) := ⟨by unfold nameK; rw [if_pos rfl, List.getD_eq_getElem?_getD, hs]; rfl⟩
      have HI := Hold.mk (PutIn.start HB.out.row #[.int .i64 k2, .int .i64 n2, .string t2, .slice na2 nm2.length ncap2, .slice ia2 it2.length icap2])
      have HC2 := Hold.mk hcu
      have HBWR := Hold.mk HB.out.row.le
      have HLW := Hold.mk HB.out.row.low
      clear x0 x1 x2 x3 x4 hx hxe hxj hcu hcl
      have g3 := GrewW.cell (sv := .slice ja l3.length jcap) (w := wr.alloc (.cells #[.int .i64 k2, .int .i64 n2, .string t2, .slice na2 nm2.length ncap2, .slice ia2 it2.length icap2] 25)) (HALLOC.out _ _ _ y3) (fun g hg e => HNEB.out g hg e)
      have g5 := GrewW.cell (sv := .slice ja l3.length jcap) (w := wr.alloc (.cells #[.int .i64 k2, .int .i64 n2, .string t2, .slice na2 nm2.length ncap2, .slice ia2 it2.length icap2] 25)) (HALLOC.out _ _ _ z5) (fun g hg e => HNES.out g hg e)
      have HFA : Hold (l3.length + 1 ≤ 140737488355328) := ⟨by have := HFIT.out; omega⟩
      clear z5
      go_wp2_with fail
      clear y0 y1 y2 y3 y4 z0 z1 z2 z3 z4
      refine wp_region_mixG (.slice ja l3.length jcap) 10 rfl (by kernel_rfl) ?_
      rintro w1 hw1
      have HI1 := Hold.mk (HI.out.drew)
      rw [← hw1] at HI1
      clear hw1
      refine mixl_seg (by kernel_rfl) (fun _ _ d _ _ h => by cases d <;> exact h) [0, 3, 4, 5, 6, 7] [_, _, _, _, _, _] 4 10 rfl _ _ _ rfl (by kernel_rfl) (grewC HI1.out.grew) ?_
      repeat (go_big_quiet_step (fail))
      refine wpQuiet_nil ?_
      clear g3 g5
      refine mixl_act (i := 1) rfl (by kernel_rfl) (grewC HI1.out.grew) rfl (fun K hK => ?_)
      go_wp2_with fail
      refine mixl_act (i := 2) rfl (by kernel_rfl) (grewC (HI1.out.grew.alloc _)) rfl (fun K hK => ?_)
      refine wp_app_new (.tmp 44) (.tmp 45) rfl B w1 _ l3 HI1.out.row rfl #[.int .u8 1] [1] rfl _ rfl rfl (Nat.succ_pos _) (by have := HFA.out; simp; omega) ?_
      intro sv4 w4 hb4 hg4
      refine hK _ _ ?_
      clear hK K
      obtain ⟨l4, hl4⟩ : ∃ l4, l4 = l3 ++ [1] := ⟨_, rfl⟩
      rw [← hl4] at hb4
      have HL4 := Hold.mk hl4
      have HFB : Hold (l4.length + (2 * s.size + 2) ≤ 140737488355328) := ⟨by have := HFIT.out; have := HSZ.out; rw [hl4]; simp; omega⟩
      have HSZ2 : Hold (s.size ≤ 1000000) := ⟨by have := HSZ.out; omega⟩
      obtain ⟨ka, kcap, rfl, _⟩ := hb4.shape
      replace HI1 := Hold.mk (HI1.out.next hb4 hg4)
      clear hb4 hg4 hl4
      refine mixl_act (i := 8) rfl (by kernel_rfl) (grewC HI1.out.grew) rfl (fun K hK => ?_)
      go_wp2_with fail
      refine (text4_any B _ l4 s _ HI1.out.row HSZ2.out HFB.out).mono ?_
      rintro e w5 ⟨s5, rfl, hb5, hg5⟩
      obtain ⟨l5, hl5⟩ : ∃ l5, l5 = l4 ++ textK s.data.toList := ⟨_, rfl⟩
      rw [← hl5] at hb5
      have HL5 := Hold.mk hl5
      have HFC : Hold (l5.length + keyB d ≤ 140737488355328) := ⟨by
        have h1 := HFIT.out; have h2 := HSZ.out; have h3 := textK_len s.data.toList
        rw [size_list] at h3
        have h4 : l4.length = l3.length + 1 := by rw [HL4.out]; simp
        rw [hl5, List.length_append]; omega⟩
      obtain ⟨ma, mcap, rfl, _⟩ := hb5.shape
      replace HI1 := Hold.mk (HI1.out.next hb5 hg5)
      clear hb5 hg5 hl5
      go_wp2_with fail
      refine mixl_act (i := 9) rfl (by kernel_rfl) (grewC HI1.out.grew) rfl (fun K hK => ?_)
      go_wp2_with fail
      refine mix_done (by kernel_rfl) (grewC HI1.out.grew) ?_
      obtain ⟨u0, u1, u2, u3, u4⟩ := cells_five HI1.out.box
      go_wp2_with fail
      clear u0 u1 u2 u3 u4
      refine (HIH.out x _ B _ l5 c _ HFX.out HX.out (HI1.out.low_cells HC2.out HBWR.out (fun g hg => (HLW.out g hg).1)) HI1.out.row HFC.out).mono ?_
      rintro e w3 ⟨s3, rfl, hb3, hg3⟩
      replace HI1 := Hold.mk (HI1.out.next hb3 hg3)
      have hn := HB.out.next HI1.out.row (((Grew.refl wr _).alloc _).trans HI1.out.grew)
      rw [show l5 ++ putF x = l ++ ([7] ++ membK 6 nm 0 (it.take (j + 1))) by rw [HST.out, HNK.out, HL5.out, HL4.out, HL3.out]; simp] at hn
      have HN := Hold.mk hn
      clear hn
      clear hb3 hg3
      go_wp2_with fail
      exact ⟨⟨j + 1, by go_num, hlt, HN.out⟩, by simp [intOf]; omega⟩
    · obtain rfl : j = it.length := by omega
      rw [List.take_of_length_le (Nat.le_refl _)] at HL3
      have HEND := Hold.mk (mK_end (k := 6) HL.out HNM.out HFI.out H24.out)
      go_wp2_with (at_builtin; refine app_new rfl _ _ rfl B _ _ _ HB.out.row rfl _ [0] rfl _ rfl (by simp) (Nat.succ_pos _) (by have := HEND.out; have e := HL3.out; rw [e]; simp; omega) ?_)
      intro sv4 w4 hb4 hg4
      have HP : Hold (PutPostK B (.slice sa l.length scap) (l ++ (7 :: (membK 6 nm 0 it ++ [0]))) w (.returned sv4) w4) := ⟨by
        have e : l3 ++ [0] = l ++ (7 :: (membK 6 nm 0 it ++ [0])) := by rw [HL3.out]; simp
        have h := (HB.out.next hb4 hg4).post
        rw [e] at h; exact h⟩
      clear hb4 hg4
      go_wp2_with fail
      go_ret
      exact HP.out

theorem put_any : ∀ d, PutAt d
  | 0 => fun v x B sv l c w hf => by simp [formedF] at hf
  | d + 1 => fun v x B sv l c w hf hv hc hb hl => by
    have IH := put_any d
    obtain ⟨k, n, t, nm, it, na, ncap, ia, icap, rfl, rfl, _, hn, _, hst, hit⟩ := hv.open
    have h1 := formed_head hf
    have hl4 : l.length + 200 ≤ 140737488355328 := by rw [keyB_succ] at hl; exact Nat.le_trans (Nat.add_le_add_left (Nat.le_add_right _ _) _) hl
    rw [putF]
    by_cases h3 : k = 3
    · subst h3; rw [if_pos rfl]; exact put_int B sv l n t _ _ w hn hb hl4
    rw [if_neg h3]
    by_cases h4 : k = 4
    · subst h4; rw [if_pos rfl]; exact put_string B sv l n t _ _ w (text_size h1.2.2.2.2) hb hl4
    rw [if_neg h4]
    by_cases h5 : k = 5
    · subst h5
      obtain ⟨h24, hnl, hnm, hfi, _⟩ := formed_body hf (by decide)
      rw [if_pos (.inl rfl)]; exact put_array d IH n t nm it na ncap ia icap c B sv l w h24 (by simpa using hnl) hnm hfi hst hit hc hb hl
    by_cases h6 : k = 6
    · subst h6
      obtain ⟨h24, hnl, hnm, hfi, _⟩ := formed_body hf (by decide)
      rw [if_pos (.inr rfl)]; exact put_object d IH n t nm it na ncap ia icap c B sv l w h24 (by simpa using hnl) hnm hfi hst hit hc hb hl
    rw [if_neg (by omega)]
    have h0 := h1.1
    have h7 := h1.2.1
    exact put_word k (by omega) B sv l n t _ _ w hb hl4

end Go.Proofs.YtcmfanfkcbjeoaaGreatDoor
