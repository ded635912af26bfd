/- Reading: strconv's ParseInt, and ParseUint at four hexadecimal digits. -/
import Derived.Test.YtdhilnnohokoeaaDoorRE
import Derived.Shelf.Strconv.ParseIntPublic10
import Derived.Shelf.Strconv.Lower
import Derived.Lib.SmallJoins
import Derived.Lib.ConvBytes
namespace Go.Proofs.YtdhilnnohokoeaaDoor
open Go.Shelf Go.RowKit

/-- strconv's two errors, in blocks below b -/
structure Errs (b : Nat) (w : World) : Prop where
  g1 : Tryd.laysPI_ren.g 15 < b
  g2 : Tryd.laysPI_ren.g 16 < b
  syn : ∃ t p, w.cell? ⟨Tryd.laysPI_ren.g 15, 0, none⟩ = some (.iface t p)
  rng : ∃ t p, w.cell? ⟨Tryd.laysPI_ren.g 16, 0, none⟩ = some (.iface t p)
theorem Errs.but {b : Nat} {w w' : World} (h : Errs b w) (k : But b w w') : Errs b w' := by
  obtain ⟨t, p, h1⟩ := h.syn
  obtain ⟨t2, p2, h2⟩ := h.rng
  have g1 := h.g1
  have g2 := h.g2
  exact ⟨g1, g2, ⟨t, p, k.cell h1 (fun e => absurd (Option.some.inj e) (Nat.ne_of_lt g1))⟩, ⟨t2, p2, k.cell h2 (fun e => absurd (Option.some.inj e) (Nat.ne_of_lt g2))⟩⟩
theorem Errs.below {b : Nat} {w w' : World} (h : Errs b w) (k : Below w.heap.size w w') : Errs b w' := h.but (But.of_below k)

def IntPost (r : Lib.NumEnd Int) (w : World) (e : Ending) (w' : World) : Prop :=
  Below w.heap.size w w' ∧ match r with
    | .ok v => e = .returned (.tuple #[.int .i64 v, .nilIface])
    | _ => ∃ n t p, e = .returned (.tuple #[.int .i64 n, .iface t p])
theorem parseInt_any (s : ByteArray) (b : Nat) (w : World) (hs : s.size ≤ 1000000) (hE : Errs b w) :
    Calls Tryd.prog 50 #[.string s, .int .i64 10, .int .i64 64] w (IntPost (Lib.parseIntB 64 s.data.toList) w) := by
  rcases h : Lib.parseIntB 64 s.data.toList with v | _ | _
  · refine (Any.strconv_ParseInt_10_at64_ok Tryd.laysPI s (by omega) v h w).mono ?_
    rintro e w' ⟨rfl, hw⟩
    refine ⟨?_, rfl⟩
    rcases hw with rfl | ⟨t, rfl⟩
    · exact Below.refl _ _
    · exact Go.Joins.below_bytesWorld _ w _ t (Nat.le_refl _)
  · obtain ⟨t, p, h1⟩ := hE.syn
    refine (Any.strconv_ParseInt_10_at64_syntax Tryd.laysPI s (by omega) h _ w h1 (.inr ⟨t, p, rfl⟩)).mono ?_
    rintro e w' ⟨N, rfl, _, _, hb⟩
    exact ⟨hb, _, _, _, rfl⟩
  · obtain ⟨t, p, h1⟩ := hE.rng
    refine (Any.strconv_ParseInt_10_at64_range Tryd.laysPI s (by omega) h _ w h1 (.inr ⟨t, p, rfl⟩)).mono ?_
    rintro e w' ⟨N, rfl, _, _, hb⟩
    exact ⟨hb, _, _, _, rfl⟩

theorem lower_any (c : UInt8) (w : World) : Calls Tryd.prog 94 #[.int .u8 (c.toNat : Int)] w fun e w' => e = .returned (.int .u8 ((c ||| 32).toNat : Int)) ∧ w' = w := by
  have h : ∀ a : Fin 256, bits .or .u8 (((UInt8.ofNat a.val).toNat : Nat) : Int) 32 = (((UInt8.ofNat a.val ||| 32).toNat : Nat) : Int) := by decide +kernel
  obtain ⟨a, rfl⟩ := byte_fin c
  have e := h a
  go_enter Tryd.func94, Tryd.ntmps94
  go_wp2
  go_ret
  exact ⟨by first | rw [e] | (have e2 := e; simp at e2 ⊢; exact e2), rfl⟩

theorem hexV_kind (c : UInt8) : (48 ≤ c.toNat ∧ c.toNat ≤ 57 ∧ hexV c = some (c.toNat - 48)) ∨
    (¬ (48 ≤ c.toNat ∧ c.toNat ≤ 57) ∧ hexV c = some ((c ||| 32).toNat - 87) ∧ 97 ≤ (c ||| 32).toNat ∧ (c ||| 32).toNat ≤ 102) ∨
    (¬ (48 ≤ c.toNat ∧ c.toNat ≤ 57) ∧ hexV c = none ∧ ((c ||| 32).toNat < 97 ∨ 103 ≤ (c ||| 32).toNat)) := by
  have h : ∀ a : Fin 256, decide ((48 ≤ (UInt8.ofNat a.val).toNat ∧ (UInt8.ofNat a.val).toNat ≤ 57 ∧ hexV (UInt8.ofNat a.val) = some ((UInt8.ofNat a.val).toNat - 48)) ∨
    (¬ (48 ≤ (UInt8.ofNat a.val).toNat ∧ (UInt8.ofNat a.val).toNat ≤ 57) ∧ hexV (UInt8.ofNat a.val) = some (((UInt8.ofNat a.val) ||| 32).toNat - 87) ∧ 97 ≤ ((UInt8.ofNat a.val) ||| 32).toNat ∧ ((UInt8.ofNat a.val) ||| 32).toNat ≤ 102) ∨
    (¬ (48 ≤ (UInt8.ofNat a.val).toNat ∧ (UInt8.ofNat a.val).toNat ≤ 57) ∧ hexV (UInt8.ofNat a.val) = none ∧ (((UInt8.ofNat a.val) ||| 32).toNat < 97 ∨ 103 ≤ ((UInt8.ofNat a.val) ||| 32).toNat))) = true := by decide +kernel
  obtain ⟨a, rfl⟩ := byte_fin c
  exact of_decide_eq_true (h a)
theorem byte_eqR {c k : UInt8} (h : (c.toNat : Int) = (k.toNat : Int)) : c = k := UInt8.toNat_inj.1 (by omega)
theorem hexS_some {c : UInt8} {d a : Nat} {r : List UInt8} (h : hexV c = some d) : hexS a (c :: r) = hexS (a * 16 + d) r := by rw [hexS, h]
theorem hexS_none {c : UInt8} {a : Nat} {r : List UInt8} (h : hexV c = none) : hexS a (c :: r) = none := by rw [hexS, h]

/-- four digits, as a number of 64 bits, or the fault of the form -/
def HexPost (l : List UInt8) (w : World) (e : Ending) (w' : World) : Prop :=
  Below w.heap.size w w' ∧ match hexS 0 l with
    | some n => e = .returned (.tuple #[.int .u64 (n : Int), .nilIface])
    | none => e = .returned (.tuple #[.int .u64 0, .iface 107 (.int .i64 2)])
set_option maxHeartbeats 4000000 in
set_option maxRecDepth 100000 in
theorem hexIn_any (t : ByteArray) (w : World) (ht : t.size = 4) :
    Calls Tryd.prog 80 #[.string t, .int .i64 16, .int .i64 16] w (HexPost t.data.toList w) := by
  have hemp : t.toList.isEmpty = false := by
    rw [ByteArray.toList_eq]
    cases e : t.data.toList with
    | nil => rw [← size_list, e] at ht; simp at ht
    | cons c l => rfl
  have hcv := Lib.run_convert_string_bytes (P := Tryd.prog) w 9 49 5 t (u := .string) Tryd.underlying9 Tryd.underlying49 Tryd.underlying5
  have hB : ∀ j, j < t.size → (Lib.bytesWorld w 5 t).cell? ⟨w.heap.size, j, none⟩ = some (.int .u8 (t.data.toList.getD j 0).toNat) := fun j hj => Lib.bytesWorld_cell w 5 t j hj
  have hbel := Go.Joins.below_bytesWorld w.heap.size w 5 t (Nat.le_refl _)
  obtain ⟨W1, hW1⟩ : ∃ W1, W1 = Lib.bytesWorld w 5 t := ⟨_, rfl⟩
  rw [← hW1] at hcv hB hbel
  clear hW1
  obtain ⟨bs, hL⟩ : ∃ bs, bs = t.data.toList := ⟨_, rfl⟩
  have hLn : bs.length = t.size := by rw [hL]; rfl
  rw [← hL] at hB ⊢
  clear hL
  have hmv : IntKind.u64.wrap (IntKind.u64.wrap 65536 - 1) = 65535 := by
    rw [IntKind.wrap_u64, IntKind.wrap_u64]
    decide
  have HB := Hold.mk hbel
  clear hbel
  generalize ht4 : t.size = sz at *
  subst ht
  go_enter Tryd.func80, Tryd.ntmps80
  go_wp2_with fail
  clear hcv
  go_loop [12, 13, 101] (fun vu vn vi => ∃ (k acc : Nat) (a : Int), vu = .bool false ∧ vn = .int .u64 a ∧ vi = .int .i64 k ∧ k ≤ 4 ∧ Hold (a = (acc : Int) ∧ acc < 16 ^ k ∧ hexS 0 bs = hexS acc (bs.drop k)))
    (fun _ _ vi => 4 - (intOf vi).toNat)
  case atStart => exact ⟨0, 0, 0, rfl, rfl, rfl, by omega, ⟨rfl, by decide, rfl⟩⟩
  case round =>
    obtain ⟨k, acc, a, rfl, rfl, rfl, hk, hh⟩ := hrel
    obtain ⟨ha, hacc, hdec⟩ := hh.out
    clear hh
    by_cases hkn : k < 4
    · have h16 : 16 ^ k ≤ 4096 := by
        have : k = 0 ∨ k = 1 ∨ k = 2 ∨ k = 3 := by omega
        rcases this with rfl | rfl | rfl | rfl <;> decide
      have a0 : 0 ≤ a := by omega
      have a1 : a ≤ 4095 := by omega
      have hpow : 16 ^ (k + 1) = 16 ^ k * 16 := Nat.pow_succ 16 k
      have hc := hB k hkn
      have hdrop : bs.drop k = bs[k]'(by omega) :: bs.drop (k + 1) := List.drop_eq_getElem_cons (by omega)
      have hget : bs.getD k 0 = bs[k]'(by omega) := by simp [List.getD, List.getElem?_eq_getElem (show k < bs.length by omega)]
      rw [hdrop] at hdec
      rw [hget] at hc
      generalize bs[k]'(by omega) = c at hc hdec
      have hc256 : c.toNat < 256 := c.toNat_lt
      clear hB hdrop hget
      have hkd := hexV_kind c
      rcases hkd with ⟨hd0, hd1, hv⟩ | ⟨hnd, hv, hl0, hl1⟩ | ⟨hnd, hv, hl⟩
      · have HN : Hold (a * 16 + ((c.toNat : Int) - 48) = ((acc * 16 + (c.toNat - 48) : Nat) : Int) ∧ acc * 16 + (c.toNat - 48) < 16 ^ (k + 1) ∧ hexS 0 bs = hexS (acc * 16 + (c.toNat - 48)) (bs.drop (k + 1))) := ⟨by omega, by omega, hdec.trans (hexS_some hv)⟩
        clear hacc hdec ha hpow h16 hv
        go_wp2_with fail
        exact ⟨⟨k + 1, _, _, rfl, rfl, by go_num, by omega, HN⟩, by simp [intOf]; omega⟩
      · have HLW : ∀ W, Calls Tryd.prog 94 #[.int .u8 (c.toNat : Int)] W fun e w' => e = .returned (.int .u8 ((c ||| 32).toNat : Int)) ∧ w' = W := fun W => lower_any c W
        have hn95 : ¬ ((c.toNat : Int) = 95) := fun e => by
          obtain rfl : c = 95 := byte_eqR (k := 95) e
          revert hl1; decide
        generalize (c ||| 32).toNat = lw at *
        have HN : Hold (a * 16 + ((lw : Int) - 97 + 10) = ((acc * 16 + (lw - 87) : Nat) : Int) ∧ acc * 16 + (lw - 87) < 16 ^ (k + 1) ∧ hexS 0 bs = hexS (acc * 16 + (lw - 87)) (bs.drop (k + 1))) := ⟨by omega, by omega, hdec.trans (hexS_some hv)⟩
        have hn2 : ¬ (48 ≤ (c.toNat : Int) ∧ (c.toNat : Int) ≤ 57) := by omega
        have HL := Hold.mk HLW
        clear hacc hdec ha hpow h16 hv HLW hnd
        go_wp2_with (go_at_call 94; refine (HL.out _).mono ?_; rintro e w' ⟨rfl, rfl⟩)
        all_goals first
          | omega
          | exact ⟨⟨k + 1, _, _, rfl, rfl, by go_num, by omega, HN⟩, by simp [intOf]; omega⟩
      · have HN : Hold (hexS 0 bs = none) := ⟨hdec.trans (hexS_none hv)⟩
        by_cases h95 : c = 95
        · subst h95
          have HL : Hold (∀ W, Calls Tryd.prog 94 #[.int .u8 95] W fun e w' => e = .returned (.int .u8 127) ∧ w' = W) := ⟨fun W => lower_any 95 W⟩
          clear hacc hdec ha hpow h16 hv hnd hl hc256
          go_wp2_with (go_at_call 94; refine (HL.out _).mono ?_; rintro e w' ⟨rfl, rfl⟩)
          all_goals (go_ret2; exact ⟨HB.out, by rw [HN.out]; rfl⟩)
        · have HLW : ∀ W, Calls Tryd.prog 94 #[.int .u8 (c.toNat : Int)] W fun e w' => e = .returned (.int .u8 ((c ||| 32).toNat : Int)) ∧ w' = W := fun W => lower_any c W
          have hlt : (c ||| 32).toNat < 256 := (c ||| 32).toNat_lt
          have hn95 : ¬ ((c.toNat : Int) = 95) := fun e => h95 (byte_eqR (k := 95) e)
          generalize (c ||| 32).toNat = lw at *
          have HL := Hold.mk HLW
          have hn2 : ¬ (48 ≤ (c.toNat : Int) ∧ (c.toNat : Int) ≤ 57) := by omega
          clear hacc hdec ha hpow h16 hv HLW hnd h95
          go_wp2_with (go_at_call 94; refine (HL.out _).mono ?_; rintro e w' ⟨rfl, rfl⟩)
          all_goals first
            | omega
            | (go_ret2; exact ⟨HB.out, by rw [HN.out]; rfl⟩)
    · obtain rfl : k = 4 := by omega
      have HN : Hold (hexS 0 bs = some acc) := ⟨by rw [hdec, List.drop_eq_nil_of_le (by omega)]; rfl⟩
      have HA := Hold.mk ha
      clear hacc hdec ha hB
      go_wp2_with fail
      go_ret2
      exact ⟨HB.out, by rw [HN.out]; first | rfl | (rw [HA.out]; rfl)⟩

end Go.Proofs.YtdhilnnohokoeaaDoor
