/- Catalogs: the least space that none has. -/
import Derived.Test.YtcmfanfkcbjeoaaGreatDoorCC
namespace Go.Proofs.YtcmfanfkcbjeoaaGreatDoor
open Go.RowKit Go.Shelf

/-- the least number from 1 on that is not there -/
structure IsFresh (zs : List Int) (n : Nat) : Prop where
  pos : 1 ≤ n
  not_ : ¬ ((n : Int) ∈ zs)
  all : ∀ m : Nat, 1 ≤ m → m < n → (m : Int) ∈ zs
theorem IsFresh.uniq {zs : List Int} {n m : Nat} (h : IsFresh zs n) (k : IsFresh zs m) : n = m := by
  rcases Nat.lt_trichotomy n m with hl | hl | hl
  · exact absurd (k.all n h.pos hl) h.not_
  · exact hl
  · exact absurd (h.all m k.pos hl) k.not_
theorem fill_le : ∀ (n : Nat) (zs : List Int), (∀ m : Nat, 1 ≤ m → m ≤ n → (m : Int) ∈ zs) → n ≤ zs.length
  | 0, _, _ => Nat.zero_le _
  | n + 1, zs, h => by
    have h1 := h (n + 1) (by omega) (Nat.le_refl _)
    have h2 := fill_le n (zs.erase ((n + 1 : Nat) : Int)) (fun m hm hmn => (List.mem_erase_of_ne (by omega)).2 (h m hm (by omega)))
    have h3 := List.length_erase_of_mem h1
    have h4 := List.length_pos_of_mem h1
    omega
theorem contains_ints (T : TypeId) (B p : Nat) (sl : Value) (zs : List Int) (cs : List Value) (x : Int) (w : World) (h : OwnS 1 RInt T B w sl p zs cs) :
    Calls Tryz.prog (Tryz.laysContI_ren.f 107) #[sl, .int .i64 x] w fun e w' => e = .returned (.bool (zs.contains x)) ∧ w' = w := by
  have e1 := owns_ints h
  have hlen := h.len
  rcases id h.own.2 with ⟨hv, hn⟩ | ⟨g, cap, cur, hv, hb, hg, hle, hcap, hs, ht⟩
  · obtain rfl : zs = [] := List.length_eq_zero_iff.1 (by omega)
    subst hv
    refine (Any.slices_Contains_int_empty Tryz.laysContI none 0 x w).mono ?_
    rintro e w' ⟨rfl, rfl⟩
    exact ⟨by simp, rfl⟩
  · subst hv
    have hc := Any.slices_Contains_int Tryz.laysContI g 0 p cap zs x w (by omega) (by unfold maxLen at hcap; omega) (fun j hj => by
      have := h.own.cells (g := g) rfl j (.int .i64 zs[j]) (by rw [e1, List.getElem?_map, List.getElem?_eq_getElem hj]; rfl)
      rw [addr_at] at this
      rw [Nat.zero_add, this, List.getD_eq_getElem?_getD, List.getElem?_eq_getElem hj]; rfl)
    rw [List.take_of_length_le (by omega)] at hc
    exact hc

set_option maxRecDepth 100000 in
set_option maxHeartbeats 8000000 in
theorem fresh_any (l : List CX) (v : Value) (w : World) (h : CatAt (cf w) l v) (hn : (spacesC l).length ≤ 1000000) :
    Calls Tryz.prog 68 #[v] w fun e w' => ∃ n : Nat, e = .returned (.int .i64 (n : Int)) ∧ IsFresh (spacesC l) n ∧ n ≤ (spacesC l).length + 1 ∧ Below w.heap.size w w' := by
  have HCA := Hold.mk h
  obtain ⟨a, cap, rfl, hs⟩ := h
  have HB := Hold.mk ((Below.refl _ w).alloc (Nat.le_refl _) (.cells #[.slice a l.length cap] 51))
  have HSP := Hold.mk (Spaces_any l (.agg #[.slice a l.length cap]) _ (HCA.out.mono (cle_below HB.out)) hn)
  obtain ⟨zs, hzs⟩ : ∃ zs, zs = spacesC l := ⟨_, rfl⟩
  rw [← hzs] at HSP hn ⊢
  have HN := Hold.mk hn
  clear hs hzs hn HCA
  go_enter Tryz.func68, Tryz.ntmps68
  go_wp2_with fail
  refine HSP.out.mono ?_
  rintro e w1 ⟨sv, p, cs, rfl, hown, hb1⟩
  obtain ⟨sa, scap, rfl⟩ := hown.shape
  have HB1 := Hold.mk (HB.out.trans (hb1.mono HB.out.size))
  have HO := Hold.mk hown
  clear hown hb1 HSP HB
  go_wp2_with fail
  go_loopw [4] (fun i wr => ∃ n : Nat, i = .int .i64 (n : Int) ∧ 1 ≤ n ∧ n ≤ zs.length + 1 ∧ (∀ m : Nat, 1 ≤ m → m < n → (m : Int) ∈ zs) ∧ wr = w1) (fun i _ => zs.length + 2 - (intOf i).toNat)
  case atStart => exact ⟨1, rfl, Nat.le_refl _, by omega, fun m h1 h2 => by omega, rfl⟩
  case round =>
    obtain ⟨n, rfl, hn1, hn2, hall, rfl⟩ := hrel
    have HALL := Hold.mk hall
    have HCN := Hold.mk (contains_ints 3 _ p (.slice sa p scap) zs cs (n : Int) wr HO.out)
    have HN2 := Hold.mk hn2
    clear hall hn2
    cases hc : zs.contains (n : Int) with
    | true =>
      rw [hc] at HCN
      have hmem : (n : Int) ∈ zs := by simpa using hc
      have HA2 : Hold (∀ m : Nat, 1 ≤ m → m < n + 1 → (m : Int) ∈ zs) := ⟨fun m h1 h2 => by
        by_cases e : m = n
        · subst e; exact hmem
        · exact HALL.out m h1 (by omega)⟩
      have HLE : Hold (n ≤ zs.length) := ⟨fill_le n zs (fun m h1 h2 => HA2.out m h1 (by omega))⟩
      clear hc hmem
      go_wp2_with fail
      refine HCN.out.mono ?_
      rintro e w2 ⟨rfl, rfl⟩
      clear HCN
      have hle := HLE.out
      have hcap2 : zs.length ≤ 9223372036854775806 := by have := HN.out; omega
      go_wp2_with fail
      have hn3 : n + 1 ≤ zs.length + 1 := by have := HLE.out; omega
      exact ⟨⟨n + 1, by go_num, Nat.le_add_left 1 n, hn3, HA2.out, trivial⟩, by simp [intOf]; omega⟩
    | false =>
      rw [hc] at HCN
      have HF : Hold (IsFresh zs n) := ⟨⟨hn1, by simpa using hc, HALL.out⟩⟩
      clear hc
      go_wp2_with fail
      refine HCN.out.mono ?_
      rintro e w2 ⟨rfl, rfl⟩
      clear HCN
      go_wp2_with fail
      go_ret
      exact ⟨n, rfl, HF.out, HN2.out, HB1.out⟩

end Go.Proofs.YtcmfanfkcbjeoaaGreatDoor
