/- The reference's clock, walked: Take where it appends; Oldest; act. -/
import Derived.Test.YthdbmmefnlediaaClockB
import Derived.Maps.AppendAt
import Derived.Deep.AppendLies
import Derived.Deep.RegionLaw
namespace Go.Proofs.Ythdbmmefnlediaa
open Go.RowKit Go.Maps

theorem RClk.mid {w w1 w2 : World} {B rb : Nat} {tv lv : Value} {now : Int} {ts : List Int} {ls : List Bool} (h : RClk w B rb tv lv now ts ls) (hg0 : w.grownBy w1 none) (hg : w1.grownBy w2 lv.ownBlock) :
    w2.cell? ⟨rb, 2, none⟩ = some lv ∧ w2.frozen? ⟨rb, 2, none⟩ = false := by
  have hlt := lt_of_block h.blk
  have b2 : w2.heap[rb]? = some (.cells #[.int .u64 now, tv, lv] 31 (0, 0)) := by
    rw [hg.block rb (Nat.lt_of_lt_of_le hlt hg0.size) (fun e => h.ne.2.1 e.symm), hg0.block rb hlt (by simp)]; exact h.blk
  simp [World.cell?, World.frozen?, b2]

theorem slice_of_own {w : World} {B : Nat} {e : TypeId} {s : Nat} {v : Value} {n : Nat} {xs : List Value} (h : w.ownsRow B e s v (n + 1) xs) : ∃ g c, v = .slice (some ⟨g, 0, none⟩) (n + 1) c := by
  rcases h.2 with ⟨_, h⟩ | ⟨g, cap, cur, rfl, _⟩
  · cases h
  · exact ⟨_, _, rfl⟩

theorem grownBy_alloc_drew (w : World) (o : Obj) : w.grownBy (w.alloc o).drew none :=
  ⟨rfl, rfl, rfl, by simp, fun k hk _ => Below.heap_alloc w o k hk⟩

theorem mid1 {w w1 w2 : World} {rb : Nat} {tv lv : Value} {now : Int} (h : w.heap[rb]? = some (.cells #[.int .u64 now, tv, lv] 31 (0, 0))) (hne : tv.ownBlock ≠ some rb) (hg0 : w.grownBy w1 none) (hg : w1.grownBy w2 tv.ownBlock) :
    w2.cell? ⟨rb, 1, none⟩ = some tv ∧ w2.frozen? ⟨rb, 1, none⟩ = false ∧ ∀ u, (w2.setCell ⟨rb, 1, none⟩ u).cell? ⟨rb, 2, none⟩ = some lv := by
  have hlt := lt_of_block h
  have b2 : w2.heap[rb]? = some (.cells #[.int .u64 now, tv, lv] 31 (0, 0)) := by
    rw [hg.block rb (Nat.lt_of_lt_of_le hlt hg0.size) (fun e => hne e.symm), hg0.block rb hlt (by simp)]; exact h
  refine ⟨by simp [World.cell?, b2], by simp [World.frozen?, b2], fun u => ?_⟩
  have := cells3_set1 (u := u) b2
  simp [World.cell?, this]

set_option maxHeartbeats 400000 in
theorem ref_take_new {B b : Nat} {tv lv : Value} {n : Int} {ts : List Int} {ls : List Bool} (w : World) (h : RClk w B b tv lv n ts ls) (hmx : ls.length ≤ 1000)
    (hall : ∀ j, j < ls.length → ls[j]? = some true) :
    Calls Try.prog 21 #[.pointer (some ⟨b, 0, none⟩)] w fun e w' => e = .returned (.int .i64 ((ls.length : Int) + 1)) ∧ RGo w w' B b n (ts ++ [n]) (ls ++ [true]) := by
  have H := Lib.hid h
  have hc := h.c2
  have hfr2 := h.fr 2
  have HA := Lib.hid hall; clear hall
  obtain ⟨a, c, hlv⟩ : ∃ a c, lv = .slice a ls.length c := by
    rcases own_form h.ol with ⟨rfl, h0, _⟩ | ⟨g, cap, rfl, _⟩
    · exact ⟨none, 0, by rw [h0]⟩
    · exact ⟨_, _, rfl⟩
  have hcell : ∀ j : Nat, j < ls.length → ∃ g, a = some ⟨g, 0, none⟩ ∧ w.cell? ⟨g, j, none⟩ = some (.bool true) := by
    intro j hj
    rcases own_form h.ol with ⟨rfl, h0, _⟩ | ⟨g, cap, rfl, _, _, _, hcell, _⟩
    · omega
    · cases hlv; exact ⟨g, rfl, hcell j _ (by simp [HA.out j hj])⟩
  have HC := Lib.hid hcell; clear hcell h
  subst hlv
  obtain ⟨i0, hi, hz0, hz1, hz2⟩ := info_parts Try.infoB
  obtain ⟨i1, hi', hz0', hz1', hz2'⟩ := info_parts Try.infoU
  have HI := Lib.hid (And.intro hi (And.intro hz0 (And.intro hz1 hz2)))
  have HI' := Lib.hid (And.intro hi' (And.intro hz0' (And.intro hz1' hz2')))
  clear hi hz0 hz1 hz2 hi' hz0' hz1' hz2'
  go_enter Try.func21, Try.ntmps21
  go_wp2
  go_loop [3] (fun i => ∃ j : Nat, j ≤ ls.length ∧ i = .int .i64 j) (fun i => ls.length + 1 - (intOf i).toNat)
  case atStart => exact ⟨0, by omega, rfl⟩
  case round =>
    obtain ⟨j, hj, rfl⟩ := hrel
    by_cases hjm : j < ls.length
    · obtain ⟨g, rfl, x1⟩ := HC.out j hjm
      go_wp2
      go_round
      case rel => exact ⟨j + 1, by omega, by go_num⟩
      case measure => simp [intOf]; omega
    · have hB : B ≤ w.heap.size := by have := H.out.low; have := lt_of_block H.out.blk; omega
      go_wp2_with (at_builtin; refine wpList_append_own_at _ rfl _ _ 29 rfl B 4 i0 (.bool false) 1 1 Try.underlying29 HI.out.1 HI.out.2.1 HI.out.2.2.1 HI.out.2.2.2 rfl (by decide) (.slice a ls.length c) _ _ rfl (H.out.ol.alloc _) ⟨w.heap.size, 0, none⟩ 1 1 [.bool true] rfl rfl (cell_one_new _ _ _) (by simp [Value.oneCell']) (by unfold maxLen; omega) (by omega) (by simp; omega) ?_; intro v' w1 hown' hgrow hnil hloc; obtain ⟨g2, c2, rfl⟩ := slice_of_own hown'; have z1 := (H.out.mid (World.grownBy_alloc _ _ _) hgrow).1; have z2 := (H.out.mid (World.grownBy_alloc _ _ _) hgrow).2; clear hnil)
      obtain ⟨p1, p2, p3, p4, p5, p6, p7, p8⟩ := H.out.pushL (World.grownBy_alloc _ _ _) hgrow hown' hloc
      generalize w1.setCell ⟨b, 2, none⟩ (.slice (some ⟨g2, 0, none⟩) (ls.length + 1) c2) = w2 at p1 p2 p3 p4 p5 ⊢
      clear z1 z2 hown' hgrow hloc hc
      have q0 : w2.cell? ⟨b, 0, none⟩ = some (.int .u64 n) := by simp [World.cell?, p1]
      have q1 : w2.cell? ⟨b, 1, none⟩ = some tv := by simp [World.cell?, p1]
      have q2 : w2.cell? ⟨b, 2, none⟩ = some (.slice (some ⟨g2, 0, none⟩) (ls.length + 1) c2) := by simp [World.cell?, p1]
      have HP := Lib.hid (And.intro p1 (And.intro p2 (And.intro p3 (And.intro p4 p5))))
      clear p1 p2 p3 p4 p5
      have q1' : ∀ o, (w2.alloc o).cell? ⟨b, 1, none⟩ = some tv := fun o => by
        have hlt := lt_of_block HP.out.1
        simp [World.cell?, Below.heap_alloc w2 o b hlt, HP.out.1]
      have q0' : ∀ o, (w2.alloc o).cell? ⟨b, 0, none⟩ = some (.int .u64 n) := fun o => by
        have hlt := lt_of_block HP.out.1
        simp [World.cell?, Below.heap_alloc w2 o b hlt, HP.out.1]
      have hB2 : B ≤ w2.heap.size := Nat.le_trans hB HP.out.2.2.2.2.size
      have hts : ts.length ≤ 1000 := by rw [H.out.len]; exact hmx
      go_region_law (go_must (refine step_append_lies _ rfl _ _ 28 rfl B 22 i1 (.int .u64 0) 1 8 Try.underlying28 HI'.out.1 HI'.out.2.1 HI'.out.2.2.1 HI'.out.2.2.2 rfl (by decide) tv ts.length _ rfl (HP.out.2.1.alloc _) ⟨w2.heap.size, 0, none⟩ 1 1 [.int .u64 n] rfl rfl (cell_one_new _ _ _) (by simp [Value.oneCell']) (by decide) (by unfold maxLen; omega) (by omega) (by simp; omega) _ rfl ?_; intro g cap w1 hown' hgrow hat hlt; have z1 := (mid1 HP.out.1 p6 (grownBy_alloc_drew w2 _) hgrow).1; have z2 := (mid1 HP.out.1 p6 (grownBy_alloc_drew w2 _) hgrow).2.1; have z3 := (mid1 HP.out.1 p6 (grownBy_alloc_drew w2 _) hgrow).2.2))
      all_goals
        clear z1 z2
        go_wp2
        go_ret
        obtain ⟨k1, k2, k3⟩ := pushT (ls := ls ++ [true]) H.out.low H.out.wf H.out.wfs (by rw [H.out.len]; simp) HP.out.1 HP.out.2.1 (by simpa using HP.out.2.2.1) p6 p7 p8 (grownBy_alloc_drew w2 _) hgrow hown' (hat.imp (fun e => by rw [e]; rfl) (fun e => by subst e; rfl))
        exact ⟨rfl, ⟨_, _, k1⟩, HP.out.2.2.2.1.trans k2, HP.out.2.2.2.2.trans k3⟩

end Go.Proofs.Ythdbmmefnlediaa
