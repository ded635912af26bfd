/- Read of the program. -/
import Derived.Test.YtdhilnnohokoeaaDoorRW
import Derived.Test.YtdhilnnohokoeaaDoorRV
import Derived.Test.YtdhilnnohokoeaaDoorRP
namespace Go.Proofs.YtdhilnnohokoeaaDoor
open Go.Shelf Go.RowKit

theorem end_five : ((endK 5).toNat : Int) = 93 := rfl
theorem end_six : ((endK 6).toNat : Int) = 125 := rfl
theorem list_all (b : Nat) (s : ByteArray) (hs : s.size ≤ 1000000) (n : Nat) : ListAt b s n := by
  induction n using Nat.strongRecOn with
  | _ n ih =>
    have hval : ∀ (m i : Nat) (w : World), m < n → 2 * (s.size - i) + 1 ≤ m → RB b s i false w → Errs b w → Calls Tryd.prog 14 #[.pointer (some ⟨b, 0, none⟩)] w (ResPost b s (valL m (dl s i)) w) := fun m i w hm h1 hr hE => by
      obtain ⟨m', rfl⟩ : ∃ m', m = m' + 1 := ⟨m - 1, by omega⟩
      exact value_step b s m' hs i w hr hE (fun _ => ⟨by omega, ih m' (by omega)⟩)
    rintro k i w hn hk hr hE ho
    rcases hk with rfl | rfl
    · rw [end_five]
      exact list5_step b s n hs hval i w hn hr hE ho
    · rw [end_six]
      exact list6_step b s n hs hval i w hn hr hE ho
/-- Read of the program reads as readF does -/
theorem Read_any (s : ByteArray) (w : World) (hs : s.size ≤ 1000000) (hT : Tabs w) (hE : Errs w.heap.size w) : Calls Tryd.prog 7 #[.string s] w (ReadPost s w) :=
  Read_step s w hs hT hE (fun b w' hr hE' => value_step b s (2 * s.size) hs 0 w' hr hE' (fun _ => ⟨by omega, list_all b s hs _⟩))

end Go.Proofs.YtdhilnnohokoeaaDoor
