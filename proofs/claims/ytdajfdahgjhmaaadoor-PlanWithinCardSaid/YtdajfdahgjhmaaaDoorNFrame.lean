/- A plan and bytes that come in, opened. -/
import Derived.Test.YtdajfdahgjhmaaaDoorNB
import Derived.Test.YtdajfdahgjhmaaaDoorKFrame
import Derived.Test.YtdajfdahgjhmaaaDoorEFrame
namespace Go.Proofs.YtdajfdahgjhmaaaDoor
open Go.Shelf
open Go.ChangeShapes Go.WideShapes Go.ChangeAt Go.RowKit

def ByteR : Rep UInt8 := fun _ x d => d = [.int .u8 (x.toNat : Int)]
theorem bytes_of_SAt {c : CF} {v : Value} {l : List UInt8} (h : SAt 1 ByteR c v l) : BytesAt c v l := by
  obtain ⟨a, cap, rfl, h1, h2, h3⟩ := h
  refine ⟨a, cap, rfl, by omega, fun i x hx => ?_⟩
  obtain ⟨b, off, d, e, hd, h5, h6⟩ := h3 i x hx
  obtain rfl : d = [.int .u8 (x.toNat : Int)] := h6
  have := h5 0 _ rfl
  exact ⟨b, off, e, by simpa using this⟩
theorem byte_of_trod {H : Type} {enc : TypeId × Value → H} {W : World} (fuel : Nat) (cs : List Value) (x : DataW H × List MemPlace)
    (h : DataW.trod enc Tryd.prog W 0 (fun _ => true) true fuel 5 cs = some x) (_ : cs.length = 1) : ∃ c : UInt8, ByteR (cf W) c cs := by
  obtain ⟨m, rfl, _, hw⟩ := DataW.trod_int Tryd.underlying5 h
  have hb : 0 ≤ m ∧ m ≤ 255 := by
    simp [Lit.wf, IntKind.min, IntKind.max, IntKind.bits, IntKind.signed] at hw
    omega
  exact ⟨UInt8.ofNat m.toNat, by unfold ByteR; rw [UInt8.toNat_ofNat']; congr 2; omega⟩
set_option maxRecDepth 100000 in
theorem bytes_of_trod {H : Type} {enc : TypeId × Value → H} {W : World} {fuel : Nat} {c : Value} {x : DataW H × List MemPlace}
    (h : DataW.trod enc Tryd.prog W 0 (fun _ => true) true fuel 22 [c] = some x) : ∃ l, BytesAt (cf W) c l := by
  obtain ⟨l, hl⟩ := slice_of_trod (n := 1) (R := ByteR) Tryd.underlying22 (by kernel_rfl) (by decide) (fun fuel cs x h hl => byte_of_trod fuel cs x h hl) h
  exact ⟨l, bytes_of_SAt hl⟩
set_option maxRecDepth 100000 in
theorem bytes_of_Trod {H : Type} {enc : TypeId × Value → H} {W : World} {base : Nat} {v : Value} {d : DataW H} {p : List MemPlace} (hv : Value.okWide Tryd.prog W .any base 22 v)
    (h : DataW.Trod enc Tryd.prog W 0 (fun _ => true) true 22 v d p) : ∃ l, BytesAt (cf W) v l := by
  obtain ⟨l, hl⟩ := slice_of_Trod (n := 1) (R := ByteR) Tryd.underlying22 (by kernel_rfl) (by decide) (fun fuel cs x h hl => byte_of_trod fuel cs x h hl) hv h
  exact ⟨l, bytes_of_SAt hl⟩
theorem plan_of_trod {H : Type} {enc : TypeId × Value → H} {W : World} {fuel : Nat} {cs : List Value} {x : DataW H × List MemPlace}
    (h : DataW.trod enc Tryd.prog W 0 (fun _ => true) true fuel 24 cs = some x) : ∃ i, PAt (cf W) i (.agg cs.toArray) := by
  obtain ⟨xs, n, hfu, _, hlen, hxl, hg⟩ := DataW.trod_struct Tryd.underlying24 h
  rw [show Tryd.prog.cellsOf 24 = 3 by kernel_rfl] at hlen
  have hF : Tryd.prog.cellsOf 22 = 1 := by kernel_rfl
  have hI : Tryd.prog.cellsOf 3 = 1 := by kernel_rfl
  obtain ⟨c0, c1, c2, rfl⟩ := list3 hlen
  obtain ⟨y0, y1, y2, rfl⟩ := list3 hxl
  have g0 : DataW.trod enc Tryd.prog W 0 (fun _ => true) true n 3 [c0] = some y0 := by have := hg 0 _ rfl; simpa [hI] using this
  have g1 : DataW.trod enc Tryd.prog W 0 (fun _ => true) true n 22 [c1] = some y1 := by have := hg 1 _ rfl; simpa [hF, hI] using this
  have g2 : DataW.trod enc Tryd.prog W 0 (fun _ => true) true n 22 [c2] = some y2 := by have := hg 2 _ rfl; simpa [hF, hI] using this
  obtain ⟨m, e0, _, _⟩ := DataW.trod_int Tryd.underlying3 g0
  obtain rfl := (List.cons.inj e0).1
  obtain ⟨l, hl⟩ := bytes_of_trod g1
  obtain ⟨l2, hl2⟩ := bytes_of_trod g2
  exact ⟨⟨m, l, l2⟩, c1, c2, rfl, hl, hl2⟩
set_option maxRecDepth 100000 in
theorem plan_of_Trod {H : Type} {enc : TypeId × Value → H} {W : World} {base : Nat} {v : Value} {d : DataW H} {p : List MemPlace} (hv : Value.okWide Tryd.prog W .any base 24 v)
    (h : DataW.Trod enc Tryd.prog W 0 (fun _ => true) true 24 v d p) : ∃ i, PAt (cf W) i v := by
  have hv2 : ∃ cs, v = .agg cs := okWide_agg Tryd.underlying24 hv
  clear hv
  obtain ⟨cs, rfl⟩ := hv2
  obtain ⟨fuel, hf⟩ := h
  obtain ⟨t, ht⟩ := plan_of_trod hf
  exact ⟨t, by simpa [Value.cells] using ht⟩

end Go.Proofs.YtdajfdahgjhmaaaDoor
