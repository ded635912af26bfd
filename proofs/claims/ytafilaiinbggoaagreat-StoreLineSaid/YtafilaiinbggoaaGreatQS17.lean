import Derived.Test.YtafilaiinbggoaaGreatQS16
namespace Go.Proofs.YtafilaiinbggoaaGreat
open Go.RowKit Go.Maps
def bvY (l : Bts) : List Value := l.map fun b => .int .u8 (b.toNat : Int)
theorem ry_row (c : CF) (l : Bts) : GRow 1 RY c l (bvY l) := by
 refine ⟨by simp [bvY], fun i x hx => ⟨[.int .u8 (x.toNat : Int)], rfl, fun j u hu => ?_, rfl⟩⟩
 match j, hu with
 | 0, hu =>
  cases hu
  unfold bvY
  rw [Nat.mul_one, Nat.add_zero, List.getElem?_map, hx]
  rfl
theorem new_sat {w : World} {vs : Array Value} {ys : Bts} (hvs : vs.toList = bvY ys) (hl : ys.length <= 1000000) : SAt 1 RY (cfA w.heap.size (w.alloc (.cells vs 5))) (.slice (some ⟨w.heap.size, 0, none⟩) ys.length ys.length) ys := by
 have hn := heap_alloc_new w (.cells vs 5)
 refine ⟨_, _, rfl, Nat.le_refl _, by omega, fun i x hx => ⟨w.heap.size, 0, [.int .u8 (x.toNat : Int)], rfl, rfl, fun j u hu => ?_, rfl⟩⟩
 match j, hu with
 | 0, hu =>
  cases hu
  have h1 : vs[i]? = some (.int .u8 (x.toNat : Int)) := by
   rw [<- Array.getElem?_toList, hvs]
   unfold bvY
   rw [List.getElem?_map, hx]
   rfl
  unfold cfA
  rw [if_pos (Nat.le_refl _), Nat.zero_add, Nat.mul_one, Nat.add_zero]
  simp only [World.cell?]
  rw [hn]
  exact h1
def PRow (w : World) (g : Nat) (b : Bts) : Prop := b.length <= 1024 /\ w.heap[g]? = some (.cells (bvY (padTo 1024 b)).toArray 5 (0, 0))
theorem bvY_len (l : Bts) : (bvY l).length = l.length := List.length_map ..
theorem bvY_app (a b : Bts) : bvY (a ++ b) = bvY a ++ bvY b := List.map_append
theorem pad_app {b ys : Bts} (h : b.length + ys.length <= 1024) : (bvY (padTo 1024 b)).take b.length ++ bvY ys ++ (bvY (padTo 1024 b)).drop (b.length + ys.length) = bvY (padTo 1024 (b ++ ys)) := by
 unfold padTo
 rw [bvY_app, bvY_app, bvY_app, List.take_append_of_le_length (by rw [bvY_len]; exact Nat.le_refl _), List.take_of_length_le (by rw [bvY_len]; exact Nat.le_refl _)]
 have e : (bvY b ++ bvY (List.replicate (1024 - b.length) 0)).drop (b.length + ys.length) = bvY (List.replicate (1024 - (b ++ ys).length) 0) := by
  have h1 : (bvY b).length = b.length := bvY_len b
  rw [<- h1, List.drop_append, h1]
  have h2 : (bvY b).drop (b.length + ys.length) = [] := List.drop_eq_nil_iff.2 (by rw [bvY_len]; omega)
  rw [h2, List.nil_append]
  unfold bvY
  rw [List.map_replicate, List.map_replicate, List.drop_replicate, List.length_append]
  congr 1
  omega
 rw [e]
theorem PRow.cells {w : World} {g : Nat} {b : Bts} (h : PRow w g b) : w.ownsRow 0 5 1 (.slice (some ⟨g, 0, none⟩) b.length 1024) b.length (bvY b) := by
 have hp : (padTo 1024 b).length = 1024 := pad_len h.1
 refine ⟨by rw [bvY_len]; omega, .inr ⟨g, 1024, _, rfl, Nat.zero_le _, h.2, h.1, by unfold maxLen; omega, by simp [bvY_len, hp], ?_⟩⟩
 show (bvY (padTo 1024 b)).take (b.length * 1) = bvY b
 unfold padTo
 rw [Nat.mul_one, bvY_app, List.take_append_of_le_length (by rw [bvY_len]; exact Nat.le_refl _), List.take_of_length_le (by rw [bvY_len]; exact Nat.le_refl _)]
theorem run_page_app {w : World} {g : Nat} {b ys : Bts} {src : Value} (h : PRow w g b) (hs : SAt 1 RY (cf w) src ys) (hl : b.length + ys.length <= 1024) (ty : TypeId) :
  ∃ w', (Builtin.append_ #[23, 23] ty #[.slice (some ⟨g, 0, none⟩) b.length 1024, src]).run Tryz.prog w = .ok (.slice (some ⟨g, 0, none⟩) (b.length + ys.length) 1024) w' /\ PRow w' g (b ++ ys) /\ w.grownBy w' (some g) := by
 obtain ⟨i0, hi, hz0, hz1, hz2⟩ := info_parts infoY
 by_cases h0 : 0 < ys.length
 ·obtain ⟨q, off, cap, news, rfl, hg, hc, ho⟩ := sat_cells RY_one hs h0
  have hnews : news = bvY ys := by
   refine List.ext_getElem? fun i => ?_
   unfold bvY
   rw [List.getElem?_map]
   cases e : ys[i]? with
   | none =>
    have h1 := List.getElem?_eq_none_iff.1 e
    have h2 := hg.1
    rw [List.getElem?_eq_none_iff.2 (by omega)]
    rfl
   | some x =>
    obtain ⟨d, _, h2, h3⟩ := hg.2 i x e
    have h3' : d = [.int .u8 (x.toNat : Int)] := h3
    have := h2 0 _ (by rw [h3']; rfl)
    rw [Nat.mul_one, Nat.add_zero] at this
    rw [this]
    rfl
  have hp : (padTo 1024 b).length = 1024 := pad_len h.1
  have hr := run_append_room (P := Tryz.prog) w 23 ty 5 i0 Tryz.underlying23 hi g b.length 1024 _ h.2 ⟨q, off, none⟩ ys.length cap news (by rw [hz1, hg.1]) (fun j u hu => by
   have := hc j u hu
   unfold cf at this
   have e : Addr.add ⟨q, off, none⟩ j = ⟨q, off + j, none⟩ := by unfold Addr.add; split <;> simp_all
   rw [e]; exact this) ho hl (by rw [hz1, hnews, bvY_len, List.size_toArray, bvY_len, hp]; omega)
  rw [hz1, Nat.mul_one, hnews, bvY_len] at hr
  have e2 : ((bvY (padTo 1024 b)).toArray.toList.take b.length ++ bvY ys ++ (bvY (padTo 1024 b)).toArray.toList.drop (b.length + ys.length)) = bvY (padTo 1024 (b ++ ys)) := pad_app hl
  rw [e2] at hr
  refine ⟨_, hr, ⟨by rw [List.length_append]; exact hl, setRow_heap w g _ _ _ _ h.2⟩, ⟨rfl, rfl, rfl, by rw [setRow_size]; exact Nat.le_refl _, fun q hq hne => setRow_other _ _ _ _ (fun e => hne (by rw [e]))⟩⟩
 ·obtain rfl : ys = [] := List.length_eq_zero_iff.1 (by omega)
  obtain ⟨a, cap, rfl, _⟩ := hs
  have hr := run_append_zero (P := Tryz.prog) 0 23 ty 5 i0 1 Tryz.underlying23 hi _ _ _ h.cells a cap
  exact ⟨w, hr, by rw [List.append_nil]; exact h, World.grownBy.refl _ _⟩
theorem page_app {ops : Array Oper} {rest : List Oper} {o : Oper} {a : Act} {Q : Exit -> Act -> World -> Prop} (hgd : o.guard = none) (s x : Operand) (ho : o.op = .call { callee := .builtin .append, args := #[s, x], argTypes := #[23, 23] })
  (w : World) (g : Nat) (b : Bts) (n : Nat) (hb : PRow w g b) (hn : n = b.length) (hs : a.eval s = .slice (some ⟨g, 0, none⟩) n 1024) (src : Value) (ys : Bts) (hy : SAt 1 RY (cf w) src ys) (hx : a.eval x = src) (hl : b.length + ys.length <= 1024)
  (h : ∀ w', PRow w' g (b ++ ys) -> w.grownBy w' (some g) -> wpList Tryz.prog ops Q rest (a.put o.dst (.slice (some ⟨g, 0, none⟩) (n + ys.length) 1024)) w') : wpList Tryz.prog ops Q (o :: rest) a w := by
 subst hn
 refine wpList_plain hgd fun K' hK' => ?_
 obtain ⟨w', hrun, r1, r2⟩ := run_page_app hb hy hl o.type
 unfold Oper.wp
 simp [execOp, ho, resolve, invoke, builtin, hs, hx, hrun, Result.andThen]
 exact hK' _ _ (h w' r1 r2)
theorem wp_page_app {o : Oper} {a : Act} {K : Act -> World -> Prop} {Q : Exit -> Act -> World -> Prop} (s x : Operand) (ho : o.op = .call { callee := .builtin .append, args := #[s, x], argTypes := #[23, 23] })
  (w : World) (g : Nat) (b : Bts) (n : Nat) (hb : PRow w g b) (hn : n = b.length) (hs : a.eval s = .slice (some ⟨g, 0, none⟩) n 1024) (src : Value) (ys : Bts) (hy : SAt 1 RY (cf w) src ys) (hx : a.eval x = src) (hl : b.length + ys.length <= 1024)
  (h : ∀ w', PRow w' g (b ++ ys) -> w.grownBy w' (some g) -> K (a.put o.dst (.slice (some ⟨g, 0, none⟩) (n + ys.length) 1024)) w') : o.wp Tryz.prog a w K Q := by
 subst hn
 obtain ⟨w', hrun, r1, r2⟩ := run_page_app hb hy hl o.type
 unfold Oper.wp
 simp [execOp, ho, resolve, invoke, builtin, hs, hx, hrun, Result.andThen]
 exact h w' r1 r2
theorem PRow.below {w w' : World} {g : Nat} {b : Bts} (h : PRow w g b) (hb : Below w.heap.size w w') : PRow w' g b := ⟨h.1, kept h.2 hb⟩
theorem page_new {ops : Array Oper} {rest : List Oper} {o : Oper} {a : Act} {Q : Exit -> Act -> World -> Prop} (hgd : o.guard = none) (s x : Operand) (ho : o.op = .call { callee := .builtin .append, args := #[s, x], argTypes := #[23, 23] })
  (w : World) (g : Nat) (b : Bts) (n : Nat) (hb : PRow w g b) (hn : n = b.length) (hs : a.eval s = .slice (some ⟨g, 0, none⟩) n 1024) (vs : Array Value) (ys : Bts) (hvs : vs.toList = bvY ys) (k : Nat) (hk : k = ys.length) (H : Nat) (hx : a.eval x = .slice (some ⟨H, 0, none⟩) k k) (hH : w.heap.size = H) (hl : b.length + ys.length <= 1024)
  (h : ∀ w', PRow w' g (b ++ ys) -> w.grownBy w' (some g) -> wpList Tryz.prog ops Q rest (a.put o.dst (.slice (some ⟨g, 0, none⟩) (n + k) 1024)) w') : wpList Tryz.prog ops Q (o :: rest) a (w.alloc (.cells vs 5)) := by
 subst hH
 subst hk
 have hb1 := (Below.refl _ w).alloc (Nat.le_refl _) (.cells vs 5)
 refine page_app hgd s x ho (w.alloc (.cells vs 5)) g b n (hb.below hb1) hn hs _ ys ((new_sat hvs (by omega)).mono RY_mono (cfA_le _ _)) hx hl ?_
 intro w' h1 h2
 exact h w' h1 ⟨h2.os.trans hb1.os, h2.tape.trans hb1.tape, h2.output.trans hb1.output, Nat.le_trans hb1.size h2.size, fun q hq hne => (h2.block q (Nat.lt_of_lt_of_le hq hb1.size) hne).trans (hb1.block q hq)⟩
def PagePost (g n : Nat) (b : Bts) (w : World) (e : Ending) (w' : World) : Prop := e = .returned (.slice (some ⟨g, 0, none⟩) n 1024) /\ PRow w' g b /\ w.grownBy w' (some g)
theorem be16_cellsT (x : Nat) : (((UInt8.ofNat (x / 256)).toNat : Nat) : Int) = (x : Int) / 256 % 256 /\ ((UInt8.ofNat x).toNat : Int) = (x : Int) % 256 := by
 constructor <;> simp
theorem be32_cellsT (x : Nat) : (((UInt8.ofNat (x / 16777216)).toNat : Nat) : Int) = (x : Int) / 16777216 % 256 /\ (((UInt8.ofNat (x / 65536)).toNat : Nat) : Int) = (x : Int) / 65536 % 256 /\ (((UInt8.ofNat (x / 256)).toNat : Nat) : Int) = (x : Int) / 256 % 256 /\ ((UInt8.ofNat x).toNat : Int) = (x : Int) % 256 := by
 refine ⟨?_, ?_, ?_, ?_⟩ <;> simp
set_option maxRecDepth 100000 in
set_option maxHeartbeats 4000000 in
theorem node_append16 {g n n' : Nat} {b : Bts} {w : World} {x : Nat} (hb : PRow w g b) (hn : n = b.length) (hl : b.length + 2 <= 1024) (hn' : n' = n + 2) :
  Calls Tryz.prog 79 #[.slice (some ⟨g, 0, none⟩) n 1024, .int .u16 (x : Int)] w (PagePost g n' (b ++ be16 x) w) := by
 subst hn'
 have HB := HoldT.mk (And.intro hb (And.intro hn hl))
 have HC := HoldT.mk (be16_cellsT x)
 clear hb hn hl
 go_enter Tryz.func79, Tryz.ntmps79
 go_wp2_with (at_builtin; refine page_new rfl _ _ rfl w g b n HB.out.1 HB.out.2.1 rfl _ (be16 x) (by simp only [bvY, be16, List.map_cons, List.map_nil]; rw [HC.out.1, HC.out.2]) 2 rfl _ rfl rfl HB.out.2.2 ?_)
 intro w3 hb3 hg3
 have HB3 := HoldT.mk (And.intro hb3 hg3)
 clear hb3 hg3
 go_wp2_with fail
 go_ret
 exact ⟨rfl, HB3.out.1, HB3.out.2⟩
set_option maxRecDepth 100000 in
set_option maxHeartbeats 4000000 in
theorem node_append32 {g n n' : Nat} {b : Bts} {w : World} {x : Nat} (hb : PRow w g b) (hn : n = b.length) (hl : b.length + 4 <= 1024) (hn' : n' = n + 4) :
  Calls Tryz.prog 80 #[.slice (some ⟨g, 0, none⟩) n 1024, .int .u32 (x : Int)] w (PagePost g n' (b ++ be32 x) w) := by
 subst hn'
 have HB := HoldT.mk (And.intro hb (And.intro hn hl))
 have HC := HoldT.mk (be32_cellsT x)
 clear hb hn hl
 go_enter Tryz.func80, Tryz.ntmps80
 go_wp2_with (at_builtin; refine page_new rfl _ _ rfl w g b n HB.out.1 HB.out.2.1 rfl _ (be32 x) (by simp only [bvY, be32, List.map_cons, List.map_nil]; rw [HC.out.1, HC.out.2.1, HC.out.2.2.1, HC.out.2.2.2]) 4 rfl _ rfl rfl HB.out.2.2 ?_)
 intro w3 hb3 hg3
 have HB3 := HoldT.mk (And.intro hb3 hg3)
 clear hb3 hg3
 go_wp2_with fail
 go_ret
 exact ⟨rfl, HB3.out.1, HB3.out.2⟩
theorem madeP (n : Nat) : (madeCells (Value.int .u8 0).cells n).toList = bvY (padTo n []) := by
 have e : (madeCells (Value.int .u8 0).cells n).toList = List.replicate n (.int .u8 0) := toList_madeCells_one _ _
 rw [e]
 unfold padTo bvY
 rw [List.nil_append, List.map_replicate]
 rfl
theorem made_page (w : World) : ∃ w', (Instr.makeSlice 23 (.int .i64 0) (.int .i64 1024)).run Tryz.prog w = .ok (.slice (some ⟨w.heap.size, 0, none⟩) 0 1024) w' /\ PRow w' w.heap.size [] /\ Below w.heap.size w w' := by
 obtain ⟨i0, hi, hz0, hz1, hz2⟩ := info_parts infoY
 have hr := run_make (P := Tryz.prog) w 23 5 i0 (.int .u8 0) Tryz.underlying23 hi hz0 .i64 .i64 0 1024 (by omega) (by omega) (by rw [hz2]; omega) (by omega)
 refine ⟨_, hr, ⟨Nat.zero_le _, ?_⟩, (Below.refl _ w).alloc (Nat.le_refl _) _⟩
 have h1 := heap_alloc_new w (.cells (madeCells (Value.int .u8 0).cells ((1024 : Int).toNat * i0.size)) 5)
 have e9 : madeCells (Value.int .u8 0).cells ((1024 : Int).toNat * i0.size) = (bvY (padTo 1024 [])).toArray := by
  apply Array.toList_inj.1
  rw [hz1, Nat.mul_one, show (1024 : Int).toNat = 1024 by decide, List.toList_toArray]
  exact madeP 1024
 rw [h1, e9]
end Go.Proofs.YtafilaiinbggoaaGreat
namespace Go.Proofs.YtafilaiinbggoaaGreat
open Go.RowKit Go.Maps
def rawHd (n : ND) : Bts := (if n.leaf = true then 1 else 2) :: (be16 n.keys.length ++ if n.leaf = true then [] else be32 (n.kids.headD 0))
def entBy (n : ND) (i : Nat) : Bts := UInt8.ofNat (n.keys.getD i []).length :: if n.leaf = true then be16 (n.vals.getD i []).length ++ (n.keys.getD i [] ++ n.vals.getD i []) else n.keys.getD i [] ++ be32 (n.kids.getD (i + 1) 0)
def rawJ (n : ND) (j : Nat) : Bts := rawHd n ++ (List.range j).flatMap (entBy n)
def encN (n : ND) : Bts := padTo 1024 (rawJ n n.keys.length)
theorem rawJ_succ (n : ND) (j : Nat) : rawJ n (j + 1) = rawJ n j ++ entBy n j := by
 unfold rawJ
 rw [List.range_succ, List.flatMap_append, List.append_assoc]
 simp
theorem entBy_len (n : ND) (j : Nat) : (entBy n j).length = entN n j := by
 unfold entBy entN be16 be32
 split
 ·simp only [List.length_cons, List.length_append, List.length_nil]; omega
 ·simp only [List.length_cons, List.length_append, List.length_nil]; omega
theorem rawHd_len (n : ND) : (rawHd n).length = if n.leaf = true then 3 else 7 := by
 unfold rawHd be16 be32
 split
 ·rfl
 ·rfl
theorem rawJ_len (n : ND) : ∀ j, (rawJ n j).length = sizeJ n j
 | 0 => by unfold rawJ sizeJ; simp [rawHd_len]
 | j + 1 => by rw [rawJ_succ, List.length_append, rawJ_len n j, entBy_len, sizeJ_succ]
theorem sizeJ_mono (n : ND) {i j : Nat} (h : i <= j) : sizeJ n i <= sizeJ n j := by
 obtain ⟨d, rfl⟩ : ∃ d, j = i + d := ⟨j - i, by omega⟩
 induction d with
 | zero => exact Nat.le_refl _
 | succ d ih => exact Nat.le_trans (ih (by omega)) (by rw [<- Nat.add_assoc, sizeJ_succ]; omega)
theorem encN_len {n : ND} (h : sizeN n <= 1024) : (encN n).length = 1024 := pad_len (by rw [rawJ_len]; exact h)
theorem flatMap_range {α β : Type} (f : Nat -> List β) (g : α -> List β) : ∀ (l : List α), (∀ i x, l[i]? = some x -> f i = g x) -> (List.range l.length).flatMap f = l.flatMap g := fun l h => by
 have e : (List.range l.length).map f = l.map g := by
  refine List.ext_getElem (by simp) fun i h1 h2 => ?_
  rw [List.getElem_map, List.getElem_range, List.getElem_map]
  have hi : i < l.length := by simpa using h2
  exact h i _ (List.getElem?_eq_getElem hi)
 rw [List.flatMap_def, List.flatMap_def, e]
theorem raw_leaf (es : EL) : rawJ (leafN es) (leafN es).keys.length = rawLeaf es := by
 have h1 : (leafN es).keys.length = es.length := List.length_map ..
 unfold rawJ rawLeaf
 rw [h1, flatMap_range (entBy (leafN es)) encE es fun i x hx => ?_]
 ·unfold rawHd
  rw [h1]
  simp [leafN]
 ·unfold entBy leafN encE
  simp [List.getD, hx]
theorem raw_node (kids : List Nat) (keys : List Bts) (h : kids.length = keys.length + 1) : rawJ (nodeN kids keys) (nodeN kids keys).keys.length = rawNode kids keys := by
 have h1 : (nodeN kids keys).keys.length = (keys.zip kids.tail).length := by
  rw [List.length_zip, List.length_tail, h]
  show keys.length = _
  omega
 unfold rawJ rawNode
 rw [h1, flatMap_range (entBy (nodeN kids keys)) encK (keys.zip kids.tail) fun i x hx => ?_]
 ·unfold rawHd
  simp [nodeN]
 ·obtain ⟨k, c⟩ := x
  obtain ⟨hk, hc⟩ := List.getElem?_zip_eq_some.1 hx
  simp only at hk hc
  rw [List.getElem?_tail] at hc
  unfold entBy nodeN encK
  simp [List.getD, hk, hc]
theorem enc_leaf (es : EL) : encN (leafN es) = encLeaf es := by unfold encN encLeaf; rw [raw_leaf]
theorem enc_node {kids : List Nat} {keys : List Bts} (h : kids.length = keys.length + 1) : encN (nodeN kids keys) = encNode kids keys := by unfold encN encNode; rw [raw_node kids keys h]
def WPost (n : ND) (w : World) (e : Ending) (w' : World) : Prop := ∃ g, e = .returned (.tuple #[.slice (some ⟨g, 0, none⟩) 1024 1024, .int .i64 0]) /\ w.heap.size <= g /\ YAt (cfU w') (.slice (some ⟨g, 0, none⟩) 1024 1024) (encN n) /\ Below w.heap.size w w'
theorem page_yat {w : World} {g : Nat} {b : Bts} (h : PRow w g b) : YAt (cfU w) (.slice (some ⟨g, 0, none⟩) 1024 1024) (padTo 1024 b) := by
 have hp : (padTo 1024 b).length = 1024 := pad_len h.1
 have hi : IsU w g := ⟨_, _, h.2⟩
 refine ⟨some ⟨g, 0, none⟩, 1024, by rw [hp], by rw [hp]; exact Nat.le_refl _, by omega, fun i x hx => ⟨g, 0, [.int .u8 (x.toNat : Int)], rfl, rfl, fun j u hu => ?_, rfl⟩⟩
 match j, hu with
 | 0, hu =>
  cases hu
  rw [cfU_at hi, Nat.zero_add, Nat.mul_one, Nat.add_zero]
  simp only [World.cell?]
  rw [h.2]
  unfold bvY
  simp [hx]
theorem u8_len {k : Bts} (h : k.length <= 240) : bvY [UInt8.ofNat k.length] = [.int .u8 (k.length : Int)] := by
 unfold bvY
 have : (UInt8.ofNat k.length).toNat = k.length := by simp; omega
 simp [this]
end Go.Proofs.YtafilaiinbggoaaGreat
