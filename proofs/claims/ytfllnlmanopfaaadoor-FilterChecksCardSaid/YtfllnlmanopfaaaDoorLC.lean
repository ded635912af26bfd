/- Filters: a row appended to a row; put of the reference. -/
import Derived.Test.YtfllnlmanopfaaaDoorLA
namespace Go.Proofs.YtfllnlmanopfaaaDoor
open Go.RowKit

/-! a slice's elements, appended to a row -/
theorem sat_cells {α : Type} {n : Nat} {R : Rep α} (h1 : ∀ c x d, R c x d → ∀ u ∈ d, u.oneCell' = true) {c : CF} {v : Value} {ys : List α} (h : SAt n R c v ys) (hy : 0 < ys.length) :
    ∃ b off cap news, v = .slice (some ⟨b, off, none⟩) ys.length cap ∧ GRow n R c ys news ∧ (∀ (j : Nat) u, news[j]? = some u → c b (off + j) = some u) ∧ ∀ u ∈ news, u.oneCell' = true := by
  obtain ⟨a, cap, rfl, hle, hcap, hel⟩ := h
  obtain ⟨x0, hx0⟩ : ∃ x, ys[0]? = some x := ⟨ys[0], List.getElem?_eq_getElem hy⟩
  obtain ⟨b, off, _, rfl, _⟩ := hel 0 x0 hx0
  have key : ∀ i, i ≤ ys.length → ∃ news, GRow n R c (ys.take i) news ∧ (∀ (j : Nat) u, news[j]? = some u → c b (off + j) = some u) ∧ ∀ u ∈ news, u.oneCell' = true := by
    intro i
    induction i with
    | zero => intro _; exact ⟨[], GRow.nil _ _ _, fun j u hu => by simp at hu, fun u hu => by simp at hu⟩
    | succ i ih =>
      intro hi
      obtain ⟨news, hg, hc, ho⟩ := ih (by omega)
      obtain ⟨x, hx⟩ : ∃ x, ys[i]? = some x := ⟨ys[i], List.getElem?_eq_getElem (by omega)⟩
      obtain ⟨b2, off2, d, e, hd, hcd, hR⟩ := hel i x hx
      cases e
      refine ⟨news ++ d, by rw [take_succ hx]; exact hg.snoc hd hR, fun j u hu => ?_, fun u hu => ?_⟩
      · have hnl : news.length = i * n := by rw [hg.1, List.length_take, Nat.min_eq_left (by omega)]
        by_cases hj : j < news.length
        · rw [List.getElem?_append_left hj] at hu; exact hc j u hu
        · rw [List.getElem?_append_right (by omega), hnl] at hu
          have := hcd (j - i * n) u hu
          rw [show off + j = off + i * n + (j - i * n) by omega]; exact this
      · rcases List.mem_append.1 hu with h | h
        · exact ho u h
        · exact h1 _ _ _ hR u h
  obtain ⟨news, hg, hc, ho⟩ := key ys.length (Nat.le_refl _)
  rw [List.take_of_length_le (Nat.le_refl _)] at hg
  exact ⟨b, off, cap, news, rfl, hg, hc, ho⟩
theorem GRow.app {α : Type} {n : Nat} {R : Rep α} {c : CF} {xs ys : List α} {cs ds : List Value} (h : GRow n R c xs cs) (k : GRow n R c ys ds) : GRow n R c (xs ++ ys) (cs ++ ds) := by
  refine ⟨by rw [List.length_append, List.length_append, h.1, k.1, Nat.add_mul], fun i y hy => ?_⟩
  by_cases hi : i < xs.length
  · rw [List.getElem?_append_left hi] at hy
    obtain ⟨d2, h1, h2, h3⟩ := h.2 i y hy
    refine ⟨d2, h1, fun j u hu => ?_, h3⟩
    have hj : j < n := by rw [← h1]; exact (List.getElem?_eq_some_iff.1 hu).1
    have : i * n + j < cs.length := by
      rw [h.1]
      have : (i + 1) * n ≤ xs.length * n := Nat.mul_le_mul_right _ hi
      rw [Nat.add_mul] at this; omega
    rw [List.getElem?_append_left this]; exact h2 j u hu
  · rw [List.getElem?_append_right (by omega)] at hy
    obtain ⟨d2, h1, h2, h3⟩ := k.2 _ y hy
    refine ⟨d2, h1, fun j u hu => ?_, h3⟩
    have e : i * n + j = cs.length + ((i - xs.length) * n + j) := by
      rw [h.1]
      have : xs.length * n + (i - xs.length) * n = i * n := by rw [← Nat.add_mul, Nat.add_sub_cancel' (by omega)]
      omega
    rw [List.getElem?_append_right (by omega), e, Nat.add_sub_cancel_left]; exact h2 j u hu
theorem run_append_zero {P : Program} {w : World} (base : Nat) (t ty e : TypeId) (i : TypeInfo) (size : Nat) (ht : P.underlying t = some (.slice e)) (hi : P.info? e = some i)
    (v : Value) (n : Nat) (xs : List Value) (hown : w.ownsRow base e size v n xs) (b : Option Addr) (c : Nat) :
    (Builtin.append_ #[t, t] ty #[v, .slice b 0 c]).run P w = .ok v w := by
  rcases hown.2 with ⟨rfl, rfl⟩ | ⟨g, cap, cur, rfl, _, _, hnc, _⟩
  · cases b with
    | none => simp [Builtin.append_, run_underlying ht, sizeOf, typeInfo, hi, Builtin.lenOf, Builtin.firstCells]
    | some a => simp [Builtin.append_, run_underlying ht, sizeOf, typeInfo, hi, Builtin.lenOf, Builtin.firstCells, loadCells, loadCellsFrom, Result.andThen]
  · cases b with
    | none => simp [Builtin.append_, run_underlying ht, sizeOf, typeInfo, hi, Builtin.lenOf, Builtin.firstCells, hnc, storeCells]
    | some a => simp [Builtin.append_, run_underlying ht, sizeOf, typeInfo, hi, Builtin.lenOf, Builtin.firstCells, loadCells, loadCellsFrom, Result.andThen, hnc, storeCells]
theorem wp_push_src {α : Type} {n : Nat} {R : Rep α} (hR : Mono R) (h1 : ∀ c x d, R c x d → ∀ u ∈ d, u.oneCell' = true) {T ts : TypeId} {z : Value} {by_ : Nat} {o : Oper} {a : Act} {K : Act → World → Prop} {Q : Exit → Act → World → Prop} (s x : Operand) (ho : o.op = .call { callee := .builtin .append, args := #[s, x], argTypes := #[ts, ts] })
    (hinfo : (Tryd.prog.info? T).map (fun i => (i.zero, i.size, i.bytes)) = some (some z, n, by_)) (hts : Tryd.prog.underlying ts = some (.slice T)) (hz : z.cells.size = n) (hn : 0 < n)
    (B : Nat) (w : World) (sl : Value) (p : Nat) (xs : List α) (cs : List Value) (hb : OwnS n R T B w sl p xs cs) (hs : a.eval s = sl) (src : Value) (ys : List α) (hy : SAt n R (cfN sl w) src ys) (hx : a.eval x = src) (hlen : p + ys.length ≤ 1000000000) (hby : by_ ≤ 1000)
    (h : ∀ sl' w' cs', OwnS n R T B w' sl' (p + ys.length) (xs ++ ys) cs' → Grew w w' sl sl' → K (a.put o.dst sl') w') : o.wp Tryd.prog a w K Q := by
  obtain ⟨i0, hi, hz0, hz1, hz2⟩ := info_parts hinfo
  by_cases hm : 0 < ys.length
  · obtain ⟨b, off, cap, news, rfl, hg, hc, ho1⟩ := sat_cells h1 hy hm
    have hby2 : (p + ys.length) * by_ ≤ 1000000000 * 1000 := Nat.mul_le_mul (by omega) hby
    refine wp_append_lies _ s x ts ho B T i0 z n by_ hts hi hz0 hz1 hz2 hz hn sl p cs hs hb.own ⟨b, off, none⟩ ys.length cap news hx hg.1 ?_ ho1 hm (by unfold maxLen; omega) (by omega) hb.le _ rfl ?_
    · intro j u hu
      have := cfN_cf sl w _ _ _ (hc j u hu)
      have e : (⟨b, off, none⟩ : Addr).add j = ⟨b, off + j, none⟩ := by unfold Addr.add; split <;> simp_all
      rw [e]; exact this
    · intro g cap2 w' ho' hgb hgg _
      have hgr : Grew w w' sl (.slice (some ⟨g, 0, none⟩) (p + ys.length) cap2) := ⟨hgb, fun q hq => by
        obtain rfl : g = q := by simpa [Value.ownBlock] using hq
        exact hgg.imp id (fun e => by omega)⟩
      exact h _ w' (cs ++ news) ⟨ho', by rw [List.length_append, hb.len], (hb.row.mono hR (cfN_grew hgr)).app (hg.mono hR (cfN_grew hgr)), Nat.le_trans hb.le hgb.size⟩ hgr
  · obtain rfl : ys = [] := List.length_eq_zero_iff.1 (by omega)
    obtain ⟨b, cap, rfl, _⟩ := hy
    have hr := run_append_zero (P := Tryd.prog) B ts o.type T i0 n hts hi sl p cs hb.own b cap
    unfold Oper.wp execOp
    simp only [ho, resolve, invoke, builtin, Sem.run_bind, Sem.run_pure, Result.andThen_ok, List.map_toArray, List.map_cons, List.map_nil, hs, hx, List.length_nil, hr]
    have := h sl w cs (by simpa using hb) (Grew.refl _ _)
    exact this
theorem push_src {α : Type} {n : Nat} {R : Rep α} (hR : Mono R) (h1 : ∀ c x d, R c x d → ∀ u ∈ d, u.oneCell' = true) {T ts : TypeId} {z : Value} {by_ : Nat} {ops : Array Oper} {rest : List Oper} {o : Oper} {a : Act} {Q : Exit → Act → World → Prop} (hgd : o.guard = none) (s x : Operand) (ho : o.op = .call { callee := .builtin .append, args := #[s, x], argTypes := #[ts, ts] })
    (hinfo : (Tryd.prog.info? T).map (fun i => (i.zero, i.size, i.bytes)) = some (some z, n, by_)) (hts : Tryd.prog.underlying ts = some (.slice T)) (hz : z.cells.size = n) (hn : 0 < n)
    (B : Nat) (w : World) (sl : Value) (p : Nat) (xs : List α) (cs : List Value) (hb : OwnS n R T B w sl p xs cs) (hs : a.eval s = sl) (src : Value) (ys : List α) (hy : SAt n R (cfN sl w) src ys) (hx : a.eval x = src) (hlen : p + ys.length ≤ 1000000000) (hby : by_ ≤ 1000)
    (h : ∀ sl' w' cs', OwnS n R T B w' sl' (p + ys.length) (xs ++ ys) cs' → Grew w w' sl sl' → wpList Tryd.prog ops Q rest (a.put o.dst sl') w') : wpList Tryd.prog ops Q (o :: rest) a w :=
  wpList_plain hgd fun _ hK => wp_push_src hR h1 s x ho hinfo hts hz hn B w sl p xs cs hb hs src ys hy hx hlen hby fun sl' w' cs' h1 h2 => hK _ _ (h sl' w' cs' h1 h2)
theorem SAt.drop {α : Type} {n : Nat} {R : Rep α} {c : CF} {b off cap : Nat} {l : List α} (h : SAt n R c (.slice (some ⟨b, off, Option.none⟩) l.length cap) l) {k : Nat} (hk : k ≤ l.length) : SAt n R c (.slice (some ⟨b, off + k * n, Option.none⟩) (l.length - k) (cap - k)) (l.drop k) := by
  obtain ⟨a, cap', e, hle, hcap, hel⟩ := h
  cases e
  refine ⟨_, _, by rw [List.length_drop], by rw [List.length_drop]; omega, by omega, fun i x hx => ?_⟩
  rw [List.getElem?_drop] at hx
  obtain ⟨b2, off2, d, e, hd, hcd, hR⟩ := hel (k + i) x hx
  cases e
  refine ⟨b, off + k * n, d, rfl, hd, fun j u hu => ?_, hR⟩
  have := hcd j u hu
  rw [Nat.add_mul] at this
  rw [show off + k * n + i * n + j = off + (k * n + i * n) + j by omega]; exact this
theorem SAt.empty {α : Type} {n : Nat} {R : Rep α} {c : CF} {a : Option Addr} {cap : Nat} (h : cap ≤ 9223372036854775807) : SAt n R c (.slice a 0 cap) ([] : List α) := ⟨a, cap, rfl, Nat.zero_le _, h, fun i x hx => by simp at hx⟩

/-- what is cut off a slice's head, under one name -/
theorem slice_tail {ts T : TypeId} {n : Nat} {z : Option Value} {by_ : Nat} (hts : Tryd.prog.underlying ts = some (.slice T)) (he : Tryd.prog.elem ts = T) (hinfo : (Tryd.prog.info? T).map (fun i => (i.zero, i.size, i.bytes)) = some (z, n, by_))
    (a : Option Addr) (len cap k : Nat) (hk : k ≤ len) (hc : len ≤ cap) (hcap : cap ≤ 9223372036854775807) :
    ∃ a', (∀ w, (Instr.slice ts (.slice a len cap) (some (.int .i64 (k : Int))) Option.none Option.none).run Tryd.prog w = .ok (.slice a' (len - k) (cap - k)) w) ∧
      ∀ {α : Type} {R : Rep α} {c : CF} {l : List α}, l.length = len → SAt n R c (.slice a len cap) l → SAt n R c (.slice a' (len - k) (cap - k)) (l.drop k) := by
  obtain ⟨i0, hi, hz1⟩ := Option.map_eq_some_iff.1 hinfo
  have hz2 : i0.size = n := by have := congrArg (fun p => p.2.1) hz1; simpa using this
  have hrun : ∀ w, (Instr.slice ts (.slice a len cap) (some (.int .i64 (k : Int))) Option.none Option.none).run Tryd.prog w = .ok (sliced a k len cap n) w := fun w => by
    rw [run_slice_l (P := Tryd.prog) (w := w) ts a len cap (by rw [he]; exact hts) .i64 (k : Int) (by omega) (by omega), he]
    simp [sizeOf, typeInfo, hi, hz2, Result.andThen]
  by_cases h0 : cap = k
  · refine ⟨a, fun w => by rw [hrun w]; unfold sliced; rw [if_pos h0], fun hl h => ?_⟩
    have : len - k = 0 := by omega
    rw [this, List.drop_eq_nil_of_le (by omega)]
    exact SAt.empty (by omega)
  · refine ⟨a.map fun x => x.add (k * n), fun w => by rw [hrun w]; unfold sliced; rw [if_neg h0], fun hl h => ?_⟩
    subst hl
    rename_i l
    by_cases hlen : 0 < l.length
    · obtain ⟨_, _, e, _, _, hel⟩ := id h
      cases e
      obtain ⟨b, off, d, rfl, _⟩ := hel 0 l[0] (List.getElem?_eq_getElem hlen)
      have e : (⟨b, off, Option.none⟩ : Addr).add (k * n) = ⟨b, off + k * n, Option.none⟩ := by unfold Addr.add; split <;> simp_all
      simp only [Option.map_some, e]
      exact h.drop hk
    · have : l.length - k = 0 := by omega
      rw [this, List.drop_eq_nil_of_le (by omega)]
      exact SAt.empty (by omega)

/-! put -/
/-- a text put among rising ones -/
def putL (s : ByteArray) : List ByteArray → List ByteArray
  | [] => [s]
  | a :: l => if strLt a s = true then a :: putL s l else if a = s then s :: l else s :: a :: l
theorem putL_skip {s : ByteArray} : ∀ (l : List ByteArray) (j : Nat), (∀ (q : Nat) a, q < j → l[q]? = some a → strLt a s = true) → putL s l = l.take j ++ putL s (l.drop j)
  | [], j, _ => by simp
  | a :: l, 0, _ => by simp
  | a :: l, j + 1, h => by
    have h0 := h 0 a (by omega) rfl
    rw [putL, if_pos h0, putL_skip l j (fun q b hq hb => h (q + 1) b (by omega) (by simpa using hb))]; rfl

theorem RS_one : ∀ (c : CF) (x : ByteArray) (d : List Value), RS c x d → ∀ u ∈ d, u.oneCell' = true := fun c x d ⟨e, _⟩ u hu => by
  rw [e] at hu
  obtain rfl : u = .string x := by simpa using hu
  rfl
theorem grow_texts {c c' : CF} {xs : List ByteArray} {cs : List Value} (h : GRow 1 RS c xs cs) : GRow 1 RS c' xs cs := h
theorem cle_cfN_old {s : Value} {w w' : World} (hb : Below w.heap.size w w') (hs : ∀ g, s.ownBlock = some g → w.heap.size ≤ g) : CLe (cf w) (cfN s w') := fun b o u h => by
  have hlt := lt_of_cell h
  unfold cfN; rw [if_neg (fun e => by have := hs b e; omega)]
  exact cle_below hb b o u h

set_option maxRecDepth 100000 in
set_option maxHeartbeats 8000000 in
theorem putS_any (l : List ByteArray) (lv : Value) (s : ByteArray) (w : World) (hl : SAt 1 RS (cf w) lv l) (hs : s.size ≤ 9223372036854775807) (hlen : l.length ≤ 400000000) :
    Calls Tryd.prog 104 #[lv, .string s] w fun e w' => ∃ sv, e = .returned sv ∧ SAt 1 RS (cfA w.heap.size w') sv (putL s l) ∧ Below w.heap.size w w' := by
  obtain ⟨la, lcap, rfl, hle, hcap, hel⟩ := id hl
  have HL := Hold.mk hl
  have HE := Hold.mk hel
  have HS := Hold.mk hs
  have HO : Hold (OwnS 1 RS 9 w.heap.size w (.slice none 0 0) 0 [] []) := ⟨OwnS.start _ _ _ (Nat.le_refl _)⟩
  clear hl hel
  go_enter Tryd.func104, Tryd.ntmps104
  go_wp2_with fail
  go_loopw [5, 6] (fun sl i wr => ∃ (j : Nat) (cs : List Value), i = .int .i64 j ∧ j ≤ l.length ∧ (∀ (q : Nat) a, q < j → l[q]? = some a → strLt a s = true) ∧ OwnS 1 RS 9 w.heap.size wr sl j (l.take j) cs ∧ Below w.heap.size w wr) (fun _ i _ => l.length - (intOf i).toNat)
  case atStart => exact ⟨0, [], rfl, Nat.zero_le _, fun q a h => by omega, HO.out, Below.refl _ _⟩
  case round =>
    obtain ⟨j, cs, rfl, hj, hall, hown, hbl⟩ := hrel
    clear HO
    obtain ⟨ks, hks⟩ : ∃ ks, ks = l.take j := ⟨_, rfl⟩
    rw [← hks] at hown
    obtain ⟨ja, jcap, rfl⟩ := hown.shape
    have HO := Hold.mk hown
    have HB := Hold.mk hbl
    have HALL := Hold.mk hall
    have HKS := Hold.mk hks
    clear hown hbl hall hks
    by_cases hlt : j < l.length
    · obtain ⟨a, ha⟩ : ∃ a, l[j]? = some a := ⟨l[j], List.getElem?_eq_getElem hlt⟩
      obtain ⟨b, off, d, rfl, _, hc, rfl, hasz⟩ := HE.out j a ha
      have z0 := cle_below HB.out _ _ _ (hc 0 _ rfl)
      simp only [Nat.mul_one, Nat.add_zero] at z0
      unfold cf at z0
      have HA := Hold.mk ha
      have HAS := Hold.mk hasz
      have HCE := Hold.mk hc
      clear hc ha hasz
      cases hst : strLt a s with
      | true =>
        have hb1 : Op.bytesLess a.toList s.toList = true := hst
        have HTK : Hold (l.take (j + 1) = ks ++ [a]) := ⟨by rw [take_succ HA.out, ← HKS.out]⟩
        have HA2 : Hold (∀ (q : Nat) b, q < j + 1 → l[q]? = some b → strLt b s = true) := ⟨fun q b hq hb => by
          by_cases e : q = j
          · subst e; rw [HA.out] at hb; cases hb; exact hst
          · exact HALL.out q b (by omega) hb⟩
        have HSR : Hold (RS (cfN (.slice ja j jcap) wr) a [.string a]) := ⟨rfl, HAS.out⟩
        clear hst
        go_wp2_with (at_builtin; refine push_new RS_mono rfl _ _ rfl infoStr Tryd.underlying22 rfl (by decide) _ _ _ j _ _ HO.out rfl _ [_] rfl rfl (by simp [Value.oneCell']) a HSR.out _ rfl rfl (by omega) (by decide) ?_)
        intro sv2 w2 ho2 hg2
        have HN : Hold (OwnS 1 RS 9 w.heap.size w2 sv2 (j + 1) (l.take (j + 1)) _) := ⟨by rw [HTK.out]; exact ho2⟩
        have HN2 := Hold.mk (HB.out.trans (HO.out.below hg2))
        clear ho2 hg2 z0 hb1
        go_wp2_with fail
        exact ⟨⟨j + 1, _, by go_num, hlt, HA2.out, HN.out, HN2.out⟩, by simp [intOf]; omega⟩
      | false =>
        have hb1 : Op.bytesLess a.toList s.toList = false := hst
        have HSR : Hold (RS (cfN (.slice ja j jcap) wr) s [.string s]) := ⟨rfl, HS.out⟩
        have HPT : Hold (putL s l = (ks ++ [s]) ++ (if a = s then l.drop (j + 1) else l.drop j)) := ⟨by
          obtain ⟨h1, e1⟩ := List.getElem?_eq_some_iff.1 HA.out
          rw [putL_skip l j HALL.out, ← HKS.out, List.drop_eq_getElem_cons h1, e1, putL, hst]
          by_cases e : a = s
          · rw [if_neg (by simp), if_pos e, if_pos e]; simp
          · rw [if_neg (by simp), if_neg e, if_neg e]; simp⟩
        clear hst
        go_wp2_with (at_builtin; refine push_new RS_mono rfl _ _ rfl infoStr Tryd.underlying22 rfl (by decide) _ _ _ j _ _ HO.out rfl _ [_] rfl rfl (by simp [Value.oneCell']) s HSR.out _ rfl rfl (by omega) (by decide) ?_)
        intro sv2 w2 ho2 hg2
        obtain ⟨ka, kcap, rfl⟩ := ho2.shape
        have HO2 := Hold.mk ho2
        have HB2 := Hold.mk (HB.out.trans (HO.out.below hg2))
        clear ho2 hg2 z0
        have z0 := cle_below HB2.out _ _ _ (HCE.out 0 _ rfl)
        simp only [Nat.mul_one, Nat.add_zero] at z0
        unfold cf at z0
        by_cases hes : a = s
        · have he1 : a.toList = s.toList := by rw [hes]
          have HPS : Hold ((if a = s then l.drop (j + 1) else l.drop j) = l.drop (j + 1)) := ⟨if_pos hes⟩
          clear hes
          obtain ⟨a', hsl0, hsl1⟩ := slice_tail (n := 1) Tryd.underlying22 (by kernel_rfl) infoStr (some ⟨b, off, none⟩) l.length lcap (j + 1) (by omega) (by omega) hcap
          have hsl : ∀ w, (Instr.slice 22 (.slice (some ⟨b, off, none⟩) l.length lcap) (some (.int .i64 ((j : Int) + 1))) none none).run Tryd.prog w = .ok (.slice a' (l.length - (j + 1)) (lcap - (j + 1))) w := hsl0
          have HYS : Hold (SAt 1 RS (cfN (.slice ka (j + 1) kcap) w2) (.slice a' (l.length - (j + 1)) (lcap - (j + 1))) (l.drop (j + 1))) := ⟨hsl1 rfl (HL.out.mono RS_mono (cle_cfN_old HB2.out (fun g hg => (HO2.out.low g hg).1)))⟩
          clear hsl0 hsl1
          have HDL : Hold ((l.drop (j + 1)).length ≤ 400000000) := ⟨by rw [List.length_drop]; omega⟩
          obtain ⟨ds, hds⟩ : ∃ ds, ds = l.drop (j + 1) := ⟨_, rfl⟩
          rw [← hds] at HYS HDL
          have HDS := Hold.mk hds
          clear hds
          go_wp2_with (at_builtin; refine push_src RS_mono RS_one rfl _ _ rfl infoStr Tryd.underlying22 rfl (by decide) _ _ _ (j + 1) _ _ HO2.out rfl _ ds HYS.out rfl (by have := HDL.out; omega) (by decide) ?_)
          intro sv3 w3 cs3 ho3 hg3
          have HR : Hold (SAt 1 RS (cfA w.heap.size w3) sv3 (putL s l)) := ⟨by
            rw [HPT.out, HPS.out, ← HDS.out]
            have h9 := ho3.atA (grow_texts (c' := cfA w.heap.size w3) ho3.row)
            simpa using h9⟩
          have HW := Hold.mk (HB2.out.trans (HO2.out.below hg3))
          clear ho3 hg3 hsl
          go_wp2_with fail
          go_ret
          exact ⟨_, rfl, HR.out, HW.out⟩
        · have he1 : (a.toList == s.toList) = false := str_ne hes
          have HPS : Hold ((if a = s then l.drop (j + 1) else l.drop j) = l.drop j) := ⟨if_neg hes⟩
          clear hes
          obtain ⟨a', hsl0, hsl1⟩ := slice_tail (n := 1) Tryd.underlying22 (by kernel_rfl) infoStr (some ⟨b, off, none⟩) l.length lcap (j) (by omega) (by omega) hcap
          have hsl : ∀ w, (Instr.slice 22 (.slice (some ⟨b, off, none⟩) l.length lcap) (some (.int .i64 (j : Int))) none none).run Tryd.prog w = .ok (.slice a' (l.length - (j)) (lcap - (j))) w := hsl0
          have HYS : Hold (SAt 1 RS (cfN (.slice ka (j + 1) kcap) w2) (.slice a' (l.length - (j)) (lcap - (j))) (l.drop (j))) := ⟨hsl1 rfl (HL.out.mono RS_mono (cle_cfN_old HB2.out (fun g hg => (HO2.out.low g hg).1)))⟩
          clear hsl0 hsl1
          have HDL : Hold ((l.drop (j)).length ≤ 400000000) := ⟨by rw [List.length_drop]; omega⟩
          obtain ⟨ds, hds⟩ : ∃ ds, ds = l.drop (j) := ⟨_, rfl⟩
          rw [← hds] at HYS HDL
          have HDS := Hold.mk hds
          clear hds
          go_wp2_with (at_builtin; refine push_src RS_mono RS_one rfl _ _ rfl infoStr Tryd.underlying22 rfl (by decide) _ _ _ (j + 1) _ _ HO2.out rfl _ ds HYS.out rfl (by have := HDL.out; omega) (by decide) ?_)
          intro sv3 w3 cs3 ho3 hg3
          have HR : Hold (SAt 1 RS (cfA w.heap.size w3) sv3 (putL s l)) := ⟨by
            rw [HPT.out, HPS.out, ← HDS.out]
            have h9 := ho3.atA (grow_texts (c' := cfA w.heap.size w3) ho3.row)
            simpa using h9⟩
          have HW := Hold.mk (HB2.out.trans (HO2.out.below hg3))
          clear ho3 hg3 hsl
          go_wp2_with fail
          go_ret
          exact ⟨_, rfl, HR.out, HW.out⟩
    · obtain rfl : j = l.length := by omega
      have HSR : Hold (RS (cfN (.slice ja l.length jcap) wr) s [.string s]) := ⟨rfl, HS.out⟩
      have HPT : Hold (putL s l = (ks ++ [s]) ++ l.drop l.length) := ⟨by
        rw [putL_skip l l.length HALL.out, ← HKS.out, List.drop_eq_nil_of_le (Nat.le_refl _), putL]; simp⟩
      go_wp2_with (at_builtin; refine push_new RS_mono rfl _ _ rfl infoStr Tryd.underlying22 rfl (by decide) _ _ _ l.length _ _ HO.out rfl _ [_] rfl rfl (by simp [Value.oneCell']) s HSR.out _ rfl rfl (by omega) (by decide) ?_)
      intro sv2 w2 ho2 hg2
      obtain ⟨ka, kcap, rfl⟩ := ho2.shape
      have HO2 := Hold.mk ho2
      have HB2 := Hold.mk (HB.out.trans (HO.out.below hg2))
      clear ho2 hg2
      obtain ⟨a', hsl0, hsl1⟩ := slice_tail (n := 1) Tryd.underlying22 (by kernel_rfl) infoStr la l.length lcap (l.length) (by omega) (by omega) hcap
      have hsl : ∀ w, (Instr.slice 22 (.slice la l.length lcap) (some (.int .i64 (l.length : Int))) none none).run Tryd.prog w = .ok (.slice a' 0 (lcap - l.length)) w := fun w => by have h := hsl0 w; rw [Nat.sub_self] at h; exact h
      have HYS : Hold (SAt 1 RS (cfN (.slice ka (l.length + 1) kcap) w2) (.slice a' 0 (lcap - l.length)) (l.drop (l.length))) := ⟨by have h := hsl1 rfl (HL.out.mono RS_mono (cle_cfN_old (s := .slice ka (l.length + 1) kcap) HB2.out (fun g hg => (HO2.out.low g hg).1))); rw [Nat.sub_self] at h; exact h⟩
      clear hsl0 hsl1
      have HDL : Hold ((l.drop (l.length)).length ≤ 400000000) := ⟨by rw [List.length_drop]; omega⟩
      obtain ⟨ds, hds⟩ : ∃ ds, ds = l.drop (l.length) := ⟨_, rfl⟩
      rw [← hds] at HYS HDL
      have HDS := Hold.mk hds
      clear hds
      go_wp2_with (at_builtin; refine push_src RS_mono RS_one rfl _ _ rfl infoStr Tryd.underlying22 rfl (by decide) _ _ _ (l.length + 1) _ _ HO2.out rfl _ ds HYS.out rfl (by have := HDL.out; omega) (by decide) ?_)
      intro sv3 w3 cs3 ho3 hg3
      have HR : Hold (SAt 1 RS (cfA w.heap.size w3) sv3 (putL s l)) := ⟨by
        rw [HPT.out, ← HDS.out]
        have h9 := ho3.atA (grow_texts (c' := cfA w.heap.size w3) ho3.row)
        simpa using h9⟩
      have HW := Hold.mk (HB2.out.trans (HO2.out.below hg3))
      clear ho3 hg3 hsl
      go_wp2_with fail
      go_ret
      exact ⟨_, rfl, HR.out, HW.out⟩

end Go.Proofs.YtfllnlmanopfaaaDoor
