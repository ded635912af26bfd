/- Keys of the program: Compound. -/
import Derived.Test.YtfllnlmanopfaaaDoorKE
namespace Go.Proofs.YtfllnlmanopfaaaDoor
open Go.RowKit

/-- a row's bytes are appended to another -/
theorem wp_app_src {o : Oper} {a : Act} {K : Act → World → Prop} {Q : Exit → Act → World → Prop} (s x : Operand) (ho : o.op = .call { callee := .builtin .append, args := #[s, x], argTypes := #[55, 55] })
    (B : Nat) (w : World) (sv : Value) (l : List UInt8) (hb : BRow B w sv l) (hs : a.eval s = sv) (B2 : Nat) (src : Value) (m : List UInt8) (hm2 : BRow B2 w src m) (hx : a.eval x = src) (hm : 0 < m.length) (hlen : l.length + m.length ≤ 140737488355328)
    (h : ∀ sv' w', BRow B w' sv' (l ++ m) → Grew w w' sv sv' → K (a.put o.dst sv') w') : o.wp Tryd.prog a w K Q := by
  obtain ⟨i0, hi, hz0, hz1, hz2⟩ := info_parts infoB
  obtain ⟨sa, scap, rfl, _⟩ := hm2.shape
  obtain ⟨c, hc⟩ : ∃ c, m[0]? = some c := ⟨m[0], List.getElem?_eq_getElem hm⟩
  obtain ⟨g, rfl, hg1, hg2, _⟩ := hm2.get hc
  refine wp_append_lies _ s x 55 ho B 5 i0 (.int .u8 0) 1 1 Tryd.underlying55 hi hz0 hz1 hz2 rfl (by decide) sv l.length (bv l) hs hb.own ⟨g, 0, none⟩ m.length scap (bv m) hx (by rw [bv_len]; omega) ?_ (bv_one m) hm (by unfold maxLen; omega) (by omega) hb.le _ rfl ?_
  · exact fun j u hu => hm2.own.cells (g := g) rfl j u hu
  · intro g2 cap w' ho' hg hgg _
    refine h _ w' ⟨by rw [List.length_append, bv_app]; exact ho', Nat.le_trans hb.le hg.size⟩ ⟨hg, fun q hq => ?_⟩
    obtain rfl : g2 = q := by simpa [Value.ownBlock] using hq
    rcases hgg with h1 | h1
    · exact .inl h1
    · exact .inr (by omega)
theorem app_src {ops : Array Oper} {rest : List Oper} {o : Oper} {a : Act} {Q : Exit → Act → World → Prop} (hgd : o.guard = none) (s x : Operand) (ho : o.op = .call { callee := .builtin .append, args := #[s, x], argTypes := #[55, 55] })
    (B : Nat) (w : World) (sv : Value) (l : List UInt8) (hb : BRow B w sv l) (hs : a.eval s = sv) (B2 : Nat) (src : Value) (m : List UInt8) (hm2 : BRow B2 w src m) (hx : a.eval x = src) (hm : 0 < m.length) (hlen : l.length + m.length ≤ 140737488355328)
    (h : ∀ sv' w', BRow B w' sv' (l ++ m) → Grew w w' sv sv' → wpList Tryd.prog ops Q rest (a.put o.dst sv') w') : wpList Tryd.prog ops Q (o :: rest) a w :=
  wpList_plain hgd fun _ hK => wp_app_src s x ho B w sv l hb hs B2 src m hm2 hx hm hlen fun sv' w' h1 h2 => hK _ _ (h sv' w' h1 h2)

/-- a slice of truths -/
def BoolsAt (c : CF) (v : Value) (l : List Bool) : Prop :=
  ∃ a cap, v = .slice a l.length cap ∧ l.length ≤ 9223372036854775807 ∧ ∀ (i : Nat) d, l[i]? = some d → ∃ b off, a = some ⟨b, off, none⟩ ∧ c b (off + i) = some (.bool d)

/-- a value's part of an entry -/
def partK (x : JV) (d : Bool) : List UInt8 := if d then (putF x).map notB else putF x
def compF : List JV → List Bool → List UInt8
  | x :: l, d :: m => partK x d ++ compF l m
  | _, _ => []
theorem comp_snoc : ∀ (l : List JV) (m : List Bool) (x : JV) (d : Bool), l.length = m.length → compF (l ++ [x]) (m ++ [d]) = compF l m ++ partK x d
  | [], [], x, d, _ => by simp [compF]
  | [], _ :: _, _, _, h => by simp at h
  | _ :: _, [], _, _, h => by simp at h
  | y :: l, e :: m, x, d, h => by
    rw [List.cons_append, List.cons_append, compF, compF, comp_snoc l m x d (by simpa using h), List.append_assoc]
theorem partK_len (x : JV) (d : Bool) : (partK x d).length = (putF x).length := by unfold partK; split <;> simp
theorem putF_pos (x : JV) : 0 < (putF x).length := by cases x; rw [putF]; simp
theorem comp_len {l : List JV} (h : ∀ x ∈ l, formedF 6 x = true) : ∀ m : List Bool, (compF l m).length ≤ l.length * 200000000000 := by
  induction l with
  | nil => intro m; simp [compF]
  | cons x l ih =>
    intro m
    cases m with
    | nil => simp [compF]
    | cons d m =>
      have h1 := putF_len 6 x (h x (by simp))
      have h2 := keyB_six
      have h3 := ih (fun y hy => h y (by simp [hy])) m
      rw [compF, List.length_append, partK_len, List.length_cons]; omega

def CompPost (l : List JV) (m : List Bool) (w : World) (e : Ending) (w' : World) : Prop := (if (compF l m).length ≤ 200 then ∃ sv, e = .returned (.tuple #[sv, .int .i64 0]) ∧ BRow w.heap.size w' sv (compF l m) else e = .returned (.tuple #[.slice none 0 0, .int .i64 3])) ∧ Below w.heap.size w w'

set_option maxRecDepth 100000 in
set_option maxHeartbeats 8000000 in
theorem Compound_any (l : List JV) (m : List Bool) (lv dv : Value) (w : World) (hl : ItemsAt (cf w) lv l) (hd : BoolsAt (cf w) dv m) (he : l.length = m.length) (h100 : l.length ≤ 100) (hf : ∀ x ∈ l, formedF 6 x = true) (hT : Tabs w) :
    Calls Tryd.prog 65 #[lv, dv] w (CompPost l m w) := by
  obtain ⟨la, lcap, rfl, hlen, hel⟩ := hl
  obtain ⟨da, dcap, rfl, hdlen, hdel⟩ := hd
  have HE := Hold.mk hel
  have HD := Hold.mk hdel
  have HEQ := Hold.mk he
  have HF := Hold.mk hf
  have HT := Hold.mk hT
  have H100 := Hold.mk h100
  have hml : l.length ≤ m.length := by omega
  clear hel hdel he hf hT h100
  go_enter Tryd.func65, Tryd.ntmps65
  go_wp2_with fail
  go_loopw [6, 13] (fun v i wr => ∃ j : Nat, i = .int .i64 j ∧ j ≤ l.length ∧ BRow w.heap.size wr v (compF (l.take j) (m.take j)) ∧ Below w.heap.size w wr) (fun _ i _ => l.length - (intOf i).toNat)
  case atStart => exact ⟨0, rfl, Nat.zero_le _, BRow.empty w, Below.refl _ _⟩
  case round =>
    obtain ⟨j, rfl, hj, hbr, hbl⟩ := hrel
    have HLEN : Hold ((compF (l.take j) (m.take j)).length ≤ 20000000000000) := ⟨by
      have := comp_len (l := l.take j) (fun x hx => HF.out x (List.mem_of_mem_take hx)) (m.take j)
      rw [List.length_take] at this
      have := H100.out; omega⟩
    obtain ⟨l1, hl1⟩ : ∃ l1, l1 = compF (l.take j) (m.take j) := ⟨_, rfl⟩
    rw [← hl1] at hbr HLEN
    obtain ⟨ja, jcap, rfl, _⟩ := hbr.shape
    have HBR := Hold.mk hbr
    have HBL := Hold.mk hbl
    have HL1 := Hold.mk hl1
    clear hbr hbl hl1
    by_cases hlt : j < l.length
    · obtain ⟨x, hx⟩ : ∃ x, l[j]? = some x := ⟨l[j], List.getElem?_eq_getElem hlt⟩
      have hltm : j < m.length := by omega
      obtain ⟨d, hdj⟩ : ∃ d, m[j]? = some d := ⟨m[j], List.getElem?_eq_getElem hltm⟩
      obtain ⟨bb, off, k2, n2, t2, nm2, it2, na2, ncap2, ia2, icap2, rfl, hxe, x0, x1, x2, x3, x4, hxj⟩ := HE.out j x hx
      obtain ⟨db, doff, rfl, d0⟩ := HD.out j d hdj
      have hcl := cle_below HBL.out
      have z0 := hcl _ _ _ x0
      have z1 := hcl _ _ _ x1
      have z2 := hcl _ _ _ x2
      have z3 := hcl _ _ _ x3
      have z4 := hcl _ _ _ x4
      unfold cf at z0 z1 z2 z3 z4
      have HX := Hold.mk (hxj.mono (hcl.trans (cle_alloc wr (.cells #[.int .i64 k2, .int .i64 n2, .string t2, .slice na2 nm2.length ncap2, .slice ia2 it2.length icap2] 25))))
      have HFX := Hold.mk (HF.out x (List.mem_of_getElem? hx))
      have HD0 := Hold.mk d0
      have HST : Hold (compF (l.take (j + 1)) (m.take (j + 1)) = l1 ++ partK x d) := ⟨by rw [take_succ hx, take_succ hdj, comp_snoc _ _ _ _ (by simp; omega), ← HL1.out]⟩
      replace HBR := Hold.mk (HBR.out.alloc (.cells #[.int .i64 k2, .int .i64 n2, .string t2, .slice na2 nm2.length ncap2, .slice ia2 it2.length icap2] 25))
      replace HBL := Hold.mk (HBL.out.alloc HBL.out.size (.cells #[.int .i64 k2, .int .i64 n2, .string t2, .slice na2 nm2.length ncap2, .slice ia2 it2.length icap2] 25))
      clear x0 x1 x2 x3 x4 hx hxe hxj hcl hdj d0
      go_wp2_with fail
      clear z0 z1 z2 z3 z4
      refine (Key4_any x _ _ HX.out (HT.out.below HBL.out)).mono ?_
      rintro e w2 ⟨hk, hb2⟩
      rw [if_pos HFX.out] at hk
      obtain ⟨sk, rfl, hsk⟩ := hk
      have HPL : Hold ((putF x).length ≤ 200000000000) := ⟨Nat.le_trans (putF_len 6 x HFX.out) keyB_six⟩
      obtain ⟨ka, kcap, rfl, _⟩ := hsk.shape
      have HSK := Hold.mk hsk
      replace HBR := Hold.mk (HBR.out.quiet hb2)
      replace HBL := Hold.mk (HBL.out.trans (hb2.mono HBL.out.size))
      clear hsk hb2
      have d1 := cle_below HBL.out _ _ _ HD0.out
      unfold cf at d1
      cases d with
      | false =>
        go_wp2_with (at_builtin; refine app_src rfl _ _ rfl _ _ _ _ HBR.out rfl _ _ _ HSK.out rfl (putF_pos x) (by have := HPL.out; have := HLEN.out; omega) ?_)
        intro sv3 w3 hb3 hg3
        have HN : Hold (BRow w.heap.size w3 sv3 (compF (l.take (j + 1)) (m.take (j + 1)))) := ⟨by rw [HST.out]; exact hb3⟩
        have HW : Hold (Below w.heap.size w w3) := ⟨HBL.out.trans (HBR.out.below hg3)⟩
        clear hb3 hg3 d1
        go_wp2_with fail
        exact ⟨⟨j + 1, by go_num, hlt, HN.out, HW.out⟩, by simp [intOf]; omega⟩
      | true =>
        go_wp2_with fail
        refine (turned_any _ _ (putF x) _ HSK.out (by have := HPL.out; omega)).mono ?_
        rintro e w3 ⟨s3, rfl, hs3, hb3⟩
        obtain ⟨p, hp⟩ : ∃ p, p = (putF x).map notB := ⟨_, rfl⟩
        rw [← hp] at hs3
        have HP2 : Hold (p.length = (putF x).length) := ⟨by rw [hp, List.length_map]⟩
        have HPE := Hold.mk hp
        obtain ⟨ma, mcap, rfl, _⟩ := hs3.shape
        have HS3 := Hold.mk hs3
        replace HBR := Hold.mk (HBR.out.quiet hb3)
        replace HBL := Hold.mk (HBL.out.trans (hb3.mono HBL.out.size))
        clear hs3 hb3 d1 hp
        go_wp2_with (at_builtin; refine app_src rfl _ _ rfl _ _ _ _ HBR.out rfl _ _ _ HS3.out rfl (by have := HP2.out; have := putF_pos x; omega) (by have := HP2.out; have := HPL.out; have := HLEN.out; omega) ?_)
        intro sv4 w4 hb4 hg4
        have HN : Hold (BRow w.heap.size w4 sv4 (compF (l.take (j + 1)) (m.take (j + 1)))) := ⟨by rw [HST.out]; have e : partK x true = p := HPE.out.symm; rw [e]; exact hb4⟩
        have HW : Hold (Below w.heap.size w w4) := ⟨HBL.out.trans (HBR.out.below hg4)⟩
        clear hb4 hg4
        go_wp2_with fail
        exact ⟨⟨j + 1, by go_num, hlt, HN.out, HW.out⟩, by simp [intOf]; omega⟩
    · obtain rfl : j = l.length := by omega
      have HEE : Hold (l1 = compF l m) := ⟨by rw [HL1.out, List.take_of_length_le (Nat.le_refl _), List.take_of_length_le (by have := HEQ.out; omega)]⟩
      by_cases h200 : l1.length ≤ 200
      · have HQ : Hold ((compF l m).length ≤ 200) := ⟨by rw [← HEE.out]; exact h200⟩
        go_wp2_with fail
        go_ret2
        refine ⟨?_, HBL.out⟩
        rw [if_pos HQ.out]
        have HR : BRow w.heap.size wr (.slice ja l1.length jcap) (compF l m) := by have := HBR.out; rw [HEE.out] at this ⊢; exact this
        exact ⟨_, rfl, HR⟩
      · have HQ : Hold (¬ (compF l m).length ≤ 200) := ⟨by rw [← HEE.out]; exact h200⟩
        go_wp2_with fail
        go_ret2
        refine ⟨?_, HBL.out⟩
        rw [if_neg HQ.out]; rfl

end Go.Proofs.YtfllnlmanopfaaaDoor
