/- Catalogs: plain of the laws: a catalog as the reference has it (printed by genXCT.py). -/
import Derived.Test.YtfpphpjobkhalaaGreatDoorZ35
namespace Go.Proofs.YtfpphpjobkhalaaGreatDoor
open Go.Shelf Go.RowKit

theorem own_lowZ {B B' n p : Nat} {T : TypeId} {w : World} {sl : Value} {cs : List Value} (h : w.ownsRow B T n sl p cs) (hb : B' ≤ B) : w.ownsRow B' T n sl p cs := by
  obtain ⟨h1, h2 | ⟨g, cap, cur, h3, h4, h5⟩⟩ := h
  · exact ⟨h1, .inl h2⟩
  · exact ⟨h1, .inr ⟨g, cap, cur, h3, Nat.le_trans hb h4, h5⟩⟩
set_option maxRecDepth 100000 in
set_option maxHeartbeats 8000000 in
theorem lindexO_any (x : IX) (v : Value) (w : World) (hx : IAt (cf w) x v) (hn : x.fields.length ≤ 1000) :
    Calls Tryz.prog 29 #[v] w fun e w' => ∃ sa scap, e = .returned (.agg #[.string x.name, .slice sa x.fields.length scap, .bool x.uniq]) ∧ w'.ownsRow w.heap.size 116 2 (.slice sa x.fields.length scap) x.fields.length (fcells x.fields) ∧ Below w.heap.size w w' := by
  obtain ⟨hnm, fv, rfl, hfv⟩ := hx
  obtain ⟨a, cap, rfl, hlen, hcap, hel⟩ := hfv
  have HE := Hold.mk hel
  have HNM := Hold.mk hnm
  obtain ⟨i0, hi, hz0, hz1, hz2⟩ := info_parts infoFd
  have HI := Hold.mk (And.intro hi (And.intro hz0 (And.intro hz1 hz2)))
  obtain ⟨nm, l, u⟩ := x
  simp only at *
  have HP := Hold.mk (PL.start w nm (.slice a l.length cap) u l)
  clear hel hnm hi hz0 hz1 hz2
  go_enter Tryz.func29, Tryz.ntmps29
  go_wp2_with fail
  go_loopw [4] (fun i wr => ∃ (j : Nat) (sv : Value), i = .int .i64 j ∧ j ≤ l.length ∧ PL w wr nm (.slice a l.length cap) u sv j l) (fun i _ => l.length - (intOf i).toNat)
  case atStart => exact ⟨0, _, rfl, Nat.zero_le _, HP.out⟩
  case round =>
    obtain ⟨j, sv, rfl, hj, hpl⟩ := hrel
    clear HP
    have HP := Hold.mk hpl
    clear hpl
    obtain ⟨sa, scap, rfl⟩ := own_form2 HP.out.own
    obtain ⟨x0, x1, x2⟩ := cells_three HP.out.xb
    by_cases hlt : j < l.length
    · obtain ⟨f, hf⟩ : ∃ f, l[j]? = some f := ⟨l[j], List.getElem?_eq_getElem hlt⟩
      obtain ⟨hfs, b, off, rfl, z0, z1⟩ := HE.out j f hf
      have hbl : b < w.heap.size := lt_of_cell z0
      have hcl := cle_below HP.out.bel
      have g0 := GrowB.cell (B := w.heap.size + 1) (hcl _ _ _ z0) (by omega)
      have g1 := GrowB.cell (B := w.heap.size + 1) (hcl _ _ _ z1) (by omega)
      have g2 := GrowB.cell (B := w.heap.size + 1) x1 (by omega)
      have HF := Hold.mk hf
      obtain ⟨s, dn⟩ := f
      simp only at *
      clear z0 z1 hcl hf
      go_wp2_with fail
      clear x0 x1 x2
      refine wp_region_mixB (w.heap.size + 1) 11 rfl (by kernel_rfl) ?_
      rintro w1 hw1 hb1
      have HP1 : Hold (PL w w1 nm (.slice (some ⟨b, off, none⟩) l.length cap) u (.slice sa j scap) j l) := ⟨by subst hw1; exact ⟨HP.out.bel.drew, HP.out.xb, HP.out.rb, HP.out.yb, HP.out.own.drew⟩⟩
      have HB1 : Hold (Below (w.heap.size + 1) wr w1) := ⟨hb1.mono (by have := heap_lt HP.out.xb; omega)⟩
      clear hb1 hw1
      refine mixl_seg (by kernel_rfl) (fun _ _ d _ _ h => by cases d <;> exact h) [0, 2, 3, 4, 5, 6] [_, _, _, _, _, _] 5 11 rfl _ _ _ rfl (by kernel_rfl) (growBC HB1.out) ?_
      repeat (go_big_quiet_step (fail))
      refine wpQuiet_nil ?_
      obtain ⟨y0, y1, y2⟩ := cells_three HP1.out.yb
      refine mixl_two (i := 1) (j := 7) rfl rfl (by kernel_rfl) (growBC HB1.out) rfl rfl (fun K hK => ?_) (fun K hK => ?_)
      · go_wp2_with fail
        refine mixl_act (i := 7) rfl (by kernel_rfl) (growBC HB1.out) rfl (fun K hK => ?_)
        go_wp2_with fail
        clear y0 y1 y2
        generalize hw2 : w1.alloc (.cells #[.string s, .bool dn] 116) = w2
        have HP2 : Hold (PL w w2 nm (.slice (some ⟨b, off, none⟩) l.length cap) u (.slice sa j scap) j l) := ⟨by rw [← hw2]; exact HP1.out.alloc _⟩
        have HB2 : Hold (Below (w.heap.size + 1) wr w2) := ⟨by rw [← hw2]; exact HB1.out.alloc (by have := heap_lt HP1.out.xb; omega) _⟩
        have HN2 : Hold (w2.heap[w1.heap.size]? = some (.cells #[.string s, .bool dn] 116 (0, 0))) := ⟨by rw [← hw2]; exact heap_alloc_new w1 _⟩
        clear hw2
        refine mixl_act (i := 8) rfl (by kernel_rfl) (growBC HB2.out) rfl (fun K hK => ?_)
        refine wp_append_lies w2 (.tmp 18) (.tmp 24) 71 rfl (w.heap.size + 1 + 1 + 1) 116 i0 (.agg #[.string ⟨#[]⟩, .bool false]) 2 24 Tryz.underlying71 HI.out.1 HI.out.2.1 HI.out.2.2.1 HI.out.2.2.2 rfl (by decide) (.slice sa j scap) j _ rfl HP2.out.own ⟨w1.heap.size, 0, none⟩ 1 1 [.string s, .bool dn] rfl rfl (World.news_of_block HN2.out) (by simp [Value.oneCell']) (by decide) (by unfold maxLen; omega) (by omega) (by have := heap_lt HP2.out.yb; omega) _ rfl ?_
        intro g cap2 w3 hown hgr _ _
        refine hK _ _ ?_
        clear hK K
        have hy3 : w3.heap[w.heap.size + 1 + 1]? = some (.cells #[.string nm, .slice sa j scap, .bool u] 73 (0, 0)) := by
          rw [hgr.block _ (heap_lt HP2.out.yb) (fun e => by have := (HP2.out.own.lt _ e.symm).1; omega)]; exact HP2.out.yb
        have HB3 : Hold (Below (w.heap.size + 1) wr w3) := ⟨HB2.out.grown hgr (by have := heap_lt HP2.out.xb; omega) (fun q hq => by have := (HP2.out.own.lt q hq).1; omega)⟩
        have HN := Hold.mk (HP2.out.push HF.out hgr hown)
        refine mixl_act (i := 9) rfl (by kernel_rfl) (growBC HB3.out) rfl (fun K hK => ?_)
        go_wp2_with fail
        obtain ⟨v0, v1, v2⟩ := cells_three hy3
        have vf : w3.frozen? ⟨w.heap.size + 1 + 1, 1, none⟩ = false := free_box hy3 1
        have HB4 : Hold (∀ v, Below (w.heap.size + 1) wr (w3.setCell ⟨w.heap.size + 1 + 1, 1, none⟩ v)) := ⟨fun v => HB3.out.setCell (p := ⟨w.heap.size + 1 + 1, 1, none⟩) (by simp) v⟩
        clear hy3 hown hgr
        refine mixl_act (i := 10) rfl (by kernel_rfl) (growBC HB3.out) rfl (fun K hK => ?_)
        go_wp2_with fail
        clear v0 v1 v2 vf
        refine mix_done (by kernel_rfl) (growBC (HB4.out _)) ?_
        go_wp2_with fail
        exact ⟨⟨j + 1, _, by go_num, hlt, HN.out⟩, by simp [intOf]; omega⟩
      · go_wp2_with fail
        have hlt1 := heap_lt HP1.out.yb
        refine mixl_act (i := 1) rfl (by kernel_rfl) (growBC (HB1.out.alloc (by have := heap_lt HP1.out.xb; omega) _)) rfl (fun K hK => ?_)
        go_wp2_with fail
        clear y0 y1 y2 hlt1
        generalize hw2 : w1.alloc (.cells #[.string s, .bool dn] 116) = w2
        have HP2 : Hold (PL w w2 nm (.slice (some ⟨b, off, none⟩) l.length cap) u (.slice sa j scap) j l) := ⟨by rw [← hw2]; exact HP1.out.alloc _⟩
        have HB2 : Hold (Below (w.heap.size + 1) wr w2) := ⟨by rw [← hw2]; exact HB1.out.alloc (by have := heap_lt HP1.out.xb; omega) _⟩
        have HN2 : Hold (w2.heap[w1.heap.size]? = some (.cells #[.string s, .bool dn] 116 (0, 0))) := ⟨by rw [← hw2]; exact heap_alloc_new w1 _⟩
        clear hw2
        refine mixl_act (i := 8) rfl (by kernel_rfl) (growBC HB2.out) rfl (fun K hK => ?_)
        refine wp_append_lies w2 (.tmp 18) (.tmp 24) 71 rfl (w.heap.size + 1 + 1 + 1) 116 i0 (.agg #[.string ⟨#[]⟩, .bool false]) 2 24 Tryz.underlying71 HI.out.1 HI.out.2.1 HI.out.2.2.1 HI.out.2.2.2 rfl (by decide) (.slice sa j scap) j _ rfl HP2.out.own ⟨w1.heap.size, 0, none⟩ 1 1 [.string s, .bool dn] rfl rfl (World.news_of_block HN2.out) (by simp [Value.oneCell']) (by decide) (by unfold maxLen; omega) (by omega) (by have := heap_lt HP2.out.yb; omega) _ rfl ?_
        intro g cap2 w3 hown hgr _ _
        refine hK _ _ ?_
        clear hK K
        have hy3 : w3.heap[w.heap.size + 1 + 1]? = some (.cells #[.string nm, .slice sa j scap, .bool u] 73 (0, 0)) := by
          rw [hgr.block _ (heap_lt HP2.out.yb) (fun e => by have := (HP2.out.own.lt _ e.symm).1; omega)]; exact HP2.out.yb
        have HB3 : Hold (Below (w.heap.size + 1) wr w3) := ⟨HB2.out.grown hgr (by have := heap_lt HP2.out.xb; omega) (fun q hq => by have := (HP2.out.own.lt q hq).1; omega)⟩
        have HN := Hold.mk (HP2.out.push HF.out hgr hown)
        refine mixl_act (i := 9) rfl (by kernel_rfl) (growBC HB3.out) rfl (fun K hK => ?_)
        go_wp2_with fail
        obtain ⟨v0, v1, v2⟩ := cells_three hy3
        have vf : w3.frozen? ⟨w.heap.size + 1 + 1, 1, none⟩ = false := free_box hy3 1
        have HB4 : Hold (∀ v, Below (w.heap.size + 1) wr (w3.setCell ⟨w.heap.size + 1 + 1, 1, none⟩ v)) := ⟨fun v => HB3.out.setCell (p := ⟨w.heap.size + 1 + 1, 1, none⟩) (by simp) v⟩
        clear hy3 hown hgr
        refine mixl_act (i := 10) rfl (by kernel_rfl) (growBC HB3.out) rfl (fun K hK => ?_)
        go_wp2_with fail
        clear v0 v1 v2 vf
        refine mix_done (by kernel_rfl) (growBC (HB4.out _)) ?_
        go_wp2_with fail
        exact ⟨⟨j + 1, _, by go_num, hlt, HN.out⟩, by simp [intOf]; omega⟩
    · have HOW := Hold.mk HP.out.own
      rw [List.take_of_length_le (by omega)] at HOW
      obtain rfl : j = l.length := by omega
      obtain ⟨y0, y1, y2⟩ := cells_three HP.out.yb
      obtain ⟨r0, r1, r2⟩ := cells_three HP.out.rb
      have f0 := free_box HP.out.rb 0
      have f1 := free_box HP.out.rb 1
      have f2 := free_box HP.out.rb 2
      go_wp2_with fail
      obtain ⟨W, hW⟩ : ∃ W, W = (((wr.setCell ⟨w.heap.size + 1, 0, none⟩ (.string nm)).setCell ⟨w.heap.size + 1, 1, none⟩ (.slice sa l.length scap)).setCell ⟨w.heap.size + 1, 2, none⟩ (.bool u)) := ⟨_, rfl⟩
      rw [← hW]
      have hbk : W.heap[w.heap.size + 1]? = some (.cells #[.string nm, .slice sa l.length scap, .bool u] 73 (0, 0)) := by
        rw [hW]
        have := set_self (o := 2) (c := .bool u) (set_self (o := 1) (c := .slice sa l.length scap) (set_self (o := 0) (c := .string nm) HP.out.rb))
        simpa [zeroI] using this
      have how : W.ownsRow (w.heap.size + 1 + 1 + 1) 116 2 (.slice sa l.length scap) l.length (fcells l) := by
        rw [hW]; exact own_set (own_set (own_set HOW.out (by omega)) (by omega)) (by omega)
      have hbw : Below w.heap.size w W := by
        rw [hW]; exact ((HP.out.bel.setCell (p := ⟨w.heap.size + 1, 0, none⟩) (by simp) _).setCell (p := ⟨w.heap.size + 1, 1, none⟩) (by simp) _).setCell (p := ⟨w.heap.size + 1, 2, none⟩) (by simp) _
      clear hW y0 y1 y2 r0 r1 r2 f0 f1 f2
      obtain ⟨c0, c1, c2⟩ := cells_three hbk
      exact bodyPost_ret (v := .agg #[.string nm, .slice sa l.length scap, .bool u]) (by simp [results, Tryz.results29, go_sem, c0, c1, c2]) rfl ⟨sa, scap, rfl, own_lowZ how (by omega), hbw⟩
theorem grow_fcells (c : CF) {l : List Fd} (hs : ∀ p ∈ l, p.1.size ≤ 9223372036854775807) : GRow 2 RFd c l (fcells l) :=
  ⟨fcells_len l, fun i p hi => ⟨[.string p.1, .bool p.2], rfl, fun j u hu => by
    obtain ⟨h0, h1⟩ := fcells_at l i p hi
    match j, hu with
    | 0, hu => rw [Nat.add_zero, h0]; exact hu
    | 1, hu => rw [h1]; exact hu
    | j + 2, hu => simp at hu, rfl, hs p (List.mem_of_getElem? hi)⟩⟩
/-- blocks of the reference's rows of fields, and of indexes -/
def okRF (t : TypeId) : Bool := t == 116
def okR (t : TypeId) : Bool := t == 116 || t == 79
abbrev cfT (ok : TypeId → Bool) (w : World) : CF := cfS 0 ok nilS w
theorem cfT_below {ok : TypeId → Bool} {w w' : World} (h : Below w.heap.size w w') : CLe (cfT ok w) (cfT ok w') := cfS_keep (fun b hb _ _ => h.block b hb) (fun _ _ e => e)
theorem cfT_own {ok : TypeId → Bool} {B n p : Nat} {T : TypeId} {w w' : World} {sv : Value} {cs : List Value} (h : w.ownsRow B T n sv p cs) (hT : ok T = false) (hg : w.grownBy w' sv.ownBlock) : CLe (cfT ok w) (cfT ok w') :=
  cfS_keep (fun b hb _ hc => hg.block b hb fun e => by
    have h1 := (own_isT h ok b e.symm).2
    rcases hc with h2 | h2
    · omega
    · rw [h1, hT] at h2; cases h2) (fun _ _ e => e)
theorem cfT_box {ok : TypeId → Bool} {k : Nat} {T : TypeId} {s : Nat × Nat} {vs : Array Value} {w w' : World} (h : w.heap[k]? = some (.cells vs T s)) (hT : ok T = false) (hg : w.grownBy w' (some k)) : CLe (cfT ok w) (cfT ok w') :=
  cfS_keep (fun b hb _ hc => hg.block b hb fun e => by
    obtain rfl := Option.some.inj e
    rcases hc with h2 | h2
    · omega
    · unfold isT at h2; rw [h] at h2; simp only at h2; rw [hT] at h2; cases h2) (fun _ _ e => e)
theorem cfT_more {ok ok' : TypeId → Bool} (hk : ∀ t, ok t = true → ok' t = true) {w : World} : CLe (cfT ok w) (cfT ok' w) := fun b o u h => by
  unfold cfT cfS at h ⊢
  split at h
  · rename_i hc
    rw [if_pos ⟨hc.1, hc.2.imp id (fun h2 => by
      unfold isT at h2 ⊢
      revert h2
      cases w.heap[b]? with
      | none => exact id
      | some o => cases o <;> first | exact id | exact hk _)⟩]; exact h
  · cases h
theorem sat_cfT {α : Type} {ok : TypeId → Bool} {B n : Nat} {R : Rep α} {T : TypeId} {w : World} {sl : Value} {xs : List α} {cs : List Value} (h : w.ownsRow B T n sl xs.length cs) (hT : ok T = true) (hr : GRow n R (cfT ok w) xs cs) : SAt n R (cfT ok w) sl xs :=
  sat_of_own h hr (fun g j u hg hu => by
    unfold cfT cfS
    rw [if_pos ⟨by simp [Value.ownBlock], .inr (by rw [(own_isT h ok g hg).2]; exact hT)⟩]; exact hu)
theorem cells_fourZ {w : World} {k : Nat} {a b c d : Value} {T : TypeId} {s : Nat × Nat} (h : w.heap[k]? = some (.cells #[a, b, c, d] T s)) : w.cell? ⟨k, 0, none⟩ = some a ∧ w.cell? ⟨k, 1, none⟩ = some b ∧ w.cell? ⟨k, 2, none⟩ = some c ∧ w.cell? ⟨k, 3, none⟩ = some d := by
  simp [World.cell?, h]
/-- the worlds in which all below B stands, and a box -/
def BoxTZ (B zb : Nat) (w : World) : Type := { w' : World // Below B w w' ∧ w'.heap[zb]? = w.heap[zb]? }
instance (B zb : Nat) (w : World) : Nonempty (BoxTZ B zb w) := ⟨⟨w, Below.refl _ w, rfl⟩⟩
theorem BoxTZ.cell {B zb : Nat} {w : World} {o : Nat} {v : Value} (h : w.cell? ⟨zb, o, none⟩ = some v) (e : BoxTZ B zb w) : e.val.cell? ⟨zb, o, none⟩ = some v := by
  rw [World.cell?_of_block (w := w) e.property.2]; exact h
abbrev BoxCZ (B zb : Nat) (w : World) : World → Prop := fun w' => ∃ e : BoxTZ B zb w, w' = e.val
theorem boxC {B zb : Nat} {w w' : World} (h : Below B w w') (k : w'.heap[zb]? = w.heap[zb]?) : BoxCZ B zb w w' := ⟨⟨w', h, k⟩, rfl⟩
theorem infoPXr : (Tryz.prog.info? 79).map (fun i => (i.zero, i.size, i.bytes)) = some (some (.agg #[.string ⟨#[]⟩, .slice none 0 0, .bool false, .int .i64 0]), 4, 56) := by kernel_rfl
theorem infoCXr : (Tryz.prog.info? 77).map (fun i => (i.zero, i.size, i.bytes)) = some (some (.agg #[.string ⟨#[]⟩, .int .i64 0, .slice none 0 0]), 3, 48) := by kernel_rfl
def RTriv : Rep Unit := fun _ _ _ => True
theorem own_triv {B n p : Nat} {T : TypeId} {w : World} {sv : Value} {cs : List Value} (h : w.ownsRow B T n sv p cs) (hl : cs.length = p * n) (_hn : 0 < n) (hle : B ≤ w.heap.size) : OwnS n RTriv T B w sv p (List.replicate p ()) cs :=
  ⟨h, by simp, ⟨by simpa using hl, fun i _ hi => by
    have hij : i < p := by have := (List.getElem?_eq_some_iff.1 hi).1; simpa using this
    have hm : (i + 1) * n ≤ p * n := Nat.mul_le_mul_right _ hij
    rw [Nat.add_mul, Nat.one_mul] at hm
    refine ⟨(cs.drop (i * n)).take n, by rw [List.length_take, List.length_drop]; omega, fun q u hu => ?_, trivial⟩
    rw [List.getElem?_take] at hu
    split at hu
    · rw [List.getElem?_drop] at hu; exact hu
    · cases hu⟩, hle⟩
/-- lengths of a size that can be laid -/
def SizedP (l : List CX) : Prop := l.length ≤ 1000000 ∧ ∀ x ∈ l, x.ixs.length ≤ 1000000 ∧ ∀ p ∈ x.ixs, p.ix.fields.length ≤ 1000
/-- where plain's inner loop stands -/
structure PN (wr wq : World) (xb : Nat) (nm : ByteArray) (sp : Int) (sv : Value) (xs : List PX) (q : Nat) (jcs : List Value) : Prop where
  bel : Below wr.heap.size wr wq
  xge : wr.heap.size ≤ xb
  box : wq.heap[xb]? = some (.cells #[.string nm, .int .i64 sp, sv] 77 (0, 0))
  own : wq.ownsRow wr.heap.size 79 4 sv q jcs
  row : GRow 4 RPX (cfT okRF wq) (xs.take q) jcs
theorem PN.next {wr wq w10 w12 : World} {xb : Nat} {nm : ByteArray} {sp : Int} {sv sl2 : Value} {xs : List PX} {q : Nat} {jcs : List Value} (h : PN wr wq xb nm sp sv xs q jcs) (hb : Below wq.heap.size wq w10) (hg : w10.grownBy w12 sv.ownBlock) {p : PX} {fa : Option Addr} {fcap : Nat} (hp : xs[q]? = some p)
    (hn : p.ix.name.size ≤ 9223372036854775807) (hf : FieldsAt (cfT okRF w10) (.slice fa p.ix.fields.length fcap) p.ix.fields) (hw : (Lit.int .i64 p.sp).wf = true)
    (ho : w12.ownsRow wr.heap.size 79 4 sl2 (q + 1) (jcs ++ [.string p.ix.name, .slice fa p.ix.fields.length fcap, .bool p.ix.uniq, .int .i64 p.sp])) :
    PN wr (w12.setCell ⟨xb, 2, none⟩ sl2) xb nm sp sl2 xs (q + 1) (jcs ++ [.string p.ix.name, .slice fa p.ix.fields.length fcap, .bool p.ix.uniq, .int .i64 p.sp]) := by
  have hxg := h.xge
  have hx10 := kept h.box hb
  have o10 := h.own.kept (row := none) (grownZ_below hb) (by cases sv.ownBlock <;> simp)
  have hx12 : w12.heap[xb]? = some (.cells #[.string nm, .int .i64 sp, sv] 77 (0, 0)) := by
    rw [hg.block xb (heap_lt hx10) (fun e => own_ne o10 hx10 (by decide) xb e.symm rfl)]; exact hx10
  have hg13 := grownZ_set w12 xb 2 sl2
  have hc : CLe (cfT okRF w10) (cfT okRF (w12.setCell ⟨xb, 2, none⟩ sl2)) := fun b o u e => cfT_box hx12 (by decide) hg13 b o u (cfT_own o10 (by decide) hg b o u e)
  have hb12 : Below wr.heap.size wr w12 := (h.bel.trans (hb.mono h.bel.size)).grown hg (Nat.le_trans h.bel.size hb.size) (fun g hq => (o10.lt g hq).1)
  refine ⟨hb12.setCell (p := ⟨xb, 2, none⟩) hxg _, hxg, ?_, ho.kept hg13 ?_, ?_⟩
  · have := set_self (o := 2) (c := sl2) hx12
    simpa using this
  · cases e : sl2.ownBlock with
    | none => exact .inl rfl
    | some g => exact .inr (fun e2 => own_ne ho hx12 (by decide) g e (Option.some.inj e2).symm)
  · rw [take_succ hp]
    exact ((h.row.mono RPX_mono (cfT_below hb)).mono RPX_mono hc).snoc rfl ⟨fa, fcap, rfl, hn, hf.mono hc, hw⟩
/-- where plain's outer loop stands -/
structure PQ (w wr : World) (sl : Value) (l : List CX) (j : Nat) (cs : List Value) : Prop where
  bel : Below w.heap.size w wr
  own : wr.ownsRow w.heap.size 77 3 sl j cs
  row : GRow 3 RCX (cfT okR wr) (l.take j) cs
  ret : wr.heap[w.heap.size + 1]? = some (.cells #[.slice none 0 0] 31 (0, 0))
  out : wr.heap[w.heap.size + 1 + 1]? = some (.cells #[sl] 31 (0, 0))
theorem PQ.quiet {w wr wn : World} {sl : Value} {l : List CX} {j : Nat} {cs : List Value} (h : PQ w wr sl l j cs) (hb : Below wr.heap.size wr wn) : PQ w wn sl l j cs :=
  ⟨h.bel.trans (hb.mono h.bel.size), h.own.kept (row := none) (grownZ_below hb) (by cases sl.ownBlock <;> simp), h.row.mono RCX_mono (cfT_below hb), kept h.ret hb, kept h.out hb⟩
theorem PQ.next {w wr w12 : World} {sl sl2 : Value} {l : List CX} {j : Nat} {cs : List Value} (h : PQ w wr sl l j cs) {x : CX} {xa : Option Addr} {xcap : Nat} (hx : l[j]? = some x) (hg : wr.grownBy w12 sl.ownBlock)
    (hn : x.name.size ≤ 9223372036854775807) (hw : (Lit.int .i64 x.sp).wf = true) {N : Nat} {jcs : List Value} (hso : wr.ownsRow N 79 4 (.slice xa x.ixs.length xcap) x.ixs.length jcs) (hsr : GRow 4 RPX (cfT okRF wr) x.ixs jcs)
    (ho : w12.ownsRow w.heap.size 77 3 sl2 (j + 1) (cs ++ [.string x.name, .int .i64 x.sp, .slice xa x.ixs.length xcap])) :
    PQ w (w12.setCell ⟨w.heap.size + 1 + 1, 0, none⟩ sl2) sl2 l (j + 1) (cs ++ [.string x.name, .int .i64 x.sp, .slice xa x.ixs.length xcap]) := by
  have hne := fun {k : Nat} {vs : Array Value} (hk : wr.heap[k]? = some (.cells vs 31 (0, 0))) => own_ne h.own hk (by decide)
  have ko : w12.heap[w.heap.size + 1 + 1]? = some (.cells #[sl] 31 (0, 0)) := by
    rw [hg.block _ (heap_lt h.out) (fun e => hne h.out _ e.symm rfl)]; exact h.out
  have kr : w12.heap[w.heap.size + 1]? = some (.cells #[.slice none 0 0] 31 (0, 0)) := by
    rw [hg.block _ (heap_lt h.ret) (fun e => hne h.ret _ e.symm rfl)]; exact h.ret
  have hg13 := grownZ_set w12 (w.heap.size + 1 + 1) 0 sl2
  have hc : ∀ ok : TypeId → Bool, ok 77 = false → ok 31 = false → CLe (cfT ok wr) (cfT ok (w12.setCell ⟨w.heap.size + 1 + 1, 0, none⟩ sl2)) := fun ok h1 h2 b o u e => cfT_box ko h2 hg13 b o u (cfT_own h.own h1 hg b o u e)
  have hsz := heap_lt h.out
  have hsat : SAt 4 RPX (cfT okR wr) (.slice xa x.ixs.length xcap) x.ixs := sat_cfT hso (by decide) (hsr.mono RPX_mono (cfT_more (fun t ht => by unfold okRF at ht; unfold okR; rw [ht]; rfl)))
  refine ⟨(h.bel.grown hg h.bel.size (fun g hq => (h.own.lt g hq).1)).setCell (p := ⟨w.heap.size + 1 + 1, 0, none⟩) (by show w.heap.size ≤ w.heap.size + 1 + 1; omega) _, ho.kept hg13 ?_, ?_, ?_, ?_⟩
  · cases e : sl2.ownBlock with
    | none => exact .inl rfl
    | some g => exact .inr (fun e2 => own_ne ho ko (by decide) g e (Option.some.inj e2).symm)
  · rw [take_succ hx]
    exact (h.row.mono RCX_mono (hc okR (by decide) (by decide))).snoc rfl ⟨xa, xcap, rfl, hn, hw, hsat.mono RPX_mono (hc okR (by decide) (by decide))⟩
  · rw [Below.heap_setCell _ _ _ _ (show w.heap.size + 1 ≠ w.heap.size + 1 + 1 by omega)]; exact kr
  · have := set_self (o := 0) (c := sl2) ko
    simpa using this
set_option maxRecDepth 100000 in
set_option maxHeartbeats 16000000 in
theorem lplainC_any (l : List CX) (v : Value) (w : World) (h : CatAt (cf w) l v) (hsz : SizedP l) :
    Calls Tryz.prog 8 #[v] w fun e w' => ∃ y, e = .returned y ∧ CatAt (cf w') l y ∧ Below w.heap.size w w' := by
  obtain ⟨a, cap, rfl, hs⟩ := h
  obtain ⟨_, _, e, hle, hcap, hel⟩ := hs
  cases e
  have HE := Hold.mk hel
  have HSZ := Hold.mk hsz
  obtain ⟨W0, hW0⟩ : ∃ W0, W0 = ((w.alloc (.cells #[.slice a l.length cap] 24)).alloc (.cells #[.slice none 0 0] 31)).alloc (.cells #[.slice none 0 0] 31) := ⟨_, rfl⟩
  have hb0 : Below w.heap.size w W0 := by rw [hW0]; exact (((Below.refl _ w).alloc (Nat.le_refl _) _).alloc (by simp <;> omega) _).alloc (by simp <;> omega) _
  have HC0 : Hold (W0.heap[w.heap.size]? = some (.cells #[.slice a l.length cap] 24 (0, 0))) := ⟨by
    rw [hW0, Below.heap_alloc _ _ _ (by simp <;> omega), Below.heap_alloc _ _ _ (by simp <;> omega)]; exact heap_alloc_new w _⟩
  have hr0 : W0.heap[w.heap.size + 1]? = some (.cells #[.slice none 0 0] 31 (0, 0)) := by
    rw [hW0, Below.heap_alloc _ _ _ (by simp <;> omega)]
    have := heap_alloc_new (w.alloc (.cells #[.slice a l.length cap] 24)) (.cells #[.slice none 0 0] 31)
    simpa using this
  have ho0 : W0.heap[w.heap.size + 1 + 1]? = some (.cells #[.slice none 0 0] 31 (0, 0)) := by
    rw [hW0]
    have := heap_alloc_new ((w.alloc (.cells #[.slice a l.length cap] 24)).alloc (.cells #[.slice none 0 0] 31)) (.cells #[.slice none 0 0] 31)
    simpa using this
  have HQ0 : Hold (PQ w W0 nilS l 0 []) := ⟨⟨hb0, World.ownsRow_nil _ _ _ _, by simpa using GRow.nil 3 RCX (cfT okR W0), hr0, ho0⟩⟩
  clear hel hsz hb0 hr0 ho0
  go_enter Tryz.func8, Tryz.ntmps8
  go_upto_region 2 with (fail)
  rw [← hW0]
  clear hW0
  go_wp2_with fail
  go_loopw [4] (fun i wr => ∃ (j : Nat) (sl : Value) (cs : List Value), i = .int .i64 j ∧ j ≤ l.length ∧ PQ w wr sl l j cs ∧ wr.heap[w.heap.size]? = some (.cells #[.slice a l.length cap] 24 (0, 0))) (fun i _ => l.length - (intOf i).toNat)
  case atStart => exact ⟨0, _, _, rfl, Nat.zero_le _, HQ0.out, HC0.out⟩
  case round =>
    clear HQ0 HC0
    obtain ⟨j, sl, cs, rfl, hj, hpq, hcb⟩ := hrel
    have HPQ := Hold.mk hpq
    have HCB := Hold.mk hcb
    obtain ⟨sla, slc, rfl⟩ := own_shapeZ hpq.own
    clear hpq hcb
    by_cases hlt : j < l.length
    · obtain ⟨x, hx⟩ : ∃ x, l[j]? = some x := ⟨l[j], List.getElem?_eq_getElem hlt⟩
      obtain ⟨b, off, d, rfl, hd, hcc, xa, xcap, rfl, hxn, hxw, hxi⟩ := HE.out j x hx
      have HXE := Hold.mk hx
      have HXI := Hold.mk hxi
      have HXS := Hold.mk (HSZ.out.2 x (List.mem_of_getElem? hx))
      have HXN := Hold.mk (And.intro hxn hxw)
      have hxl : x.ixs.length ≤ xcap ∧ xcap ≤ 9223372036854775807 := by
        obtain ⟨_, _, e, h1, h2, _⟩ := hxi
        cases e; exact ⟨h1, h2⟩
      obtain ⟨hxl1, hxl2⟩ := hxl
      obtain ⟨nm, sp, xs⟩ := x
      simp only at *
      have HSRC : Hold (∀ wn, Below wr.heap.size wr wn → wn.cell? ⟨w.heap.size, 0, none⟩ = some (.slice (some ⟨b, off, none⟩) l.length cap) ∧ wn.cell? ⟨b, off + j * 3, none⟩ = some (.string nm) ∧ wn.cell? ⟨b, off + j * 3 + 1, none⟩ = some (.int .i64 sp) ∧ wn.cell? ⟨b, off + j * 3 + 2, none⟩ = some (.slice xa xs.length xcap)) := ⟨fun wn hb => ⟨by
          have := kept HCB.out hb
          simp [World.cell?, this], cle_below (HPQ.out.bel.trans (hb.mono HPQ.out.bel.size)) _ _ _ (hcc 0 _ rfl), cle_below (HPQ.out.bel.trans (hb.mono HPQ.out.bel.size)) _ _ _ (hcc 1 _ rfl), cle_below (HPQ.out.bel.trans (hb.mono HPQ.out.bel.size)) _ _ _ (hcc 2 _ rfl)⟩⟩
      clear hd hcc hxn hxw hxi hx
      obtain ⟨c0, z0, z1, z2⟩ := HSRC.out wr (Below.refl _ _)
      have g0 := GrowB.cell c0 (lt_of_cell c0)
      have g1 := GrowB.cell z0 (lt_of_cell z0)
      have g2 := GrowB.cell z1 (lt_of_cell z1)
      go_upto_region 5 with (fail)
      clear c0 z0 z1 z2
      refine wp_region_mixC (GrowBC wr.heap.size wr) 15 rfl (by kernel_rfl) ?_
      have HDW := Hold.mk ((Below.refl wr.heap.size wr).drew)
      generalize wr.drew = v9 at HDW ⊢
      refine mixl_seg (by kernel_rfl) (fun _ _ d _ _ h => by cases d <;> exact h) [0, 1, 2, 3, 4, 5, 6, 7, 8, 9, 10, 11, 12] [_, _, _, _, _, _, _, _, _, _, _, _, _] 2 15 rfl _ _ _ rfl (by kernel_rfl) (growBC HDW.out) ?_
      repeat (go_big_quiet_step (fail))
      refine wpQuiet_nil ?_
      clear g0 g1 g2
      refine mixl_act (i := 13) rfl (by kernel_rfl) (growBC HDW.out) rfl (fun K hK => ?_)
      go_wp2_with fail
      obtain ⟨xb, hxb⟩ : ∃ xb, xb = v9.heap.size := ⟨_, rfl⟩
      obtain ⟨W1, hW1⟩ : ∃ W1, W1 = v9.alloc (.cells #[.string ⟨#[]⟩, .int .i64 0, .slice none 0 0] 77) := ⟨_, rfl⟩
      rw [← hW1, ← hxb]
      have hb1 : Below v9.heap.size v9 W1 := by rw [hW1]; exact (Below.refl _ v9).alloc (Nat.le_refl _) _
      have hk1 : W1.heap[xb]? = some (.cells #[.string ⟨#[]⟩, .int .i64 0, .slice none 0 0] 77 (0, 0)) := by rw [hW1, hxb]; exact heap_alloc_new v9 _
      have HB1 := Hold.mk (HDW.out.trans (hb1.mono HDW.out.size))
      have HXG : Hold (wr.heap.size ≤ xb) := ⟨by rw [hxb]; exact HDW.out.size⟩
      have HK1 := Hold.mk hk1
      obtain ⟨x0, x1, x2⟩ := cells_three hk1
      have f0 := free_box hk1 0
      have f1 := free_box hk1 1
      have f2 := free_box hk1 2
      clear hW1 hb1 hk1 hxb
      refine mixl_act (i := 14) rfl (by kernel_rfl) (growBC HB1.out) rfl (fun K hK => ?_)
      go_wp2_with fail
      clear x0 x1 x2 f0 f1 f2
      obtain ⟨W2, hW2⟩ : ∃ W2, W2 = ((W1.setCell ⟨xb, 0, none⟩ (.string nm)).setCell ⟨xb, 1, none⟩ (.int .i64 sp)).setCell ⟨xb, 2, none⟩ (.slice none 0 0) := ⟨_, rfl⟩
      rw [← hW2]
      have HB2 : Hold (Below wr.heap.size wr W2) := ⟨by
        rw [hW2]; exact ((HB1.out.setCell (p := ⟨xb, 0, none⟩) HXG.out _).setCell (p := ⟨xb, 1, none⟩) HXG.out _).setCell (p := ⟨xb, 2, none⟩) HXG.out _⟩
      have HN2 : Hold (PN wr W2 xb nm sp nilS xs 0 []) := ⟨⟨HB2.out, HXG.out, by
        rw [hW2]
        have := set_self (o := 2) (c := .slice none 0 0) (set_self (o := 1) (c := .int .i64 sp) (set_self (o := 0) (c := .string nm) HK1.out))
        simpa using this, World.ownsRow_nil _ _ _ _, by simpa using GRow.nil 4 RPX (cfT okRF W2)⟩⟩
      clear hW2 HK1 HB1 HDW
      refine mix_done (by kernel_rfl) (growBC HB2.out) ?_
      go_wp2_with fail
      go_loopw [6] (fun i wq => ∃ (q : Nat) (sv : Value) (jcs : List Value), i = .int .i64 q ∧ q ≤ xs.length ∧ PN wr wq xb nm sp sv xs q jcs) (fun i _ => xs.length - (intOf i).toNat)
      case atStart => exact ⟨0, _, _, rfl, Nat.zero_le _, HN2.out⟩
      case round =>
        rename World => wq
        clear HN2 HB2
        obtain ⟨q, sv, jcs, rfl, hq, hpn⟩ := hrel
        have HPN := Hold.mk hpn
        obtain ⟨sa, scap, rfl⟩ := own_shapeZ hpn.own
        obtain ⟨c0, z0, z1, z2⟩ := HSRC.out wq hpn.bel
        clear hpn
        by_cases hlt2 : q < xs.length
        · obtain ⟨p, hp⟩ : ∃ p, xs[q]? = some p := ⟨xs[q], List.getElem?_eq_getElem hlt2⟩
          obtain ⟨_, _, e, _, _, hxel⟩ := HXI.out
          cases e
          obtain ⟨b2, off2, d2, rfl, hd2, hcc2, fa, fcap, rfl, hpnm, hpf, hpw⟩ := hxel q p hp
          have hcl := cle_below (HPQ.out.bel.trans (HPN.out.bel.mono HPQ.out.bel.size))
          have p0 := hcl _ _ _ (hcc2 0 _ rfl)
          have p1 := hcl _ _ _ (hcc2 1 _ rfl)
          have p2 := hcl _ _ _ (hcc2 2 _ rfl)
          have p3 := hcl _ _ _ (hcc2 3 _ rfl)
          unfold cf at p0 p1 p2 p3
          rw [Nat.add_zero] at p0
          have HPE := Hold.mk hp
          have HFL := Hold.mk (HXS.out.2 p (List.mem_of_getElem? hp))
          have HIN := Hold.mk hpnm
          have HIW := Hold.mk hpw
          have HPF := Hold.mk (hpf.mono hcl)
          have HFS : Hold (∀ f ∈ p.ix.fields, f.1.size ≤ 9223372036854775807) := ⟨fun f hf => by
            obtain ⟨i, hi⟩ := List.getElem?_of_mem hf
            obtain ⟨_, _, _, _, _, h3⟩ := hpf
            exact (h3 i f hi).1⟩
          obtain ⟨⟨iname, fl, u⟩, isp⟩ := p
          simp only at *
          obtain ⟨W1, hW1⟩ : ∃ W1, W1 = wq.alloc (.cells #[.string iname, .slice fa fl.length fcap, .bool u, .int .i64 isp] 69) := ⟨_, rfl⟩
          obtain ⟨pb, hpb⟩ : ∃ pb, pb = wq.heap.size := ⟨_, rfl⟩
          have hbq1 : Below wq.heap.size wq W1 := by rw [hW1]; exact (Below.refl _ wq).alloc (Nat.le_refl _) _
          have HBQ1 := Hold.mk hbq1
          have HPK : Hold (W1.heap[pb]? = some (.cells #[.string iname, .slice fa fl.length fcap, .bool u, .int .i64 isp] 69 (0, 0))) := ⟨by rw [hW1, hpb]; exact heap_alloc_new wq _⟩
          have HNE : Hold (pb ≠ xb) := ⟨by have := heap_lt HPN.out.box; omega⟩
          clear hd2 hcc2 hpnm hpf hpw hcl hp hbq1
          go_upto_region 10 with (fail)
          rw [← hW1, ← hpb]
          clear hW1 hpb p0 p1 p2 p3 c0 z0 z1 z2
          obtain ⟨p0, p1, p2, p3⟩ := cells_fourZ HPK.out
          have g0 := BoxTZ.cell (B := wr.heap.size) p0
          have g1 := BoxTZ.cell (B := wr.heap.size) p1
          have g2 := BoxTZ.cell (B := wr.heap.size) p2
          have g3 := BoxTZ.cell (B := wr.heap.size) p3
          clear p0 p1 p2 p3
          refine wp_region_mixC (BoxCZ wr.heap.size pb W1) 12 rfl (by kernel_rfl) ?_
          have HDW := Hold.mk ((Below.refl W1.heap.size W1).drew)
          generalize W1.drew = v9 at HDW ⊢
          have HBV : Hold (BoxCZ wr.heap.size pb W1 v9) := ⟨boxC (HDW.out.mono (Nat.le_trans HPN.out.bel.size HBQ1.out.size)) (HDW.out.block pb (heap_lt HPK.out))⟩
          refine mixl_seg (by kernel_rfl) (fun _ _ d _ _ h => by cases d <;> exact h) [0, 2, 3, 5, 6] [_, _, _, _, _] 7 12 rfl _ _ _ rfl (by kernel_rfl) HBV.out ?_
          repeat (go_big_quiet_step (fail))
          refine wpQuiet_nil ?_
          clear g0 g1 g2 g3
          have HXV := Hold.mk (kept HPN.out.box (HBQ1.out.trans (HDW.out.mono HBQ1.out.size)))
          obtain ⟨_, _, x2⟩ := cells_three HXV.out
          have HIX := Hold.mk (lindexO_any ⟨iname, fl, u⟩ (.agg #[.string iname, .slice fa fl.length fcap, .bool u]) v9 ⟨HIN.out, _, rfl, HPF.out.mono (cle_below (HBQ1.out.trans (HDW.out.mono HBQ1.out.size)))⟩ HFL.out)
          refine mixl_two (i := 1) (j := 4) rfl rfl (by kernel_rfl) HBV.out rfl rfl (fun K hK => ?_) (fun K hK => ?_)
          · go_wp2_with fail
            clear x2
            refine mixl_act (i := 4) rfl (by kernel_rfl) HBV.out rfl (fun K hK => ?_)
            go_wp2_with fail
            refine HIX.out.mono ?_
            rintro e w10 ⟨fva, fvcap, rfl, hfo, hb10⟩
            simp only at hfo ⊢
            have HFA : Hold (FieldsAt (cfT okRF w10) (.slice fva fl.length fvcap) fl) := ⟨sat_fieldsAt (sat_cfT hfo (by decide) (grow_fcells _ HFS.out))⟩
            have HBV10 := Hold.mk (HDW.out.trans (hb10.mono HDW.out.size))
            have HBQ10 : Hold (Below wq.heap.size wq w10) := ⟨HBQ1.out.trans (HBV10.out.mono HBQ1.out.size)⟩
            have HBR10 : Hold (Below wr.heap.size W1 w10) := ⟨HBV10.out.mono (Nat.le_trans HPN.out.bel.size HBQ1.out.size)⟩
            have HPB10 : Hold (w10.heap[pb]? = W1.heap[pb]?) := ⟨HBV10.out.block pb (heap_lt HPK.out)⟩
            have HXB10 := Hold.mk (kept HPN.out.box HBQ10.out)
            have HSW : Hold (wq.heap.size ≤ w10.heap.size) := ⟨HBQ10.out.size⟩
            have HOS := Hold.mk (own_triv (HPN.out.own.kept (row := none) (grownZ_below HBQ10.out) (by cases (Value.slice sa q scap).ownBlock <;> simp)) HPN.out.own.1 (by decide) (Nat.le_trans HPN.out.bel.size HSW.out))
            have hb11 : Below w10.heap.size w10 (w10.alloc (.cells #[.string iname, .slice fva fl.length fvcap, .bool u, .int .i64 isp] 79)) := (Below.refl _ w10).alloc (Nat.le_refl _) _
            have HBR11 : Hold (Below wr.heap.size W1 (w10.alloc (.cells #[.string iname, .slice fva fl.length fvcap, .bool u, .int .i64 isp] 79))) := ⟨HBR10.out.trans (hb11.mono (Nat.le_trans HPN.out.bel.size HSW.out))⟩
            have HPB11 : Hold ((w10.alloc (.cells #[.string iname, .slice fva fl.length fvcap, .bool u, .int .i64 isp] 79)).heap[pb]? = W1.heap[pb]?) := ⟨by rw [HPK.out]; exact kept (by rw [HPB10.out]; exact HPK.out) hb11⟩
            clear hfo hb10 HIX
            clear hb11
            go_wp2_with fail
            refine mixl_seg (by kernel_rfl) (fun _ _ d _ _ h => by cases d <;> exact h) [7] [_] 4 5 rfl _ _ _ rfl (by kernel_rfl) (boxC HBR10.out HPB10.out) ?_
            repeat (go_big_quiet_step (fail))
            refine wpQuiet_nil ?_
            refine mixl_act (i := 8) rfl (by kernel_rfl) (boxC HBR10.out HPB10.out) rfl (fun K hK => ?_)
            go_wp2_with fail
            refine mixl_act (i := 9) rfl (by kernel_rfl) (boxC HBR11.out HPB11.out) rfl (fun K hK => ?_)
            refine wp_push (R := RTriv) (fun _ _ _ _ _ h => h) (.tmp 49) (.tmp 56) rfl infoPXr Tryz.underlying75 rfl (by decide) wr.heap.size w10 (.slice sa q scap) q (List.replicate q ()) jcs HOS.out rfl #[.string iname, .slice fva fl.length fvcap, .bool u, .int .i64 isp] [.string iname, .slice fva fl.length fvcap, .bool u, .int .i64 isp] rfl rfl (by simp [Value.oneCell']) () trivial _ rfl rfl (by have := HXS.out.1; omega) (by decide) ?_
            intro sl2 w12 ho2 hg2
            refine hK _ _ ?_
            clear hK K
            obtain ⟨s2a, s2c, rfl⟩ := ho2.shape
            have HN := Hold.mk (HPN.out.next HBQ10.out hg2.by_ HPE.out (fa := fva) (fcap := fvcap) HIN.out HFA.out HIW.out ho2.own)
            have hx12 := hg2.kept HXB10.out (own_ne HOS.out.own HXB10.out (by decide))
            have HBR12 : Hold (Below wr.heap.size W1 w12) := ⟨HBR10.out.trans (hg2.below (Nat.le_trans HPN.out.bel.size HSW.out) fun g hg => (HOS.out.own.lt g hg).1)⟩
            have HPB12 : Hold (w12.heap[pb]? = W1.heap[pb]?) := ⟨by
              rw [HPK.out]
              exact hg2.kept (by rw [HPB10.out]; exact HPK.out) (own_ne HOS.out.own (by rw [HPB10.out]; exact HPK.out) (by decide))⟩
            have hxpb : pb ≠ xb := HNE.out
            clear ho2 hg2
            refine mixl_act (i := 10) rfl (by kernel_rfl) (boxC HBR12.out HPB12.out) rfl (fun K hK => ?_)
            go_wp2_with fail
            have hf : w12.frozen? ⟨xb, 2, none⟩ = false := free_box hx12 2
            obtain ⟨_, _, hx⟩ := cells_three hx12
            clear hx12
            refine mixl_act (i := 11) rfl (by kernel_rfl) (boxC HBR12.out HPB12.out) rfl (fun K hK => ?_)
            go_wp2_with fail
            clear hf hx
            refine mix_done (by kernel_rfl) (boxC (HBR12.out.setCell (p := ⟨xb, 2, none⟩) HPN.out.xge _) (by rw [Below.heap_setCell _ _ _ _ hxpb]; exact HPB12.out)) ?_
            clear hxpb
            go_wp2_with fail
            exact ⟨⟨q + 1, _, _, by go_num, hlt2, HN.out⟩, by simp [intOf]; omega⟩
          · go_wp2_with fail
            clear x2
            refine HIX.out.mono ?_
            rintro e w10 ⟨fva, fvcap, rfl, hfo, hb10⟩
            simp only at hfo ⊢
            have HFA : Hold (FieldsAt (cfT okRF w10) (.slice fva fl.length fvcap) fl) := ⟨sat_fieldsAt (sat_cfT hfo (by decide) (grow_fcells _ HFS.out))⟩
            have HBV10 := Hold.mk (HDW.out.trans (hb10.mono HDW.out.size))
            have HBQ10 : Hold (Below wq.heap.size wq w10) := ⟨HBQ1.out.trans (HBV10.out.mono HBQ1.out.size)⟩
            have HBR10 : Hold (Below wr.heap.size W1 w10) := ⟨HBV10.out.mono (Nat.le_trans HPN.out.bel.size HBQ1.out.size)⟩
            have HPB10 : Hold (w10.heap[pb]? = W1.heap[pb]?) := ⟨HBV10.out.block pb (heap_lt HPK.out)⟩
            have HXB10 := Hold.mk (kept HPN.out.box HBQ10.out)
            have HSW : Hold (wq.heap.size ≤ w10.heap.size) := ⟨HBQ10.out.size⟩
            have HOS := Hold.mk (own_triv (HPN.out.own.kept (row := none) (grownZ_below HBQ10.out) (by cases (Value.slice sa q scap).ownBlock <;> simp)) HPN.out.own.1 (by decide) (Nat.le_trans HPN.out.bel.size HSW.out))
            have hb11 : Below w10.heap.size w10 (w10.alloc (.cells #[.string iname, .slice fva fl.length fvcap, .bool u, .int .i64 isp] 79)) := (Below.refl _ w10).alloc (Nat.le_refl _) _
            have HBR11 : Hold (Below wr.heap.size W1 (w10.alloc (.cells #[.string iname, .slice fva fl.length fvcap, .bool u, .int .i64 isp] 79))) := ⟨HBR10.out.trans (hb11.mono (Nat.le_trans HPN.out.bel.size HSW.out))⟩
            have HPB11 : Hold ((w10.alloc (.cells #[.string iname, .slice fva fl.length fvcap, .bool u, .int .i64 isp] 79)).heap[pb]? = W1.heap[pb]?) := ⟨by rw [HPK.out]; exact kept (by rw [HPB10.out]; exact HPK.out) hb11⟩
            clear hfo hb10 HIX
            obtain ⟨_, _, x2⟩ := cells_three HXB10.out
            have hxb11 := kept HXB10.out hb11
            obtain ⟨_, _, x3⟩ := cells_three hxb11
            clear hxb11 hb11
            go_wp2_with fail
            refine mixl_seg (by kernel_rfl) (fun _ _ d _ _ h => by cases d <;> exact h) [7] [_] 5 6 rfl _ _ _ rfl (by kernel_rfl) (boxC HBR10.out HPB10.out) ?_
            repeat (go_big_quiet_step (fail))
            refine wpQuiet_nil ?_
            refine mixl_two (i := 1) (j := 8) rfl rfl (by kernel_rfl) (boxC HBR10.out HPB10.out) rfl rfl (fun K hK => ?_) (fun K hK => ?_)
            · go_wp2_with fail
              clear x2 x3
              refine mixl_act (i := 8) rfl (by kernel_rfl) (boxC HBR10.out HPB10.out) rfl (fun K hK => ?_)
              go_wp2_with fail
              refine mixl_act (i := 9) rfl (by kernel_rfl) (boxC HBR11.out HPB11.out) rfl (fun K hK => ?_)
              refine wp_push (R := RTriv) (fun _ _ _ _ _ h => h) (.tmp 49) (.tmp 56) rfl infoPXr Tryz.underlying75 rfl (by decide) wr.heap.size w10 (.slice sa q scap) q (List.replicate q ()) jcs HOS.out rfl #[.string iname, .slice fva fl.length fvcap, .bool u, .int .i64 isp] [.string iname, .slice fva fl.length fvcap, .bool u, .int .i64 isp] rfl rfl (by simp [Value.oneCell']) () trivial _ rfl rfl (by have := HXS.out.1; omega) (by decide) ?_
              intro sl2 w12 ho2 hg2
              refine hK _ _ ?_
              clear hK K
              obtain ⟨s2a, s2c, rfl⟩ := ho2.shape
              have HN := Hold.mk (HPN.out.next HBQ10.out hg2.by_ HPE.out (fa := fva) (fcap := fvcap) HIN.out HFA.out HIW.out ho2.own)
              have hx12 := hg2.kept HXB10.out (own_ne HOS.out.own HXB10.out (by decide))
              have HBR12 : Hold (Below wr.heap.size W1 w12) := ⟨HBR10.out.trans (hg2.below (Nat.le_trans HPN.out.bel.size HSW.out) fun g hg => (HOS.out.own.lt g hg).1)⟩
              have HPB12 : Hold (w12.heap[pb]? = W1.heap[pb]?) := ⟨by
                rw [HPK.out]
                exact hg2.kept (by rw [HPB10.out]; exact HPK.out) (own_ne HOS.out.own (by rw [HPB10.out]; exact HPK.out) (by decide))⟩
              have hxpb : pb ≠ xb := HNE.out
              clear ho2 hg2
              refine mixl_act (i := 10) rfl (by kernel_rfl) (boxC HBR12.out HPB12.out) rfl (fun K hK => ?_)
              go_wp2_with fail
              have hf : w12.frozen? ⟨xb, 2, none⟩ = false := free_box hx12 2
              obtain ⟨_, _, hx⟩ := cells_three hx12
              clear hx12
              refine mixl_act (i := 11) rfl (by kernel_rfl) (boxC HBR12.out HPB12.out) rfl (fun K hK => ?_)
              go_wp2_with fail
              clear hf hx
              refine mix_done (by kernel_rfl) (boxC (HBR12.out.setCell (p := ⟨xb, 2, none⟩) HPN.out.xge _) (by rw [Below.heap_setCell _ _ _ _ hxpb]; exact HPB12.out)) ?_
              clear hxpb
              go_wp2_with fail
              exact ⟨⟨q + 1, _, _, by go_num, hlt2, HN.out⟩, by simp [intOf]; omega⟩
            · go_wp2_with fail
              refine mixl_act (i := 1) rfl (by kernel_rfl) (boxC HBR11.out HPB11.out) rfl (fun K hK => ?_)
              go_wp2_with fail
              clear x2 x3
              refine mixl_act (i := 9) rfl (by kernel_rfl) (boxC HBR11.out HPB11.out) rfl (fun K hK => ?_)
              refine wp_push (R := RTriv) (fun _ _ _ _ _ h => h) (.tmp 49) (.tmp 56) rfl infoPXr Tryz.underlying75 rfl (by decide) wr.heap.size w10 (.slice sa q scap) q (List.replicate q ()) jcs HOS.out rfl #[.string iname, .slice fva fl.length fvcap, .bool u, .int .i64 isp] [.string iname, .slice fva fl.length fvcap, .bool u, .int .i64 isp] rfl rfl (by simp [Value.oneCell']) () trivial _ rfl rfl (by have := HXS.out.1; omega) (by decide) ?_
              intro sl2 w12 ho2 hg2
              refine hK _ _ ?_
              clear hK K
              obtain ⟨s2a, s2c, rfl⟩ := ho2.shape
              have HN := Hold.mk (HPN.out.next HBQ10.out hg2.by_ HPE.out (fa := fva) (fcap := fvcap) HIN.out HFA.out HIW.out ho2.own)
              have hx12 := hg2.kept HXB10.out (own_ne HOS.out.own HXB10.out (by decide))
              have HBR12 : Hold (Below wr.heap.size W1 w12) := ⟨HBR10.out.trans (hg2.below (Nat.le_trans HPN.out.bel.size HSW.out) fun g hg => (HOS.out.own.lt g hg).1)⟩
              have HPB12 : Hold (w12.heap[pb]? = W1.heap[pb]?) := ⟨by
                rw [HPK.out]
                exact hg2.kept (by rw [HPB10.out]; exact HPK.out) (own_ne HOS.out.own (by rw [HPB10.out]; exact HPK.out) (by decide))⟩
              have hxpb : pb ≠ xb := HNE.out
              clear ho2 hg2
              refine mixl_act (i := 10) rfl (by kernel_rfl) (boxC HBR12.out HPB12.out) rfl (fun K hK => ?_)
              go_wp2_with fail
              have hf : w12.frozen? ⟨xb, 2, none⟩ = false := free_box hx12 2
              obtain ⟨_, _, hx⟩ := cells_three hx12
              clear hx12
              refine mixl_act (i := 11) rfl (by kernel_rfl) (boxC HBR12.out HPB12.out) rfl (fun K hK => ?_)
              go_wp2_with fail
              clear hf hx
              refine mix_done (by kernel_rfl) (boxC (HBR12.out.setCell (p := ⟨xb, 2, none⟩) HPN.out.xge _) (by rw [Below.heap_setCell _ _ _ _ hxpb]; exact HPB12.out)) ?_
              clear hxpb
              go_wp2_with fail
              exact ⟨⟨q + 1, _, _, by go_num, hlt2, HN.out⟩, by simp [intOf]; omega⟩
        · obtain rfl : q = xs.length := by omega
          have HQQ := Hold.mk (HPQ.out.quiet HPN.out.bel)
          obtain ⟨x0, x1, x2⟩ := cells_three HPN.out.box
          have y0 : wq.cell? ⟨w.heap.size + 1 + 1, 0, none⟩ = some (.slice sla j slc) := by
            have := HQQ.out.out
            simp [World.cell?, this]
          have HOS := Hold.mk (own_triv HQQ.out.own HQQ.out.own.1 (by decide) HQQ.out.bel.size)
          go_wp2_with (at_builtin; refine push_new (R := RTriv) (fun _ _ _ _ _ h => h) rfl _ _ rfl infoCXr Tryz.underlying29 rfl (by decide) _ _ _ j _ _ HOS.out rfl _ [_, _, _] rfl rfl (by simp [Value.oneCell']) () trivial _ rfl rfl (by have := HSZ.out.1; omega) (by decide) ?_)
          intro sl2 w12 ho2 hg2
          obtain ⟨s2a, s2c, rfl⟩ := ho2.shape
          have HN := Hold.mk (HQQ.out.next HXE.out hg2.by_ HXN.out.1 HXN.out.2 HPN.out.own (by have := HPN.out.row; rw [List.take_of_length_le (Nat.le_refl _)] at this; exact this) ho2.own)
          have hk12 := hg2.kept HQQ.out.out (own_ne HOS.out.own HQQ.out.out (by decide))
          have hcb12 := hg2.kept (kept HCB.out HPN.out.bel) (own_ne HOS.out.own (kept HCB.out HPN.out.bel) (by decide))
          have HCB12 : Hold ((w12.setCell ⟨w.heap.size + 1 + 1, 0, none⟩ (.slice s2a (j + 1) s2c)).heap[w.heap.size]? = some (.cells #[.slice (some ⟨b, off, none⟩) l.length cap] 24 (0, 0))) := ⟨by
            rw [Below.heap_setCell _ _ _ _ (show w.heap.size ≠ w.heap.size + 1 + 1 by omega)]; exact hcb12⟩
          have hf2 : w12.frozen? ⟨w.heap.size + 1 + 1, 0, none⟩ = false := free_box hk12 0
          have hx2 : w12.cell? ⟨w.heap.size + 1 + 1, 0, none⟩ = some (.slice sla j slc) := by simp [World.cell?, hk12]
          clear ho2 hg2 hk12 hcb12 c0 z0 z1 z2 x0 x1 x2 y0 HOS HQQ
          go_wp2_with fail
          exact ⟨⟨j + 1, _, _, by go_num, hlt, HN.out, HCB12.out⟩, by simp [intOf]; omega⟩
    · obtain rfl : j = l.length := by omega
      have y0 : wr.cell? ⟨w.heap.size, 0, none⟩ = some (.slice a l.length cap) := by
        have := HCB.out
        simp [World.cell?, this]
      have hf1 : wr.frozen? ⟨w.heap.size + 1, 0, none⟩ = false := free_box HPQ.out.ret 0
      have hx1 : wr.cell? ⟨w.heap.size + 1, 0, none⟩ = some (.slice none 0 0) := by
        have := HPQ.out.ret
        simp [World.cell?, this]
      have hx2 : wr.cell? ⟨w.heap.size + 1 + 1, 0, none⟩ = some (.slice sla l.length slc) := by
        have := HPQ.out.out
        simp [World.cell?, this]
      go_wp2_with fail
      clear hf1 hx1 hx2 y0
      obtain ⟨W, hW⟩ : ∃ W, W = wr.setCell ⟨w.heap.size + 1, 0, none⟩ (.slice sla l.length slc) := ⟨_, rfl⟩
      rw [← hW]
      have hg : wr.grownBy W (some (w.heap.size + 1)) := by rw [hW]; exact grownZ_set _ _ _ _
      have hk : W.heap[w.heap.size + 1]? = some (.cells #[.slice sla l.length slc] 31 (0, 0)) := by
        rw [hW]
        have := set_self (o := 0) (c := .slice sla l.length slc) HPQ.out.ret
        simpa using this
      have hx : W.cell? ⟨w.heap.size + 1, 0, none⟩ = some (.slice sla l.length slc) := by simp [World.cell?, hk]
      have hrow := HPQ.out.row
      rw [List.take_of_length_le (Nat.le_refl _)] at hrow
      refine bodyPost_ret (v := .agg #[.slice sla l.length slc]) (by simp [results, Tryz.results8, go_sem, hx]) rfl ?_
      refine ⟨_, rfl, ⟨sla, slc, rfl, ?_⟩, HPQ.out.bel.trans (below_grownZ hg (by omega) HPQ.out.bel.size)⟩
      have ho := HPQ.out.own.kept hg (by
        cases e : (Value.slice sla l.length slc).ownBlock with
        | none => exact .inl rfl
        | some g => exact .inr (fun e2 => own_ne HPQ.out.own HPQ.out.ret (by decide) g e (Option.some.inj e2).symm))
      exact sat_of_own ho ((hrow.mono RCX_mono (cfT_box HPQ.out.ret (by decide) hg)).mono RCX_mono (cfS_cf _ _ _ _)) (fun _ _ _ _ h => h)
end Go.Proofs.YtfpphpjobkhalaaGreatDoor
