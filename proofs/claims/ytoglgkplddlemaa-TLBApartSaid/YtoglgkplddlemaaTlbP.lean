/- Contract of Load: a TLB that has these slots, the first one used last. No condition. -/
import Derived.Test.YtoglgkplddlemaaTlbO
namespace Go.Proofs.Ytoglgkplddlemaa
open Go.RowKit Go.Cl Go.Shelf Go.Sort
open Go.Maps (Keyed)
set_option linter.unusedVariables false
set_option linter.unusedSimpArgs false
attribute [local go_sem] lt_add_one' blk_alloc_past blk_alloc_at blk_drew blk_setCell_ne
attribute [local go_sem] Oper.semAt_some

/-- What uses make, one behind the other, of a TLB of nothing. -/
def useAll (es : List En) : List En × Int := es.foldl (fun s e => (bump s.1 e.c e.p e.f e.r s.2, s.2 + 1)) ([], 0)
theorem useAll_snoc (es : List En) (e : En) : useAll (es ++ [e]) = (bump (useAll es).1 e.c e.p e.f e.r (useAll es).2, (useAll es).2 + 1) := by simp [useAll, List.foldl_append]
theorem useAll_ind {p : List En → Prop} (h0 : p []) (h1 : ∀ es e, p es → p (es ++ [e])) (es : List En) : p es := by
  have h : ∀ L : List En, p L.reverse := fun L => by
    induction L with
    | nil => exact h0
    | cons x L ih => rw [List.reverse_cons]; exact h1 _ _ ih
  have := h es.reverse
  rwa [List.reverse_reverse] at this
theorem useAll_now (es : List En) : (useAll es).2 = es.length := by
  refine useAll_ind (p := fun es => (useAll es).2 = es.length) rfl (fun es e ih => ?_) es
  rw [useAll_snoc]
  simp [ih]
theorem bump_le1 (L : List En) (c p f r now : Int) : (bump L c p f r now).length ≤ L.length + 1 := by
  have := List.length_filter_le (fun e : En => !e.is c p) L
  simp only [bump, List.length_cons]
  omega
theorem useAll_len (es : List En) : (useAll es).1.length ≤ es.length := by
  refine useAll_ind (p := fun es => (useAll es).1.length ≤ es.length) (Nat.le_refl _) (fun es e ih => ?_) es
  rw [useAll_snoc]
  have := bump_le1 (useAll es).1 e.c e.p e.f e.r (useAll es).2
  simp only [List.length_append, List.length_singleton]
  omega
/-- Where no tag comes twice, they stand as they were handed in. -/
theorem useAll_rev {L : List En} (h : (L.map fun e => (e.c, e.p)).Nodup) : (useAll L.reverse).1.map tm = L.map tm := by
  induction L with
  | nil => rfl
  | cons x L ih =>
    simp only [List.map_cons, List.nodup_cons] at h
    have ih := ih h.2
    rw [List.reverse_cons, useAll_snoc]
    have hf : (useAll L.reverse).1.filter (fun e => !e.is x.c x.p) = (useAll L.reverse).1 := List.filter_eq_self.2 fun e he => by
      have h1 : tm e ∈ L.map tm := by rw [← ih]; exact List.mem_map_of_mem he
      obtain ⟨y, hy, hye⟩ := List.mem_map.1 h1
      have h2 := tm_eq.1 hye
      have h3 : ¬ (e.c = x.c ∧ e.p = x.p) := fun h4 => h.1 (List.mem_map.2 ⟨y, hy, by rw [h2.1, h2.2.1, h4.1, h4.2]⟩)
      by_cases h4 : e.c = x.c
      · have : ¬ e.p = x.p := fun h5 => h3 ⟨h4, h5⟩
        simp [En.is, this]
      · simp [En.is, h4]
    simp only [bump, hf, List.map_cons, ih]
    rfl

theorem keepsFrom_below {B : Nat} {S : Nat → Prop} {W W' : World} (h : Chg S W W') (hS : ∀ i, S i → i < B) : KeepsFrom B W W' :=
  ⟨h.size, fun k o hb hk _ => (h.block k (Array.getElem?_eq_some_iff.1 hk).1 fun hs => by have := hS k hs; omega).trans hk⟩

/-- What a loop turns that uses a TLB. -/
def LoadI (w : World) (T6 b m : Nat) (sl : Int) (L : List En) (pre : List (Fin L.length)) (W : World) : Prop :=
  TlbIs W b m sl pre.length (useAll (pre.map fun i => L[i.1])).1 ∧ blk W T6 = some (.cells #[.pointer (some ⟨b, 0, none⟩)] 25 (0, 0)) ∧ Chg (fun i => i = b ∨ i = m) w W
theorem loadI_own {w : World} {T6 b m : Nat} {sl : Int} {L : List En} (hb : b < w.heap.size) (hm : m < w.heap.size) : OwnFrom w.heap.size (LoadI w T6 b m sl L) := fun s A C row hs hg hr => by
  obtain ⟨h1, h2, h3⟩ := hs
  refine ⟨h1.frame (Chg.of_grown hg) (fun h => ?_) (fun h => ?_), (Chg.of_grown hg).blk' h2 (not_row hr h2), h3.trans (Chg.of_grown hg) fun i hi e => by have := (hr i e.symm).1; omega⟩
  · have := (hr b h.symm).1; omega
  · have := (hr m h.symm).1; omega

/-- What Load answers. -/
def LoadPost (w : World) (sl : Int) (L : List En) (e : Ending) (w' : World) : Prop :=
  (if (useAll L.reverse).1.length = L.length then ∃ b m, e = .returned (.tuple #[.pointer (some ⟨b, 0, none⟩), .int .i64 0]) ∧ TlbIs w' b m sl L.length (useAll L.reverse).1 ∧ w.heap.size ≤ b ∧ w.heap.size ≤ m else e = .returned (.tuple #[.pointer none, .int .i64 50])) ∧ Chg (fun _ => False) w w'

set_option maxHeartbeats 4000000 in
set_option maxRecDepth 100000 in
theorem load_ok {v : Value} {L : List En} {sl : Int} {w : World} (h : SlotsAt w v L) (hok : ∀ e ∈ L, TagOk e.c e.p) (h1 : 1 ≤ sl) (h2 : sl ≤ 64) (hL : (L.length : Int) ≤ sl) :
    Calls Try.prog 23 #[.int .i64 sl, v] w (LoadPost w sl L) := by
  have H := Lib.hid h
  obtain ⟨oa, c, hv, h3, h4, -⟩ := h
  have HV := Lib.hid hv
  have HOK := Lib.hid hok
  subst hv
  unfold maxLen at h4
  clear hok
  refine (callsIn_wide (n := 20)).1 ?_
  refine callsIn_of_wp_marks Try.func23 rfl trivial ?_ rfl
  simp only [Try.ntmps23, List.size_toArray, List.length_cons, List.length_nil, Nat.reduceAdd, Nat.reduceSub, Array.replicate_succ, Array.replicate_zero, List.push_toArray, List.append_toArray, List.nil_append, List.cons_append]
  refine wpIn_wide.2 ?_
  go_wp2_with (fail)
  refine (new_ok sl h1 h2 _).mono ?_
  rintro e w1 ⟨b, m, rfl, hT1, hb, hm, hc1⟩
  have HT1 := Lib.hid hT1
  have HBM := Lib.hid (And.intro hb hm)
  have HC1 := Lib.hid hc1
  clear hT1 hb hm hc1
  have hLi : ¬ sl < (L.length : Int) := by omega
  go_upto_region 4 with (fail)
  obtain ⟨w2, hw2⟩ : ∃ w2, w2 = w1.alloc (.cells #[.pointer (some ⟨b, 0, none⟩)] 25 (0, 0)) := ⟨_, rfl⟩
  obtain ⟨T6, hT6⟩ : ∃ T6, T6 = w1.heap.size := ⟨_, rfl⟩
  have HT6 := Lib.hid hT6
  have hc2 : Chg (fun _ => False) w1 w2 := by rw [hw2]; exact (Chg.refl _ _).alloc _
  have x6 : blk w2 T6 = some (.cells #[.pointer (some ⟨b, 0, none⟩)] 25 (0, 0)) := by rw [hw2, hT6]; exact blk_alloc_at _ _ _ rfl
  have X6 := Lib.hid x6
  have HC2 := Lib.hid hc2
  rw [← hw2, ← hT6]
  clear hw2 hT6 hc2 x6
  go_wp2_with (fail)
  refine (backward_ok _ ⟨_, _, _, rfl⟩ _).mono ?_
  rintro e w3 ⟨rfl, hw3⟩
  obtain ⟨Bx, hBx⟩ : ∃ Bx, Bx = w2.heap.size := ⟨_, rfl⟩
  have xB : blk w3 Bx = some (.cells #[.slice oa L.length c] 55 (0, 0)) := by rw [hw3, hBx]; exact blk_alloc_at _ _ _ rfl
  have hc3 : Chg (fun _ => False) w2 w3 := by rw [hw3]; exact (Chg.refl _ _).alloc _
  have HC3 := Lib.hid hc3
  have XB := Lib.hid xB
  have X63 := Lib.hid (hc3.blk' X6.out id)
  have HT3 := Lib.hid ((HT1.out.frame HC2.out id id).frame hc3 id id)
  have HLT := Lib.hid (show b < w2.heap.size ∧ m < w2.heap.size ∧ T6 < w2.heap.size from by
    obtain ⟨-, -, h5, h6, -⟩ := (HT1.out.frame HC2.out id id).facts
    exact ⟨h5, h6, blk_lt X6.out⟩)
  have HS3 := Lib.hid (show Bx < w3.heap.size ∧ w2.heap.size ≤ Bx from ⟨blk_lt xB, by omega⟩)
  have HCW := Lib.hid ((HC1.out.trans HC2.out fun _ _ => id).trans hc3 fun _ _ => id)
  rw [← hBx]
  clear hw3 hc3 xB hBx
  go_wp2_with (fail)
  refine (wpIn_wide (n := 20)).1 ?_
  have hTO : TOk w3 (fun _ i => i = b ∨ i = m) := tOk_fixed fun i hi => by
    have := HLT.out
    have := HC3.out.size
    omega
  have HTO := Lib.hid hTO
  have hgs : ∀ g, (Value.slice oa L.length c).ownBlock = some g → ∀ e, e ∈ L → g < w.heap.size := fun g hg e he => by
    obtain ⟨i, hi⟩ := List.getElem?_of_mem he
    obtain ⟨oa', c', hv', -, -, hat⟩ := H.out
    cases hv'
    obtain ⟨b', o', rfl, k0, -⟩ := hat i e hi
    cases hg
    have := World.block_lt_of_cell? _ _ k0
    exact this
  have hst := back_stops 19 (by omega) hTO (H.out.frame HCW.out fun _ _ => id) XB.out (fun h => by have := HS3.out; have := HLT.out; omega) (fun hLn g hg h => by obtain ⟨e0, he0⟩ := List.exists_mem_of_ne_nil L hLn; have := hgs g hg e0 he0; have := HBM.out; omega)
  have h0 : LoadI w3 T6 b m sl L [] w3 := ⟨HT3.out, X63.out, Chg.refl _ _⟩
  have HLN := Lib.hid hL
  have HLO := Lib.hid (loadI_own (w := w3) (T6 := T6) (b := b) (m := m) (sl := sl) (L := L) (by have := HLT.out; have := HC3.out.size; omega) (by have := HLT.out; have := HC3.out.size; omega))
  refine wpIn_rangeFunc_ownH rfl (by omega) (gf := 45) (lb := #[.pointer (some ⟨Bx, 0, none⟩)]) rfl trivial (fun _ _ => rfl) hst KeepT.trans (TOk.book hTO) (Below.refl _ _) (fun _ => rfl)
    (LoadI w3 T6 b m sl L) (fun c pre W => False) HLO.out (fun c s A C row hs hg hr => hs) h0
    (fun i a' W => ∃ B1, blk W B1 = some (.cells #[.int .i64 L[i.1].c, .int .u32 L[i.1].p, .int .u32 L[i.1].f, .int .u8 L[i.1].r] 58 (0, 0)) ∧ a' = { tmps := (((?a : Act).tmps.setIfInBounds 25 (.int .i64 (i.1 : Int))).setIfInBounds 26 (.agg #[.int .i64 L[i.1].c, .int .u32 L[i.1].p, .int .u32 L[i.1].f, .int .u8 L[i.1].r])).setIfInBounds 9 (.pointer (some ⟨B1, 0, none⟩)), defers := [] })
    (fun x a' s A C row hs hg hr => by obtain ⟨B1, h1, h3⟩ := hs; exact ⟨B1, (Chg.of_grown hg).blk' h1 (not_row hr h1), h3⟩)
    ?assign ?body ?done ?stop
  case assign =>
    rintro l pre x W K hI hK'
    unfold encB
    gi_wp2
    have hsz : w3.heap.size ≤ W.heap.size := hI.2.2.size
    have hcw : Chg (fun _ => False) W (W.alloc (.cells #[.int .i64 L[x.1].c, .int .u32 L[x.1].p, .int .u32 L[x.1].f, .int .u8 L[x.1].r] 58 (0, 0))) := (Chg.refl _ _).alloc _
    exact hK' _ _ (keepsFrom_of_chg hcw) (HTO.out.quiet hsz hcw) (HLO.out.alloc _ hI) ⟨W.heap.size, blk_alloc_at _ _ _ rfl, rfl⟩
  case body =>
    rintro l pre x a' W hl ⟨r, hr⟩ ⟨h1, h2, h3⟩ ⟨B1, hb1, rfl⟩ hlt
    have hmem : L[x.1] ∈ L := List.getElem_mem _
    obtain ⟨e, he⟩ : ∃ e, e = L[x.1] := ⟨_, rfl⟩
    rw [← he] at hb1 hmem ⊢
    have HU := Lib.hid (use_ok e.f e.r h1 (HOK.out e hmem) (by have := HLN.out; omega) (by
      have a := bump_le1 (useAll (pre.map fun i => L[i.1])).1 e.c e.p e.f e.r pre.length
      have b := useAll_len (pre.map fun i => L[i.1])
      rw [List.length_map] at b
      have := HLN.out
      omega))
    have HE := Lib.hid he
    have H1 := Lib.hid h1
    have H2 := Lib.hid h2
    have H3 := Lib.hid h3
    have z0 := cell_of_blk h2 0
    have b0 := cell_of_blk hb1 0
    have b1 := cell_of_blk hb1 1
    have b2 := cell_of_blk hb1 2
    have b3 := cell_of_blk hb1 3
    clear h1 h2 h3 hb1 hr hst h0 he hmem
    simp only [List.setIfInBounds_toArray, List.set_cons_zero, List.set_cons_succ]
    gi_wp2_with (fail)
    refine ⟨trivial, CallsIn.mono (CallsIn.inRound l (callsIn_wide.2 HU.out)) ?_⟩
    rintro e' w6 ⟨rfl, h6, hc6⟩
    have H6 := Lib.hid h6
    have HC6 := Lib.hid hc6
    clear h6 hc6
    gi_wp2
    refine ⟨keepsFrom_below HC6.out (fun i hi => by have := HLT.out; have := HC3.out.size; omega), keepT_of_chg HC6.out (fun i _ h => h) (fun i _ h => h), ?_, ?_, H3.out.trans HC6.out fun _ _ h => h⟩
    · have h7 := H6.out
      rw [List.map_append, List.map_cons, List.map_nil, useAll_snoc, useAll_now, List.length_map, List.length_append, List.length_singleton, ← HE.out]
      exact h7
    · exact HC6.out.blk' H2.out (by have := HT1.out.facts; have := HT6.out; omega)
  case stop =>
    rintro D c pre W _ hp hf _
    exact hf.elim
  case done =>
    rintro D xs W hD rfl ⟨h1, h2, h3⟩ hK'
    have hx : (backL L.length).map (fun i => L[i.1]) = L.reverse := by rw [List.map_reverse, map_finRange]
    rw [hx, backL_len] at h1
    have H1 := Lib.hid h1
    have H3 := Lib.hid h3
    have HD3 := Lib.hid hK'
    have z0 := cell_of_blk h2 0
    obtain ⟨-, -, -, -, -, c1, -⟩ := h1.facts
    have hrl := h1.mp.run_len Try.underlying82 3
    rw [List.length_map] at hrl
    have HU := Lib.hid (useAll_len L.reverse)
    obtain ⟨LL, hLL⟩ : ∃ LL, LL = (useAll L.reverse).1 := ⟨_, rfl⟩
    rw [← hLL] at hrl H1
    have HLL := Lib.hid hLL
    clear h1 h2 h3 hK' hst h0 hx hLL
    dsimp only
    have g := grownBy_putObj' W D (.deferred none)
    have hch : Chg (fun _ => False) w (W.putObj D (.deferred none)) := ((HCW.out.trans H3.out fun i hi h => by have := HBM.out; omega).trans (Chg.of_grown g) fun i hi e => by
      cases e
      have := HCW.out.size
      omega)
    have HCH := Lib.hid hch
    have HG := Lib.hid g
    have HDB := Lib.hid (show b < D ∧ m < D from by have := HLT.out; have := HC3.out.size; omega)
    clear g hch
    by_cases hq : LL.length = L.length
    · have HQ := Lib.hid hq
      have e1 : ((LL.length : Int) != (L.length : Int)) = false := by rw [hq]; simp
      clear hq
      go_wp2
      refine ⟨by simp, .inl ⟨_, _, rfl, run_takeDeferred HD3.out, .tuple #[.pointer (some ⟨b, 0, none⟩), .int .i64 0], ?_, ?_, HCH.out⟩⟩
      · simp [results, Try.results23, go_sem]
      · rw [← HLL.out, if_pos HQ.out]
        refine ⟨b, m, rfl, H1.out.frame (Chg.of_grown HG.out) (fun h => ?_) (fun h => ?_), HBM.out⟩
        · cases h; exact Nat.lt_irrefl _ HDB.out.1
        · cases h; exact Nat.lt_irrefl _ HDB.out.2
    · have HQ := Lib.hid hq
      have e1 : ((LL.length : Int) != (L.length : Int)) = true := by simp; omega
      clear hq
      go_wp2
      refine ⟨by simp, .inl ⟨_, _, rfl, run_takeDeferred HD3.out, .tuple #[.pointer none, .int .i64 50], ?_, ?_, HCH.out⟩⟩
      · simp [results, Try.results23, go_sem]
      · rw [← HLL.out, if_neg HQ.out]
end Go.Proofs.Ytoglgkplddlemaa
