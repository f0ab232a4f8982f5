/- Contract of Slots: all of them as a list, the one used last first. No condition. -/
import Derived.Test.YtoglgkplddlemaaTlbL
import Derived.Maps.OwnIn
namespace Go.Proofs.Ytoglgkplddlemaa
open Go.RowKit Go.Cl Go.Shelf Go.Sort
open Go.Maps (Keyed)
set_option linter.unusedVariables false
set_option linter.unusedSimpArgs false
attribute [local go_sem] lt_add_one' blk_alloc_past blk_alloc_at blk_drew blk_setCell_ne
attribute [local go_sem] Oper.semAt_some

/-- What a loop turns that gathers into a list in box P: the box, and the list's own block. -/
def OutT (P : Nat) (W : World) (i : Nat) : Prop := i = P ∨ ∃ v, W.cell? ⟨P, 0, none⟩ = some v ∧ v.ownBlock = some i
theorem OutT.of_cell {P : Nat} {A B : World} (h : B.cell? ⟨P, 0, none⟩ = A.cell? ⟨P, 0, none⟩) {i : Nat} (ht : OutT P B i) : OutT P A i := by
  rcases ht with h1 | ⟨v, h1, h2⟩
  · exact .inl h1
  · exact .inr ⟨v, by rw [← h]; exact h1, h2⟩
theorem outT_ok {P : Nat} {w : World} {v : Value} {t : TypeId} (hb : blk w P = some (.cells #[v] t (0, 0))) (hv : ∀ g, v.ownBlock = some g → g < w.heap.size) : TOk w (OutT P) where
  low i hi := by
    rcases hi with rfl | ⟨u, h1, h2⟩
    · exact blk_lt hb
    · have h3 := cell_of_blk hb 0
      simp at h3
      rw [h3] at h1
      cases h1
      exact hv i h2
  still ha hc i ht := ht.of_cell (World.cell?_of_block (hc.block P (Nat.lt_of_lt_of_le (blk_lt hb) ha) id))
  book1 A l o o' hl _ _ _ i ht := ht.of_cell (World.cell?_of_block (World.putObj_heap_other (by have := blk_lt hb; show P ≠ l; omega)))

/-- The loop's invariant: the list holds what was told. -/
def SlotsI (w : World) (P : Nat) (L : List En) (pre : List (Ent L)) (W : World) : Prop :=
  ∃ v, blk W P = some (.cells #[v] 55 (0, 0)) ∧ W.ownsRow w.heap.size 58 4 v pre.length ((pre.map (·.1)).flatMap encS) ∧ Chg (fun i => i = P) w W
theorem slotsI_own {w : World} {P : Nat} {L : List En} : OwnFrom w.heap.size (SlotsI w P L) := fun s A C row hs hg hr => by
  obtain ⟨v, h1, h2, h3⟩ := hs
  refine ⟨v, (Chg.of_grown hg).blk' h1 (not_row hr h1), row_frame h2 (Chg.of_grown hg) fun g hgo => ?_, h3.trans (Chg.of_grown hg) fun i hi e => by have := (hr i e.symm).1; omega⟩
  obtain ⟨_, cur, hb⟩ := row_block h2 hgo
  exact not_row hr hb

set_option maxHeartbeats 4000000 in
set_option maxRecDepth 100000 in
theorem slots_ok {b m : Nat} {sl now : Int} {L : List En} {w : World} (h : TlbIs w b m sl now L) (hL : L.length ≤ 1000) :
    Calls Try.prog 21 #[.pointer (some ⟨b, 0, none⟩)] w fun e w' => ∃ v, e = .returned v ∧ w'.ownsRow w.heap.size 58 4 v L.length (L.flatMap encS) ∧ Chg (fun _ => False) w w' := by
  obtain ⟨i0, hi, hz0, hz1, hz2⟩ := info_parts info58
  have H := Lib.hid h
  have HL := Lib.hid hL
  clear h hL
  refine (callsIn_wide (n := 20)).1 ?_
  refine callsIn_of_wp_marks Try.func21 rfl trivial ?_ rfl
  simp only [Try.ntmps21, List.size_toArray, List.length_cons, List.length_nil, Nat.reduceAdd, Nat.reduceSub, Array.replicate_succ, Array.replicate_zero, List.push_toArray, List.append_toArray, List.nil_append, List.cons_append]
  refine wpIn_wide.2 ?_
  go_wp2_with (fail)
  refine (all_ok b _).mono ?_
  rintro e w2 ⟨rfl, hw2⟩
  obtain ⟨P, hP⟩ : ∃ P, P = w.heap.size := ⟨_, rfl⟩
  obtain ⟨Bt, hBt⟩ : ∃ Bt, Bt = (w.alloc (.cells #[.slice none 0 0] 55 (0, 0))).heap.size := ⟨_, rfl⟩
  have xP : blk w2 P = some (.cells #[.slice none 0 0] 55 (0, 0)) := by rw [hw2, hP, blk_alloc_past _ _ _ (by simp)]; exact blk_alloc_at _ _ _ rfl
  have xB : blk w2 Bt = some (.cells #[.pointer (some ⟨b, 0, none⟩)] 25 (0, 0)) := by rw [hw2, hBt]; exact blk_alloc_at _ _ _ rfl
  have hc : Chg (fun _ => False) w w2 := by rw [hw2]; exact ((Chg.refl _ _).alloc _).alloc _
  rw [← hP, ← hBt]
  have XP := Lib.hid xP
  have XB := Lib.hid xB
  have HC := Lib.hid hc
  have HPS := Lib.hid (show P < w2.heap.size from blk_lt xP)
  have HPW := Lib.hid (show w.heap.size ≤ P by omega)
  clear hw2 hP hBt xP xB hc
  go_wp2_with (fail)
  refine (wpIn_wide (n := 20)).1 ?_
  have hTO := outT_ok XP.out (by simp [Value.ownBlock])
  have HTO := Lib.hid hTO
  have hst := all_stops 19 (by omega) hTO (H.out.frame HC.out id id) HL.out XB.out
  have h0 : SlotsI w2 P L [] w2 := ⟨_, XP.out, World.ownsRow_nil _ _ _ _, Chg.refl _ _⟩
  have HLN := Lib.hid HL.out
  refine wpIn_rangeFunc_ownH rfl (by omega) (gf := 32) (lb := #[.pointer (some ⟨Bt, 0, none⟩)]) rfl trivial (fun _ _ => rfl) hst KeepT.trans (TOk.book hTO) (Below.refl _ _) (fun _ => rfl)
    (SlotsI w2 P L) (fun c pre W => False) slotsI_own (fun c s A C row hs hg hr => hs) h0
    (fun x a' W => ∃ B1 B2, blk W B1 = some (.cells #[.int .i64 x.1.c, .int .u32 x.1.p] 32 (0, 0)) ∧ blk W B2 = some (.cells #[.int .u32 x.1.f, .int .u8 x.1.r] 38 (0, 0)) ∧ a' = { tmps := ((((?a : Act).tmps.setIfInBounds 8 (.agg #[.int .i64 x.1.c, .int .u32 x.1.p])).setIfInBounds 9 (.agg #[.int .u32 x.1.f, .int .u8 x.1.r])).setIfInBounds 4 (.pointer (some ⟨B1, 0, none⟩))).setIfInBounds 5 (.pointer (some ⟨B2, 0, none⟩)), defers := [] })
    (fun x a' s A C row hs hg hr => by obtain ⟨B1, B2, h1, h2, h3⟩ := hs; exact ⟨B1, B2, (Chg.of_grown hg).blk' h1 (not_row hr h1), (Chg.of_grown hg).blk' h2 (not_row hr h2), h3⟩)
    ?assign ?body ?done ?stop
  case assign =>
    rintro l pre x W K hI hK'
    unfold encX
    gi_wp2
    have hsz : w2.heap.size ≤ W.heap.size := by obtain ⟨v, h1, h2, h3⟩ := hI; exact h3.size
    have hcw : Chg (fun _ => False) W ((W.alloc (.cells #[.int .i64 x.1.c, .int .u32 x.1.p] 32 (0, 0))).alloc (.cells #[.int .u32 x.1.f, .int .u8 x.1.r] 38 (0, 0))) := ((Chg.refl _ _).alloc _).alloc _
    exact hK' _ _ (keepsFrom_of_chg hcw) (HTO.out.quiet hsz hcw) (slotsI_own.alloc _ (slotsI_own.alloc _ hI)) ⟨W.heap.size, W.heap.size + 1, by rw [blk_alloc_past _ _ _ (by simp)]; exact blk_alloc_at _ _ _ rfl, blk_alloc_at _ _ _ (by simp), rfl⟩
  case body =>
    rintro l pre x a' W hl ⟨r, hr⟩ ⟨v, h1, h2, h3⟩ ⟨B1, B2, hb1, hb2, rfl⟩ hlt
    obtain ⟨ov, cv, rfl, hv1, hv2, -⟩ := row_form h2
    have H1 := Lib.hid h1
    have H2 := Lib.hid h2
    have H3 := Lib.hid h3
    have y0 := cell_of_blk h1 0
    have z0 := frozen_of_blk h1 0
    have hPl := blk_lt h1
    have b10 := cell_of_blk hb1 0
    have b11 := cell_of_blk hb1 1
    have b20 := cell_of_blk hb2 0
    have b21 := cell_of_blk hb2 1
    have hlen : pre.length < 1000 := by have := HLN.out; omega
    have hszW := h3.size
    have HPR := Lib.hid (show some P = (Value.slice ov pre.length cv).ownBlock → False from fun h => by
      obtain ⟨hb, _⟩ := row_block H2.out h.symm
      have := HPS.out
      omega)
    clear h1 h2 h3 hb1 hb2 hr hst h0
    simp only [List.setIfInBounds_toArray, List.set_cons_zero, List.set_cons_succ]
    gi_wp2_with (gi_at_builtin; refine wpListIn_append_own_at _ rfl _ _ 55 rfl w2.heap.size 58 i0 (.agg #[.int .i64 0, .int .u32 0, .int .u32 0, .int .u8 0]) 4 24 Try.underlying55 hi hz0 hz1 hz2 rfl (by decide) _ _ _ rfl (row_frame H2.out ((Chg.refl (fun _ => False) W).alloc _) fun _ _ => id) ⟨W.heap.size, 0, none⟩ 1 1 (encS x.1) rfl rfl ?_ ?_ ?_ ?_ ?_ ?_)
    · exact World.news_of_block (heap_alloc_new _ _)
    · intro u hu
      simp [encS] at hu
      rcases hu with rfl | rfl | rfl | rfl <;> rfl
    · unfold maxLen; omega
    · omega
    · simp; omega
    · intro v' w' hown hgrow hnn hat
      have hPb : blk w' P = some (.cells #[.slice ov pre.length cv] 55 (0, 0)) := (Chg.of_grown hgrow).blk' ((blk_alloc_past _ _ _ hPl).trans H1.out) fun h => HPR.out h
      have y0' := cell_of_blk hPb 0
      have z0' := frozen_of_blk hPb 0
      have HPB := Lib.hid hPb
      obtain ⟨o2, c2, rfl, -⟩ := row_form hown
      have HOW := Lib.hid hown
      have HG := Lib.hid (show Chg (fun i => some i = (Value.slice ov pre.length cv).ownBlock) W w' from ((Chg.refl (fun i => some i = (Value.slice ov pre.length cv).ownBlock) W).alloc _).trans (Chg.of_grown hgrow) fun _ _ h => h)
      have HAT := Lib.hid hat
      clear hown hgrow hnn hat hPb y0 z0 b10 b11 b20 b21
      gi_wp2
      have hcc : Chg (fun i => i = P ∨ some i = (Value.slice ov pre.length cv).ownBlock) W (w'.setCell ⟨P, 0, none⟩ (.slice o2 (pre.length + 1) c2)) := ((HG.out.mono fun _ _ h => .inr h).setCell (p := ⟨P, 0, none⟩) (fun _ => .inl rfl) _)
      have hPb : blk (w'.setCell ⟨P, 0, none⟩ (.slice o2 (pre.length + 1) c2)) P = some (.cells #[.slice o2 (pre.length + 1) c2] 55 (0, 0)) := by
        rw [blk_setCell_eq, HPB.out]
        rfl
      refine ⟨keepsFrom_of_chgS hcc ?_, keepT_of_chg hcc ?_ ?_, _, hPb, ?_, ?_⟩
      · rintro i (rfl | h)
        · exact ⟨_, H1.out, rfl⟩
        · obtain ⟨_, cur, hb⟩ := row_block H2.out h.symm
          exact ⟨_, hb, rfl⟩
      · rintro i _ (rfl | h)
        · exact .inl rfl
        · exact .inr ⟨_, cell_of_blk H1.out 0, h.symm⟩
      · rintro i hil (rfl | ⟨u, hu, hg⟩)
        · exact .inl rfl
        · rw [cell_of_blk hPb 0] at hu
          simp at hu
          subst hu
          rcases HAT.out with e | e
          · exact .inr ⟨_, cell_of_blk H1.out 0, e ▸ hg⟩
          · rw [hg] at e
            simp at e
            omega
      · rw [List.length_append, List.map_append, List.flatMap_append]
        refine row_frame HOW.out ((Chg.refl (fun i => i = P) w').setCell (p := ⟨P, 0, none⟩) (fun _ => rfl) _) fun g hg h => ?_
        obtain ⟨hb, _⟩ := row_block HOW.out hg
        have := HPS.out
        omega
      · exact H3.out.step hcc (fun _ _ h => h) fun i hi h => by
          rcases h with h | h
          · exact h
          · obtain ⟨hb, _⟩ := row_block H2.out h.symm
            omega
  case stop =>
    rintro D c pre W _ hp hf _
    exact hf.elim
  case done =>
    rintro D xs W hD rfl ⟨v, h1, h2, h3⟩ hK'
    have y0 := cell_of_blk h1 0
    have hx : (L.attach.map (·.1)) = L := List.attach_map_subtype_val L
    rw [hx, List.length_attach] at h2
    obtain ⟨o2, c2, rfl, -⟩ := row_form h2
    have H1 := Lib.hid h1
    have H2 := Lib.hid h2
    have H3 := Lib.hid h3
    have HD3 := Lib.hid hK'
    clear h1 h2 h3 hK' hst h0 hx
    dsimp only
    go_wp2
    refine ⟨by simp, .inl ⟨_, _, rfl, run_takeDeferred HD3.out, ?_⟩⟩
    have g := grownBy_putObj' W D (.deferred none)
    refine ⟨.slice o2 L.length c2, ?_, _, rfl, ?_, ?_⟩
    · simp [results, Try.results21, go_sem]
    · refine Go.Joins.ownsRow_le (row_frame H2.out (Chg.of_grown g) fun g hg h => ?_) HC.out.size
      obtain ⟨_, cur, hb⟩ := row_block H2.out hg
      cases h
      have h3 : W.heap[D]? = _ := HD3.out
      simp only [blk] at hb
      rw [h3] at hb
      cases hb
    · exact ((HC.out.trans H3.out fun i hi h => by have := HPW.out; omega).trans (Chg.of_grown g) fun i hi e => by
        cases e
        have := HC.out.size
        omega)
end Go.Proofs.Ytoglgkplddlemaa
