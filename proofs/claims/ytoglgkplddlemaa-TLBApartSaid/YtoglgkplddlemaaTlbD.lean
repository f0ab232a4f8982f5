/- Contracts of the law's own small functions (pick, tag, works), and of what FlushCell calls. No condition. -/
import Derived.Test.YtoglgkplddlemaaTlbC
import Derived.StillTailTactics
namespace Go.Proofs.Ytoglgkplddlemaa
open Go.RowKit Go.Cl
open Go.Maps (Keyed)
open Go.ChangeMaps (setBlock)
set_option linter.unusedVariables false
set_option linter.unusedSimpArgs false
attribute [local go_sem] lt_add_one' blk_alloc_past blk_alloc_at blk_drew blk_setCell_ne blk_setBlock_ne blk_setBlock_eq cell_setBlock_ne frozen_setBlock_ne size_setBlock

def pickI (c n : Int) : Int := if c < 0 then (-(c + 1)) % n else c % n
theorem pickI_bd (c n : Int) (h : 0 < n) : 0 ≤ pickI c n ∧ pickI c n < n := by
  unfold pickI
  split
  · exact ⟨Int.emod_nonneg _ (by omega), Int.emod_lt_of_pos _ h⟩
  · exact ⟨Int.emod_nonneg _ (by omega), Int.emod_lt_of_pos _ h⟩

def I64 (c : Int) : Prop := -9223372036854775808 ≤ c ∧ c ≤ 9223372036854775807

theorem pick_any (c n : Int) (hc : I64 c) (hn : 1 ≤ n) (hn2 : n ≤ 1000000000) (w : World) :
    Calls Try.prog 10 #[.int .i64 c, .int .i64 n] w fun e w' => e = .returned (.int .i64 (pickI c n)) ∧ w' = w := by
  obtain ⟨hc1, hc2⟩ := hc
  by_cases hlt : c < 0
  · have e1 : (-(c + 1)).tmod n = (-(c + 1)) % n := Int.tmod_eq_emod_of_nonneg (by omega)
    have e2 : pickI c n = (-(c + 1)) % n := by simp [pickI, hlt]
    rw [e2, ← e1]
    clear e1 e2
    go_enter Try.func10, Try.ntmps10
    go_wp2
    go_ret
    simp
  · have e2 : pickI c n = c % n := by simp [pickI, hlt]
    rw [e2]
    clear e2
    go_enter Try.func10, Try.ntmps10
    go_wp2
    go_ret
    simp

def tagC (c : Int) : Int := 1 + pickI c 4
def tagP (p : Int) : Int := pickI p 200
theorem tagOk_of (c p : Int) : TagOk (tagC c) (tagP p) := by
  have := pickI_bd c 4 (by omega)
  have := pickI_bd p 200 (by omega)
  unfold TagOk tagC tagP
  omega

set_option maxHeartbeats 400000 in
set_option maxRecDepth 100000 in
theorem tag_any (c p f : Int) (hc : I64 c) (hp : I64 p) (w : World) :
    Calls Try.prog 12 #[.agg #[.int .i64 c, .int .i64 p, .int .i64 f]] w fun e w' => e = .returned (.agg #[.int .i64 (tagC c), .int .u32 (tagP p)]) ∧ Chg (fun _ => False) w w' := by
  have b1 := pickI_bd c 4 (by omega)
  have b2 := pickI_bd p 200 (by omega)
  obtain ⟨b1, b1'⟩ := b1
  obtain ⟨b2, b2'⟩ := b2
  have P1 := fun w => pick_any c 4 hc (by omega) (by omega) w
  have P2 := fun w => pick_any p 200 hp (by omega) (by omega) w
  unfold tagC tagP
  generalize pickI c 4 = x at *
  generalize pickI p 200 = y at *
  have w1 : IntKind.i64.wrap (1 + x) = 1 + x := IntWalk.i64_in _ (by omega)
  have w2 : IntKind.u32.wrap y = y := IntWalk.u32_in _ (by omega)
  go_enter Try.func12, Try.ntmps12
  go_wp2
  refine wp_region_still_tail 9 (by kernel_rfl) (by kernel_rfl) ?_
  change wpStill _ _ (World.drew _) _ _ _
  simp only [List.take_succ_cons, List.take_zero, List.drop_succ_cons, List.drop_zero]
  still_step
  still_step
  still_call (P1 _)
  still_step
  still_step
  still_step
  still_call (P2 _)
  still_step
  still_step
  refine wpStill_nil ?_
  change wpList _ _ _ _ _ (World.drew _)
  go_wp2
  refine bodyPost_ret (v := .agg #[.int .i64 (1 + x), .int .u32 y]) (by simp [results, Try.results12, go_sem]) rfl ⟨rfl, ?_⟩
  repeat (first | exact Chg.refl _ _ | apply Chg.drew | (refine Chg.setCell ?_ (by simp) _) | (refine Chg.alloc ?_ _) | (refine Chg.setBlock ?_ (by simp) _))

/-- The three tags of 'works', each in a block of its own. -/
structure W3 (w : World) (A : Nat) : Prop where
  a : blk w A = some (.cells #[.int .i64 1, .int .u32 5] 32 (0, 0))
  b : blk w (A + 1) = some (.cells #[.int .i64 1, .int .u32 6] 32 (0, 0))
  c : blk w (A + 1 + 1) = some (.cells #[.int .i64 2, .int .u32 5] 32 (0, 0))

theorem W3.frame {S : Nat → Prop} {w w' : World} {A : Nat} (h : W3 w A) (hc : Chg S w w') (h1 : ∀ i, S i → i < A ∨ A + 1 + 1 < i) : W3 w' A :=
  ⟨hc.blk' h.a (fun e => by have := h1 _ e; omega), hc.blk' h.b (fun e => by have := h1 _ e; omega), hc.blk' h.c (fun e => by have := h1 _ e; omega)⟩

theorem W3.facts {w : World} {A : Nat} (h : W3 w A) : w.cell? ⟨A, 0, none⟩ = some (.int .i64 1) ∧ w.cell? ⟨A, 1, none⟩ = some (.int .u32 5) ∧ w.cell? ⟨A + 1, 0, none⟩ = some (.int .i64 1) ∧ w.cell? ⟨A + 1, 1, none⟩ = some (.int .u32 6) ∧
    w.cell? ⟨A + 1 + 1, 0, none⟩ = some (.int .i64 2) ∧ w.cell? ⟨A + 1 + 1, 1, none⟩ = some (.int .u32 5) ∧ A < w.heap.size ∧ A + 1 < w.heap.size ∧ A + 1 + 1 < w.heap.size :=
  ⟨cell_of_blk h.a 0, cell_of_blk h.a 1, cell_of_blk h.b 0, cell_of_blk h.b 1, cell_of_blk h.c 0, cell_of_blk h.c 1, blk_lt h.a, blk_lt h.b, blk_lt h.c⟩

set_option maxHeartbeats 1000000 in
theorem works_ok (w : World) : Calls Try.prog 9 #[] w fun e w' => e = .returned (.bool true) ∧ Chg (fun _ => False) w w' := by
  have t1 : TagOk 1 5 := by unfold TagOk; omega
  have t2 : TagOk 1 6 := by unfold TagOk; omega
  have t3 : TagOk 2 5 := by unfold TagOk; omega
  go_enter Try.func9, Try.ntmps9
  go_wp2_with fail
  refine (new_ok 2 (by omega) (by omega) w).mono ?_
  rintro e w1 ⟨b, m, rfl, h1, hb, hm, g1⟩
  have B1 : b < w1.heap.size ∧ m < w1.heap.size := ⟨h1.facts.2.2.1, h1.facts.2.2.2.1⟩
  have H1 := Lib.hid h1
  have G1 := Lib.hid g1
  have B0 := Lib.hid (And.intro hb hm)
  have BB := Lib.hid B1
  clear h1 g1 hb hm B1
  go_wp2_with fail
  obtain ⟨A, hA⟩ : ∃ A, A = w1.heap.size := ⟨_, rfl⟩
  obtain ⟨v1, hv1⟩ : ∃ v1 : World, v1 = ((w1.alloc (.cells #[.int .i64 1, .int .u32 5] 32)).alloc (.cells #[.int .i64 1, .int .u32 6] 32)).alloc (.cells #[.int .i64 2, .int .u32 5] 32) := ⟨_, rfl⟩
  have k1 : W3 v1 A := by
    rw [hv1, hA]
    refine ⟨?_, ?_, ?_⟩
    all_goals simp (disch := (first | omega | (simp only [World.size_alloc, World.size_drew, World.size_setCell, size_setBlock] <;> omega) | fail)) only [blk_drew, blk_alloc_past, blk_alloc_at, blk_setCell_ne, blk_setCell_eq, blk_setBlock_ne, blk_setBlock_eq]
  have k2 : Chg (fun _ => False) w1 v1 := by rw [hv1]; repeat (first | exact Chg.refl _ _ | apply Chg.drew | (refine Chg.setCell ?_ (by simp) _) | (refine Chg.alloc ?_ _) | (refine Chg.setBlock ?_ (by simp) _))
  rw [← hv1, ← hA]
  have K1 := Lib.hid k1
  have K2 := Lib.hid k2
  have HA := Lib.hid hA
  clear hv1 k1 k2 hA
  refine (put_ok (H1.out.frame K2.out (by simp) (by simp)) t1 (by omega) (by omega)).mono ?_
  rintro e w2 ⟨rfl, h2, g2⟩
  have e2 : putL [] 2 1 5 1 0 0 = ([⟨1, 5, 1, 0, 1⟩], none) := by rfl
  rw [e2] at h2
  have n2 := K1.out.frame g2 (fun i h => by have := BB.out; have := HA.out; omega)
  obtain ⟨x0, x1, x2, x3, x4, x5, x6, x7, x8⟩ := n2.facts
  have H2 := Lib.hid h2
  have G2 := Lib.hid g2
  have N2 := Lib.hid n2
  clear h2 g2 n2 e2
  go_wp2_with fail
  refine (put_ok H2.out t2 (by omega) (by omega)).mono ?_
  rintro e w3 ⟨rfl, h3, g3⟩
  have e3 : putL [⟨1, 5, 1, 0, 1⟩] 2 1 6 2 0 (0 + 1) = ([⟨1, 6, 2, 0, 2⟩, ⟨1, 5, 1, 0, 1⟩], none) := by rfl
  rw [e3] at h3
  have n3 := N2.out.frame g3 (fun i h => by have := BB.out; have := HA.out; omega)
  clear x0 x1 x2 x3 x4 x5 x6 x7 x8
  obtain ⟨x0, x1, x2, x3, x4, x5, x6, x7, x8⟩ := n3.facts
  have H3 := Lib.hid h3
  have G3 := Lib.hid g3
  have N3 := Lib.hid n3
  clear h3 g3 n3 e3
  go_wp2_with fail
  refine (look_ok H3.out t1 (by omega)).mono ?_
  rintro e w4 ⟨rfl, h4, g4⟩
  have e4 : lookL [⟨1, 6, 2, 0, 2⟩, ⟨1, 5, 1, 0, 1⟩] 1 5 (0 + 1 + 1) = [⟨1, 5, 1, 0, 3⟩, ⟨1, 6, 2, 0, 2⟩] := by rfl
  have e4' : lookNow [⟨1, 6, 2, 0, 2⟩, ⟨1, 5, 1, 0, 1⟩] 1 5 (0 + 1 + 1) = 3 := by rfl
  have e4'' : lookV [⟨1, 6, 2, 0, 2⟩, ⟨1, 5, 1, 0, 1⟩] 1 5 = .tuple #[.agg #[.int .u32 1, .int .u8 0], .bool true] := by rfl
  rw [e4, e4'] at h4
  rw [e4'']
  have n4 := N3.out.frame g4 (fun i h => by have := BB.out; have := HA.out; omega)
  clear x0 x1 x2 x3 x4 x5 x6 x7 x8
  obtain ⟨x0, x1, x2, x3, x4, x5, x6, x7, x8⟩ := n4.facts
  obtain ⟨_, _, _, _, _, _, _, _, _, _, _, _, _, _, _, _, _, _⟩ := lts x6
  obtain ⟨_, _, _, _, _, _, _, _, _, _, _, _, _, _, _, _, _, _⟩ := lts x7
  obtain ⟨_, _, _, _, _, _, _, _, _, _, _, _, _, _, _, _, _, _⟩ := lts x8
  have H4 := Lib.hid h4
  have G4 := Lib.hid g4
  have N4 := Lib.hid n4
  clear h4 g4 n4 e4 e4' e4''
  go_wp2_with fail
  obtain ⟨B, hB⟩ : ∃ B, B = w4.heap.size := ⟨_, rfl⟩
  obtain ⟨v4, hv4⟩ : ∃ v4 : World, v4 = w4.alloc (.cells #[.int .u32 1, .int .u8 0] 38) := ⟨_, rfl⟩
  have k4 : blk v4 B = some (.cells #[.int .u32 1, .int .u8 0] 38 (0, 0)) := by
    rw [hv4, hB]
    simp (disch := (first | omega | (simp only [World.size_alloc, World.size_drew, World.size_setCell, size_setBlock] <;> omega) | fail)) only [blk_drew, blk_alloc_past, blk_alloc_at, blk_setCell_ne, blk_setCell_eq, blk_setBlock_ne, blk_setBlock_eq]
  have k5 : Chg (fun _ => False) w4 v4 := by rw [hv4]; repeat (first | exact Chg.refl _ _ | apply Chg.drew | (refine Chg.setCell ?_ (by simp) _) | (refine Chg.alloc ?_ _) | (refine Chg.setBlock ?_ (by simp) _))
  have k6 : A + 1 + 1 < B := by rw [hB]; exact x8
  rw [← hv4, ← hB]
  have K4 := Lib.hid k4
  have K5 := Lib.hid k5
  have K6 := Lib.hid k6
  clear hv4 k4 k5 hB k6
  refine (put_ok (H4.out.frame K5.out (by simp) (by simp)) t3 (by omega) (by omega)).mono ?_
  rintro e w5 ⟨rfl, h5, g5⟩
  have e5 : putL [⟨1, 5, 1, 0, 3⟩, ⟨1, 6, 2, 0, 2⟩] 2 2 5 3 0 3 = ([⟨2, 5, 3, 0, 4⟩, ⟨1, 5, 1, 0, 3⟩], some ⟨1, 6, 2, 0, 2⟩) := by rfl
  have e5' : goneV (putL [⟨1, 5, 1, 0, 3⟩, ⟨1, 6, 2, 0, 2⟩] 2 2 5 3 0 3).2 = .tuple #[.agg #[.int .i64 1, .int .u32 6], .bool true] := by rfl
  rw [e5'] 
  rw [e5] at h5
  have n5 := (N4.out.frame K5.out (by simp)).frame g5 (fun i h => by have := BB.out; have := HA.out; omega)
  clear x0 x1 x2 x3 x4 x5 x6 x7 x8
  obtain ⟨x0, x1, x2, x3, x4, x5, x6, x7, x8⟩ := n5.facts
  have b5 := g5.blk' K4.out (by have := BB.out; have := HA.out; have := K6.out; omega)
  have bl5 := blk_lt b5
  have y0 := cell_of_blk b5 0
  have y1 := cell_of_blk b5 1
  simp only [List.getElem?_toArray, List.getElem?_cons_zero, List.getElem?_cons_succ] at y0 y1
  obtain ⟨_, _, _, _, _, _, _, _, _, _, _, _, _, _, _, _, _, _⟩ := lts x6
  obtain ⟨_, _, _, _, _, _, _, _, _, _, _, _, _, _, _, _, _, _⟩ := lts x7
  obtain ⟨_, _, _, _, _, _, _, _, _, _, _, _, _, _, _, _, _, _⟩ := lts x8
  obtain ⟨_, _, _, _, _, _, _, _, _, _, _, _, _, _, _, _, _, _⟩ := lts bl5
  have L5 := fun v : World => fun g : Chg (fun _ => False) w5 v => len_ok (h5.frame g (by simp) (by simp))
  have H5 := Lib.hid h5
  have G5 := Lib.hid g5
  have N5 := Lib.hid n5
  have LL := Lib.hid L5
  clear h5 g5 n5 e5 e5' b5 L5
  go_wp2_with fail
  refine (LL.out _ ?_).mono ?_
  · repeat (first | exact Chg.refl _ _ | apply Chg.drew | (refine Chg.setCell ?_ (by simp) _) | (refine Chg.alloc ?_ _) | (refine Chg.setBlock ?_ (by simp) _))
  rintro e w6 ⟨rfl, rfl⟩
  go_wp2
  go_ret
  refine ⟨rfl, ?_⟩
  have c1 : Chg (fun i => i = b ∨ i = m) w1 w5 :=
    (((((K2.out.step (S := fun i => i = b ∨ i = m) G2.out (fun i _ h => h.elim) (fun i _ h => h)).step (S := fun i => i = b ∨ i = m) G3.out (fun i _ h => h) (fun i _ h => h)).step (S := fun i => i = b ∨ i = m) G4.out (fun i _ h => h) (fun i _ h => h)).step (S := fun i => i = b ∨ i = m) K5.out (fun i _ h => h) (fun i _ h => h.elim)).step (S := fun i => i = b ∨ i = m) G5.out (fun i _ h => h) (fun i _ h => h))
  refine Chg.step (S1 := fun _ => False) (S2 := fun _ => False) (b := w5) (Chg.trans G1.out c1 ?_) ?_ (fun i _ h => h) (fun i _ h => h)
  · intro i hi h
    have := B0.out
    omega
  · repeat (first | exact Chg.refl _ _ | apply Chg.drew | (refine Chg.setCell ?_ (by simp) _) | (refine Chg.alloc ?_ _) | (refine Chg.setBlock ?_ (by simp) _))
end Go.Proofs.Ytoglgkplddlemaa
