/- ArenaFar: every page of a region is given, one behind the other, and then no more. No condition. -/
import Derived.Test.YtenbkdmaiooldaaArnA
namespace Go.Proofs.Ytenbkdmaiooldaa
open Go.RowKit Go.Cl
open Go.Maps (Keyed)
open Go.ChangeMaps (setBlock)
set_option linter.unusedVariables false
set_option linter.unusedSimpArgs false
attribute [local go_sem] lt_add_one' blk_alloc_past blk_alloc_at blk_drew blk_setCell_ne blk_setBlock_ne blk_setBlock_eq cell_setBlock_ne frozen_setBlock_ne size_setBlock

theorem pick6_nat (c : Int) (n : Nat) (hc : I64 c) (hn : 1 ≤ n) (hn2 : n ≤ 1000000000) : ∃ k : Nat, k < n ∧ ∀ w : World, Calls Try.prog 18 #[.int .i64 c, .int .i64 n] w fun e w' => e = .returned (.int .i64 k) ∧ w = w' := by
  have b := pickI_bd c n (by omega)
  refine ⟨(pickI c n).toNat, by omega, fun w => ?_⟩
  rw [Int.toNat_of_nonneg b.1]
  exact (pick6_any c n hc (by omega) (by omega) w).mono fun e w' ⟨h1, h2⟩ => ⟨h1, h2.symm⟩

set_option maxHeartbeats 1000000 in
set_option maxRecDepth 100000 in
theorem far_walk (a0 : Int) (w0 : (Lit.int .i64 a0).wf = true) (a1 : Int) (w1 : (Lit.int .i64 a1).wf = true) (a2 : Int) (w2 : (Lit.int .i64 a2).wf = true) (a3 : Int) (w3 : (Lit.int .u32 a3).wf = true) (w : World) :
    Calls Try.prog 5 #[.int .i64 a0, .int .i64 a1, .int .i64 a2, .int .u32 a3] w fun e w' => e = .returned (.bool true) ∧ Below w.heap.size w w' := by
  have h0 : I64 a0 := by simp [Lit.wf, IntKind.min, IntKind.max, IntKind.signed, IntKind.bits] at w0; unfold I64; omega
  have h1 : I64 a1 := by simp [Lit.wf, IntKind.min, IntKind.max, IntKind.signed, IntKind.bits] at w1; unfold I64; omega
  have h2 : I64 a2 := by simp [Lit.wf, IntKind.min, IntKind.max, IntKind.signed, IntKind.bits] at w2; unfold I64; omega
  have hv0 : 0 ≤ a3 := by simp [Lit.wf, IntKind.min, IntKind.max, IntKind.signed, IntKind.bits] at w3; omega
  have hv1 : a3 ≤ 4294967295 := by simp [Lit.wf, IntKind.min, IntKind.max, IntKind.signed, IntKind.bits] at w3; omega
  obtain ⟨at_, rfl⟩ := Int.eq_ofNat_of_zero_le hv0
  clear w0 w1 w2 w3
  obtain ⟨P, hP, p0⟩ := pick6_nat a0 4096 h0 (by omega) (by omega)
  obtain ⟨F, hF, p1⟩ := pick6_nat a1 (1 + P + 1) h1 (by omega) (by omega)
  obtain ⟨C, hC, p2⟩ := pick6_nat a2 (1 + P - F + 1) h2 (by omega) (by omega)
  rw [show ((1 + P + 1 : Nat) : Int) = 1 + (P : Int) + 1 by omega] at p1
  rw [show ((1 + P - F + 1 : Nat) : Int) = 1 + (P : Int) - F + 1 by omega] at p2
  have P0 := Lib.hid p0
  have P1 := Lib.hid p1
  have P2 := Lib.hid p2
  clear p0 p1 p2
  go_enter Try.func5, Try.ntmps5
  go_wp2_with fail
  refine (P0.out _).mono ?_
  rintro e wx ⟨rfl, rfl⟩
  go_wp2_with fail
  refine (new_ok (1 + P) (by omega) (by omega) _).mono ?_
  rintro e wn ⟨b, m, rfl, hM, hb, hm, g1⟩
  have BB := Lib.hid (And.intro hb hm)
  have HM := Lib.hid hM
  have G1 := Lib.hid g1
  clear hb hm hM g1
  unfold ptrV
  have hF' : F ≤ 1 + P := by omega
  have hC' : C ≤ 1 + P - F := by omega
  go_wp2_with fail
  refine (P1.out _).mono ?_
  rintro e wx ⟨rfl, rfl⟩
  go_wp2_with fail
  refine (P2.out _).mono ?_
  rintro e wx ⟨rfl, rfl⟩
  go_wp2_with fail
  have hN := arn_new_ok HM.out (base := F * 4096) (pages := C) (by omega) (by unfold arenaOk; omega)
  rw [show ((F * 4096 : Nat) : Int) = (F : Int) * 4096 by omega] at hN
  refine hN.mono ?_
  rintro e w2 ⟨a, rfl, ha, hA, g2⟩
  have HA := Lib.hid hA
  have HLA := Lib.hid ha
  have HM2 := Lib.hid (HM.out.frame g2 fun _ _ => id)
  have G2 := Lib.hid (G1.out.trans g2 fun _ _ => id)
  clear hN hA g2 ha
  go_wp2_with fail
  refine (arn_new_bad HM2.out (base := (1 + (P : Int) + 1) * 4096) (pages := 0) (by omega) (by omega) (by unfold arenaOk; omega)).mono ?_
  rintro e w3 ⟨rfl, rfl⟩
  go_wp2
  go_loopg [18] C (fun g s18 wr => ∃ (i : Nat) (pg : List (Nat × Nat)) (f : Nat → Int), i + g = C ∧ s18 = .int .i64 i ∧ ArnIs wr a b (F * 4096) C i false ∧ MemIs wr b m pg (1 + P) f ∧ (∀ i, Foot b m pg i → w.heap.size ≤ i) ∧ Below w.heap.size w wr)
  case atStart => exact ⟨0, [], _, by omega, rfl, HA.out, HM2.out, fun i hi => by
    have := BB.out
    rcases hi with rfl | rfl | h
    · omega
    · omega
    · simp at h, G2.out.below (Nat.le_refl _) (by simp)⟩
  case round =>
    obtain ⟨i, pg, f, hig, rfl, hAr, hMr, hFt, hB⟩ := hrel
    have IG := Lib.hid hig
    have HAr := Lib.hid hAr
    have HMr := Lib.hid hMr
    have HFt := Lib.hid hFt
    have HB := Lib.hid hB
    clear hAr hMr hFt hB
    cases gk with
    | zero =>
      have hin : ¬ ((i : Int) < (C : Int)) := by omega
      have hiC : i = C := by omega
      subst hiC
      clear hig
      go_wp2_with fail
      refine (arn_take_full HAr.out).mono ?_
      rintro e w4 ⟨rfl, g4⟩
      have A4 := Lib.hid (HAr.out.frame g4 id)
      have B4 := Lib.hid (HB.out.trans (g4.below HB.out.size (by simp)))
      clear g4
      go_wp2_with fail
      refine (arn_holds A4.out (by omega) (by omega) (addr := at_) (by omega)).mono ?_
      rintro e w5 ⟨rfl, g5⟩
      have A5 := Lib.hid (A4.out.frame g5 id)
      have B5 := Lib.hid (B4.out.trans (g5.below B4.out.size (by simp)))
      clear g5
      by_cases hFa : (F : Int) ≤ (at_ : Int) / 4096
      · have eH : decide (F * 4096 ≤ at_ ∧ at_ < F * 4096 + i * 4096) = decide ((at_ : Int) / 4096 < (F : Int) + i) := by
          simp only [decide_eq_decide]
          omega
        rw [eH]
        clear eH
        go_wp2_with fail
        refine (arn_taken A5.out).mono ?_
        rintro e w6 ⟨rfl, rfl⟩
        go_wp2_with fail
        refine (arn_left A5.out (by omega) (by omega)).mono ?_
        rintro e w6 ⟨rfl, g6⟩
        have G6 := Lib.hid g6
        clear g6
        rw [show (i : Int) - i = 0 by omega]
        go_wp2
        go_ret
        exact ⟨rfl, B5.out.trans (G6.out.below B5.out.size (by simp))⟩
      · have eH : decide (F * 4096 ≤ at_ ∧ at_ < F * 4096 + i * 4096) = false := by
          simp only [decide_eq_false_iff_not]
          omega
        rw [eH]
        clear eH
        go_wp2_with fail
        refine (arn_taken A5.out).mono ?_
        rintro e w6 ⟨rfl, rfl⟩
        go_wp2_with fail
        refine (arn_left A5.out (by omega) (by omega)).mono ?_
        rintro e w6 ⟨rfl, g6⟩
        have G6 := Lib.hid g6
        clear g6
        rw [show (i : Int) - i = 0 by omega]
        go_wp2
        go_ret
        exact ⟨rfl, B5.out.trans (G6.out.below B5.out.size (by simp))⟩
    | succ g =>
      have hin : (i : Int) < (C : Int) := by omega
      clear hig
      go_wp2_with fail
      have hT := arn_take_ok HAr.out HMr.out (by omega) (by omega)
      rw [show ((F * 4096 : Nat) : Int) + (i : Int) * 4096 = ((F : Int) + i) * 4096 by omega] at hT
      refine hT.mono ?_
      rintro e w4 ⟨rfl, hA4, pg', hM4, g4, f4⟩
      have A4 := Lib.hid hA4
      have M4 := Lib.hid hM4
      have G4 := Lib.hid g4
      have F4 := Lib.hid f4
      clear hT hA4 hM4 g4 f4
      go_wp2_with fail
      refine (arn_taken A4.out).mono ?_
      rintro e w5 ⟨rfl, rfl⟩
      go_wp2_with fail
      refine (arn_left A4.out (by omega) (by omega)).mono ?_
      rintro e w5 ⟨rfl, g5⟩
      have G5 := Lib.hid g5
      clear g5
      rw [show (C : Int) - ((i + 1 : Nat) : Int) = C - i - 1 by omega]
      go_wp2
      go_roundg g
      case measure => omega
      case rel =>
        refine ⟨i + 1, pg', _, by have := IG.out; omega, by go_num, A4.out.frame G5.out id, M4.out.frame G5.out fun _ _ => id, fun x hx => ?_, HB.out.trans ((G4.out.below HB.out.size fun x hx h => ?_).trans (G5.out.below ?_ (by simp)))⟩
        · rcases F4.out x hx with h | h
          · exact HFt.out x h
          · exact Nat.le_trans HB.out.size h
        · rcases h with h | h
          · have := HFt.out x h
            omega
          · have := HLA.out
            have := G1.out.size
            omega
        · exact Nat.le_trans HB.out.size G4.out.size
end Go.Proofs.Ytenbkdmaiooldaa
