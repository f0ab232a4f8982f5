/- ArenaApart: pages that are taken stand one behind the other, cleared; no byte elsewhere is changed. No condition. -/
import Derived.Test.YtenbkdmaiooldaaArnB
import Derived.Deep.DeepCutAuto
import Derived.Deep.CutBlock
import Derived.Deep.CutRange
namespace Go.Proofs.Ytenbkdmaiooldaa
open Go.RowKit Go.Cl
open Go.Maps (Keyed)
open Go.ChangeMaps (setBlock)
set_option linter.unusedVariables false
set_option linter.unusedSimpArgs false
attribute [local go_sem] lt_add_one' blk_alloc_past blk_alloc_at blk_drew blk_setCell_ne blk_setBlock_ne blk_setBlock_eq cell_setBlock_ne frozen_setBlock_ne size_setBlock

theorem wordE_one {mp a : Nat} (h : a < mp * 4096) : wordE mp (a : Int) 1 = 0 := by
  unfold wordE placeE
  rw [if_neg (by omega), if_neg (by omega), if_neg (by omega), if_neg (by omega)]

set_option maxHeartbeats 2000000 in
set_option maxRecDepth 100000 in
theorem apart_walk (w : World) (a0 : Int) (w0 : (Lit.int .i64 a0).wf = true) (a1 : Int) (w1 : (Lit.int .i64 a1).wf = true) (a2 : Int) (w2 : (Lit.int .i64 a2).wf = true) {v3 : Value} (hv3 : ∃ xs, WordsAre w v3 xs) (a4 : Int) (w4 : (Lit.int .i64 a4).wf = true) :
    Calls Try.prog 7 #[.int .i64 a0, .int .i64 a1, .int .i64 a2, v3, .int .i64 a4] w fun e w' => e = .returned (.bool true) ∧ Below w.heap.size w w' := by
  have h0 : I64 a0 := by simp [Lit.wf, IntKind.min, IntKind.max, IntKind.signed, IntKind.bits] at w0; unfold I64; omega
  have h1 : I64 a1 := by simp [Lit.wf, IntKind.min, IntKind.max, IntKind.signed, IntKind.bits] at w1; unfold I64; omega
  have h2 : I64 a2 := by simp [Lit.wf, IntKind.min, IntKind.max, IntKind.signed, IntKind.bits] at w2; unfold I64; omega
  have h4 : I64 a4 := by simp [Lit.wf, IntKind.min, IntKind.max, IntKind.signed, IntKind.bits] at w4; unfold I64; omega
  obtain ⟨xs, oa, cap, rfl, hlc, hcap, hxs⟩ := hv3
  clear w0 w1 w2 w4
  obtain ⟨P, hP, p0⟩ := pick6_nat a0 14 h0 (by omega) (by omega)
  obtain ⟨F, hF, p1⟩ := pick6_nat a1 (2 + P) h1 (by omega) (by omega)
  obtain ⟨C, hC, p2⟩ := pick6_nat a2 (2 + P - F + 1) h2 (by omega) (by omega)
  obtain ⟨K, hK, p4⟩ := pick6_nat a4 (C + 1) h4 (by omega) (by omega)
  rw [show ((2 + P : Nat) : Int) = 2 + (P : Int) by omega] at p1
  rw [show ((2 + P - F + 1 : Nat) : Int) = 2 + (P : Int) - F + 1 by omega] at p2
  rw [show ((C + 1 : Nat) : Int) = (C : Int) + 1 by omega] at p4
  have P0 := Lib.hid p0
  have P1 := Lib.hid p1
  have P2 := Lib.hid p2
  have P4 := Lib.hid p4
  have HX := Lib.hid hxs
  have hlm : xs.length ≤ 9223372036854775807 := by unfold maxLen at hcap; omega
  clear p0 p1 p2 p4 hxs hcap
  go_enter Try.func7, Try.ntmps7
  go_wp2_with fail
  refine (P0.out _).mono ?_
  rintro e wx ⟨rfl, rfl⟩
  go_wp2_with fail
  refine (new_ok (2 + P) (by omega) (by omega) _).mono ?_
  rintro e wn ⟨b, m, rfl, hM, hb, hm, g1⟩
  have BB := Lib.hid (And.intro hb hm)
  have HM := Lib.hid hM
  have G1 := Lib.hid g1
  clear hb hm hM g1
  unfold ptrV
  go_wp2_with fail
  refine (P1.out _).mono ?_
  rintro e wx ⟨rfl, rfl⟩
  go_wp2_with fail
  refine (P2.out _).mono ?_
  rintro e wx ⟨rfl, rfl⟩
  go_upto_block 0 with (fail)
  go_cut [16] from 60 to 79 (fun s16 wr => ∃ (pg : List (Nat × Nat)) (f : Nat → Int), MemIs wr b m pg (2 + P) f ∧ (∀ i, Foot b m pg i → w.heap.size ≤ i) ∧ Chg (fun _ => False) w wr)
  case first =>
    go_wp2
    go_loopg [16] xs.length (fun g s16 wr => ∃ (i : Nat) (pg : List (Nat × Nat)) (f : Nat → Int), i + g = xs.length ∧ s16 = .int .i64 i ∧ MemIs wr b m pg (2 + P) f ∧ (∀ i, Foot b m pg i → w.heap.size ≤ i) ∧ Chg (fun _ => False) w wr)
    case atStart => exact ⟨0, [], _, by omega, rfl, HM.out, fun i hi => by
      have := BB.out
      rcases hi with h | h | h
      · omega
      · omega
      · simp at h, G1.out⟩
    case round =>
      obtain ⟨i, pg, f, hig, rfl, hM, hFt, hC0⟩ := hrel
      have IG := Lib.hid hig
      have HMr := Lib.hid hM
      have HFt := Lib.hid hFt
      have HC0 := Lib.hid hC0
      clear hM hFt hC0
      by_cases g1 : i < xs.length
      · have q1 : (i : Int) < (xs.length : Int) := by omega
        by_cases q2 : (i : Int) < 50
        · obtain ⟨a, ha, hcell, hx0, hx1⟩ := HX.out i _ (List.getElem?_eq_getElem g1)
          generalize xs[i] = x at *
          subst ha
          have hcell2 := (World.cell?_of_block (HC0.out.block _ (World.block_lt_of_cell? _ _ hcell) id)).trans hcell
          clear hcell
          obtain ⟨X, rfl⟩ := Int.eq_ofNat_of_zero_le hx0
          have hS := store_ok HMr.out (a := X % ((2 + P) * 4096)) (n := 1) (v := 255) (by omega) (by have := Nat.mod_lt X (show 0 < (2 + P) * 4096 by omega); omega) (wordE_one (Nat.mod_lt X (show 0 < (2 + P) * 4096 by omega)))
          rw [show ((X % ((2 + P) * 4096) : Nat) : Int) = (X : Int) % ((2 + (P : Int)) * 4096) by push_cast; rfl] at hS
          have HS := Lib.hid hS
          clear hig hS
          go_wp2_with fail
          refine HS.out.mono ?_
          rintro e w2 ⟨rfl, pg2, k1, k2, k3⟩
          have KQ := Lib.hid (And.intro k1 (And.intro k2 k3))
          clear k1 k2 k3
          go_wp2
          go_roundg (xs.length - (i + 1))
          case measure => have := IG.out; omega
          case rel =>
            obtain ⟨k1, k2, k3⟩ := KQ.out
            refine ⟨i + 1, pg2, _, by omega, by go_num, k1, fun x hx => ?_, HC0.out.trans k2 fun x hx h => ?_⟩
            · rcases k3 x hx with h | h
              · exact HFt.out x h
              · exact Nat.le_trans HC0.out.size h
            · have := HFt.out x h
              omega
        · clear hig
          go_wp2
          go_meet
          case rel => exact ⟨pg, f, HMr.out, HFt.out, HC0.out⟩
      · have q1 : ¬ ((i : Int) < (xs.length : Int)) := by omega
        clear hig
        go_wp2
        go_meet
        case rel => exact ⟨pg, f, HMr.out, HFt.out, HC0.out⟩
  case rest =>
    obtain ⟨pg, f, hM, hFt, hC0⟩ := hcut
    have HMr := Lib.hid hM
    have HFt := Lib.hid hFt
    have HC0 := Lib.hid hC0
    clear hM hFt hC0 HM HX hlm hlc
    go_wp2_with fail
    refine (clone_ok HMr.out).mono ?_
    rintro e w2 ⟨b', m', pg', rfl, k1, k2, k3⟩
    have HMc := Lib.hid k1
    have HM2 := Lib.hid (HMr.out.frame k2 fun _ _ => id)
    have HFc := Lib.hid (fun i hi => Nat.le_trans HC0.out.size (k3 i hi))
    have HFd := Lib.hid (fun i (hi : Foot b m pg i) => fun i' (hi' : Foot b' m' pg' i') => Nat.ne_of_lt (Nat.lt_of_lt_of_le (HMr.out.lt i hi) (k3 i' hi')))
    have HC2 := Lib.hid (HC0.out.trans k2 fun _ _ => id)
    clear k1 k2 k3
    unfold ptrV
    go_wp2_with fail
    have hN := arn_new_ok HM2.out (base := F * 4096) (pages := C) (by omega) (by unfold arenaOk; omega)
    rw [show ((F * 4096 : Nat) : Int) = (F : Int) * 4096 by omega] at hN
    refine hN.mono ?_
    rintro e w3 ⟨a, rfl, ha, hA, g3⟩
    have HA := Lib.hid hA
    have HLA := Lib.hid (Nat.le_trans HC2.out.size ha)
    have HM3 := Lib.hid (HM2.out.frame g3 fun _ _ => id)
    have HN3 := Lib.hid (HMc.out.frame g3 fun _ _ => id)
    have HC3 := Lib.hid (HC2.out.trans g3 fun _ _ => id)
    have HAc := Lib.hid (fun i (hi : Foot b' m' pg' i) => (fun e => by have := HMc.out.lt i hi; omega : i ≠ a))
    clear hN hA g3 ha
    go_wp2_with fail
    refine (P4.out _).mono ?_
    rintro e wx ⟨rfl, rfl⟩
    go_wp2
    go_loopg [21] K (fun g s21 wr => ∃ (i : Nat) (pg1 : List (Nat × Nat)), i + g = K ∧ s21 = .int .i64 i ∧ ArnIs wr a b (F * 4096) C i false ∧ MemIs wr b m pg1 (2 + P) (cleared f F i) ∧ MemIs wr b' m' pg' (2 + P) f ∧ (∀ i, Foot b m pg1 i → w.heap.size ≤ i) ∧ (∀ i, Foot b m pg1 i → ∀ i', Foot b' m' pg' i' → i ≠ i') ∧ Chg (fun _ => False) w wr)
    case atStart => exact ⟨0, pg, by omega, rfl, HA.out, by rw [cleared_none]; exact HM3.out, HN3.out, HFt.out, HFd.out, HC3.out⟩
    case round =>
      obtain ⟨i, pg1, hig, rfl, r1, r2, r3, r4, r5, r6⟩ := hrel
      have IG := Lib.hid hig
      have R1 := Lib.hid r1
      have R2 := Lib.hid r2
      have R3 := Lib.hid r3
      have R4 := Lib.hid r4
      have R5 := Lib.hid r5
      have R6 := Lib.hid r6
      clear r1 r2 r3 r4 r5 r6
      cases gk with
      | zero =>
        have hin : ¬ ((i : Int) < (K : Int)) := by omega
        have hiK : i = K := by omega
        subst hiK
        clear hig
        go_wp2_with fail
        refine (arn_taken R1.out).mono ?_
        rintro e w4 ⟨rfl, rfl⟩
        go_wp2_with fail
        refine (arn_left R1.out (by omega) (by omega)).mono ?_
        rintro e w4 ⟨rfl, g4⟩
        have A4 := Lib.hid (R1.out.frame g4 id)
        have M4 := Lib.hid (R2.out.frame g4 fun _ _ => id)
        have N4 := Lib.hid (R3.out.frame g4 fun _ _ => id)
        have C4 := Lib.hid (R6.out.trans g4 fun _ _ => id)
        clear g4
        go_wp2
        go_loopg [25] (2 + P) (fun g s25 wx => ∃ p : Nat, p + g = 2 + P ∧ s25 = .int .i64 p ∧ Chg (fun _ => False) w4 wx)
        case atStart => exact ⟨0, by omega, rfl, Chg.refl _ _⟩
        case round =>
          obtain ⟨p, hpg, rfl, hC5⟩ := hrel
          have PG := Lib.hid hpg
          have C5 := Lib.hid hC5
          clear hC5
          cases gk with
          | zero =>
            have hpn : ¬ ((p : Int) < 2 + (P : Int)) := by omega
            clear hpg
            by_cases hKC : i = C
            · subst hKC
              go_wp2_with fail
              refine (arn_take_full (A4.out.frame C5.out id)).mono ?_
              rintro e w7 ⟨rfl, g7⟩
              have AX := Lib.hid ((A4.out.frame C5.out id).frame g7 id)
              have CX := Lib.hid ((C4.out.trans C5.out fun _ _ => id).trans g7 fun _ _ => id)
              clear g7
              go_wp2_with fail
              refine (arn_seal AX.out).mono ?_
              rintro e w8 ⟨rfl, hA8, g8⟩
              have A8 := Lib.hid hA8
              have C8 := Lib.hid (CX.out.trans (S := fun _ => False) g8 fun x hx h => by have := HLA.out; omega)
              clear hA8 g8
              go_wp2_with fail
              refine (arn_take_sealed A8.out).mono ?_
              rintro e w9 ⟨rfl, rfl⟩
              go_wp2_with fail
              refine (arn_sealed A8.out).mono ?_
              rintro e w9 ⟨rfl, rfl⟩
              go_wp2_with fail
              refine (arn_left A8.out (by omega) (by omega)).mono ?_
              rintro e w9 ⟨rfl, g9⟩
              have C9 := Lib.hid (C8.out.trans g9 fun _ _ => id)
              clear g9
              go_wp2
              go_ret
              exact ⟨rfl, C9.out.below (Nat.le_refl _) (by simp)⟩
            · have hKC' : ¬ ((i : Int) = (C : Int)) := by omega
              have AX := Lib.hid (A4.out.frame C5.out id)
              have CX := Lib.hid (C4.out.trans C5.out fun _ _ => id)
              go_wp2_with fail
              refine (arn_seal AX.out).mono ?_
              rintro e w8 ⟨rfl, hA8, g8⟩
              have A8 := Lib.hid hA8
              have C8 := Lib.hid (CX.out.trans (S := fun _ => False) g8 fun x hx h => by have := HLA.out; omega)
              clear hA8 g8
              go_wp2_with fail
              refine (arn_take_sealed A8.out).mono ?_
              rintro e w9 ⟨rfl, rfl⟩
              go_wp2_with fail
              refine (arn_sealed A8.out).mono ?_
              rintro e w9 ⟨rfl, rfl⟩
              go_wp2_with fail
              refine (arn_left A8.out (by omega) (by omega)).mono ?_
              rintro e w9 ⟨rfl, g9⟩
              have C9 := Lib.hid (C8.out.trans g9 fun _ _ => id)
              clear g9
              go_wp2
              go_ret
              exact ⟨rfl, C9.out.below (Nat.le_refl _) (by simp)⟩
          | succ g =>
            have hpn : (p : Int) < 2 + (P : Int) := by omega
            clear hpg
            have hR1 := readM_ok (M4.out.frame C5.out fun _ _ => id) (a := p * 4096) (n := 4096) (by omega)
            rw [show ((p * 4096 : Nat) : Int) = (p : Int) * 4096 by omega] at hR1
            have HR1 := Lib.hid hR1
            clear hR1
            go_wp2_with fail
            refine HR1.out.mono ?_
            rintro e w6 ⟨x1, rfl, k1, k2, k3⟩
            have X1 := Lib.hid k2
            have C6 := Lib.hid (C5.out.trans k3 fun _ _ => id)
            clear k1 k2 k3
            have hR2 := readM_ok (N4.out.frame C6.out fun _ _ => id) (a := p * 4096) (n := 4096) (by omega)
            rw [show ((p * 4096 : Nat) : Int) = (p : Int) * 4096 by omega] at hR2
            have HR2 := Lib.hid hR2
            clear hR2
            go_wp2_with fail
            refine HR2.out.mono ?_
            rintro e w7 ⟨x2, rfl, k1, k2, k3⟩
            have X2 := Lib.hid k2
            have X1' := Lib.hid (k3.blk' X1.out id)
            have C7 := Lib.hid (C6.out.trans k3 fun _ _ => id)
            clear k1 k2 k3
            go_upto_region 32 with (fail)
            obtain ⟨tk, htk⟩ : ∃ tk, tk = decide (F ≤ p ∧ p < F + i) := ⟨_, rfl⟩
            have TK := Lib.hid htk
            clear htk
            go_cut [30] from 178 to 187 (fun s30 wq => s30 = .bool tk ∧ w7 = wq)
            case first =>
              by_cases c1 : (F : Int) ≤ p
              · by_cases c2 : (p : Int) < (F : Int) + i
                · go_wp2
                  go_meet
                  case rel => exact ⟨by rw [TK.out, decide_eq_true (by omega)], rfl⟩
                · go_wp2
                  go_meet
                  case rel => exact ⟨by rw [TK.out, decide_eq_false (by omega)], rfl⟩
              · go_wp2
                go_meet
                case rel => exact ⟨by rw [TK.out, decide_eq_false (by omega)], rfl⟩
            case rest =>
              obtain ⟨rfl, rfl⟩ := hcut
              go_wp2
              go_loopg [31] 4096 (fun g s31 wy => ∃ j : Nat, j + g = 4096 ∧ s31 = .int .i64 j ∧ Chg (fun _ => False) w7 wy)
              case atStart => exact ⟨0, by omega, rfl, Chg.refl _ _⟩
              case round =>
                obtain ⟨j, hjg, rfl, hC8⟩ := hrel
                have JG := Lib.hid hjg
                have C8 := Lib.hid hC8
                clear hC8
                cases gk with
                | zero =>
                  have hjn : ¬ ((j : Int) < 4096) := by omega
                  clear hjg
                  have C9 := Lib.hid (C7.out.trans C8.out fun _ _ => id)
                  have hH := arn_holds (A4.out.frame C9.out id) (by omega) (by omega) (addr := p * 4096) (by omega)
                  rw [show ((p * 4096 : Nat) : Int) = (p : Int) * 4096 by omega, show decide (F * 4096 ≤ p * 4096 ∧ p * 4096 < F * 4096 + C * 4096) = decide (F ≤ p ∧ p < F + C) by simp only [decide_eq_decide]; omega] at hH
                  have HH := Lib.hid hH
                  clear hH
                  go_wp2_with fail
                  refine HH.out.mono ?_
                  rintro e w10 ⟨rfl, g10⟩
                  have C10 := Lib.hid (C9.out.trans g10 fun _ _ => id)
                  clear g10
                  obtain ⟨ih, hih⟩ : ∃ ih, ih = decide (F ≤ p ∧ p < F + C) := ⟨_, rfl⟩
                  rw [← hih]
                  have IH := Lib.hid hih
                  clear hih
                  go_upto_region 39 with (fail)
                  go_cut [231] from 220 to 230 (fun s231 wq => s231 = .bool false ∧ w10 = wq)
                  case first =>
                    by_cases c1 : (F : Int) ≤ p
                    · by_cases c2 : (p : Int) < (F : Int) + C
                      · obtain rfl : ih = true := by rw [IH.out, decide_eq_true (by omega)]
                        go_wp2
                        go_meet
                        case rel => exact ⟨rfl, rfl⟩
                      · obtain rfl : ih = false := by rw [IH.out, decide_eq_false (by omega)]
                        go_wp2
                        go_meet
                        case rel => exact ⟨rfl, rfl⟩
                    · obtain rfl : ih = false := by rw [IH.out, decide_eq_false (by omega)]
                      go_wp2
                      go_meet
                      case rel => exact ⟨rfl, rfl⟩
                  case rest =>
                    obtain ⟨rfl, rfl⟩ := hcut
                    go_wp2
                    go_roundg g
                    case measure => omega
                    case rel => exact ⟨p + 1, by have := PG.out; omega, by go_num, C10.out⟩
                | succ g2 =>
                  have hjn : (j : Int) < 4096 := by omega
                  have hjn' : j < 4096 := by omega
                  clear hjg
                  have y1 := cell_of_blk (C8.out.blk' X1'.out id) j
                  have y2 := cell_of_blk (C8.out.blk' X2.out id) j
                  rw [List.getElem?_toArray, getElem_rowCells _ _ _ hjn'] at y1 y2
                  cases tk with
                  | true =>
                    have ht := of_decide_eq_true TK.out.symm
                    rw [show cleared f F i (p * 4096 + j) = 0 by unfold cleared; rw [if_pos (by omega)]] at y1
                    clear ht
                    go_wp2
                    go_quiet (fail)
                    go_wp2
                    go_roundg g2
                    case measure => omega
                    case rel => exact ⟨j + 1, by have := JG.out; omega, by go_num, chg_drewN C8.out _⟩
                  | false =>
                    have ht := of_decide_eq_false TK.out.symm
                    rw [show cleared f F i (p * 4096 + j) = f (p * 4096 + j) by unfold cleared; rw [if_neg (by omega)]] at y1
                    clear ht
                    go_wp2
                    go_quiet (fail)
                    go_wp2
                    go_roundg g2
                    case measure => omega
                    case rel => exact ⟨j + 1, by have := JG.out; omega, by go_num, chg_drewN C8.out _⟩
      | succ g =>
        have hin : (i : Int) < (K : Int) := by omega
        clear hig
        go_wp2_with fail
        have hT := arn_take_ok R1.out R2.out (by omega) (by omega)
        rw [show ((F * 4096 : Nat) : Int) + (i : Int) * 4096 = ((F : Int) + i) * 4096 by omega] at hT
        refine hT.mono ?_
        rintro e w4 ⟨rfl, hA4, pg2, hM4, g4, f4⟩
        rw [cleared_next] at hM4
        have A4 := Lib.hid hA4
        have M4 := Lib.hid hM4
        have G4 := Lib.hid g4
        have F4 := Lib.hid f4
        clear hT hA4 hM4 g4 f4
        go_wp2_with fail
        have hH := arn_holds A4.out (by omega) (by omega) (addr := (F + i) * 4096 + 4095) (by omega)
        rw [show (((F + i) * 4096 + 4095 : Nat) : Int) = ((F : Int) + i) * 4096 + 4095 by omega, decide_eq_true (by omega : F * 4096 ≤ (F + i) * 4096 + 4095 ∧ (F + i) * 4096 + 4095 < F * 4096 + C * 4096)] at hH
        refine hH.mono ?_
        rintro e w5 ⟨rfl, g5⟩
        have G5 := Lib.hid g5
        clear g5 hH
        go_wp2
        go_roundg g
        case measure => omega
        case rel =>
          have cAll : Chg (fun x => Foot b m pg1 x ∨ x = a) wr w5 := G4.out.step G5.out (fun _ _ h => h) fun _ _ h => h.elim
          refine ⟨i + 1, pg2, by have := IG.out; omega, by go_num, A4.out.frame G5.out id, M4.out.frame G5.out fun _ _ => id, R3.out.frame cAll fun x hx h => ?_, fun x hx => ?_, fun x hx x' hx' => ?_, R6.out.trans cAll fun x hx h => ?_⟩
          · rcases h with h | h
            · exact R5.out x h x hx rfl
            · exact HAc.out x hx h
          · rcases F4.out x hx with h | h
            · exact R4.out x h
            · exact Nat.le_trans R6.out.size h
          · rcases F4.out x hx with h | h
            · exact R5.out x h x' hx'
            · have := R3.out.lt x' hx'
              omega
          · rcases h with h | h
            · have := R4.out x h
              omega
            · have := HLA.out
              omega
end Go.Proofs.Ytenbkdmaiooldaa
