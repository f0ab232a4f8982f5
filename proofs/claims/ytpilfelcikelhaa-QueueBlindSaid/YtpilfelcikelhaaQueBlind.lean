/- QueueBlind: what a one-way writer is told hangs on nothing that its reader does: for every input. No condition. -/
import Derived.Test.YtpilfelcikelhaaQueJ
namespace Go.Proofs.Ytpilfelcikelhaa
open Go.RowKit Go.Cl
set_option linter.unusedVariables false
set_option linter.unusedSimpArgs false
attribute [local go_sem] lt_add_one' blk_alloc_past blk_alloc_at blk_drew blk_setCell_ne

/-- What holds between two rounds. -/
def Inv (w wr : World) (ba bb : Nat) (qa qb : QT) (i : Nat) : Prop :=
  ∃ qva sva qvb svb sa sb, Two w wr ba qva sva qa sa bb qvb svb qb sb ∧ sa.ss.length = sb.ss.length ∧ sa.acc ≤ i ∧ sb.acc ≤ i

set_option maxHeartbeats 2000000 in
set_option maxRecDepth 100000 in
theorem blind_walk (w : World) (a0 : Int) (w0 : (Lit.int .i64 a0).wf = true) (a1 : Int) (w1 : (Lit.int .i64 a1).wf = true) (a2 : Int) (w2 : (Lit.int .i64 a2).wf = true) {v3 v4 v5 : Value} (h3 : ∃ us, RawsAre w v3 us) (h4 : ∃ us, NumsAre .i64 w v4 us) (h5 : ∃ us, NumsAre .i64 w v5 us) :
    Calls Try.prog 4 #[.int .i64 a0, .int .i64 a1, .int .i64 a2, v3, v4, v5] w fun e w' => e = .returned (.bool true) ∧ Below w.heap.size w w' := by
  obtain ⟨steps, oa, cp, rfl, hs1, hs2, hs3⟩ := h3
  obtain ⟨ones, ob, cb, rfl, ho1, ho2, _, ho3⟩ := h4
  obtain ⟨twos, oc, cc, rfl, ht1, ht2, _, ht3⟩ := h5
  have HS := Lib.hid hs3
  have HO := Lib.hid ho3
  have HT := Lib.hid ht3
  have K := Lib.hid known_ok
  have D := Lib.hid (fun (d : Int) (hd : I64 d) (wy : World) => declared_ok d a2 false hd (i64_of w2) wy)
  have N := Lib.hid (fun (d : Int) (wy : World) => new_own (declQ_may d a2 false) wy)
  have I0 := Lib.hid (i64_of w0)
  have I1 := Lib.hid (i64_of w1)
  clear hs3 ho3 ht3 w0 w1 w2
  go_enter Try.func4, Try.ntmps4
  go_wp2_with fail
  refine (K.out w).mono ?_
  rintro e wa ⟨rfl, hca⟩
  have CA := Lib.hid hca
  clear hca
  go_wp2_with fail
  refine (D.out a0 I0.out _).mono ?_
  rintro e wb ⟨rfl, hcb⟩
  have CB := Lib.hid (CA.out.trans hcb fun _ _ => id)
  clear hcb CA
  go_wp2_with fail
  refine (N.out a0 _).mono ?_
  rintro e wc ⟨ba, rfl, hoa, hcc⟩
  have CC := Lib.hid (CB.out.trans hcc fun _ _ => id)
  have OA := Lib.hid (Own.lower hoa CB.out.size)
  clear hcc CB hoa
  unfold ptrV
  go_wp2_with fail
  refine (D.out a1 I1.out _).mono ?_
  rintro e wd ⟨rfl, hcd⟩
  have CD := Lib.hid (CC.out.trans hcd fun _ _ => id)
  have OB := Lib.hid (OA.out.frame0 hcd)
  clear hcd CC OA
  go_wp2_with fail
  refine (N.out a1 _).mono ?_
  rintro e we ⟨bb, rfl, hob, hce⟩
  have hT : Two w we ba (.slice none 0 0) (.slice none 0 0) (declQ a0 a2 false) PS.zero bb (.slice none 0 0) (.slice none 0 0) (declQ a1 a2 false) PS.zero :=
    ⟨OB.out.frame0 hce, Own.lower hob CD.out.size, fun i h1 h2 => by
      have a := OB.out.port.lt h1
      have b := hob.fresh i h2
      omega, CD.out.trans hce fun _ _ => id⟩
  have hI : Inv w we ba bb (declQ a0 a2 false) (declQ a1 a2 false) 0 := ⟨_, _, _, _, _, _, hT, rfl, by simp [PS.zero], by simp [PS.zero]⟩
  have HI := Lib.hid hI
  have QA := Lib.hid (show (declQ a0 a2 false).size = 8 ∧ (declQ a0 a2 false).writer = 3 ∧ (declQ a0 a2 false).reader = 5 ∧ (declQ a0 a2 false).flow = false ∧ (declQ a0 a2 false).quota = (declQ a1 a2 false).quota from ⟨rfl, rfl, rfl, rfl, rfl⟩)
  have QB := Lib.hid (show (declQ a1 a2 false).size = 8 ∧ (declQ a1 a2 false).writer = 3 ∧ (declQ a1 a2 false).reader = 5 ∧ (declQ a1 a2 false).flow = false from ⟨rfl, rfl, rfl, rfl⟩)
  clear hT hI hce hob CD OB
  generalize declQ a0 a2 false = qa at *
  generalize declQ a1 a2 false = qb at *
  unfold ptrV
  unfold maxLen at hs2 ho2 ht2
  go_wp2
  go_loopg [18] 300 (fun g s18 wr => ∃ i : Nat, i + g = 300 ∧ s18 = .int .i64 i ∧ Inv w wr ba bb qa qb i)
  case atStart => exact ⟨0, by omega, rfl, HI.out⟩
  case round =>
    obtain ⟨i, hig, rfl, hI⟩ := hrel
    have IG := Lib.hid hig
    have HIr := Lib.hid hI
    clear hI
    by_cases q1 : i < steps.length
    · have q1' : (i : Int) < (steps.length : Int) := by omega
      by_cases q2 : (i : Int) < 300
      · clear hig
        go_upto_block 2 with (fail)
        go_cut [19] from 56 to 137 (fun s19 wq => Inv w wq ba bb qa qb i)
        case first =>
          go_wp2
          go_loopg [19] 4 (fun g s19 wq => ∃ k : Nat, k + g = 4 ∧ s19 = .int .i64 k ∧ Inv w wq ba bb qa qb i)
          case atStart => exact ⟨0, by omega, rfl, HIr.out⟩
          case round =>
            obtain ⟨k, hkg, rfl, hI⟩ := hrel
            have KG := Lib.hid hkg
            have HIk := Lib.hid hI
            clear hkg
            by_cases g1 : i < ones.length
            · have g1' : (i : Int) < (ones.length : Int) := by omega
              obtain ⟨a, rfl, hcell, hwf⟩ := HO.out i _ (List.getElem?_eq_getElem g1)
              generalize ones[i] = x at *
              obtain ⟨qva, sva, qvb, svb, sa, sb, hT, i1, i2, i3⟩ := hI
              have hcell2 := cell_frame hT.chg (fun _ _ => id) hcell
              have PK := Lib.hid (pick_any x 4 (i64_of hwf) (by omega) (by omega))
              have pb := pickI_bd x 4 (by omega)
              generalize pickI x 4 = y at *
              obtain ⟨pb1, pb2⟩ := pb
              have HTw := Lib.hid hT
              have II := Lib.hid (And.intro i1 (And.intro i2 i3))
              clear hcell hT i1 i2 i3 hwf
              go_wp2_with fail
              refine (PK.out _).mono ?_
              rintro e wp ⟨rfl, rfl⟩
              by_cases g2 : (k : Int) < y
              · have hR := recv_any HTw.out.one.port
                rw [QA.out.2.2.1] at hR
                have HR := Lib.hid hR
                clear hR
                unfold ptrV at *
                go_wp2_with fail
                refine HR.out.mono ?_
                rintro e wv ⟨v, tt, is, qv', s', rfl, hM, hss, hac⟩
                have hI2 : Inv w wv ba bb qa qb i := ⟨_, _, _, _, _, _, HTw.out.left hM, by rw [hss]; exact II.out.1, by rw [hac]; exact II.out.2.1, II.out.2.2⟩
                have HI2 := Lib.hid hI2
                clear hM hss hac hI2
                go_wp2
                have hk4 : k < 4 := by omega
                go_roundg (4 - (k + 1))
                case measure => have := KG.out; omega
                case rel => exact ⟨k + 1, by omega, by go_num, HI2.out⟩
              · go_wp2
                go_meet
                case rel => exact HIk.out
            · have g1' : ¬ ((i : Int) < (ones.length : Int)) := by omega
              clear hI
              go_wp2
              go_meet
              case rel => exact HIk.out
        case rest =>
          have HI3 := Lib.hid hcut
          clear hcut HIr
          go_upto_block 4 with (fail)
          go_cut [20] from 56 to 137 (fun s20 wq => Inv w wq ba bb qa qb i)
          case first =>
            go_wp2
            go_loopg [20] 4 (fun g s20 wq => ∃ k : Nat, k + g = 4 ∧ s20 = .int .i64 k ∧ Inv w wq ba bb qa qb i)
            case atStart => exact ⟨0, by omega, rfl, HI3.out⟩
            case round =>
              obtain ⟨k, hkg, rfl, hI⟩ := hrel
              have KG := Lib.hid hkg
              have HIk := Lib.hid hI
              clear hkg
              by_cases g1 : i < twos.length
              · have g1' : (i : Int) < (twos.length : Int) := by omega
                obtain ⟨a, rfl, hcell, hwf⟩ := HT.out i _ (List.getElem?_eq_getElem g1)
                generalize twos[i] = x at *
                obtain ⟨qva, sva, qvb, svb, sa, sb, hT, i1, i2, i3⟩ := hI
                have hcell2 := cell_frame hT.chg (fun _ _ => id) hcell
                have PK := Lib.hid (pick_any x 4 (i64_of hwf) (by omega) (by omega))
                have pb := pickI_bd x 4 (by omega)
                generalize pickI x 4 = y at *
                obtain ⟨pb1, pb2⟩ := pb
                have HTw := Lib.hid hT
                have II := Lib.hid (And.intro i1 (And.intro i2 i3))
                clear hcell hT i1 i2 i3 hwf
                go_wp2_with fail
                refine (PK.out _).mono ?_
                rintro e wp ⟨rfl, rfl⟩
                by_cases g2 : (k : Int) < y
                · have hR := recv_any HTw.out.two.port
                  rw [QB.out.2.2.1] at hR
                  have HR := Lib.hid hR
                  clear hR
                  unfold ptrV at *
                  go_wp2_with fail
                  refine HR.out.mono ?_
                  rintro e wv ⟨v, tt, is, qv', s', rfl, hM, hss, hac⟩
                  have hI2 : Inv w wv ba bb qa qb i := ⟨_, _, _, _, _, _, HTw.out.right hM, by rw [hss]; exact II.out.1, II.out.2.1, by rw [hac]; exact II.out.2.2⟩
                  have HI2 := Lib.hid hI2
                  clear hM hss hac hI2
                  go_wp2
                  have hk4 : k < 4 := by omega
                  go_roundg (4 - (k + 1))
                  case measure => have := KG.out; omega
                  case rel => exact ⟨k + 1, by omega, by go_num, HI2.out⟩
                · go_wp2
                  go_meet
                  case rel => exact HIk.out
              · have g1' : ¬ ((i : Int) < (twos.length : Int)) := by omega
                clear hI
                go_wp2
                go_meet
                case rel => exact HIk.out
          case rest =>
            have HI4 := Lib.hid hcut
            clear hcut HI3
            obtain ⟨ga, oo, rfl, hc0, hc1, hx0, hx1⟩ := HS.out i _ (List.getElem?_eq_getElem q1)
            generalize steps[i] = x at *
            obtain ⟨kd, nn⟩ := x
            obtain ⟨qva, sva, qvb, svb, sa, sb, hT, i1, i2, i3⟩ := HI4.out
            have d0 := cell_frame hT.chg (fun _ _ => id) hc0
            have d1 := cell_frame hT.chg (fun _ _ => id) hc1
            have HCe := Lib.hid hc1
            have PK := Lib.hid (pick_any kd 4 hx0 (by omega) (by omega))
            generalize pickI kd 4 = y at *
            have HTw := Lib.hid hT
            have II := Lib.hid (And.intro i1 (And.intro i2 i3))
            have HN := Lib.hid hx1
            clear hc0 hc1 hx0 hx1 hT i1 i2 i3 HI4
            go_wp2_with fail
            refine (PK.out _).mono ?_
            rintro e wp ⟨rfl, rfl⟩
            cases hy : y == 0 with
            | true =>
              have hA := turn_any HTw.out.one.port
              rw [QA.out.2.1] at hA
              have HA := Lib.hid hA
              clear hA
              unfold ptrV at *
              go_wp2_with fail
              refine HA.out.mono ?_
              rintro e w2 ⟨n, qv', rfl, hM⟩
              have T2 := Lib.hid (HTw.out.left hM)
              have hB := turn_any T2.out.two.port
              rw [QB.out.2.1] at hB
              have HB := Lib.hid hB
              clear hB hM
              unfold ptrV at *
              go_wp2_with fail
              refine HB.out.mono ?_
              rintro e w3 ⟨n2, qv2', rfl, hM⟩
              have T3 := Lib.hid (T2.out.right hM)
              clear hM
              go_wp2
              go_roundg (300 - (i + 1))
              case measure => have := IG.out; omega
              case rel =>
                have h2 := II.out.2.1
                have h3 := II.out.2.2
                exact ⟨i + 1, by have := IG.out; omega, by go_num, _, _, _, _, _, _, T3.out, rfl, by show sa.acc ≤ _; omega, by show sb.acc ≤ _; omega⟩
            | false =>
              have hf : fullB qa sa = fullB qb sb := by
                have h1 := II.out.1
                have h2 := II.out.2.1
                have h3 := II.out.2.2
                unfold fullB
                rw [QA.out.2.2.2.1, QB.out.2.2.2, show decide (1152921504606846976 ≤ sa.acc) = false from decide_eq_false (by omega), show decide (1152921504606846976 ≤ sb.acc) = false from decide_eq_false (by omega), QA.out.2.2.2.2, h1]
                simp
              have ka : checkE qa (numB nn).length = 0 := by
                unfold checkE
                rw [QA.out.1]
                show (if (8 : Int) < ((4 : Nat) : Int) then 172 else if ((4 : Nat) : Int) % 4 = 0 then (0 : Int) else 170) = 0
                decide
              have kb : checkE qb (numB nn).length = 0 := by
                unfold checkE
                rw [QB.out.1]
                show (if (8 : Int) < ((4 : Nat) : Int) then 172 else if ((4 : Nat) : Int) % 4 = 0 then (0 : Int) else 170) = 0
                decide
              have HF := Lib.hid hf
              have KA := Lib.hid ka
              have KB := Lib.hid kb
              have NU := Lib.hid (fun wy => number_ok nn HN.out wy)
              clear hf ka kb
              cases hfa : fullB qa sa with
              | true =>
                have hfb := HF.out.symm.trans hfa
                have FA := Lib.hid hfa
                have FB := Lib.hid hfb
                clear hfa hfb
                go_wp2_with fail
                refine (NU.out _).mono ?_
                rintro e w2 ⟨rfl, hrow, hcn⟩
                obtain ⟨oa', c', hv, hsrc, _⟩ := src_of_row hrow (u8s_one _)
                simp only [Value.slice.injEq, true_and] at hv
                obtain ⟨rfl, rfl⟩ := hv
                have T2 := Lib.hid (HTw.out.step hcn)
                have hA := send_any (t := 1) T2.out.one.port (xs := numB nn) (c := 4) hsrc (fun h => by cases h) (numB_byte nn) (by decide) KA.out
                rw [QA.out.2.1, FA.out] at hA
                simp only [if_true, if_false, Bool.false_eq_true] at hA
                have HA := Lib.hid hA
                clear hA hrow hsrc hcn
                unfold ptrV at *
                go_wp2_with fail
                refine HA.out.mono ?_
                rintro e w3 ⟨rfl, sv', hM⟩
                have T3 := Lib.hid (T2.out.left hM)
                have d1 := cell_frame T3.out.chg (fun _ _ => id) HCe.out
                clear hM
                go_wp2_with fail
                refine (NU.out _).mono ?_
                rintro e w4 ⟨rfl, hrow, hcn⟩
                obtain ⟨oa', c', hv, hsrc, _⟩ := src_of_row hrow (u8s_one _)
                simp only [Value.slice.injEq, true_and] at hv
                obtain ⟨rfl, rfl⟩ := hv
                have T4 := Lib.hid (T3.out.step hcn)
                have hB := send_any (t := 1) T4.out.two.port (xs := numB nn) (c := 4) hsrc (fun h => by cases h) (numB_byte nn) (by decide) KB.out
                rw [QB.out.2.1, FB.out] at hB
                simp only [if_true, if_false, Bool.false_eq_true] at hB
                have HB := Lib.hid hB
                clear hB hrow hsrc hcn
                unfold ptrV at *
                go_wp2_with fail
                refine HB.out.mono ?_
                rintro e w5 ⟨rfl, sv2', hM⟩
                have T5 := Lib.hid (T4.out.right hM)
                clear hM
                go_wp2
                go_roundg (300 - (i + 1))
                case measure => have := IG.out; omega
                case rel =>
                  have h2 := II.out.2.1
                  have h3 := II.out.2.2
                  exact ⟨i + 1, by have := IG.out; omega, by go_num, _, _, _, _, _, _, T5.out, II.out.1, by show sa.acc ≤ _; omega, by show sb.acc ≤ _; omega⟩
              | false =>
                have hfb := HF.out.symm.trans hfa
                have FA := Lib.hid hfa
                have FB := Lib.hid hfb
                clear hfa hfb
                go_wp2_with fail
                refine (NU.out _).mono ?_
                rintro e w2 ⟨rfl, hrow, hcn⟩
                obtain ⟨oa', c', hv, hsrc, _⟩ := src_of_row hrow (u8s_one _)
                simp only [Value.slice.injEq, true_and] at hv
                obtain ⟨rfl, rfl⟩ := hv
                have T2 := Lib.hid (HTw.out.step hcn)
                have hA := send_any (t := 1) T2.out.one.port (xs := numB nn) (c := 4) hsrc (fun h => by cases h) (numB_byte nn) (by decide) KA.out
                rw [QA.out.2.1, FA.out] at hA
                simp only [if_true, if_false, Bool.false_eq_true] at hA
                have HA := Lib.hid hA
                clear hA hrow hsrc hcn
                unfold ptrV at *
                go_wp2_with fail
                refine HA.out.mono ?_
                rintro e w3 ⟨rfl, sv', hM⟩
                have T3 := Lib.hid (T2.out.left hM)
                have d1 := cell_frame T3.out.chg (fun _ _ => id) HCe.out
                clear hM
                go_wp2_with fail
                refine (NU.out _).mono ?_
                rintro e w4 ⟨rfl, hrow, hcn⟩
                obtain ⟨oa', c', hv, hsrc, _⟩ := src_of_row hrow (u8s_one _)
                simp only [Value.slice.injEq, true_and] at hv
                obtain ⟨rfl, rfl⟩ := hv
                have T4 := Lib.hid (T3.out.step hcn)
                have hB := send_any (t := 1) T4.out.two.port (xs := numB nn) (c := 4) hsrc (fun h => by cases h) (numB_byte nn) (by decide) KB.out
                rw [QB.out.2.1, FB.out] at hB
                simp only [if_true, if_false, Bool.false_eq_true] at hB
                have HB := Lib.hid hB
                clear hB hrow hsrc hcn
                unfold ptrV at *
                go_wp2_with fail
                refine HB.out.mono ?_
                rintro e w5 ⟨rfl, sv2', hM⟩
                have T5 := Lib.hid (T4.out.right hM)
                clear hM
                go_wp2
                go_roundg (300 - (i + 1))
                case measure => have := IG.out; omega
                case rel =>
                  have h2 := II.out.2.1
                  have h3 := II.out.2.2
                  refine ⟨i + 1, by have := IG.out; omega, by go_num, _, _, _, _, _, _, T5.out, ?_, ?_, ?_⟩
                  · have := II.out.1
                    simp [PS.sent, this]
                  · show sa.acc + 1 ≤ _
                    omega
                  · show sb.acc + 1 ≤ _
                    omega
      · clear hig
        go_wp2
        go_ret
        obtain ⟨_, _, _, _, _, _, hT, _⟩ := HIr.out
        exact ⟨rfl, hT.chg.below (Nat.le_refl _) (by simp)⟩
    · have q1' : ¬ ((i : Int) < (steps.length : Int)) := by omega
      clear hig
      go_wp2
      go_ret
      obtain ⟨_, _, _, _, _, _, hT, _⟩ := HIr.out
      exact ⟨rfl, hT.chg.below (Nat.le_refl _) (by simp)⟩
end Go.Proofs.Ytpilfelcikelhaa
