/- WireStays: what has gone wrong stays wrong: for every input. No condition but the table's place. -/
import Derived.Test.YtfihpiommicdbaaDoorWirO
namespace Go.Proofs.YtfihpiommicdbaaDoor
open Go.RowKit Go.Cl
set_option linter.unusedVariables false
set_option linter.unusedSimpArgs false
attribute [local go_sem] lt_add_one' blk_alloc_past blk_alloc_at blk_drew blk_setCell_ne

/-- A reader that is wrong, of one's own. -/
structure St (w wr : World) (b : Nat) (v : Value) (s : RS) : Prop where
  rd : RdIs wr w.heap.size b v s
  chg : Chg (fun _ => False) w wr
theorem St.goes {w wr wr' : World} {b : Nat} {v : Value} {s s' : RS} (h : St w wr b v s) (hg : RGoes wr wr' w.heap.size b v s') : St w wr' b v s' :=
  ⟨hg.1, h.chg.trans hg.2 fun i hi e => by subst e; have := h.rd.nb; omega⟩
theorem St.still {w wr wr' : World} {b : Nat} {v : Value} {s : RS} (h : St w wr b v s) (hc : Chg (fun _ => False) wr wr') : St w wr' b v s := h.goes (h.rd.stays hc)

set_option maxHeartbeats 8000000 in
set_option maxRecDepth 100000 in
theorem stays_walk (w : World) (hT : TableAt w) {v : Value} {xs : List Int} (hx : BytesIs w v xs) (hsm : xs.length ≤ 140737488355328) {v1 : Value} {ps : List OpT} (hp : OpsAre w v1 ps) :
    Calls Tryd.prog 7 #[v, v1] w fun e w' => e = .returned (.bool true) ∧ Chg (fun _ => False) w w' := by
  obtain ⟨oa, cap, rfl, hl1, hl2, hps⟩ := hp
  have HP := Lib.hid hps
  have HK := Lib.hid (known_ok hT)
  have HX := Lib.hid hx
  have HSM := Lib.hid hsm
  obtain ⟨ob, c, rfl, hc1, hc2, -⟩ := hx
  unfold maxLen at hl2 hc2
  clear hT hps hsm
  go_enter Tryd.func7, Tryd.ntmps7
  go_wp2_with fail
  refine HK.out.mono ?_
  rintro e w1 ⟨rfl, hc⟩
  have HC := Lib.hid hc
  have HN := Lib.hid (newR_ok (HX.out.frame hc fun _ _ => id) HSM.out)
  clear hc HK
  go_wp2_with fail
  refine HN.out.mono ?_
  rintro e w2 ⟨b, v', rfl, hr, hc⟩
  have HS := Lib.hid (show St w w2 b v' (RS.zero xs) from ⟨hr.lower HC.out.size, HC.out.trans hc fun _ _ => id⟩)
  have HR := Lib.hid (rraw_ok HS.out.rd xs.length (by omega))
  clear hr hc HN
  go_wp2_with fail
  refine HR.out.mono ?_
  rintro e w3 ⟨v3, rfl, hrow, hg⟩
  rw [show (RS.zero xs).rawS xs.length = ⟨xs, xs.length, 0, 0⟩ by unfold RS.rawS; rw [if_neg (by omega)]; unfold RS.next RS.okB RS.zero; simp] at hg
  have HS3 := Lib.hid (HS.out.goes hg)
  have HB := Lib.hid (rByte_ok HS3.out.rd)
  clear hrow hg HR
  rw [show (⟨xs, xs.length, 0, 0⟩ : RS).next 1 = ⟨xs, xs.length, xs.length, 11⟩ by unfold RS.next RS.okB RS.fail; simp] at HB
  go_wp2_with fail
  refine HB.out.mono ?_
  rintro e w4 ⟨rfl, hg⟩
  have HS4 := Lib.hid (HS3.out.goes hg)
  have HE := Lib.hid (rerr_ok HS4.out.rd)
  clear hg HB
  dsimp only at HE
  rw [if_neg (by decide)] at HE
  go_wp2_with fail
  refine HE.out.mono ?_
  rintro e w5 ⟨rfl, hc⟩
  have HS5 := Lib.hid (HS4.out.still hc)
  have HA := Lib.hid (rat_ok HS5.out.rd)
  have HL := Lib.hid (rleft_ok HS5.out.rd)
  clear hc HE
  rw [st_left (show (⟨xs, xs.length, xs.length, 11⟩ : RS).bad ≠ 0 from (by decide : (11 : Int) ≠ 0))] at HL
  dsimp only at HA
  go_wp2_with fail
  refine HA.out.mono ?_
  rintro e w6 ⟨rfl, rfl⟩
  go_wp2_with fail
  refine HL.out.mono ?_
  rintro e w6 ⟨rfl, hc⟩
  have HS6 := Lib.hid (HS5.out.still hc)
  clear hc HA HL
  go_wp2_with fail
  obtain ⟨s, hs⟩ : ∃ s : RS, s = ⟨xs, xs.length, xs.length, 11⟩ := ⟨_, rfl⟩
  rw [← hs] at HS6
  have hbad : s.bad ≠ 0 := by rw [hs]; exact (by decide : (11 : Int) ≠ 0)
  have HBD := Lib.hid hbad
  have HSS := Lib.hid (show s.bad = 11 ∧ s.pos = xs.length ∧ s.wh = xs.length by rw [hs]; exact ⟨rfl, rfl, rfl⟩)
  clear hs hbad
  go_loopw [10] (fun s10 wr => ∃ i : Nat, s10 = .int .i64 i ∧ i ≤ 200 ∧ St w wr b v' s) (fun i _ => 200 - (intOf i).toNat)
  case atStart => exact ⟨0, rfl, by omega, HS6.out⟩
  case round =>
    obtain ⟨i, rfl, hi, hst⟩ := hrel
    have HST := Lib.hid hst
    by_cases q1 : i < ps.length
    · by_cases q2 : i < 200
      · obtain ⟨g, o, bv, rfl, e0, e1, e2, e3, e4, hb, hok⟩ := HP.out i _ (List.getElem?_eq_getElem q1)
        generalize ps[i] = p at *
        obtain ⟨y, n, K, B, S⟩ := p
        obtain ⟨k0, k1, k2, k3, k4⟩ := hok
        dsimp only at e0 e1 e2 e3 e4 k0 k1 k2 k3 k4
        have d0 := cell_frame hst.chg (fun _ _ => id) e0
        have d1 := cell_frame hst.chg (fun _ _ => id) e1
        have d2 := cell_frame hst.chg (fun _ _ => id) e2
        have d3 := cell_frame hst.chg (fun _ _ => id) e3
        have d4 := cell_frame hst.chg (fun _ _ => id) e4
        have q1' : (i : Int) < (ps.length : Int) := by omega
        have q2' : (i : Int) < 200 := by omega
        have HK2 := Lib.hid k3
        obtain ⟨od, cd, rfl, -⟩ := hb
        clear e0 e1 e2 e3 e4 hst k0 k1 k2 k3 k4
        go_upto_block 2 with (fail)
        obtain ⟨wy, hwy⟩ : ∃ wy, wy = wr.alloc (.cells #[.int .i64 y, .int .u64 n, .int .i64 K, .slice od B.length cd, .string S] 50 (0, 0)) := ⟨_, rfl⟩
        obtain ⟨P, hP⟩ : ∃ P, P = wr.heap.size := ⟨_, rfl⟩
        rw [← hwy, ← hP]
        have hpb : blk wy P = some (.cells #[.int .i64 y, .int .u64 n, .int .i64 K, .slice od B.length cd, .string S] 50 (0, 0)) := by rw [hwy, hP]; exact blk_alloc_at _ _ _ rfl
        have HSY := Lib.hid (HST.out.still (show Chg (fun _ => False) wr wy by rw [hwy]; exact (Chg.refl _ _).alloc _))
        have c2 : wy.cell? ⟨P, 2, none⟩ = some (.int .i64 K) := cell_of_blk hpb 2
        clear hwy hP hpb d0 d1 d2 d3 d4
        go_cut [12, 13, 14, 15, 16, 17, 18] from 88 to 139 (fun s12 s13 s14 s15 s16 s17 s18 wq => St w wq b v' s)
        case first =>
          by_cases y5 : y = 5
          · as_aux_lemma =>
            have f5 : (y == 5) = true := by simp [y5]
            clear y5
            have HR := Lib.hid (rraw_ok HSY.out.rd K HK2.out.2)
            rw [st_rawS HBD.out, st_rawV HBD.out] at HR
            go_wp2_with fail
            refine HR.out.mono ?_
            rintro e wz ⟨vz, rfl, hrow, hg⟩
            obtain ⟨oz, cz, rfl, -⟩ := row_form hrow
            have HZ := Lib.hid (HSY.out.goes hg)
            clear hrow hg HR
            simp only [List.length_nil]
            go_wp2
            go_meet
            case rel => exact HZ.out
          · have f5 : (y == 5) = false := beq_eq_false_iff_ne.2 y5
            clear y5
            by_cases y6 : y = 6
            · as_aux_lemma =>
              have f6 : (y == 6) = true := by simp [y6]
              clear y6
              have HR := Lib.hid (rtext_ok HSY.out.rd HSY.out.chg.size K)
              rw [st_textS HBD.out, st_textV HBD.out] at HR
              rw [show strOfNums [] = ⟨#[]⟩ from rfl] at HR
              go_wp2_with fail
              refine HR.out.mono ?_
              rintro e wz ⟨rfl, hg⟩
              have HZ := Lib.hid (HSY.out.goes hg)
              clear hg HR
              go_wp2
              go_meet
              case rel => exact HZ.out
            · have f6 : (y == 6) = false := beq_eq_false_iff_ne.2 y6
              clear y6
              by_cases y7 : y = 7
              · as_aux_lemma =>
                have f7 : (y == 7) = true := by simp [y7]
                clear y7
                have HR := Lib.hid (rpad_ok HSY.out.rd K)
                rw [st_padS HBD.out] at HR
                go_wp2_with fail
                refine HR.out.mono ?_
                rintro e wz ⟨rfl, hg⟩
                have HZ := Lib.hid (HSY.out.goes hg)
                clear hg HR
                go_wp2
                go_meet
                case rel => exact HZ.out
              · have f7 : (y == 7) = false := beq_eq_false_iff_ne.2 y7
                clear y7
                by_cases y8 : y = 8
                · as_aux_lemma =>
                  have f8 : (y == 8) = true := by simp [y8]
                  clear y8
                  have HR := Lib.hid (rpart_ok HSY.out.rd HSY.out.chg.size)
                  rw [st_partS HBD.out, st_partR HBD.out] at HR
                  go_wp2_with fail
                  refine HR.out.mono ?_
                  rintro e wz ⟨b2, v2, rfl, hr2, hg⟩
                  have HZ0 := Lib.hid (HSY.out.goes hg)
                  have HE2 := Lib.hid (rerr_ok hr2)
                  dsimp only at HE2
                  rw [if_neg HBD.out, HSS.out.1] at HE2
                  have HR2 := Lib.hid hr2
                  clear hr2 hg HR
                  go_wp2_with fail
                  refine HE2.out.mono ?_
                  rintro e wz2 ⟨rfl, hc⟩
                  have HZ1 := Lib.hid (HZ0.out.still hc)
                  have HL2 := Lib.hid (rleft_ok (HR2.out.frame hc fun _ _ => id))
                  rw [st_left (show (⟨[], 0, 0, s.bad⟩ : RS).bad ≠ 0 from HBD.out)] at HL2
                  clear hc HE2
                  go_wp2_with fail
                  refine HL2.out.mono ?_
                  rintro e wz3 ⟨rfl, hc⟩
                  have HZ := Lib.hid (HZ1.out.still hc)
                  clear hc HL2
                  go_wp2
                  go_meet
                  case rel => exact HZ.out
                · have f8 : (y == 8) = false := beq_eq_false_iff_ne.2 y8
                  clear y8
                  by_cases y9 : y = 9
                  · as_aux_lemma =>
                    have f9 : (y == 9) = true := by simp [y9]
                    clear y9
                    have HR := Lib.hid (rend_ok HSY.out.rd)
                    rw [st_end HBD.out] at HR
                    go_wp2_with fail
                    refine HR.out.mono ?_
                    rintro e wz ⟨rfl, hg⟩
                    have HZ := Lib.hid (HSY.out.goes hg)
                    clear hg HR
                    go_wp2
                    go_meet
                    case rel => exact HZ.out
                  · have f9 : (y == 9) = false := beq_eq_false_iff_ne.2 y9
                    clear y9
                    by_cases y11 : y = 11
                    · as_aux_lemma =>
                      have f11 : (y == 11) = true := by simp [y11]
                      clear y11
                      have HR := Lib.hid (rFail_ok HSY.out.rd K)
                      rw [st_fail HBD.out, ite_self] at HR
                      go_wp2_with fail
                      refine HR.out.mono ?_
                      rintro e wz ⟨rfl, hg⟩
                      have HZ := Lib.hid (HSY.out.goes hg)
                      clear hg HR
                      go_wp2
                      go_meet
                      case rel => exact HZ.out
                    · have f11 : (y == 11) = false := beq_eq_false_iff_ne.2 y11
                      clear y11
                      as_aux_lemma =>
                      have HR := Lib.hid (rLong_ok HSY.out.rd)
                      rw [st_num HBD.out, st_next HBD.out] at HR
                      go_wp2_with fail
                      refine HR.out.mono ?_
                      rintro e wz ⟨rfl, hg⟩
                      have HZ0 := Lib.hid (HSY.out.goes hg)
                      have HB2 := Lib.hid (rByte_ok HZ0.out.rd)
                      rw [st_num HBD.out, st_next HBD.out] at HB2
                      clear hg HR
                      go_wp2_with fail
                      refine HB2.out.mono ?_
                      rintro e wz2 ⟨rfl, hg⟩
                      have HZ := Lib.hid (HZ0.out.goes hg)
                      clear hg HB2
                      go_wp2
                      go_meet
                      case rel => exact HZ.out
        case rest =>
          have HZ := Lib.hid hcut
          clear hcut HSY c2
          have HE2 := Lib.hid (rerr_ok HZ.out.rd)
          rw [if_neg HBD.out, HSS.out.1, HSS.out.2.2] at HE2
          go_wp2_with fail
          refine HE2.out.mono ?_
          rintro e wz ⟨rfl, hc⟩
          have HZ2 := Lib.hid (HZ.out.still hc)
          have HA2 := Lib.hid (rat_ok HZ2.out.rd)
          rw [HSS.out.2.1] at HA2
          clear hc HE2
          go_wp2_with fail
          refine HA2.out.mono ?_
          rintro e wz2 ⟨rfl, rfl⟩
          go_wp2
          go_roundw
          case rel => exact ⟨i + 1, by go_num, by omega, HZ2.out⟩
          case measure => simp [intOf]; omega
      · have q2' : ¬ (i : Int) < 200 := by omega
        have q1' : (i : Int) < (ps.length : Int) := by omega
        clear hst
        go_wp2
        go_ret
        exact ⟨rfl, HST.out.chg⟩
    · have q1' : ¬ (i : Int) < (ps.length : Int) := by omega
      clear hst
      go_wp2
      go_ret
      exact ⟨rfl, HST.out.chg⟩

theorem stays_row (w : World) (hT : TableAt w) {v : Value} (h : ∃ us, BytesIs w v us ∧ us.length ≤ 140737488355328) {v1 : Value} (h1 : ∃ ps, OpsAre w v1 ps) :
    Calls Tryd.prog 7 #[v, v1] w fun e w' => e = .returned (.bool true) ∧ Chg (fun _ => False) w w' := by
  obtain ⟨us, hb, hl⟩ := h
  obtain ⟨ps, hp⟩ := h1
  exact stays_walk w hT hb hl hp
end Go.Proofs.YtfihpiommicdbaaDoor
