/- WireBack: contract of the law's 'writes' of one field that is no part. No condition. (Printed by genS.py.) -/
import Derived.Test.YtfihpiommicdbaaDoorWirR
namespace Go.Proofs.YtfihpiommicdbaaDoor
open Go.RowKit Go.Cl
set_option linter.unusedVariables false
set_option linter.unusedSimpArgs false
attribute [local go_sem] lt_add_one' blk_alloc_past blk_alloc_at blk_drew blk_setCell_ne

theorem raw_fit {s : WS} {ys : List Int} (hb : s.bad = 0) (hl : (s.xs.length : Int) + ys.length ≤ s.lim) : s.raw ys = { s with xs := s.xs ++ ys } := by
  unfold WS.raw
  rw [if_pos]
  unfold WS.roomB
  rw [decide_eq_true hb, decide_eq_true (by omega)]
  rfl
/-- What a step's texts may hold. -/
def OpFit (p : OpT) : Prop := p.1 ≠ 7 ∧ p.2.2.2.2.size < 60000 ∧ p.2.2.2.1.length ≤ 1000000

set_option maxHeartbeats 8000000 in
set_option maxRecDepth 100000 in
theorem writes_flat {w0 w : World} {b m g o c : Nat} {v : Value} {s : WS} {p : OpT} {l : List OpT} (hlc : l.length + 1 ≤ c) (hcm : c ≤ maxLen) (hops : OpsAt w0 w g o (p :: l)) (hf : OpFit p) (h : WrIs w w0.heap.size b m v s) (hch : Chg (fun _ => False) w0 w) (hbad : s.bad = 0) (h8 : p.1 ≠ 8) (hfit : (s.xs.length : Int) + (encOne p).length ≤ s.lim) (dd : Int) :
    Calls Tryd.prog 39 #[ptrV b, .slice (some ⟨g, o, none⟩) (l.length + 1) c, .int .i64 dd] w fun e w' => e = .returned (.int .i64 1) ∧ WGoes w w' w0.heap.size b m v { s with xs := s.xs ++ encOne p } := by
  obtain ⟨cur, hcur, hat⟩ := hops
  obtain ⟨bv, e0, e1, e2, e3, e4, hb, hok⟩ := hat 0 p rfl
  rw [Nat.zero_mul, Nat.add_zero] at e0 e1 e2 e3 e4
  obtain ⟨y, n, K, B, S⟩ := p
  obtain ⟨k0, k1, k2, k3, k4⟩ := hok
  obtain ⟨hf7, hfs, hfb⟩ := hf
  dsimp only at e0 e1 e2 e3 e4 k0 k1 k2 k3 k4 h8 hf7 hfs hfb hb
  have HRF := Lib.hid (raw_fit (ys := encOne (y, n, K, B, S)) hbad hfit)
  have d0 : w.cell? ⟨g, o, none⟩ = some (.int .i64 y) := (cell_of_blk hcur _).trans e0
  have d1 : w.cell? ⟨g, o + 1, none⟩ = some (.int .u64 n) := (cell_of_blk hcur _).trans e1
  have d2 : w.cell? ⟨g, o + 2, none⟩ = some (.int .i64 K) := (cell_of_blk hcur _).trans e2
  have d3 : w.cell? ⟨g, o + 3, none⟩ = some bv := (cell_of_blk hcur _).trans e3
  have d4 : w.cell? ⟨g, o + 4, none⟩ = some (.string S) := (cell_of_blk hcur _).trans e4
  have HB := Lib.hid hb
  obtain ⟨od, cd, rfl, -⟩ := hb
  have H := Lib.hid h
  have HCH := Lib.hid hch
  have HBAD := Lib.hid hbad
  have HFS := Lib.hid (And.intro hfs hfb)
  unfold maxLen at hcm
  clear h hch hbad hat hcur e0 e1 e2 e3 e4 hfit k0 k3 k4 hfs hfb
  unfold ptrV at *
  go_enter Tryd.func39, Tryd.ntmps39
  go_upto_block 0 with (fail)
  obtain ⟨wy, hwy⟩ : ∃ wy, wy = w.alloc (.cells #[.int .i64 y, .int .u64 n, .int .i64 K, .slice od B.length cd, .string S] 50 (0, 0)) := ⟨_, rfl⟩
  obtain ⟨P, hP⟩ : ∃ P, P = w.heap.size := ⟨_, rfl⟩
  rw [← hwy, ← hP]
  have hpb : blk wy P = some (.cells #[.int .i64 y, .int .u64 n, .int .i64 K, .slice od B.length cd, .string S] 50 (0, 0)) := by rw [hwy, hP]; exact blk_alloc_at _ _ _ rfl
  have hcy : Chg (fun _ => False) w wy := by rw [hwy]; exact (Chg.refl _ _).alloc _
  have HCY := Lib.hid hcy
  have HWY := Lib.hid (H.out.frame hcy fun _ _ => id)
  have HBS := Lib.hid (Nat.le_trans HCH.out.size hcy.size)
  have HBY := Lib.hid (HB.out.frame (HCH.out.trans hcy fun _ _ => id) fun _ _ => id)
  have c0 : wy.cell? ⟨P, 0, none⟩ = some (.int .i64 y) := cell_of_blk hpb 0
  have c1 : wy.cell? ⟨P, 1, none⟩ = some (.int .u64 n) := cell_of_blk hpb 1
  have c3 : wy.cell? ⟨P, 3, none⟩ = some (.slice od B.length cd) := cell_of_blk hpb 3
  have c4 : wy.cell? ⟨P, 4, none⟩ = some (.string S) := cell_of_blk hpb 4
  clear hwy hP hpb hcy d0 d1 d2 d3 d4
  by_cases y1 : y = 1
  · as_aux_lemma =>
    subst y1
    have HX := Lib.hid (wbyte_ok HWY.out HBS.out (n % 256) (by omega) (by omega))
    rw [show leB (n % 256) 1 = encOne (1, n, K, B, S) from rfl, HRF.out] at HX
    clear hf7 h8
    unfold ptrV at *
    go_wp2_with fail
    refine HX.out.mono ?_
    rintro e w1 ⟨rfl, hg⟩
    have HG := Lib.hid hg
    clear hg HX
    go_wp2
    go_ret
    exact ⟨rfl, WGoes.after (HCY.out.mono fun _ _ h => h.elim) (fun i hi => .inl hi) HG.out⟩
  · have f1 : (y == 1) = false := beq_eq_false_iff_ne.2 y1
    clear y1
    by_cases y2 : y = 2
    · as_aux_lemma =>
      subst y2
      have HX := Lib.hid (whalf_ok HWY.out HBS.out (n % 65536) (by omega) (by omega))
      rw [show leB (n % 65536) 2 = encOne (2, n, K, B, S) from rfl, HRF.out] at HX
      clear hf7 h8
      unfold ptrV at *
      go_wp2_with fail
      refine HX.out.mono ?_
      rintro e w1 ⟨rfl, hg⟩
      have HG := Lib.hid hg
      clear hg HX
      go_wp2
      go_ret
      exact ⟨rfl, WGoes.after (HCY.out.mono fun _ _ h => h.elim) (fun i hi => .inl hi) HG.out⟩
    · have f2 : (y == 2) = false := beq_eq_false_iff_ne.2 y2
      clear y2
      by_cases y3 : y = 3
      · as_aux_lemma =>
        subst y3
        have HX := Lib.hid (wword_ok HWY.out HBS.out (n % 4294967296) (by omega) (by omega))
        rw [show leB (n % 4294967296) 4 = encOne (3, n, K, B, S) from rfl, HRF.out] at HX
        clear hf7 h8
        unfold ptrV at *
        go_wp2_with fail
        refine HX.out.mono ?_
        rintro e w1 ⟨rfl, hg⟩
        have HG := Lib.hid hg
        clear hg HX
        go_wp2
        go_ret
        exact ⟨rfl, WGoes.after (HCY.out.mono fun _ _ h => h.elim) (fun i hi => .inl hi) HG.out⟩
      · have f3 : (y == 3) = false := beq_eq_false_iff_ne.2 y3
        clear y3
        by_cases y4 : y = 4
        · as_aux_lemma =>
          subst y4
          have HX := Lib.hid (wlong_ok HWY.out HBS.out n k1 (by omega))
          rw [show leB n 8 = encOne (4, n, K, B, S) from rfl, HRF.out] at HX
          clear hf7 h8
          unfold ptrV at *
          go_wp2_with fail
          refine HX.out.mono ?_
          rintro e w1 ⟨rfl, hg⟩
          have HG := Lib.hid hg
          clear hg HX
          go_wp2
          go_ret
          exact ⟨rfl, WGoes.after (HCY.out.mono fun _ _ h => h.elim) (fun i hi => .inl hi) HG.out⟩
        · have f4 : (y == 4) = false := beq_eq_false_iff_ne.2 y4
          clear y4
          by_cases y5 : y = 5
          · as_aux_lemma =>
            subst y5
            have HX := Lib.hid (wraw_ok HWY.out HBS.out HBY.out (by have := HFS.out; omega))
            rw [show B = encOne (5, n, K, B, S) from rfl, HRF.out] at HX
            rw [show encOne (5, n, K, B, S) = B from rfl] at HX
            clear hf7 h8
            unfold ptrV at *
            go_wp2_with fail
            refine HX.out.mono ?_
            rintro e w1 ⟨rfl, hg⟩
            have HG := Lib.hid hg
            clear hg HX
            go_wp2
            go_ret
            exact ⟨rfl, WGoes.after (HCY.out.mono fun _ _ h => h.elim) (fun i hi => .inl hi) HG.out⟩
          · have f5 : (y == 5) = false := beq_eq_false_iff_ne.2 y5
            clear y5
            by_cases y6 : y = 6
            · as_aux_lemma =>
              subst y6
              have HX := Lib.hid (wtext_ok HWY.out HBS.out S (by have := HFS.out; omega))
              rw [show s.text S = s.raw (encOne (6, n, K, B, S)) by unfold WS.text WS.text0; rw [if_neg (by have := HFS.out; omega)]; rfl, HRF.out] at HX
              clear hf7 h8
              unfold ptrV at *
              go_wp2_with fail
              refine HX.out.mono ?_
              rintro e w1 ⟨rfl, hg⟩
              have HG := Lib.hid hg
              clear hg HX
              go_wp2
              go_ret
              exact ⟨rfl, WGoes.after (HCY.out.mono fun _ _ h => h.elim) (fun i hi => .inl hi) HG.out⟩
            · have f6 : (y == 6) = false := beq_eq_false_iff_ne.2 y6
              clear y6
              have f7 : (y == 7) = false := beq_eq_false_iff_ne.2 hf7
              have f8 : (y == 8) = false := beq_eq_false_iff_ne.2 h8
              have HE := Lib.hid (show encOne (y, n, K, B, S) = [] by unfold encOne; dsimp only; rw [if_neg (by simpa using f1), if_neg (by simpa using f2), if_neg (by simpa using f3), if_neg (by simpa using f4), if_neg (by simpa using f5), if_neg (by simpa using f6)])
              clear hf7 h8
              go_wp2
              go_ret
              exact ⟨rfl, by rw [HE.out, List.append_nil]; exact H.out.stays HCY.out⟩
end Go.Proofs.YtfihpiommicdbaaDoor
