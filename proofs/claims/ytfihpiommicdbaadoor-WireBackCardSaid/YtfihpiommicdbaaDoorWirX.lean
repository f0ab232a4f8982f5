/- WireBack: contract of the law's 'readsBack' of one field that is no part. No condition. (Printed by genX.py.) -/
import Derived.Test.YtfihpiommicdbaaDoorWirW
namespace Go.Proofs.YtfihpiommicdbaaDoor
open Go.RowKit Go.Cl
set_option linter.unusedVariables false
set_option linter.unusedSimpArgs false
attribute [local go_sem] lt_add_one' blk_alloc_past blk_alloc_at blk_drew blk_setCell_ne

/-- So many bytes are taken. -/
def RS.on (s : RS) (n : Nat) : RS := { s with pos := s.pos + n }
theorem on_on (s : RS) (a b : Nat) : (s.on a).on b = s.on (a + b) := by unfold RS.on; simp [Nat.add_assoc]
theorem ahead {s : RS} {ys rest : List Int} (hle : s.pos ≤ s.xs.length) (h : s.xs.drop s.pos = ys ++ rest) (hb : s.bad = 0) : s.next ys.length = s.on ys.length ∧ s.took ys.length = ys ∧ (s.on ys.length).xs.drop (s.on ys.length).pos = rest ∧ s.pos + ys.length ≤ s.xs.length := by
  have hl := congrArg List.length h
  rw [List.length_drop, List.length_append] at hl
  have hok : s.okB ys.length = true := by unfold RS.okB; rw [decide_eq_true hb, decide_eq_true (by omega)]; rfl
  refine ⟨by unfold RS.next RS.on; rw [if_pos hok], by unfold RS.took; rw [if_pos hok, h]; simp, ?_, by omega⟩
  show s.xs.drop (s.pos + ys.length) = rest
  rw [← List.drop_drop, h]
  simp
theorem ahead_num {s : RS} {x : Int} {k : Nat} {rest : List Int} (hle : s.pos ≤ s.xs.length) (h : s.xs.drop s.pos = leB x k ++ rest) (hb : s.bad = 0) : s.next k = s.on k ∧ s.num k = x % 256 ^ k ∧ (s.on k).xs.drop (s.on k).pos = rest ∧ s.pos + k ≤ s.xs.length := by
  have := ahead hle h hb
  rw [leB_len] at this
  exact ⟨this.1, by unfold RS.num; rw [this.2.1, leV_leB], this.2.2⟩
theorem str_back (S : ByteArray) : strOfNums (strNums S) = S := by
  have h : (strOfNums (strNums S)).data.toList = S.data.toList := by
    rw [strOfNums_data]
    unfold strNums
    rw [List.map_map]
    conv => rhs; rw [← List.map_id S.data.toList]
    refine List.map_congr_left fun b _ => ?_
    simp
  cases S with
  | mk d =>
    have : (strOfNums (strNums ⟨d⟩)).data = d := by
      apply Array.ext'
      exact h
    cases hs : strOfNums (strNums ⟨d⟩) with
    | mk d' => rw [hs] at this; simp at this; rw [this]

theorem ahead_text {s : RS} {S : ByteArray} {rest : List Int} (hS : S.size < 60000) (hle : s.pos ≤ s.xs.length) (h : s.xs.drop s.pos = (leB S.size 2 ++ strNums S) ++ rest) (hb : s.bad = 0) : s.textS S.size = s.on (2 + S.size) ∧ s.textV S.size = strNums S := by
  rw [List.append_assoc] at h
  obtain ⟨h1, h2, h3, h4⟩ := ahead_num hle h hb
  have e0 : s.text0 S.size = s := by unfold RS.text0; rw [if_neg (by omega)]
  have e1 : s.num 2 = (S.size : Int) := by
    rw [h2, show (256 : Int) ^ 2 = 65536 from by decide]
    omega
  have e2 : s.text1 S.size = s.on 2 := by
    unfold RS.text1
    rw [e0, e1, if_neg (by omega), h1]
  have e3 : s.textN S.size = S.size := by
    unfold RS.textN
    rw [e0, e1, Int.toNat_natCast]
  obtain ⟨g1, g2, -, -⟩ := ahead (s := s.on 2) (ys := strNums S) (rest := rest) (by show s.pos + 2 ≤ s.xs.length; exact h4) h3 hb
  rw [strNums_len] at g1 g2
  constructor
  · unfold RS.textS
    rw [if_pos hb, e2, e3, g1, on_on]
    unfold RS.back
    rw [if_pos (show (s.on (2 + S.size)).bad = 0 from hb)]
  · unfold RS.textV
    rw [if_pos hb, e2, e3, g2]

set_option maxHeartbeats 8000000 in
set_option maxRecDepth 100000 in
theorem reads_flat {w0 w : World} {base b g o c : Nat} {v : Value} {s : RS} {p : OpT} {l : List OpT} {rest : List Int} (hlc : l.length + 1 ≤ c) (hcm : c ≤ maxLen) (hops : OpsAt w0 w g o (p :: l)) (hf : OpFit p) (h : RdIs w base b v s) (hbs : base ≤ w.heap.size) (hch : Chg (fun _ => False) w0 w) (hbad : s.bad = 0) (hwb : w0.heap.size ≤ base) (h8 : p.1 ≠ 8) (hah : s.xs.drop s.pos = encOne p ++ rest) (dd : Int) :
    Calls Tryd.prog 41 #[.pointer (some ⟨b, 0, none⟩), .slice (some ⟨g, o, none⟩) (l.length + 1) c, .int .i64 dd] w fun e w' => e = .returned (.int .i64 1) ∧ RGoes w w' base b v (s.on (encOne p).length) := by
  obtain ⟨cur, hcur, hat⟩ := hops
  obtain ⟨bv, e0, e1, e2, e3, e4, hb, hok⟩ := hat 0 p rfl
  rw [Nat.zero_mul, Nat.add_zero] at e0 e1 e2 e3 e4
  obtain ⟨y, n, K, B, S⟩ := p
  obtain ⟨k0, k1, k2, k3, k4⟩ := hok
  obtain ⟨hf7, hfs, hfb⟩ := hf
  dsimp only at e0 e1 e2 e3 e4 k0 k1 k2 k3 k4 h8 hf7 hfs hfb hb
  have d0 : w.cell? ⟨g, o, none⟩ = some (.int .i64 y) := (cell_of_blk hcur _).trans e0
  have d1 : w.cell? ⟨g, o + 1, none⟩ = some (.int .u64 n) := (cell_of_blk hcur _).trans e1
  have d2 : w.cell? ⟨g, o + 2, none⟩ = some (.int .i64 K) := (cell_of_blk hcur _).trans e2
  have d3 : w.cell? ⟨g, o + 3, none⟩ = some bv := (cell_of_blk hcur _).trans e3
  have d4 : w.cell? ⟨g, o + 4, none⟩ = some (.string S) := (cell_of_blk hcur _).trans e4
  have HB := Lib.hid hb
  obtain ⟨od, cd, rfl, -⟩ := hb
  have H := Lib.hid h
  have HCH := Lib.hid hch
  have HBAD := Lib.hid hbad
  have HFS := Lib.hid (And.intro hfs hfb)
  have HAH := Lib.hid hah
  have HLE := Lib.hid h.le
  have HBS0 := Lib.hid hbs
  have HWB := Lib.hid (Nat.le_trans hwb h.nb)
  unfold maxLen at hcm
  clear hah h hch hbad hat hcur e0 e1 e2 e3 e4 k0 k3 k4 hfs hfb hbs hwb
  go_enter Tryd.func41, Tryd.ntmps41
  go_upto_block 0 with (fail)
  obtain ⟨wy, hwy⟩ : ∃ wy, wy = w.alloc (.cells #[.int .i64 y, .int .u64 n, .int .i64 K, .slice od B.length cd, .string S] 50 (0, 0)) := ⟨_, rfl⟩
  obtain ⟨P, hP⟩ : ∃ P, P = w.heap.size := ⟨_, rfl⟩
  rw [← hwy, ← hP]
  have hpb : blk wy P = some (.cells #[.int .i64 y, .int .u64 n, .int .i64 K, .slice od B.length cd, .string S] 50 (0, 0)) := by rw [hwy, hP]; exact blk_alloc_at _ _ _ rfl
  have hcy : Chg (fun _ => False) w wy := by rw [hwy]; exact (Chg.refl _ _).alloc _
  have HCY := Lib.hid hcy
  have HRY := Lib.hid (H.out.frame hcy fun _ _ => id)
  have HBS := Lib.hid (Nat.le_trans HBS0.out hcy.size)
  have HBY := Lib.hid (HB.out.frame (HCH.out.trans hcy fun _ _ => id) fun _ _ => id)
  have HPB := Lib.hid hpb
  have HNB := Lib.hid (show P ≠ b by rw [hP]; have := blk_lt H.out.st; omega)
  have c1 : wy.cell? ⟨P, 1, none⟩ = some (.int .u64 n) := cell_of_blk hpb 1
  have c3 : wy.cell? ⟨P, 3, none⟩ = some (.slice od B.length cd) := cell_of_blk hpb 3
  have c4 : wy.cell? ⟨P, 4, none⟩ = some (.string S) := cell_of_blk hpb 4
  clear hwy hP hpb hcy d0 d1 d2 d3 d4
  by_cases y1 : y = 1
  · as_aux_lemma =>
    subst y1
    have ha := ahead_num (x := n % 256) (k := 1) HLE.out HAH.out HBAD.out
    have HX := Lib.hid (rByte_ok HRY.out)
    rw [ha.1, ha.2.1] at HX
    have HEN := Lib.hid (show (encOne (1, n, K, B, S)).length = 1 from leB_len _ _)
    clear ha
    have e5 : (n % 256) % 256 ^ 1 = n % 256 := by omega
    rw [e5] at HX
    clear e5
    clear hf7 h8
    go_wp2_with fail
    refine HX.out.mono ?_
    rintro e w1 ⟨rfl, hg⟩
    have hp1 := other_blk hg.2 HPB.out HNB.out
    have c1' : w1.cell? ⟨P, 1, none⟩ = some (.int .u64 n) := cell_of_blk hp1 1
    have HG := Lib.hid hg
    clear hg HX hp1 c1 c3 c4
    go_wp2
    go_ret
    exact ⟨rfl, by rw [HEN.out]; exact RGoes.after (HCY.out.mono fun _ _ h => h.elim) HG.out⟩
  · have f1 : (y == 1) = false := beq_eq_false_iff_ne.2 y1
    clear y1
    by_cases y2 : y = 2
    · as_aux_lemma =>
      subst y2
      have ha := ahead_num (x := n % 65536) (k := 2) HLE.out HAH.out HBAD.out
      have HX := Lib.hid (rHalf_ok HRY.out)
      rw [ha.1, ha.2.1] at HX
      have HEN := Lib.hid (show (encOne (2, n, K, B, S)).length = 2 from leB_len _ _)
      clear ha
      have e5 : (n % 65536) % 256 ^ 2 = n % 65536 := by omega
      rw [e5] at HX
      clear e5
      clear hf7 h8
      go_wp2_with fail
      refine HX.out.mono ?_
      rintro e w1 ⟨rfl, hg⟩
      have hp1 := other_blk hg.2 HPB.out HNB.out
      have c1' : w1.cell? ⟨P, 1, none⟩ = some (.int .u64 n) := cell_of_blk hp1 1
      have HG := Lib.hid hg
      clear hg HX hp1 c1 c3 c4
      have e6 : IntKind.u16.wrap n = n % 65536 := IntKind.wrap_u16 _
      go_wp2
      go_ret
      exact ⟨rfl, by rw [HEN.out]; exact RGoes.after (HCY.out.mono fun _ _ h => h.elim) HG.out⟩
    · have f2 : (y == 2) = false := beq_eq_false_iff_ne.2 y2
      clear y2
      by_cases y3 : y = 3
      · as_aux_lemma =>
        subst y3
        have ha := ahead_num (x := n % 4294967296) (k := 4) HLE.out HAH.out HBAD.out
        have HX := Lib.hid (rWord_ok HRY.out)
        rw [ha.1, ha.2.1] at HX
        have HEN := Lib.hid (show (encOne (3, n, K, B, S)).length = 4 from leB_len _ _)
        clear ha
        have e5 : (n % 4294967296) % 256 ^ 4 = n % 4294967296 := by omega
        rw [e5] at HX
        clear e5
        clear hf7 h8
        go_wp2_with fail
        refine HX.out.mono ?_
        rintro e w1 ⟨rfl, hg⟩
        have hp1 := other_blk hg.2 HPB.out HNB.out
        have c1' : w1.cell? ⟨P, 1, none⟩ = some (.int .u64 n) := cell_of_blk hp1 1
        have HG := Lib.hid hg
        clear hg HX hp1 c1 c3 c4
        go_wp2
        go_ret
        exact ⟨rfl, by rw [HEN.out]; exact RGoes.after (HCY.out.mono fun _ _ h => h.elim) HG.out⟩
      · have f3 : (y == 3) = false := beq_eq_false_iff_ne.2 y3
        clear y3
        by_cases y4 : y = 4
        · as_aux_lemma =>
          subst y4
          have ha := ahead_num (x := n) (k := 8) HLE.out HAH.out HBAD.out
          have HX := Lib.hid (rLong_ok HRY.out)
          rw [ha.1, ha.2.1] at HX
          have HEN := Lib.hid (show (encOne (4, n, K, B, S)).length = 8 from leB_len _ _)
          clear ha
          have e5 : n % 256 ^ 8 = n := Int.emod_eq_of_lt k1 (by rw [show (256 : Int) ^ 8 = 18446744073709551616 from by decide]; exact k2)
          rw [e5] at HX
          clear e5
          clear hf7 h8
          have HK2 := Lib.hid k2
          clear k2
          go_wp2_with fail
          refine HX.out.mono ?_
          rintro e w1 ⟨rfl, hg⟩
          have hp1 := other_blk hg.2 HPB.out HNB.out
          have c1' : w1.cell? ⟨P, 1, none⟩ = some (.int .u64 n) := cell_of_blk hp1 1
          have HG := Lib.hid hg
          clear hg HX hp1 c1 c3 c4
          go_wp2
          go_ret
          exact ⟨rfl, by rw [HEN.out]; exact RGoes.after (HCY.out.mono fun _ _ h => h.elim) HG.out⟩
        · have f4 : (y == 4) = false := beq_eq_false_iff_ne.2 y4
          clear y4
          by_cases y5 : y = 5
          · as_aux_lemma =>
            subst y5
            have ha := ahead (ys := B) HLE.out HAH.out HBAD.out
            have HX := Lib.hid (rraw_ok HRY.out B.length (by have := HFS.out; omega))
            rw [show s.rawS (B.length : Int) = s.next B.length by unfold RS.rawS; rw [if_neg (by omega)]; rfl, show s.rawV (B.length : Int) = s.took B.length by unfold RS.rawV; rw [if_neg (by omega)]; rfl, ha.1, ha.2.1] at HX
            have HEN := Lib.hid (show (encOne (5, n, K, B, S)).length = B.length from rfl)
            clear ha hf7 h8
            go_wp2_with fail
            refine HX.out.mono ?_
            rintro e w1 ⟨v1, rfl, hrow, hg⟩
            have hp1 := other_blk hg.2 HPB.out HNB.out
            have c3' : w1.cell? ⟨P, 3, none⟩ = some (.slice od B.length cd) := cell_of_blk hp1 3
            have hby1 : BytesIs w1 (.slice od B.length cd) B := HB.out.frame ((HCH.out.trans HCY.out fun _ _ => id).trans hg.2 fun i hi h => by subst h; have := HWB.out; omega) fun i hi h => h
            have HSM := Lib.hid (same_ok (row_bytes hrow HB.out.byte) hby1)
            have hd : decide (B = B) = true := decide_eq_true rfl
            rw [hd] at HSM
            have HG := Lib.hid hg
            clear hg HX hp1 c1 c3 c4 hrow hby1 hd
            go_wp2_with fail
            refine HSM.out.mono ?_
            rintro e w2 ⟨rfl, hc⟩
            have HC2 := Lib.hid hc
            clear hc HSM
            go_wp2
            go_ret
            exact ⟨rfl, by rw [HEN.out]; exact RGoes.after (HCY.out.mono fun _ _ h => h.elim) ⟨HG.out.1.frame HC2.out fun _ _ => id, HG.out.2.trans HC2.out fun _ _ h => h.elim⟩⟩
          · have f5 : (y == 5) = false := beq_eq_false_iff_ne.2 y5
            clear y5
            by_cases y6 : y = 6
            · as_aux_lemma =>
              subst y6
              have ha := ahead_text HFS.out.1 HLE.out HAH.out HBAD.out
              have HX := Lib.hid (rtext_ok HRY.out HBS.out (S.size : Int))
              rw [ha.1, ha.2, str_back] at HX
              have HEN := Lib.hid (show (encOne (6, n, K, B, S)).length = 2 + S.size by show (leB S.size 2 ++ strNums S).length = _; rw [List.length_append, leB_len, strNums_len])
              clear ha hf7 h8
              go_wp2_with fail
              refine HX.out.mono ?_
              rintro e w1 ⟨rfl, hg⟩
              have hp1 := other_blk hg.2 HPB.out HNB.out
              have c4' : w1.cell? ⟨P, 4, none⟩ = some (.string S) := cell_of_blk hp1 4
              have HG := Lib.hid hg
              clear hg HX hp1 c1 c3 c4
              go_wp2
              go_ret
              exact ⟨rfl, by rw [HEN.out]; exact RGoes.after (HCY.out.mono fun _ _ h => h.elim) HG.out⟩
            · have f6 : (y == 6) = false := beq_eq_false_iff_ne.2 y6
              clear y6
              have f7 : (y == 7) = false := beq_eq_false_iff_ne.2 hf7
              have f8 : (y == 8) = false := beq_eq_false_iff_ne.2 h8
              have HE := Lib.hid (show encOne (y, n, K, B, S) = [] by unfold encOne; dsimp only; rw [if_neg (by simpa using f1), if_neg (by simpa using f2), if_neg (by simpa using f3), if_neg (by simpa using f4), if_neg (by simpa using f5), if_neg (by simpa using f6)])
              clear hf7 h8
              go_wp2
              go_ret
              exact ⟨rfl, by rw [HE.out]; exact H.out.stays HCY.out⟩
end Go.Proofs.YtfihpiommicdbaaDoor
