/- The law's maker of two writers: contracts of step: Raw, Open, Done, none. No condition. (Printed by genWF.py.) -/
import Derived.Test.YtfihpiommicdbaaDoorWirWE
import Derived.Test.YtfihpiommicdbaaDoorWirK
namespace Go.Proofs.YtfihpiommicdbaaDoor
open Go.RowKit Go.Cl
set_option linter.unusedVariables false
set_option linter.unusedSimpArgs false
attribute [local go_sem] lt_add_one' blk_alloc_past blk_alloc_at blk_drew blk_setCell_ne

/-- The list of places is another one. -/
theorem Two.setPl {base B X b b' : Nat} {w w2 : World} {bs : BS} {s s2 : WS} {oY : Thing} {pv v2 : Value} {sz dn : Int} {n n2 : Nat} {xs xs2 : List Value} {R : List Thing} (h : Two base w B bs b b' s s2 (oY :: blkT X (mkO b b' pv sz dn) :: rowT base 3 1 pv n xs :: R)) (hb : base ≤ w.heap.size)
    (hc : Chg (fun i => some i = pv.ownBlock) w w2) (hown : w2.ownsRow base 3 1 v2 n2 xs2) (hf : ∀ i, some i = v2.ownBlock → some i = pv.ownBlock ∨ w.heap.size ≤ i) :
    Two base (w2.setCell ⟨X, 2, none⟩ v2) B bs b b' s s2 (oY :: blkT X (mkO b b' v2 sz dn) :: rowT base 3 1 v2 n2 xs2 :: R) ∧ Chg (fun i => base ≤ i) w (w2.setCell ⟨X, 2, none⟩ v2) :=
  h.rest fun Z hz => by
    have h1 : Sep base w ((Z ++ [oY, blkT X (mkO b b' pv sz dn)]) ++ rowT base 3 1 pv n xs :: R) := by simpa [List.append_assoc] using hz
    have h2 := h1.putAt _ hb hc (fun i _ hi => hi) (t' := rowT base 3 1 v2 n2 xs2) hown hf
    have h3 : Sep base w2 ((Z ++ [oY]) ++ blkT X (mkO b b' pv sz dn) :: rowT base 3 1 v2 n2 xs2 :: R) := by simpa [List.append_assoc] using h2
    have hX : base ≤ X := h3.above (blkT X (mkO b b' pv sz dn)) (by simp) X rfl
    have h4 := (h3.perm List.perm_middle).cell (i := 2) (x := v2) (cs' := #[.pointer (some ⟨b, 0, none⟩), .pointer (some ⟨b', 0, none⟩), v2, .int .i64 sz, .int .i64 dn]) (Nat.le_trans hb hc.size) (by simp [objSet])
    have h5 := h4.perm (List.perm_middle (l₁ := Z ++ [oY])).symm
    exact ⟨by simpa [List.append_assoc] using h5, (hc.mono fun i _ hi => h1.above (rowT base 3 1 pv n xs) (by simp) i hi).setCell (p := ⟨X, 2, none⟩) (fun _ => hX) _⟩
theorem openV_bd {s : WS} (h : WFine s) : 0 ≤ s.openV ∧ s.openV ≤ 67108864 := by
  have := h.few
  have := h.l1
  unfold WS.openV
  split <;> omega

set_option maxHeartbeats 4000000 in
set_option maxRecDepth 100000 in
theorem step_else {w : World} {base B X b b' : Nat} {bs : BS} {s : WS} {pl : List Int} {sz dn : Int} {R : List Thing} (h : Maker base w B bs X b b' s pl sz dn R) (hbs : base ≤ w.heap.size) {n : Nat} (hf : bs.few n) (hn : n ≤ 999990) (hpl : pl.length ≤ 1000000) (hpi : ∀ p ∈ pl, I64 p) (kd : Int) (h1 : kd ≠ 1) (h2 : kd ≠ 2) (h3 : kd ≠ 3) (h4 : kd ≠ 4) (h5 : kd ≠ 5) (h6 : kd ≠ 6) (h7 : kd ≠ 7) (h8 : kd ≠ 8) (h9 : kd ≠ 9) (h10 : kd ≠ 10) (h12 : kd ≠ 12) (h13 : kd ≠ 13) (h14 : kd ≠ 14) (nn k : Int) (hn0 : 0 ≤ nn) (hn1 : nn ≤ 18446744073709551615) (hk : I64 k) (ob : Option Addr) (bl : List Int) (bc : Nat) (hbl : bl.length ≤ 3000) (hbb : ∀ wy, Chg (fun i => base ≤ i) w wy → BytesIs wy (.slice ob bl.length bc) bl) (st : ByteArray) (hst : st.size ≤ 70000) :
    Calls Tryd.prog 20 #[.pointer (some ⟨X, 0, none⟩), .agg #[.int .i64 kd, .int .u64 nn, .int .i64 k, .slice ob bl.length bc, .string st], .pointer (some ⟨B, 0, none⟩)] w (Stepped base w B n X b b' pl sz dn R) := by
  unfold Stepped
  have HF := Lib.hid hf
  have HN := Lib.hid hn
  have HPL := Lib.hid hpl
  have HPI := Lib.hid hpi
  have HKK := Lib.hid hk
  have HBL := Lib.hid hbl
  have HBB := Lib.hid hbb
  have HST := Lib.hid hst
  have HBS0 := Lib.hid hbs
  clear hf hn hpl hpi hk hbl hbb hst
  obtain ⟨pv, hT⟩ := h
  go_enter Tryd.func20, Tryd.ntmps20
  go_upto_region 1 with (fail)
  obtain ⟨wa, hwa⟩ : ∃ wa, wa = w.alloc (.cells #[.int .i64 kd, .int .u64 nn, .int .i64 k, .slice ob bl.length bc, .string st] 50 (0, 0)) := ⟨_, rfl⟩
  obtain ⟨Y, hY⟩ : ∃ Y, Y = w.heap.size := ⟨_, rfl⟩
  have hc0 : Chg (fun _ => False) w wa := by rw [hwa]; exact (Chg.refl _ _).alloc _
  have hyb : blk wa Y = some (opO kd nn k (.slice ob bl.length bc) st) := by rw [hwa, hY]; exact blk_alloc_at _ _ _ rfl
  have HC0 := Lib.hid (show Chg (fun i => base ≤ i) w wa from hc0.mono fun (i : Nat) _ (h : False) => h.elim)
  have HT0 := Lib.hid (hT.add (u := blkT Y (opO kd nn k (.slice ob bl.length bc) st)) hbs hc0 hyb (fun i hi => by
    have hi : i = Y := hi
    omega))
  have HBS := Lib.hid (Nat.le_trans hbs hc0.size)
  have x0 := cell_of_blk (show blk wa X = some (mkO b b' pv sz dn) from HT0.out.mem (t := blkT X (mkO b b' pv sz dn)) (by simp)) 0
  have x1 := cell_of_blk (show blk wa X = some (mkO b b' pv sz dn) from HT0.out.mem (t := blkT X (mkO b b' pv sz dn)) (by simp)) 1
  have y0 := cell_of_blk hyb 0
  have y1 := cell_of_blk hyb 1
  have y2 := cell_of_blk hyb 2
  have y3 := cell_of_blk hyb 3
  have y4 := cell_of_blk hyb 4
  rw [← hwa, ← hY]
  clear hwa hY hc0 hT hyb hbs
  have g1 : (kd == 1) = false := beq_eq_false_iff_ne.2 h1
  have g2 : (kd == 2) = false := beq_eq_false_iff_ne.2 h2
  have g3 : (kd == 3) = false := beq_eq_false_iff_ne.2 h3
  have g4 : (kd == 4) = false := beq_eq_false_iff_ne.2 h4
  have g5 : (kd == 5) = false := beq_eq_false_iff_ne.2 h5
  have g6 : (kd == 6) = false := beq_eq_false_iff_ne.2 h6
  have g7 : (kd == 7) = false := beq_eq_false_iff_ne.2 h7
  have g8 : (kd == 8) = false := beq_eq_false_iff_ne.2 h8
  have g9 : (kd == 9) = false := beq_eq_false_iff_ne.2 h9
  have g10 : (kd == 10) = false := beq_eq_false_iff_ne.2 h10
  have g12 : (kd == 12) = false := beq_eq_false_iff_ne.2 h12
  have g13 : (kd == 13) = false := beq_eq_false_iff_ne.2 h13
  have g14 : (kd == 14) = false := beq_eq_false_iff_ne.2 h14
  clear h1 h2 h3 h4 h5 h6 h7 h8 h9 h10 h12 h13 h14
  obtain ⟨m7, u7, hw7, -⟩ := HT0.out.wr HBS.out
  obtain ⟨x7, y7, hv7, -⟩ := HT0.out.vw HBS.out
  have HLN := Lib.hid (fun (j : Nat) => (show Calls Tryd.prog 59 #[.pointer (some ⟨b, 0, none⟩)] (wa.drewN j) fun e w' => e = .returned (.int .i64 s.xs.length) ∧ w' = wa.drewN j from (wlen_ok (hw7.frame ((Chg.refl (fun _ => False) wa).drewN j) fun _ _ => id)).mono fun _ _ h => ⟨h.1, h.2.symm⟩))
  obtain ⟨yb, -, yy1, -⟩ := hv7.facts
  obtain ⟨oB, cB, rfl, -⟩ := row_form hv7.row
  have hll : ((s.xs.length : Int) == (s.xs.length : Int)) = true := by simp
  clear hw7 hv7
  go_upto_region 57 with (fail)
  go_quiet ((go_at_call 59; refine Calls.quiet_of_same (HLN.out _)))
  go_wp2
  go_ret
  exact ⟨rfl, ⟨bs, s, pl, HF.out.more (by omega), by omega, HPI.out, pv, (HT0.out.still ((Chg.refl (fun _ => False) wa).drewN _)).sub (List.sublist_cons_self _ _)⟩, HC0.out.trans ((Chg.refl (fun _ => False) wa).drewN _) fun _ _ h => h.elim⟩

set_option maxHeartbeats 4000000 in
set_option maxRecDepth 100000 in
theorem step_10 {w : World} {base B X b b' : Nat} {bs : BS} {s : WS} {pl : List Int} {sz dn : Int} {R : List Thing} (h : Maker base w B bs X b b' s pl sz dn R) (hbs : base ≤ w.heap.size) {n : Nat} (hf : bs.few n) (hn : n ≤ 999990) (hpl : pl.length ≤ 1000000) (hpi : ∀ p ∈ pl, I64 p) (nn k : Int) (hn0 : 0 ≤ nn) (hn1 : nn ≤ 18446744073709551615) (hk : I64 k) (ob : Option Addr) (bl : List Int) (bc : Nat) (hbl : bl.length ≤ 3000) (hbb : ∀ wy, Chg (fun i => base ≤ i) w wy → BytesIs wy (.slice ob bl.length bc) bl) (st : ByteArray) (hst : st.size ≤ 70000) :
    Calls Tryd.prog 20 #[.pointer (some ⟨X, 0, none⟩), .agg #[.int .i64 10, .int .u64 nn, .int .i64 k, .slice ob bl.length bc, .string st], .pointer (some ⟨B, 0, none⟩)] w (Stepped base w B n X b b' pl sz dn R) := by
  unfold Stepped
  have HF := Lib.hid hf
  have HN := Lib.hid hn
  have HPL := Lib.hid hpl
  have HPI := Lib.hid hpi
  have HKK := Lib.hid hk
  have HBL := Lib.hid hbl
  have HBB := Lib.hid hbb
  have HST := Lib.hid hst
  have HBS0 := Lib.hid hbs
  clear hf hn hpl hpi hk hbl hbb hst
  obtain ⟨pv, hT⟩ := h
  go_enter Tryd.func20, Tryd.ntmps20
  go_upto_region 1 with (fail)
  obtain ⟨wa, hwa⟩ : ∃ wa, wa = w.alloc (.cells #[.int .i64 10, .int .u64 nn, .int .i64 k, .slice ob bl.length bc, .string st] 50 (0, 0)) := ⟨_, rfl⟩
  obtain ⟨Y, hY⟩ : ∃ Y, Y = w.heap.size := ⟨_, rfl⟩
  have hc0 : Chg (fun _ => False) w wa := by rw [hwa]; exact (Chg.refl _ _).alloc _
  have hyb : blk wa Y = some (opO 10 nn k (.slice ob bl.length bc) st) := by rw [hwa, hY]; exact blk_alloc_at _ _ _ rfl
  have HC0 := Lib.hid (show Chg (fun i => base ≤ i) w wa from hc0.mono fun (i : Nat) _ (h : False) => h.elim)
  have HT0 := Lib.hid (hT.add (u := blkT Y (opO 10 nn k (.slice ob bl.length bc) st)) hbs hc0 hyb (fun i hi => by
    have hi : i = Y := hi
    omega))
  have HBS := Lib.hid (Nat.le_trans hbs hc0.size)
  have x0 := cell_of_blk (show blk wa X = some (mkO b b' pv sz dn) from HT0.out.mem (t := blkT X (mkO b b' pv sz dn)) (by simp)) 0
  have x1 := cell_of_blk (show blk wa X = some (mkO b b' pv sz dn) from HT0.out.mem (t := blkT X (mkO b b' pv sz dn)) (by simp)) 1
  have y0 := cell_of_blk hyb 0
  have y1 := cell_of_blk hyb 1
  have y2 := cell_of_blk hyb 2
  have y3 := cell_of_blk hyb 3
  have y4 := cell_of_blk hyb 4
  rw [← hwa, ← hY]
  clear hwa hY hc0 hT hyb hbs
  have HD := Lib.hid (done_ok HT0.out HBS.out HF.out HN.out)
  go_wp2_with fail
  refine HD.out.mono ?_
  rintro e w2 ⟨rfl, ⟨bs7, hf7, hT7⟩, hc7⟩
  have HF7 := Lib.hid hf7
  have HT2 := Lib.hid hT7
  have HC2 := Lib.hid (HC0.out.trans hc7 fun _ _ h => h)
  have HB2 := Lib.hid (Nat.le_trans HBS0.out HC2.out.size)
  clear hf7 hT7 hc7 HD x0 x1 y0 y1 y2 y3 y4
  obtain ⟨m7, u7, hw7, -⟩ := HT2.out.wr HB2.out
  obtain ⟨x7, y7, hv7, -⟩ := HT2.out.vw HB2.out
  have HLN := Lib.hid (fun (j : Nat) => (show Calls Tryd.prog 59 #[.pointer (some ⟨b, 0, none⟩)] (w2.drewN j) fun e w' => e = .returned (.int .i64 s.xs.length) ∧ w' = w2.drewN j from (wlen_ok (hw7.frame ((Chg.refl (fun _ => False) w2).drewN j) fun _ _ => id)).mono fun _ _ h => ⟨h.1, h.2.symm⟩))
  obtain ⟨yb, -, yy1, -⟩ := hv7.facts
  obtain ⟨oB, cB, rfl, -⟩ := row_form hv7.row
  have hll : ((s.xs.length : Int) == (s.xs.length : Int)) = true := by simp
  clear hw7 hv7
  go_upto_region 57 with (fail)
  go_quiet ((go_at_call 59; refine Calls.quiet_of_same (HLN.out _)))
  go_wp2
  go_ret
  exact ⟨rfl, ⟨bs7, s, pl, HF7.out, by omega, HPI.out, pv, (HT2.out.still ((Chg.refl (fun _ => False) w2).drewN _)).sub (List.sublist_cons_self _ _)⟩, HC2.out.trans ((Chg.refl (fun _ => False) w2).drewN _) fun _ _ h => h.elim⟩

set_option maxHeartbeats 4000000 in
set_option maxRecDepth 100000 in
theorem step_8 {w : World} {base B X b b' : Nat} {bs : BS} {s : WS} {pl : List Int} {sz dn : Int} {R : List Thing} (h : Maker base w B bs X b b' s pl sz dn R) (hbs : base ≤ w.heap.size) {n : Nat} (hf : bs.few n) (hn : n ≤ 999990) (hpl : pl.length ≤ 1000000) (hpi : ∀ p ∈ pl, I64 p) (nn k : Int) (hn0 : 0 ≤ nn) (hn1 : nn ≤ 18446744073709551615) (hk : I64 k) (ob : Option Addr) (bl : List Int) (bc : Nat) (hbl : bl.length ≤ 3000) (hbb : ∀ wy, Chg (fun i => base ≤ i) w wy → BytesIs wy (.slice ob bl.length bc) bl) (st : ByteArray) (hst : st.size ≤ 70000) :
    Calls Tryd.prog 20 #[.pointer (some ⟨X, 0, none⟩), .agg #[.int .i64 8, .int .u64 nn, .int .i64 k, .slice ob bl.length bc, .string st], .pointer (some ⟨B, 0, none⟩)] w (Stepped base w B n X b b' pl sz dn R) := by
  unfold Stepped
  have HF := Lib.hid hf
  have HN := Lib.hid hn
  have HPL := Lib.hid hpl
  have HPI := Lib.hid hpi
  have HKK := Lib.hid hk
  have HBL := Lib.hid hbl
  have HBB := Lib.hid hbb
  have HST := Lib.hid hst
  have HBS0 := Lib.hid hbs
  clear hf hn hpl hpi hk hbl hbb hst
  obtain ⟨pv, hT⟩ := h
  go_enter Tryd.func20, Tryd.ntmps20
  go_upto_region 1 with (fail)
  obtain ⟨wa, hwa⟩ : ∃ wa, wa = w.alloc (.cells #[.int .i64 8, .int .u64 nn, .int .i64 k, .slice ob bl.length bc, .string st] 50 (0, 0)) := ⟨_, rfl⟩
  obtain ⟨Y, hY⟩ : ∃ Y, Y = w.heap.size := ⟨_, rfl⟩
  have hc0 : Chg (fun _ => False) w wa := by rw [hwa]; exact (Chg.refl _ _).alloc _
  have hyb : blk wa Y = some (opO 8 nn k (.slice ob bl.length bc) st) := by rw [hwa, hY]; exact blk_alloc_at _ _ _ rfl
  have HC0 := Lib.hid (show Chg (fun i => base ≤ i) w wa from hc0.mono fun (i : Nat) _ (h : False) => h.elim)
  have HT0 := Lib.hid (hT.add (u := blkT Y (opO 8 nn k (.slice ob bl.length bc) st)) hbs hc0 hyb (fun i hi => by
    have hi : i = Y := hi
    omega))
  have HBS := Lib.hid (Nat.le_trans hbs hc0.size)
  have x0 := cell_of_blk (show blk wa X = some (mkO b b' pv sz dn) from HT0.out.mem (t := blkT X (mkO b b' pv sz dn)) (by simp)) 0
  have x1 := cell_of_blk (show blk wa X = some (mkO b b' pv sz dn) from HT0.out.mem (t := blkT X (mkO b b' pv sz dn)) (by simp)) 1
  have y0 := cell_of_blk hyb 0
  have y1 := cell_of_blk hyb 1
  have y2 := cell_of_blk hyb 2
  have y3 := cell_of_blk hyb 3
  have y4 := cell_of_blk hyb 4
  rw [← hwa, ← hY]
  clear hwa hY hc0 hT hyb hbs
  obtain ⟨i0, hi, hz0, hz1, hz2⟩ := info3w
  obtain ⟨s2, hs2⟩ : ∃ s2, s2 = s.opened := ⟨_, rfl⟩
  obtain ⟨q, hq⟩ : ∃ q, q = s.openV := ⟨_, rfl⟩
  have hqb := openV_bd HT0.out.fine
  rw [← hq] at hqb
  have HQB := Lib.hid hqb
  have HN1 := Lib.hid (fun (wy : World) (m : Nat) (v : Value) (hw : WrIs wy base b m v s) (hb : base ≤ wy.heap.size) => (show Calls Tryd.prog 42 #[.pointer (some ⟨b, 0, none⟩)] wy fun r w' => r = .returned (.int .i64 q) ∧ WGoes wy w' base b m v s2 by rw [hs2, hq]; exact wopen_ok hw hb))
  have HN2 := Lib.hid (fun (wy : World) (v o : Value) (hv : VwIs wy base b' v o s) (hb : base ≤ wy.heap.size) => (show Calls Tryd.prog 43 #[.pointer (some ⟨b', 0, none⟩)] wy fun r w' => r = .returned (.int .i64 q) ∧ VwGoes wy w' base b' v o s2 by rw [hs2, hq]; exact vwopen_ok hv hb))
  have hqq : (q == q) = true := by simp
  clear hs2 hq hqb
  obtain ⟨m, v, hw, hnx⟩ := HT0.out.wr HBS.out
  have HW := Lib.hid hw
  have HNX := Lib.hid hnx
  clear hw hnx
  go_wp2_with fail
  refine (HN1.out _ _ _ HW.out HBS.out).mono ?_
  rintro e w1 ⟨rfl, hg⟩
  have k1 := HNX.out _ _ hg
  have HT1 := Lib.hid k1.1
  have HC1 := Lib.hid (HC0.out.trans k1.2 fun _ _ h => h)
  have HB1 := Lib.hid (Nat.le_trans HBS0.out HC1.out.size)
  obtain ⟨v', o', hv, hnx⟩ := HT1.out.vw HB1.out
  have HV := Lib.hid hv
  have HNV := Lib.hid hnx
  clear hg k1 hv hnx x0 x1 y0 y1 y2 y3 y4
  go_wp2_with fail
  refine (HN2.out _ _ _ HV.out HB1.out).mono ?_
  rintro e w2 ⟨rfl, hg⟩
  have k2 := HNV.out _ _ hg
  have HT2 := Lib.hid k2.1
  have HC2 := Lib.hid (HC1.out.trans k2.2 fun _ _ h => h)
  have HB2 := Lib.hid (Nat.le_trans HBS0.out HC2.out.size)
  have hrow : w2.ownsRow base 3 1 pv pl.length (i64s pl) := HT2.out.mem (t := rowT base 3 1 pv pl.length (i64s pl)) (by simp)
  have hbx : blk w2 X = some (mkO b b' pv sz dn) := HT2.out.mem (t := blkT X (mkO b b' pv sz dn)) (by simp)
  have HNXX := Lib.hid (show ¬ (some X = pv.ownBlock) from fun e => by
    obtain ⟨_, cur, hc⟩ := row_block hrow e.symm
    rw [hbx] at hc
    simp only [Option.some.injEq, Obj.cells.injEq] at hc
    exact absurd hc.2.1 (by decide))
  obtain ⟨oP, cP, rfl, -⟩ := row_form hrow
  have xx2 := cell_of_blk hbx 2
  have HROW := Lib.hid hrow
  clear hg k2 hrow hbx
  go_upto_region 57 with (at_builtin; go_loud (refine wpList_app rfl _ _ 45 rfl base 3 i0 (.int .i64 0) 1 8 Tryd.underlying45 hi hz0 hz1 hz2 rfl (by decide) (.slice oP pl.length cP) pl.length (i64s pl) (by rfl) (row_frame HROW.out ((Chg.refl (fun _ => False) w2).alloc _) fun _ _ => id) _ 1 1 [.int .i64 q] (by rfl) (SrcIs.some (by rfl) (by simp [Value.oneCell']) (World.news_of_block (heap_alloc_new _ _))) (fun h => by cases h) (by have := HPL.out; unfold maxLen; omega) (by have := HPL.out; omega) (by have := HB2.out; simp; omega) ?_); intro v3 w3 hown hgrow hlie; have HO := Lib.hid hown; have hc3 : Chg (fun i => some i = (Value.slice oP pl.length cP).ownBlock) w2 w3 := ((Chg.refl _ w2).alloc _).trans (Chg.of_grown hgrow) fun _ _ h => h; have HLie := Lib.hid (show ∀ i, some i = v3.ownBlock → some i = (Value.slice oP pl.length cP).ownBlock ∨ w2.heap.size ≤ i from fun i hi => hlie.elim (fun h => .inl (hi.trans h)) fun h => .inr (by rw [h] at hi; cases hi; simp)); have k3 := HT2.out.setPl HB2.out hc3 hown HLie.out; have hx3 := hc3.blk' (show blk w2 X = some (mkO b b' (.slice oP pl.length cP) sz dn) from HT2.out.mem (t := blkT X (mkO b b' (.slice oP pl.length cP) sz dn)) (by simp)) (fun e => HNXX.out e); have X2 := cell_of_blk hx3 2; have Z2 := frozen_of_blk hx3 2; have XL := blk_lt hx3; have K3 := Lib.hid k3; clear hown hgrow hlie hc3 k3 hx3; obtain ⟨oP3, cP3, rfl, -⟩ := row_form HO.out)
  obtain ⟨w4, hw4⟩ : ∃ w4, w4 = w3.setCell ⟨X, 2, none⟩ (.slice oP3 (pl.length + 1) cP3) := ⟨_, rfl⟩
  rw [← hw4] at K3 ⊢
  have e9 : i64s pl ++ [Value.int .i64 q] = i64s (pl ++ [q]) := by simp [i64s]
  have e8 : pl.length + 1 = (pl ++ [q]).length := by simp
  rw [e9, e8] at K3
  have HT4 := Lib.hid K3.out.1
  have HC4 := Lib.hid (HC2.out.trans K3.out.2 fun _ _ h => h)
  have HB4 := Lib.hid (Nat.le_trans HBS0.out HC4.out.size)
  have HPI4 := Lib.hid (fun p (hp : p ∈ pl ++ [q]) => (show I64 p from (List.mem_append.1 hp).elim (HPI.out p) fun h => by
    simp only [List.mem_cons, List.not_mem_nil, or_false] at h
    subst h
    have := HQB.out
    unfold I64
    omega))
  clear hw4 X2 Z2 XL xx2 K3 e9 e8
  obtain ⟨m7, u7, hw7, -⟩ := HT4.out.wr HB4.out
  obtain ⟨x7, y7, hv7, -⟩ := HT4.out.vw HB4.out
  have HLN := Lib.hid (fun (j : Nat) => (show Calls Tryd.prog 59 #[.pointer (some ⟨b, 0, none⟩)] (w4.drewN j) fun e w' => e = .returned (.int .i64 s2.xs.length) ∧ w' = w4.drewN j from (wlen_ok (hw7.frame ((Chg.refl (fun _ => False) w4).drewN j) fun _ _ => id)).mono fun _ _ h => ⟨h.1, h.2.symm⟩))
  obtain ⟨yb, -, yy1, -⟩ := hv7.facts
  obtain ⟨oB, cB, rfl, -⟩ := row_form hv7.row
  have hll : ((s2.xs.length : Int) == (s2.xs.length : Int)) = true := by simp
  clear hw7 hv7
  go_upto_region 57 with (fail)
  go_quiet ((go_at_call 59; refine Calls.quiet_of_same (HLN.out _)))
  go_wp2
  go_ret
  exact ⟨rfl, ⟨bs, s2, pl ++ [q], HF.out.more (by omega), by simp, HPI4.out, _, (HT4.out.still ((Chg.refl (fun _ => False) w4).drewN _)).sub (List.sublist_cons_self _ _)⟩, HC4.out.trans ((Chg.refl (fun _ => False) w4).drewN _) fun _ _ h => h.elim⟩

set_option maxHeartbeats 4000000 in
set_option maxRecDepth 100000 in
theorem step_5 {w : World} {base B X b b' : Nat} {bs : BS} {s : WS} {pl : List Int} {sz dn : Int} {R : List Thing} (h : Maker base w B bs X b b' s pl sz dn R) (hbs : base ≤ w.heap.size) {n : Nat} (hf : bs.few n) (hn : n ≤ 999990) (hpl : pl.length ≤ 1000000) (hpi : ∀ p ∈ pl, I64 p) (nn k : Int) (hn0 : 0 ≤ nn) (hn1 : nn ≤ 18446744073709551615) (hk : I64 k) (ob : Option Addr) (bl : List Int) (bc : Nat) (hbl : bl.length ≤ 3000) (hbb : ∀ wy, Chg (fun i => base ≤ i) w wy → BytesIs wy (.slice ob bl.length bc) bl) (st : ByteArray) (hst : st.size ≤ 70000) :
    Calls Tryd.prog 20 #[.pointer (some ⟨X, 0, none⟩), .agg #[.int .i64 5, .int .u64 nn, .int .i64 k, .slice ob bl.length bc, .string st], .pointer (some ⟨B, 0, none⟩)] w (Stepped base w B n X b b' pl sz dn R) := by
  unfold Stepped
  have HF := Lib.hid hf
  have HN := Lib.hid hn
  have HPL := Lib.hid hpl
  have HPI := Lib.hid hpi
  have HKK := Lib.hid hk
  have HBL := Lib.hid hbl
  have HBB := Lib.hid hbb
  have HST := Lib.hid hst
  have HBS0 := Lib.hid hbs
  clear hf hn hpl hpi hk hbl hbb hst
  obtain ⟨pv, hT⟩ := h
  go_enter Tryd.func20, Tryd.ntmps20
  go_upto_region 1 with (fail)
  obtain ⟨wa, hwa⟩ : ∃ wa, wa = w.alloc (.cells #[.int .i64 5, .int .u64 nn, .int .i64 k, .slice ob bl.length bc, .string st] 50 (0, 0)) := ⟨_, rfl⟩
  obtain ⟨Y, hY⟩ : ∃ Y, Y = w.heap.size := ⟨_, rfl⟩
  have hc0 : Chg (fun _ => False) w wa := by rw [hwa]; exact (Chg.refl _ _).alloc _
  have hyb : blk wa Y = some (opO 5 nn k (.slice ob bl.length bc) st) := by rw [hwa, hY]; exact blk_alloc_at _ _ _ rfl
  have HC0 := Lib.hid (show Chg (fun i => base ≤ i) w wa from hc0.mono fun (i : Nat) _ (h : False) => h.elim)
  have HT0 := Lib.hid (hT.add (u := blkT Y (opO 5 nn k (.slice ob bl.length bc) st)) hbs hc0 hyb (fun i hi => by
    have hi : i = Y := hi
    omega))
  have HBS := Lib.hid (Nat.le_trans hbs hc0.size)
  have x0 := cell_of_blk (show blk wa X = some (mkO b b' pv sz dn) from HT0.out.mem (t := blkT X (mkO b b' pv sz dn)) (by simp)) 0
  have x1 := cell_of_blk (show blk wa X = some (mkO b b' pv sz dn) from HT0.out.mem (t := blkT X (mkO b b' pv sz dn)) (by simp)) 1
  have y0 := cell_of_blk hyb 0
  have y1 := cell_of_blk hyb 1
  have y2 := cell_of_blk hyb 2
  have y3 := cell_of_blk hyb 3
  have y4 := cell_of_blk hyb 4
  rw [← hwa, ← hY]
  clear hwa hY hc0 hT hyb hbs
  have hb0 := HBB.out wa HC0.out
  have HBY := Lib.hid hb0.byte
  obtain ⟨s2, hs2⟩ : ∃ s2, s2 = s.raw bl := ⟨_, rfl⟩
  have HL := Lib.hid (lent_ok hb0 (by have := HBL.out; omega))
  have HN1 := Lib.hid (fun (wy : World) (m : Nat) (v : Value) (g gc : Nat) (hw : WrIs wy base b m v s) (hb : base ≤ wy.heap.size) (hy : BytesIs wy (.slice (some ⟨g, 0, none⟩) bl.length gc) bl) => (show Calls Tryd.prog 44 #[.pointer (some ⟨b, 0, none⟩), .slice (some ⟨g, 0, none⟩) bl.length gc] wy fun r w' => r = .returned (.tuple #[]) ∧ WGoes wy w' base b m v s2 by rw [hs2]; exact wraw_ok hw hb hy (by have := HBL.out; omega)))
  have HN2 := Lib.hid (fun (wy : World) (v o : Value) (hv : VwIs wy base b' v o s) (hb : base ≤ wy.heap.size) (hy : BytesIs wy (.slice ob bl.length bc) bl) => (show Calls Tryd.prog 45 #[.pointer (some ⟨b', 0, none⟩), .slice ob bl.length bc] wy fun r w' => r = .returned (.tuple #[]) ∧ VwGoes wy w' base b' v o s2 by rw [hs2]; exact vwraw_ok hv hb hy (by have := HBL.out; omega)))
  clear hs2 hb0
  go_wp2_with fail
  refine HL.out.mono ?_
  rintro e w1 ⟨lv, rfl, hrow, hc1⟩
  obtain ⟨g, gc, gcur, rfl, hgb, hgc1, hgc2, -⟩ := row_at hrow (by omega)
  have HROW1 := Lib.hid (show w1.ownsRow wa.heap.size 5 1 (.slice (some ⟨g, 0, none⟩) (bl.length + 2) gc) (bl.length + 2) (u8s (marked bl)) from hrow)
  have HT1 := Lib.hid (HT0.out.addRow HBS.out hc1 HROW1.out)
  have HC1 := Lib.hid (HC0.out.trans hc1 fun _ _ h => h.elim)
  have HB1 := Lib.hid (Nat.le_trans HBS0.out HC1.out.size)
  have HCUT := Lib.hid (fun (wy : World) (h : wy.ownsRow base 5 1 (.slice (some ⟨g, 0, none⟩) (bl.length + 2) gc) (bl.length + 2) (u8s (marked bl))) => (show BytesIs wy (.slice (some ⟨g, 0, none⟩) bl.length gc) bl by
    have hrc := row_cut h (show bl.length ≤ bl.length + 2 by omega)
    have e1 : (u8s (marked bl)).take (bl.length * 1) = u8s bl := by unfold marked u8s; simp
    rw [e1] at hrc
    exact row_bytes hrc HBY.out))
  have y3_w1 := cell_of_blk (show blk w1 Y = some (opO 5 nn k (.slice ob bl.length bc) st) from HT1.out.mem (t := blkT Y (opO 5 nn k (.slice ob bl.length bc) st)) (by simp)) 3
  obtain ⟨m, v, hw, hnx⟩ := HT1.out.wr HB1.out
  have HW := Lib.hid hw
  have HNX := Lib.hid hnx
  have hg9 : bl.length ≤ gc := by omega
  unfold maxLen at hgc2
  clear hw hnx hrow hc1 x0 x1 y0 y1 y2 y3 y4 HL hgb
  have HR1 := Lib.hid (HN1.out _ _ _ g gc HW.out HB1.out (HCUT.out _ (HT1.out.mem (t := rowT base 5 1 (.slice (some ⟨g, 0, none⟩) (bl.length + 2) gc) (bl.length + 2) (u8s (marked bl))) (by simp))))
  go_wp2_with fail
  refine HR1.out.mono ?_
  rintro e w2 ⟨rfl, hg⟩
  have k2 := HNX.out _ _ hg
  have HT2 := Lib.hid k2.1
  have HC2 := Lib.hid (HC1.out.trans k2.2 fun _ _ h => h)
  have HB2 := Lib.hid (Nat.le_trans HBS0.out HC2.out.size)
  have y3_w2 := cell_of_blk (show blk w2 Y = some (opO 5 nn k (.slice ob bl.length bc) st) from HT2.out.mem (t := blkT Y (opO 5 nn k (.slice ob bl.length bc) st)) (by simp)) 3
  obtain ⟨v', o', hv, hnx⟩ := HT2.out.vw HB2.out
  have HV := Lib.hid hv
  have HNV := Lib.hid hnx
  have HR2 := Lib.hid (HN2.out _ _ _ HV.out HB2.out (HBB.out _ HC2.out))
  clear hg k2 hv hnx y3_w1
  go_wp2_with fail
  refine HR2.out.mono ?_
  rintro e w3 ⟨rfl, hg⟩
  have k3 := HNV.out _ _ hg
  have HT3 := Lib.hid k3.1
  have HC3 := Lib.hid (HC2.out.trans k3.2 fun _ _ h => h)
  have HB3 := Lib.hid (Nat.le_trans HBS0.out HC3.out.size)
  have y3_w3 := cell_of_blk (show blk w3 Y = some (opO 5 nn k (.slice ob bl.length bc) st) from HT3.out.mem (t := blkT Y (opO 5 nn k (.slice ob bl.length bc) st)) (by simp)) 3
  have HKP := Lib.hid (kept_ok (show w3.ownsRow base 5 1 (.slice (some ⟨g, 0, none⟩) (bl.length + 2) gc) (bl.length + 2) (u8s (marked bl)) from HT3.out.mem (t := rowT base 5 1 (.slice (some ⟨g, 0, none⟩) (bl.length + 2) gc) (bl.length + 2) (u8s (marked bl))) (by simp)) (HBB.out _ HC3.out))
  clear hg k3 y3_w2
  go_wp2_with fail
  refine HKP.out.mono ?_
  rintro e w4 ⟨rfl, hr4, hc4⟩
  have k4 := HT3.out.rest (w1 := w4) (R' := rowT base 5 1 (.slice (some ⟨g, 0, none⟩) (bl.length + 2) gc) (bl.length + 2) (u8s (List.replicate (bl.length + 2) 238)) :: blkT Y (opO 5 nn k (.slice ob bl.length bc) st) :: blkT X (mkO b b' pv sz dn) :: rowT base 3 1 pv pl.length (i64s pl) :: R) (C := Chg (fun i => base ≤ i) w3 w4) fun Z hz => ⟨hz.putAt Z HB3.out hc4 (fun i _ hi => show some i = some g by rw [hi]) hr4 fun i hi => .inl hi, hc4.mono fun i _ hi => hz.above (rowT base 5 1 (.slice (some ⟨g, 0, none⟩) (bl.length + 2) gc) (bl.length + 2) (u8s (marked bl))) (by simp) i (show some i = some g by rw [hi])⟩
  have HT4 := Lib.hid (k4.1.sub (List.sublist_cons_self _ _))
  have HC4 := Lib.hid (HC3.out.trans k4.2 fun _ _ h => h)
  have HB4 := Lib.hid (Nat.le_trans HBS0.out HC4.out.size)
  clear hr4 hc4 k4 y3_w3 HKP
  obtain ⟨m7, u7, hw7, -⟩ := HT4.out.wr HB4.out
  obtain ⟨x7, y7, hv7, -⟩ := HT4.out.vw HB4.out
  have HLN := Lib.hid (fun (j : Nat) => (show Calls Tryd.prog 59 #[.pointer (some ⟨b, 0, none⟩)] (w4.drewN j) fun e w' => e = .returned (.int .i64 s2.xs.length) ∧ w' = w4.drewN j from (wlen_ok (hw7.frame ((Chg.refl (fun _ => False) w4).drewN j) fun _ _ => id)).mono fun _ _ h => ⟨h.1, h.2.symm⟩))
  obtain ⟨yb, -, yy1, -⟩ := hv7.facts
  obtain ⟨oB, cB, rfl, -⟩ := row_form hv7.row
  have hll : ((s2.xs.length : Int) == (s2.xs.length : Int)) = true := by simp
  clear hw7 hv7
  go_upto_region 57 with (fail)
  go_quiet ((go_at_call 59; refine Calls.quiet_of_same (HLN.out _)))
  go_wp2
  go_ret
  exact ⟨rfl, ⟨bs, s2, pl, HF.out.more (by omega), by omega, HPI.out, pv, (HT4.out.still ((Chg.refl (fun _ => False) w4).drewN _)).sub (List.sublist_cons_self _ _)⟩, HC4.out.trans ((Chg.refl (fun _ => False) w4).drewN _) fun _ _ h => h.elim⟩

end Go.Proofs.YtfihpiommicdbaaDoor
