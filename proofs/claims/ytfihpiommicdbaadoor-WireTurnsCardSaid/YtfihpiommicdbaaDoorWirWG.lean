/- The law's maker of two writers: contracts of step: Last, Opens, Shuts, any. No condition. (Printed by genWG.py.) -/
import Derived.Test.YtfihpiommicdbaaDoorWirWF
namespace Go.Proofs.YtfihpiommicdbaaDoor
open Go.RowKit Go.Cl
set_option linter.unusedVariables false
set_option linter.unusedSimpArgs false
attribute [local go_sem] lt_add_one' blk_alloc_past blk_alloc_at blk_drew blk_setCell_ne

theorem row_not {base b b' X : Nat} {w : World} {pv : Value} {sz dn : Int} {n : Nat} {xs : List Value} (hbx : blk w X = some (mkO b b' pv sz dn)) (hrow : w.ownsRow base 3 1 pv n xs) : ¬ (some X = pv.ownBlock) := fun e => by
  obtain ⟨_, cur, hc⟩ := row_block hrow e.symm
  rw [hbx] at hc
  simp only [Option.some.injEq, Obj.cells.injEq] at hc
  exact absurd hc.2.1 (by decide)

set_option maxHeartbeats 4000000 in
set_option maxRecDepth 100000 in
theorem step_12 {w : World} {base B X b b' : Nat} {bs : BS} {s : WS} {pl : List Int} {sz dn : Int} {R : List Thing} (h : Maker base w B bs X b b' s pl sz dn R) (hbs : base ≤ w.heap.size) {n : Nat} (hf : bs.few n) (hn : n ≤ 999990) (hpl : pl.length ≤ 1000000) (hpi : ∀ p ∈ pl, I64 p) (nn k : Int) (hn0 : 0 ≤ nn) (hn1 : nn ≤ 18446744073709551615) (hk : I64 k) (ob : Option Addr) (bl : List Int) (bc : Nat) (hbl : bl.length ≤ 3000) (hbb : ∀ wy, Chg (fun i => base ≤ i) w wy → BytesIs wy (.slice ob bl.length bc) bl) (st : ByteArray) (hst : st.size ≤ 70000) :
    Calls Tryd.prog 20 #[.pointer (some ⟨X, 0, none⟩), .agg #[.int .i64 12, .int .u64 nn, .int .i64 k, .slice ob bl.length bc, .string st], .pointer (some ⟨B, 0, none⟩)] w (Stepped base w B n X b b' pl sz dn R) := by
  unfold Stepped
  have HF := Lib.hid hf
  have HN := Lib.hid hn
  have HPL := Lib.hid hpl
  have HPI := Lib.hid hpi
  have HKK := Lib.hid hk
  have HBL := Lib.hid hbl
  have HBB := Lib.hid hbb
  have HST := Lib.hid hst
  have HBS0 := Lib.hid hbs
  clear hf hn hpl hpi hk hbl hbb hst
  obtain ⟨pv, hT⟩ := h
  go_enter Tryd.func20, Tryd.ntmps20
  go_upto_region 1 with (fail)
  obtain ⟨wa, hwa⟩ : ∃ wa, wa = w.alloc (.cells #[.int .i64 12, .int .u64 nn, .int .i64 k, .slice ob bl.length bc, .string st] 50 (0, 0)) := ⟨_, rfl⟩
  obtain ⟨Y, hY⟩ : ∃ Y, Y = w.heap.size := ⟨_, rfl⟩
  have hc0 : Chg (fun _ => False) w wa := by rw [hwa]; exact (Chg.refl _ _).alloc _
  have hyb : blk wa Y = some (opO 12 nn k (.slice ob bl.length bc) st) := by rw [hwa, hY]; exact blk_alloc_at _ _ _ rfl
  have HC0 := Lib.hid (show Chg (fun i => base ≤ i) w wa from hc0.mono fun (i : Nat) _ (h : False) => h.elim)
  have HT0 := Lib.hid (hT.add (u := blkT Y (opO 12 nn k (.slice ob bl.length bc) st)) hbs hc0 hyb (fun i hi => by
    have hi : i = Y := hi
    omega))
  have HBS := Lib.hid (Nat.le_trans hbs hc0.size)
  have x0 := cell_of_blk (show blk wa X = some (mkO b b' pv sz dn) from HT0.out.mem (t := blkT X (mkO b b' pv sz dn)) (by simp)) 0
  have x1 := cell_of_blk (show blk wa X = some (mkO b b' pv sz dn) from HT0.out.mem (t := blkT X (mkO b b' pv sz dn)) (by simp)) 1
  have y0 := cell_of_blk hyb 0
  have y1 := cell_of_blk hyb 1
  have y2 := cell_of_blk hyb 2
  have y3 := cell_of_blk hyb 3
  have y4 := cell_of_blk hyb 4
  rw [← hwa, ← hY]
  clear hwa hY hc0 hT hyb hbs
  have hbx : blk wa X = some (mkO b b' pv sz dn) := HT0.out.mem (t := blkT X (mkO b b' pv sz dn)) (by simp)
  have hrow : wa.ownsRow base 3 1 pv pl.length (i64s pl) := HT0.out.mem (t := rowT base 3 1 pv pl.length (i64s pl)) (by simp)
  have x2 := cell_of_blk hbx 2
  by_cases h0 : 0 < pl.length
  · obtain ⟨gP, cP, curP, rfl, -, hp1, hp2, -, -, hat⟩ := row_at hrow h0
    unfold maxLen at hp2
    have h0' : (0 : Int) < (pl.length : Int) := by omega
    have hpb := pickI_bd k pl.length (by omega)
    have HPK := Lib.hid (fun (j : Nat) => (show Calls Tryd.prog 15 #[.int .i64 k, .int .i64 (pl.length : Int)] (wa.drewN j) fun e w' => e = .returned (.int .i64 (pickI k pl.length)) ∧ w' = wa.drewN j from (pick_any k pl.length HKK.out (by omega) (by have := HPL.out; omega) _).mono fun _ _ h => ⟨h.1, h.2.symm⟩))
    obtain ⟨P, hP⟩ := Int.eq_ofNat_of_zero_le hpb.1
    rw [hP] at HPK hpb
    have hPl : P < pl.length := by omega
    have hPl' : (P : Int) < (pl.length : Int) := by omega
    have hcell := hat P (.int .i64 pl[P]) (by rw [List.getElem?_map, List.getElem?_eq_getElem hPl]; rfl)
    have HQI := Lib.hid (HPI.out pl[P] (List.getElem_mem hPl))
    generalize pl[P] = q at *
    have HX2 := Lib.hid hbx
    clear hrow hat hP hpb hbx
    go_upto_region 52 with (fail)
    go_quiet ((go_at_call 15; refine Calls.quiet_of_same (HPK.out _)))
    obtain ⟨w1, hw1⟩ : ∃ w1, w1 = wa.drewN nq := ⟨_, rfl⟩
    have hc1 : Chg (fun _ => False) wa w1 := by rw [hw1]; exact (Chg.refl _ _).drewN _
    rw [← hw1]
    have HT1 := Lib.hid (HT0.out.still hc1)
    have HC1 := Lib.hid (HC0.out.trans hc1 fun _ _ h => h.elim)
    have HB1 := Lib.hid (Nat.le_trans HBS0.out HC1.out.size)
    clear hw1 hc1 x0 x1 x2 y0 y1 y2 y3 y4 hcell hp1 hp2 h0'
    obtain ⟨s2, hs2⟩ : ∃ s2, s2 = s.shut q := ⟨_, rfl⟩
    have HM1 := Lib.hid (fun (wy : World) (m : Nat) (v : Value) (hw : WrIs wy base b m v s) => (show Calls Tryd.prog 46 #[.pointer (some ⟨b, 0, none⟩), .int .i64 q] wy fun r w' => r = .returned (.tuple #[]) ∧ WGoes wy w' base b m v s2 by rw [hs2]; exact wshut_ok hw q HQI.out))
    have HM2 := Lib.hid (fun (wy : World) (v o : Value) (hv : VwIs wy base b' v o s) (hb : base ≤ wy.heap.size) => (show Calls Tryd.prog 47 #[.pointer (some ⟨b', 0, none⟩), .int .i64 q] wy fun r w' => r = .returned (.tuple #[]) ∧ VwGoes wy w' base b' v o s2 by rw [hs2]; exact vwshut_ok hv hb q HQI.out))
    clear hs2
    obtain ⟨m, v, hw, hnx⟩ := HT1.out.wr HB1.out
    have HW := Lib.hid hw
    have HNX := Lib.hid hnx
    clear hw hnx
    go_wp2_with fail
    refine (HM1.out _ _ _ HW.out).mono ?_
    rintro e w2 ⟨rfl, hg⟩
    have k1 := HNX.out _ _ hg
    have HTa := Lib.hid k1.1
    have HCa := Lib.hid (HC1.out.trans k1.2 fun _ _ h => h)
    have HBa := Lib.hid (Nat.le_trans HBS0.out HCa.out.size)
    obtain ⟨v', o', hv, hnx⟩ := HTa.out.vw HBa.out
    have HV := Lib.hid hv
    have HNV := Lib.hid hnx
    clear hg k1 hv hnx
    go_wp2_with fail
    refine (HM2.out _ _ _ HV.out HBa.out).mono ?_
    rintro e w3 ⟨rfl, hg⟩
    have k2 := HNV.out _ _ hg
    have HTb := Lib.hid k2.1
    have HCb := Lib.hid (HCa.out.trans k2.2 fun _ _ h => h)
    have HBb := Lib.hid (Nat.le_trans HBS0.out HCb.out.size)
    clear hg k2
    obtain ⟨m7, u7, hw7, -⟩ := HTb.out.wr HBb.out
    obtain ⟨x7, y7, hv7, -⟩ := HTb.out.vw HBb.out
    have HLN := Lib.hid (fun (j : Nat) => (show Calls Tryd.prog 59 #[.pointer (some ⟨b, 0, none⟩)] (w3.drewN j) fun e w' => e = .returned (.int .i64 s2.xs.length) ∧ w' = w3.drewN j from (wlen_ok (hw7.frame ((Chg.refl (fun _ => False) w3).drewN j) fun _ _ => id)).mono fun _ _ h => ⟨h.1, h.2.symm⟩))
    obtain ⟨yb, -, yy1, -⟩ := hv7.facts
    obtain ⟨oB, cB, rfl, -⟩ := row_form hv7.row
    have hll : ((s2.xs.length : Int) == (s2.xs.length : Int)) = true := by simp
    clear hw7 hv7
    go_upto_region 57 with (fail)
    go_quiet ((go_at_call 59; refine Calls.quiet_of_same (HLN.out _)))
    go_wp2
    go_ret
    exact ⟨rfl, ⟨bs, s2, pl, HF.out.more (by omega), by omega, HPI.out, _, (HTb.out.still ((Chg.refl (fun _ => False) w3).drewN _)).sub (List.sublist_cons_self _ _)⟩, HCb.out.trans ((Chg.refl (fun _ => False) w3).drewN _) fun _ _ h => h.elim⟩
  · have h0' : ¬ (0 : Int) < (pl.length : Int) := by omega
    obtain ⟨oP, cP, rfl, -⟩ := row_form hrow
    clear hrow hbx h0
    obtain ⟨m7, u7, hw7, -⟩ := HT0.out.wr HBS.out
    obtain ⟨x7, y7, hv7, -⟩ := HT0.out.vw HBS.out
    have HLN := Lib.hid (fun (j : Nat) => (show Calls Tryd.prog 59 #[.pointer (some ⟨b, 0, none⟩)] (wa.drewN j) fun e w' => e = .returned (.int .i64 s.xs.length) ∧ w' = wa.drewN j from (wlen_ok (hw7.frame ((Chg.refl (fun _ => False) wa).drewN j) fun _ _ => id)).mono fun _ _ h => ⟨h.1, h.2.symm⟩))
    obtain ⟨yb, -, yy1, -⟩ := hv7.facts
    obtain ⟨oB, cB, rfl, -⟩ := row_form hv7.row
    have hll : ((s.xs.length : Int) == (s.xs.length : Int)) = true := by simp
    clear hw7 hv7
    go_upto_region 57 with (fail)
    go_quiet ((go_at_call 59; refine Calls.quiet_of_same (HLN.out _)))
    go_wp2
    clear h0' x0 x1 x2 y0 y1 y2 y3 y4
    go_ret
    exact ⟨rfl, ⟨bs, s, pl, HF.out.more (by omega), by omega, HPI.out, _, (HT0.out.still ((Chg.refl (fun _ => False) wa).drewN _)).sub (List.sublist_cons_self _ _)⟩, HC0.out.trans ((Chg.refl (fun _ => False) wa).drewN _) fun _ _ h => h.elim⟩

set_option maxHeartbeats 4000000 in
set_option maxRecDepth 100000 in
theorem step_13 {w : World} {base B X b b' : Nat} {bs : BS} {s : WS} {pl : List Int} {sz dn : Int} {R : List Thing} (h : Maker base w B bs X b b' s pl sz dn R) (hbs : base ≤ w.heap.size) {n : Nat} (hf : bs.few n) (hn : n ≤ 999990) (hpl : pl.length ≤ 1000000) (hpi : ∀ p ∈ pl, I64 p) (nn k : Int) (hn0 : 0 ≤ nn) (hn1 : nn ≤ 18446744073709551615) (hk : I64 k) (ob : Option Addr) (bl : List Int) (bc : Nat) (hbl : bl.length ≤ 3000) (hbb : ∀ wy, Chg (fun i => base ≤ i) w wy → BytesIs wy (.slice ob bl.length bc) bl) (st : ByteArray) (hst : st.size ≤ 70000) :
    Calls Tryd.prog 20 #[.pointer (some ⟨X, 0, none⟩), .agg #[.int .i64 13, .int .u64 nn, .int .i64 k, .slice ob bl.length bc, .string st], .pointer (some ⟨B, 0, none⟩)] w (Stepped base w B n X b b' pl sz dn R) := by
  unfold Stepped
  have HF := Lib.hid hf
  have HN := Lib.hid hn
  have HPL := Lib.hid hpl
  have HPI := Lib.hid hpi
  have HKK := Lib.hid hk
  have HBL := Lib.hid hbl
  have HBB := Lib.hid hbb
  have HST := Lib.hid hst
  have HBS0 := Lib.hid hbs
  clear hf hn hpl hpi hk hbl hbb hst
  obtain ⟨pv, hT⟩ := h
  go_enter Tryd.func20, Tryd.ntmps20
  go_upto_region 1 with (fail)
  obtain ⟨wa, hwa⟩ : ∃ wa, wa = w.alloc (.cells #[.int .i64 13, .int .u64 nn, .int .i64 k, .slice ob bl.length bc, .string st] 50 (0, 0)) := ⟨_, rfl⟩
  obtain ⟨Y, hY⟩ : ∃ Y, Y = w.heap.size := ⟨_, rfl⟩
  have hc0 : Chg (fun _ => False) w wa := by rw [hwa]; exact (Chg.refl _ _).alloc _
  have hyb : blk wa Y = some (opO 13 nn k (.slice ob bl.length bc) st) := by rw [hwa, hY]; exact blk_alloc_at _ _ _ rfl
  have HC0 := Lib.hid (show Chg (fun i => base ≤ i) w wa from hc0.mono fun (i : Nat) _ (h : False) => h.elim)
  have HT0 := Lib.hid (hT.add (u := blkT Y (opO 13 nn k (.slice ob bl.length bc) st)) hbs hc0 hyb (fun i hi => by
    have hi : i = Y := hi
    omega))
  have HBS := Lib.hid (Nat.le_trans hbs hc0.size)
  have x0 := cell_of_blk (show blk wa X = some (mkO b b' pv sz dn) from HT0.out.mem (t := blkT X (mkO b b' pv sz dn)) (by simp)) 0
  have x1 := cell_of_blk (show blk wa X = some (mkO b b' pv sz dn) from HT0.out.mem (t := blkT X (mkO b b' pv sz dn)) (by simp)) 1
  have y0 := cell_of_blk hyb 0
  have y1 := cell_of_blk hyb 1
  have y2 := cell_of_blk hyb 2
  have y3 := cell_of_blk hyb 3
  have y4 := cell_of_blk hyb 4
  rw [← hwa, ← hY]
  clear hwa hY hc0 hT hyb hbs
  obtain ⟨i0, hi, hz0, hz1, hz2⟩ := info3w
  have hpb := pickI_bd k 300 (by omega)
  have HPK := Lib.hid (fun (wy : World) => (show Calls Tryd.prog 15 #[.int .i64 k, .int .i64 300] wy fun e w' => e = .returned (.int .i64 (pickI k 300)) ∧ wy = w' from pick_any k 300 HKK.out (by omega) (by omega) _))
  obtain ⟨P, hP⟩ := Int.eq_ofNat_of_zero_le hpb.1
  rw [hP] at HPK hpb
  have HPB := Lib.hid (show P < 300 by omega)
  clear hP hpb
  go_wp2
  go_loopg [9, 13] P (fun g s9 s13 wr => ∃ (j : Nat) (s' : WS) (pl' : List Int), j + g = P ∧ s13 = .int .i64 j ∧ s9 = .bool true ∧ pl'.length ≤ pl.length + j ∧ (∀ p ∈ pl', I64 p) ∧ (∃ pv', Two base wr B bs b b' s' s' (blkT Y (opO 13 nn k (.slice ob bl.length bc) st) :: blkT X (mkO b b' pv' sz dn) :: rowT base 3 1 pv' pl'.length (i64s pl') :: R)) ∧ Chg (fun i => base ≤ i) w wr)
  case atStart => exact ⟨0, s, pl, by omega, rfl, rfl, by omega, HPI.out, ⟨pv, HT0.out⟩, HC0.out⟩
  case round =>
    obtain ⟨j, s', pl', hj, rfl, rfl, hl', hi', ⟨pv', hT'⟩, hc'⟩ := hrel
    have HJ := Lib.hid hj
    have HL' := Lib.hid hl'
    have HI' := Lib.hid hi'
    have HTr := Lib.hid hT'
    have HCr := Lib.hid hc'
    have HBr := Lib.hid (Nat.le_trans HBS0.out hc'.size)
    have y2r := cell_of_blk (show blk wr Y = some (opO 13 nn k (.slice ob bl.length bc) st) from hT'.mem (t := blkT Y (opO 13 nn k (.slice ob bl.length bc) st)) (by simp)) 2
    clear hl' hi' hT' hc' x0 x1 y0 y1 y2 y3 y4
    by_cases hlt : j < P
    · have hlt' : (j : Int) < (P : Int) := by omega
      have HLT := Lib.hid hlt
      have HPL' := Lib.hid (show pl'.length ≤ 1000300 by have := HL'.out; have := HPL.out; have := HPB.out; omega)
      obtain ⟨s2, hs2⟩ : ∃ s2, s2 = s'.opened := ⟨_, rfl⟩
      obtain ⟨q, hq⟩ : ∃ q, q = s'.openV := ⟨_, rfl⟩
      have hqb := openV_bd HTr.out.fine
      rw [← hq] at hqb
      have HQB := Lib.hid hqb
      have HN1 := Lib.hid (fun (wy : World) (m : Nat) (v : Value) (hw : WrIs wy base b m v s') (hb : base ≤ wy.heap.size) => (show Calls Tryd.prog 42 #[.pointer (some ⟨b, 0, none⟩)] wy fun r w' => r = .returned (.int .i64 q) ∧ WGoes wy w' base b m v s2 by rw [hs2, hq]; exact wopen_ok hw hb))
      have HN2 := Lib.hid (fun (wy : World) (v o : Value) (hv : VwIs wy base b' v o s') (hb : base ≤ wy.heap.size) => (show Calls Tryd.prog 43 #[.pointer (some ⟨b', 0, none⟩)] wy fun r w' => r = .returned (.int .i64 q) ∧ VwGoes wy w' base b' v o s2 by rw [hs2, hq]; exact vwopen_ok hv hb))
      have hqq : (q == q) = true := by simp
      clear hs2 hq hqb hj hlt
      obtain ⟨m, v, hw, hnx⟩ := HTr.out.wr HBr.out
      have HW := Lib.hid hw
      have HNX := Lib.hid hnx
      clear hw hnx
      go_wp2_with fail
      refine (HPK.out _).mono ?_
      rintro e w0 ⟨rfl, rfl⟩
      go_wp2_with fail
      refine (HN1.out _ _ _ HW.out HBr.out).mono ?_
      rintro e w1 ⟨rfl, hg⟩
      have k1 := HNX.out _ _ hg
      have HT1 := Lib.hid k1.1
      have HC1 := Lib.hid (HCr.out.trans k1.2 fun _ _ h => h)
      have HB1 := Lib.hid (Nat.le_trans HBS0.out HC1.out.size)
      obtain ⟨v', o', hv, hnx⟩ := HT1.out.vw HB1.out
      have HV := Lib.hid hv
      have HNV := Lib.hid hnx
      clear hg k1 hv hnx y2r
      go_wp2_with fail
      refine (HN2.out _ _ _ HV.out HB1.out).mono ?_
      rintro e w2 ⟨rfl, hg⟩
      have k2 := HNV.out _ _ hg
      have HT2 := Lib.hid k2.1
      have HC2 := Lib.hid (HC1.out.trans k2.2 fun _ _ h => h)
      have HB2 := Lib.hid (Nat.le_trans HBS0.out HC2.out.size)
      have hrow : w2.ownsRow base 3 1 pv' pl'.length (i64s pl') := HT2.out.mem (t := rowT base 3 1 pv' pl'.length (i64s pl')) (by simp)
      have hbx : blk w2 X = some (mkO b b' pv' sz dn) := HT2.out.mem (t := blkT X (mkO b b' pv' sz dn)) (by simp)
      have HNXX := Lib.hid (row_not hbx hrow)
      obtain ⟨oP, cP, rfl, -⟩ := row_form hrow
      have xx2 := cell_of_blk hbx 2
      have HROW := Lib.hid hrow
      clear hg k2 hrow hbx
      go_upto_region 36 with (at_builtin; go_loud (refine wpList_app rfl _ _ 45 rfl base 3 i0 (.int .i64 0) 1 8 Tryd.underlying45 hi hz0 hz1 hz2 rfl (by decide) (.slice oP pl'.length cP) pl'.length (i64s pl') (by rfl) (row_frame HROW.out ((Chg.refl (fun _ => False) w2).alloc _) fun _ _ => id) _ 1 1 [.int .i64 q] (by rfl) (SrcIs.some (by rfl) (by simp [Value.oneCell']) (World.news_of_block (heap_alloc_new _ _))) (fun h => by cases h) (by have := HPL'.out; unfold maxLen; omega) (by have := HPL'.out; omega) (by have := HB2.out; simp; omega) ?_); intro v3 w3 hown hgrow hlie; have HO := Lib.hid hown; have hc3 : Chg (fun i => some i = (Value.slice oP pl'.length cP).ownBlock) w2 w3 := ((Chg.refl _ w2).alloc _).trans (Chg.of_grown hgrow) fun _ _ h => h; have HLie := Lib.hid (show ∀ i, some i = v3.ownBlock → some i = (Value.slice oP pl'.length cP).ownBlock ∨ w2.heap.size ≤ i from fun i hi => hlie.elim (fun h => .inl (hi.trans h)) fun h => .inr (by rw [h] at hi; cases hi; simp)); have k3 := HT2.out.setPl HB2.out hc3 hown HLie.out; have hx3 := hc3.blk' (show blk w2 X = some (mkO b b' (.slice oP pl'.length cP) sz dn) from HT2.out.mem (t := blkT X (mkO b b' (.slice oP pl'.length cP) sz dn)) (by simp)) (fun e => HNXX.out e); have X2 := cell_of_blk hx3 2; have Z2 := frozen_of_blk hx3 2; have XL := blk_lt hx3; have K3 := Lib.hid k3; clear hown hgrow hlie hc3 k3 hx3; obtain ⟨oP3, cP3, rfl, -⟩ := row_form HO.out)
      obtain ⟨w4, hw4⟩ : ∃ w4, w4 = w3.setCell ⟨X, 2, none⟩ (.slice oP3 (pl'.length + 1) cP3) := ⟨_, rfl⟩
      rw [← hw4] at K3 ⊢
      have e9 : i64s pl' ++ [Value.int .i64 q] = i64s (pl' ++ [q]) := by simp [i64s]
      have e8 : pl'.length + 1 = (pl' ++ [q]).length := by simp
      rw [e9, e8] at K3
      have HT4 := Lib.hid K3.out.1
      have HC4 := Lib.hid (HC2.out.trans K3.out.2 fun _ _ h => h)
      have HPI4 := Lib.hid (fun p (hp : p ∈ pl' ++ [q]) => (show I64 p from (List.mem_append.1 hp).elim (HI'.out p) fun h => by
        simp only [List.mem_cons, List.not_mem_nil, or_false] at h
        subst h
        have := HQB.out
        unfold I64
        omega))
      have HL4 := Lib.hid (show (pl' ++ [q]).length ≤ pl.length + (j + 1) by rw [List.length_append]; have := HL'.out; simp; omega)
      have hp3 := HPB.out
      clear hw4 X2 Z2 XL xx2 K3 e9 e8
      go_wp2
      go_roundg (P - (j + 1))
      case measure => have := HLT.out; have := HJ.out; omega
      case rel => exact ⟨j + 1, s2, pl' ++ [q], by have := HLT.out; omega, by go_num, rfl, HL4.out, HPI4.out, ⟨_, HT4.out⟩, HC4.out⟩
    · have hje : j = P := by omega
      subst hje
      clear hj hlt
      go_wp2_with fail
      refine (HPK.out _).mono ?_
      rintro e w0 ⟨rfl, rfl⟩
      obtain ⟨m7, u7, hw7, -⟩ := HTr.out.wr HBr.out
      obtain ⟨x7, y7, hv7, -⟩ := HTr.out.vw HBr.out
      have HLN := Lib.hid (fun (j : Nat) => (show Calls Tryd.prog 59 #[.pointer (some ⟨b, 0, none⟩)] (wr.drewN j) fun e w' => e = .returned (.int .i64 s'.xs.length) ∧ w' = wr.drewN j from (wlen_ok (hw7.frame ((Chg.refl (fun _ => False) wr).drewN j) fun _ _ => id)).mono fun _ _ h => ⟨h.1, h.2.symm⟩))
      obtain ⟨yb, -, yy1, -⟩ := hv7.facts
      obtain ⟨oB, cB, rfl, -⟩ := row_form hv7.row
      have hll : ((s'.xs.length : Int) == (s'.xs.length : Int)) = true := by simp
      clear hw7 hv7
      go_upto_region 57 with (fail)
      go_quiet ((go_at_call 59; refine Calls.quiet_of_same (HLN.out _)))
      go_wp2
      go_ret
      exact ⟨rfl, ⟨bs, s', pl', HF.out.more (by omega), by have := HL'.out; have := HPB.out; omega, HI'.out, _, (HTr.out.still ((Chg.refl (fun _ => False) wr).drewN _)).sub (List.sublist_cons_self _ _)⟩, HCr.out.trans ((Chg.refl (fun _ => False) wr).drewN _) fun _ _ h => h.elim⟩

set_option maxHeartbeats 4000000 in
set_option maxRecDepth 100000 in
theorem step_14 {w : World} {base B X b b' : Nat} {bs : BS} {s : WS} {pl : List Int} {sz dn : Int} {R : List Thing} (h : Maker base w B bs X b b' s pl sz dn R) (hbs : base ≤ w.heap.size) {n : Nat} (hf : bs.few n) (hn : n ≤ 999990) (hpl : pl.length ≤ 1000000) (hpi : ∀ p ∈ pl, I64 p) (nn k : Int) (hn0 : 0 ≤ nn) (hn1 : nn ≤ 18446744073709551615) (hk : I64 k) (ob : Option Addr) (bl : List Int) (bc : Nat) (hbl : bl.length ≤ 3000) (hbb : ∀ wy, Chg (fun i => base ≤ i) w wy → BytesIs wy (.slice ob bl.length bc) bl) (st : ByteArray) (hst : st.size ≤ 70000) :
    Calls Tryd.prog 20 #[.pointer (some ⟨X, 0, none⟩), .agg #[.int .i64 14, .int .u64 nn, .int .i64 k, .slice ob bl.length bc, .string st], .pointer (some ⟨B, 0, none⟩)] w (Stepped base w B n X b b' pl sz dn R) := by
  unfold Stepped
  have HF := Lib.hid hf
  have HN := Lib.hid hn
  have HPL := Lib.hid hpl
  have HPI := Lib.hid hpi
  have HKK := Lib.hid hk
  have HBL := Lib.hid hbl
  have HBB := Lib.hid hbb
  have HST := Lib.hid hst
  have HBS0 := Lib.hid hbs
  clear hf hn hpl hpi hk hbl hbb hst
  obtain ⟨pv, hT⟩ := h
  go_enter Tryd.func20, Tryd.ntmps20
  go_upto_region 1 with (fail)
  obtain ⟨wa, hwa⟩ : ∃ wa, wa = w.alloc (.cells #[.int .i64 14, .int .u64 nn, .int .i64 k, .slice ob bl.length bc, .string st] 50 (0, 0)) := ⟨_, rfl⟩
  obtain ⟨Y, hY⟩ : ∃ Y, Y = w.heap.size := ⟨_, rfl⟩
  have hc0 : Chg (fun _ => False) w wa := by rw [hwa]; exact (Chg.refl _ _).alloc _
  have hyb : blk wa Y = some (opO 14 nn k (.slice ob bl.length bc) st) := by rw [hwa, hY]; exact blk_alloc_at _ _ _ rfl
  have HC0 := Lib.hid (show Chg (fun i => base ≤ i) w wa from hc0.mono fun (i : Nat) _ (h : False) => h.elim)
  have HT0 := Lib.hid (hT.add (u := blkT Y (opO 14 nn k (.slice ob bl.length bc) st)) hbs hc0 hyb (fun i hi => by
    have hi : i = Y := hi
    omega))
  have HBS := Lib.hid (Nat.le_trans hbs hc0.size)
  have x0 := cell_of_blk (show blk wa X = some (mkO b b' pv sz dn) from HT0.out.mem (t := blkT X (mkO b b' pv sz dn)) (by simp)) 0
  have x1 := cell_of_blk (show blk wa X = some (mkO b b' pv sz dn) from HT0.out.mem (t := blkT X (mkO b b' pv sz dn)) (by simp)) 1
  have y0 := cell_of_blk hyb 0
  have y1 := cell_of_blk hyb 1
  have y2 := cell_of_blk hyb 2
  have y3 := cell_of_blk hyb 3
  have y4 := cell_of_blk hyb 4
  rw [← hwa, ← hY]
  clear hwa hY hc0 hT hyb hbs
  go_wp2
  go_loopg [16] pl.length (fun g s16 wr => ∃ (s' : WS) (pl' : List Int), pl'.length = g ∧ pl'.length ≤ pl.length ∧ (∀ p ∈ pl', I64 p) ∧ (∃ pv', Two base wr B bs b b' s' s' (blkT Y (opO 14 nn k (.slice ob bl.length bc) st) :: blkT X (mkO b b' pv' sz dn) :: rowT base 3 1 pv' pl'.length (i64s pl') :: R)) ∧ Chg (fun i => base ≤ i) w wr)
  case atStart => exact ⟨s, pl, rfl, Nat.le_refl _, HPI.out, ⟨pv, HT0.out⟩, HC0.out⟩
  case round =>
    obtain ⟨s', pl', hg, hl', hi', ⟨pv', hT'⟩, hc'⟩ := hrel
    have HG := Lib.hid hg
    have HL' := Lib.hid hl'
    have HI' := Lib.hid hi'
    have HTr := Lib.hid hT'
    have HCr := Lib.hid hc'
    have HBr := Lib.hid (Nat.le_trans HBS0.out hc'.size)
    have hbx : blk wr X = some (mkO b b' pv' sz dn) := hT'.mem (t := blkT X (mkO b b' pv' sz dn)) (by simp)
    have hrow : wr.ownsRow base 3 1 pv' pl'.length (i64s pl') := hT'.mem (t := rowT base 3 1 pv' pl'.length (i64s pl')) (by simp)
    clear hg hl' hi' hT' hc' x0 x1 y0 y1 y2 y3 y4
    have x2 := cell_of_blk hbx 2
    have z2 := frozen_of_blk hbx 2
    have xl := blk_lt hbx
    by_cases h0 : 0 < pl'.length
    · obtain ⟨gP, cP, curP, rfl, -, hp1, hp2, -, -, hat⟩ := row_at hrow h0
      unfold maxLen at hp2
      have h0' : (0 : Int) < (pl'.length : Int) := by omega
      obtain ⟨t, ht⟩ : ∃ t, t = pl'.length - 1 := ⟨_, rfl⟩
      have htl : t < pl'.length := by omega
      have hcell := hat t (.int .i64 pl'[t]) (by rw [List.getElem?_map, List.getElem?_eq_getElem htl]; rfl)
      have HQI := Lib.hid (HI'.out pl'[t] (List.getElem_mem htl))
      have wk1 : IntKind.i64.wrap ((pl'.length : Int) - 1) = (t : Int) := by have := HL'.out; have := HPL.out; rw [IntKind.wrap_i64]; omega
      have wk2 : ((pl'.length : Int) - 1) = (t : Int) := by omega
      have ht2 : (t : Int) < (pl'.length : Int) := by omega
      have ht3 : (t : Int) ≤ (cP : Int) := by omega
      have hcut : wr.ownsRow base 3 1 (.slice (some ⟨gP, 0, none⟩) t cP) (pl'.take t).length (i64s (pl'.take t)) := by
        have h1 := row_cut hrow (show t ≤ pl'.length by omega)
        rw [Nat.mul_one, i64s, ← List.map_take] at h1
        rw [List.length_take, Nat.min_eq_left (by omega)]
        exact h1
      have HCUT := Lib.hid hcut
      have HTL := Lib.hid htl
      have HT1 := Lib.hid ht
      have HI4 := Lib.hid (fun p (hp : p ∈ pl'.take t) => HI'.out p (List.mem_of_mem_take hp))
      generalize pl'[t] = q at *
      clear hrow hat hbx h0 ht hcut htl
      go_wp2
      go_quiet (fail)
      obtain ⟨wq, hwq⟩ : ∃ wq, wq = wr.drewN nq := ⟨_, rfl⟩
      have hcq : Chg (fun _ => False) wr wq := by rw [hwq]; exact (Chg.refl _ _).drewN _
      rw [← hwq]
      have HTq := Lib.hid (HTr.out.still hcq)
      have HCq := Lib.hid (HCr.out.trans hcq fun _ _ h => h.elim)
      have HBq := Lib.hid (Nat.le_trans HBS0.out HCq.out.size)
      have hbq : blk wq X = some (mkO b b' (.slice (some ⟨gP, 0, none⟩) pl'.length cP) sz dn) := HTq.out.mem (t := blkT X (mkO b b' (.slice (some ⟨gP, 0, none⟩) pl'.length cP) sz dn)) (by simp)
      have X2 := cell_of_blk hbq 2
      have Z2 := frozen_of_blk hbq 2
      have XL := blk_lt hbq
      have K3 := Lib.hid (HTq.out.setPl HBq.out (Chg.refl _ _) (row_frame HCUT.out hcq fun _ _ => id) fun i hi => .inl hi)
      clear hwq hcq hbq x2 z2 xl hcell hp1
      go_wp2
      go_region
      all_goals
        obtain ⟨w4, hw4⟩ : ∃ w4, w4 = (wq.setCell ⟨X, 2, none⟩ (.slice (some ⟨gP, 0, none⟩) t cP)).drew := ⟨_, rfl⟩
        have hc4 : Chg (fun _ => False) (wq.setCell ⟨X, 2, none⟩ (.slice (some ⟨gP, 0, none⟩) t cP)) w4 := by rw [hw4]; exact (Chg.refl _ _).drew
        rw [← hw4]
        have HT4 := Lib.hid (K3.out.1.still hc4)
        have HC4 := Lib.hid (HCq.out.trans (K3.out.2.trans hc4 fun _ _ h => h.elim) fun _ _ h => h)
        have HB4 := Lib.hid (Nat.le_trans HBS0.out HC4.out.size)
        clear hw4 hc4 X2 Z2 XL wk1 wk2 ht2 ht3 h0'
        obtain ⟨s2, hs2⟩ : ∃ s2, s2 = s'.shut q := ⟨_, rfl⟩
        have HM1 := Lib.hid (fun (wy : World) (m : Nat) (v : Value) (hw : WrIs wy base b m v s') => (show Calls Tryd.prog 46 #[.pointer (some ⟨b, 0, none⟩), .int .i64 q] wy fun r w' => r = .returned (.tuple #[]) ∧ WGoes wy w' base b m v s2 by rw [hs2]; exact wshut_ok hw q HQI.out))
        have HM2 := Lib.hid (fun (wy : World) (v o : Value) (hv : VwIs wy base b' v o s') (hb : base ≤ wy.heap.size) => (show Calls Tryd.prog 47 #[.pointer (some ⟨b', 0, none⟩), .int .i64 q] wy fun r w' => r = .returned (.tuple #[]) ∧ VwGoes wy w' base b' v o s2 by rw [hs2]; exact vwshut_ok hv hb q HQI.out))
        clear hs2
        obtain ⟨m, v, hw, hnx⟩ := HT4.out.wr HB4.out
        have HW := Lib.hid hw
        have HNX := Lib.hid hnx
        clear hw hnx
        go_wp2_with fail
        refine (HM1.out _ _ _ HW.out).mono ?_
        rintro e w5 ⟨rfl, hg⟩
        have k1 := HNX.out _ _ hg
        have HTa := Lib.hid k1.1
        have HCa := Lib.hid (HC4.out.trans k1.2 fun _ _ h => h)
        have HBa := Lib.hid (Nat.le_trans HBS0.out HCa.out.size)
        obtain ⟨v', o', hv, hnx⟩ := HTa.out.vw HBa.out
        have HV := Lib.hid hv
        have HNV := Lib.hid hnx
        clear hg k1 hv hnx
        go_wp2_with fail
        refine (HM2.out _ _ _ HV.out HBa.out).mono ?_
        rintro e w6 ⟨rfl, hg⟩
        have k2 := HNV.out _ _ hg
        have HTb := Lib.hid k2.1
        have HCb := Lib.hid (HCa.out.trans k2.2 fun _ _ h => h)
        have HBb := Lib.hid (Nat.le_trans HBS0.out HCb.out.size)
        clear hg k2
        go_wp2
        go_roundg t
        case measure => have := HTL.out; have := HG.out; omega
        case rel => exact ⟨s2, pl'.take t, by rw [List.length_take]; have := HTL.out; omega, by rw [List.length_take]; have := HL'.out; omega, HI4.out, ⟨_, HTb.out⟩, HCb.out⟩
    · have h0' : ¬ (0 : Int) < (pl'.length : Int) := by omega
      have HL0 := Lib.hid hbx
      obtain ⟨oP, cP, rfl, -⟩ := row_form hrow
      clear hrow hbx h0
      obtain ⟨m7, u7, hw7, -⟩ := HTr.out.wr HBr.out
      obtain ⟨x7, y7, hv7, -⟩ := HTr.out.vw HBr.out
      have HLN := Lib.hid (fun (j : Nat) => (show Calls Tryd.prog 59 #[.pointer (some ⟨b, 0, none⟩)] (wr.drewN j) fun e w' => e = .returned (.int .i64 s'.xs.length) ∧ w' = wr.drewN j from (wlen_ok (hw7.frame ((Chg.refl (fun _ => False) wr).drewN j) fun _ _ => id)).mono fun _ _ h => ⟨h.1, h.2.symm⟩))
      obtain ⟨yb, -, yy1, -⟩ := hv7.facts
      obtain ⟨oB, cB, rfl, -⟩ := row_form hv7.row
      have hll : ((s'.xs.length : Int) == (s'.xs.length : Int)) = true := by simp
      clear hw7 hv7
      go_upto_region 57 with (fail)
      go_quiet ((go_at_call 59; refine Calls.quiet_of_same (HLN.out _)))
      go_wp2
      clear h0' x2 z2 xl
      go_ret
      exact ⟨rfl, ⟨bs, s', pl', HF.out.more (by omega), by have := HL'.out; omega, HI'.out, _, (HTr.out.still ((Chg.refl (fun _ => False) wr).drewN _)).sub (List.sublist_cons_self _ _)⟩, HCr.out.trans ((Chg.refl (fun _ => False) wr).drewN _) fun _ _ h => h.elim⟩


/-- Any step. -/
theorem step_any {w : World} {base B X b b' : Nat} {bs : BS} {s : WS} {pl : List Int} {sz dn : Int} {R : List Thing} (h : Maker base w B bs X b b' s pl sz dn R) (hbs : base ≤ w.heap.size) {n : Nat} (hf : bs.few n) (hn : n ≤ 999990) (hpl : pl.length ≤ 1000000) (hpi : ∀ p ∈ pl, I64 p) (kd nn k : Int) (hn0 : 0 ≤ nn) (hn1 : nn ≤ 18446744073709551615) (hk : I64 k) (ob : Option Addr) (bl : List Int) (bc : Nat) (hbl : bl.length ≤ 3000) (hbb : ∀ wy, Chg (fun i => base ≤ i) w wy → BytesIs wy (.slice ob bl.length bc) bl) (st : ByteArray) (hst : st.size ≤ 70000) :
    Calls Tryd.prog 20 #[.pointer (some ⟨X, 0, none⟩), .agg #[.int .i64 kd, .int .u64 nn, .int .i64 k, .slice ob bl.length bc, .string st], .pointer (some ⟨B, 0, none⟩)] w (Stepped base w B n X b b' pl sz dn R) := by
  by_cases h1 : kd = 1
  · subst h1; exact step_1 h hbs hf hn hpl hpi nn k hn0 hn1 hk ob bl bc hbl hbb st hst
  by_cases h2 : kd = 2
  · subst h2; exact step_2 h hbs hf hn hpl hpi nn k hn0 hn1 hk ob bl bc hbl hbb st hst
  by_cases h3 : kd = 3
  · subst h3; exact step_3 h hbs hf hn hpl hpi nn k hn0 hn1 hk ob bl bc hbl hbb st hst
  by_cases h4 : kd = 4
  · subst h4; exact step_4 h hbs hf hn hpl hpi nn k hn0 hn1 hk ob bl bc hbl hbb st hst
  by_cases h5 : kd = 5
  · subst h5; exact step_5 h hbs hf hn hpl hpi nn k hn0 hn1 hk ob bl bc hbl hbb st hst
  by_cases h6 : kd = 6
  · subst h6; exact step_6 h hbs hf hn hpl hpi nn k hn0 hn1 hk ob bl bc hbl hbb st hst
  by_cases h7 : kd = 7
  · subst h7; exact step_7 h hbs hf hn hpl hpi nn k hn0 hn1 hk ob bl bc hbl hbb st hst
  by_cases h8 : kd = 8
  · subst h8; exact step_8 h hbs hf hn hpl hpi nn k hn0 hn1 hk ob bl bc hbl hbb st hst
  by_cases h9 : kd = 9
  · subst h9; exact step_9 h hbs hf hn hpl hpi nn k hn0 hn1 hk ob bl bc hbl hbb st hst
  by_cases h10 : kd = 10
  · subst h10; exact step_10 h hbs hf hn hpl hpi nn k hn0 hn1 hk ob bl bc hbl hbb st hst
  by_cases h12 : kd = 12
  · subst h12; exact step_12 h hbs hf hn hpl hpi nn k hn0 hn1 hk ob bl bc hbl hbb st hst
  by_cases h13 : kd = 13
  · subst h13; exact step_13 h hbs hf hn hpl hpi nn k hn0 hn1 hk ob bl bc hbl hbb st hst
  by_cases h14 : kd = 14
  · subst h14; exact step_14 h hbs hf hn hpl hpi nn k hn0 hn1 hk ob bl bc hbl hbb st hst
  exact step_else h hbs hf hn hpl hpi kd h1 h2 h3 h4 h5 h6 h7 h8 h9 h10 h12 h13 h14 nn k hn0 hn1 hk ob bl bc hbl hbb st hst
end Go.Proofs.YtfihpiommicdbaaDoor
