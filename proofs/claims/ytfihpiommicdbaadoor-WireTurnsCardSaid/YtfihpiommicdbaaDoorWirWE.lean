/- The law's maker of two writers: contracts of step, the kinds of two calls. No condition. (Printed by genWE.py.) -/
import Derived.Test.YtfihpiommicdbaaDoorWirWD
namespace Go.Proofs.YtfihpiommicdbaaDoor
open Go.RowKit Go.Cl
set_option linter.unusedVariables false
set_option linter.unusedSimpArgs false
attribute [local go_sem] lt_add_one' blk_alloc_past blk_alloc_at blk_drew blk_setCell_ne

/-- A maker's block. -/
abbrev mkO (b b' : Nat) (pv : Value) (sz dn : Int) : Obj := .cells #[.pointer (some ⟨b, 0, none⟩), .pointer (some ⟨b', 0, none⟩), pv, .int .i64 sz, .int .i64 dn] 47 (0, 0)
abbrev opO (kd nn k : Int) (ov : Value) (st : ByteArray) : Obj := .cells #[.int .i64 kd, .int .u64 nn, .int .i64 k, ov, .string st] 50 (0, 0)
/-- A maker: two writers, the places, what was counted. -/
def Maker (base : Nat) (w : World) (B : Nat) (bs : BS) (X b b' : Nat) (s : WS) (pl : List Int) (sz dn : Int) (R : List Thing) : Prop :=
  ∃ pv, Two base w B bs b b' s s (blkT X (mkO b b' pv sz dn) :: rowT base 3 1 pv pl.length (i64s pl) :: R)
/-- What a step leaves. -/
def Left (base : Nat) (w' : World) (B : Nat) (n : Nat) (X b b' : Nat) (pl : List Int) (sz dn : Int) (R : List Thing) : Prop :=
  ∃ bs' s' pl', bs'.few (n + 4) ∧ pl'.length ≤ pl.length + 300 ∧ (∀ p ∈ pl', I64 p) ∧ Maker base w' B bs' X b b' s' pl' sz dn R
def Stepped (base : Nat) (w : World) (B : Nat) (n : Nat) (X b b' : Nat) (pl : List Int) (sz dn : Int) (R : List Thing) (e : Ending) (w' : World) : Prop :=
  e = .returned (.bool true) ∧ Left base w' B n X b b' pl sz dn R ∧ Chg (fun i => base ≤ i) w w'

set_option maxHeartbeats 4000000 in
set_option maxRecDepth 100000 in
theorem step_1 {w : World} {base B X b b' : Nat} {bs : BS} {s : WS} {pl : List Int} {sz dn : Int} {R : List Thing} (h : Maker base w B bs X b b' s pl sz dn R) (hbs : base ≤ w.heap.size) {n : Nat} (hf : bs.few n) (hn : n ≤ 999990) (hpl : pl.length ≤ 1000000) (hpi : ∀ p ∈ pl, I64 p) (nn k : Int) (hn0 : 0 ≤ nn) (hn1 : nn ≤ 18446744073709551615) (hk : I64 k) (ob : Option Addr) (bl : List Int) (bc : Nat) (hbl : bl.length ≤ 3000) (hbb : ∀ wy, Chg (fun i => base ≤ i) w wy → BytesIs wy (.slice ob bl.length bc) bl) (st : ByteArray) (hst : st.size ≤ 70000) :
    Calls Tryd.prog 20 #[.pointer (some ⟨X, 0, none⟩), .agg #[.int .i64 1, .int .u64 nn, .int .i64 k, .slice ob bl.length bc, .string st], .pointer (some ⟨B, 0, none⟩)] w (Stepped base w B n X b b' pl sz dn R) := by
  unfold Stepped
  have HF := Lib.hid hf
  have HN := Lib.hid hn
  have HPL := Lib.hid hpl
  have HPI := Lib.hid hpi
  have HKK := Lib.hid hk
  have HBL := Lib.hid hbl
  have HBB := Lib.hid hbb
  have HST := Lib.hid hst
  have HBS0 := Lib.hid hbs
  clear hf hn hpl hpi hk hbl hbb hst
  obtain ⟨s2, hs2⟩ : ∃ s2, s2 = s.raw (leB (nn % 256) 1) := ⟨_, rfl⟩
  have HN1 := Lib.hid (fun (wy : World) (m : Nat) (v : Value) (hw : WrIs wy base b m v s) (hb : base ≤ wy.heap.size) => (show Calls Tryd.prog 51 #[.pointer (some ⟨b, 0, none⟩), .int .u8 (nn % 256)] wy fun r w' => r = .returned (.tuple #[]) ∧ WGoes wy w' base b m v s2 by rw [hs2]; exact wbyte_ok hw hb _ (by omega) (by omega)))
  have HN2 := Lib.hid (fun (wy : World) (v o : Value) (hv : VwIs wy base b' v o s) (hb : base ≤ wy.heap.size) => (show Calls Tryd.prog 52 #[.pointer (some ⟨b', 0, none⟩), .int .u64 (nn % 256), .int .i64 1] wy fun r w' => r = .returned (.tuple #[]) ∧ VwGoes wy w' base b' v o s2 by rw [hs2]; exact vwnumber_ok hv hb _ (by omega) (by omega) 1 (by omega)))
  clear hs2
  obtain ⟨x, hx⟩ : ∃ x, x = nn % 256 := ⟨_, rfl⟩
  rw [← hx] at HN1 HN2
  have e1 : IntKind.u8.wrap nn = x := by rw [IntKind.wrap_u8, hx]
  have e2 : nn.tmod 256 = x := by rw [hx]; exact Int.tmod_eq_emod_of_nonneg hn0
  have e3 : IntKind.u64.wrap x = x := by rw [IntKind.wrap_u64]; omega
  have e4 : nn % 256 = x := hx.symm
  clear hx
  obtain ⟨pv, hT⟩ := h
  go_enter Tryd.func20, Tryd.ntmps20
  go_upto_region 1 with (fail)
  obtain ⟨wa, hwa⟩ : ∃ wa, wa = w.alloc (.cells #[.int .i64 1, .int .u64 nn, .int .i64 k, .slice ob bl.length bc, .string st] 50 (0, 0)) := ⟨_, rfl⟩
  obtain ⟨Y, hY⟩ : ∃ Y, Y = w.heap.size := ⟨_, rfl⟩
  have hc0 : Chg (fun _ => False) w wa := by rw [hwa]; exact (Chg.refl _ _).alloc _
  have hyb : blk wa Y = some (opO 1 nn k (.slice ob bl.length bc) st) := by rw [hwa, hY]; exact blk_alloc_at _ _ _ rfl
  have HC0 := Lib.hid (show Chg (fun i => base ≤ i) w wa from hc0.mono fun (i : Nat) _ (h : False) => h.elim)
  have HT0 := Lib.hid (hT.add (u := blkT Y (opO 1 nn k (.slice ob bl.length bc) st)) hbs hc0 hyb (fun i hi => by
    have hi : i = Y := hi
    omega))
  have HBS := Lib.hid (Nat.le_trans hbs hc0.size)
  have x0 := cell_of_blk (show blk wa X = some (mkO b b' pv sz dn) from HT0.out.mem (t := blkT X (mkO b b' pv sz dn)) (by simp)) 0
  have x1 := cell_of_blk (show blk wa X = some (mkO b b' pv sz dn) from HT0.out.mem (t := blkT X (mkO b b' pv sz dn)) (by simp)) 1
  have y0 := cell_of_blk hyb 0
  have y1 := cell_of_blk hyb 1
  have y2 := cell_of_blk hyb 2
  have y3 := cell_of_blk hyb 3
  have y4 := cell_of_blk hyb 4
  rw [← hwa, ← hY]
  clear hwa hY hc0 hT hyb hbs
  obtain ⟨m, v, hw, hnx⟩ := HT0.out.wr HBS.out
  have HW := Lib.hid hw
  have HNX := Lib.hid hnx
  clear hw hnx
  go_wp2_with fail
  refine (HN1.out _ _ _ HW.out HBS.out).mono ?_
  rintro e w1 ⟨rfl, hg⟩
  have k1 := HNX.out _ _ hg
  have HT1 := Lib.hid k1.1
  have HC1 := Lib.hid (HC0.out.trans k1.2 fun _ _ h => h)
  have HB1 := Lib.hid (Nat.le_trans HBS0.out HC1.out.size)
  have y1_w1 := cell_of_blk (show blk w1 Y = some (opO 1 nn k (.slice ob bl.length bc) st) from HT1.out.mem (t := blkT Y (opO 1 nn k (.slice ob bl.length bc) st)) (by simp)) 1
  have y2_w1 := cell_of_blk (show blk w1 Y = some (opO 1 nn k (.slice ob bl.length bc) st) from HT1.out.mem (t := blkT Y (opO 1 nn k (.slice ob bl.length bc) st)) (by simp)) 2
  have y4_w1 := cell_of_blk (show blk w1 Y = some (opO 1 nn k (.slice ob bl.length bc) st) from HT1.out.mem (t := blkT Y (opO 1 nn k (.slice ob bl.length bc) st)) (by simp)) 4
  obtain ⟨v', o', hv, hnx⟩ := HT1.out.vw HB1.out
  have HV := Lib.hid hv
  have HNV := Lib.hid hnx
  clear hg k1 hv hnx x0 x1 y0 y1 y2 y3 y4
  go_wp2_with fail
  refine (HN2.out _ _ _ HV.out HB1.out).mono ?_
  rintro e w2 ⟨rfl, hg⟩
  have k2 := HNV.out _ _ hg
  have HT2 := Lib.hid k2.1
  have HC2 := Lib.hid (HC1.out.trans k2.2 fun _ _ h => h)
  have HB2 := Lib.hid (Nat.le_trans HBS0.out HC2.out.size)
  clear hg k2 y1_w1 y2_w1 y4_w1
  obtain ⟨m7, u7, hw7, -⟩ := HT2.out.wr HB2.out
  obtain ⟨x7, y7, hv7, -⟩ := HT2.out.vw HB2.out
  have HLN := Lib.hid (fun (j : Nat) => (show Calls Tryd.prog 59 #[.pointer (some ⟨b, 0, none⟩)] (w2.drewN j) fun e w' => e = .returned (.int .i64 s2.xs.length) ∧ w' = w2.drewN j from (wlen_ok (hw7.frame ((Chg.refl (fun _ => False) w2).drewN j) fun _ _ => id)).mono fun _ _ h => ⟨h.1, h.2.symm⟩))
  obtain ⟨yb, -, yy1, -⟩ := hv7.facts
  obtain ⟨oB, cB, rfl, -⟩ := row_form hv7.row
  have hll : ((s2.xs.length : Int) == (s2.xs.length : Int)) = true := by simp
  clear hw7 hv7
  go_upto_region 57 with (fail)
  go_quiet ((go_at_call 59; refine Calls.quiet_of_same (HLN.out _)))
  go_wp2
  go_ret
  exact ⟨rfl, ⟨bs, s2, pl, HF.out.more (by omega), by omega, HPI.out, pv, (HT2.out.still ((Chg.refl (fun _ => False) w2).drewN _)).sub (List.sublist_cons_self _ _)⟩, HC2.out.trans ((Chg.refl (fun _ => False) w2).drewN _) fun _ _ h => h.elim⟩

set_option maxHeartbeats 4000000 in
set_option maxRecDepth 100000 in
theorem step_2 {w : World} {base B X b b' : Nat} {bs : BS} {s : WS} {pl : List Int} {sz dn : Int} {R : List Thing} (h : Maker base w B bs X b b' s pl sz dn R) (hbs : base ≤ w.heap.size) {n : Nat} (hf : bs.few n) (hn : n ≤ 999990) (hpl : pl.length ≤ 1000000) (hpi : ∀ p ∈ pl, I64 p) (nn k : Int) (hn0 : 0 ≤ nn) (hn1 : nn ≤ 18446744073709551615) (hk : I64 k) (ob : Option Addr) (bl : List Int) (bc : Nat) (hbl : bl.length ≤ 3000) (hbb : ∀ wy, Chg (fun i => base ≤ i) w wy → BytesIs wy (.slice ob bl.length bc) bl) (st : ByteArray) (hst : st.size ≤ 70000) :
    Calls Tryd.prog 20 #[.pointer (some ⟨X, 0, none⟩), .agg #[.int .i64 2, .int .u64 nn, .int .i64 k, .slice ob bl.length bc, .string st], .pointer (some ⟨B, 0, none⟩)] w (Stepped base w B n X b b' pl sz dn R) := by
  unfold Stepped
  have HF := Lib.hid hf
  have HN := Lib.hid hn
  have HPL := Lib.hid hpl
  have HPI := Lib.hid hpi
  have HKK := Lib.hid hk
  have HBL := Lib.hid hbl
  have HBB := Lib.hid hbb
  have HST := Lib.hid hst
  have HBS0 := Lib.hid hbs
  clear hf hn hpl hpi hk hbl hbb hst
  obtain ⟨s2, hs2⟩ : ∃ s2, s2 = s.raw (leB (nn % 65536) 2) := ⟨_, rfl⟩
  have HN1 := Lib.hid (fun (wy : World) (m : Nat) (v : Value) (hw : WrIs wy base b m v s) (hb : base ≤ wy.heap.size) => (show Calls Tryd.prog 53 #[.pointer (some ⟨b, 0, none⟩), .int .u16 (nn % 65536)] wy fun r w' => r = .returned (.tuple #[]) ∧ WGoes wy w' base b m v s2 by rw [hs2]; exact whalf_ok hw hb _ (by omega) (by omega)))
  have HN2 := Lib.hid (fun (wy : World) (v o : Value) (hv : VwIs wy base b' v o s) (hb : base ≤ wy.heap.size) => (show Calls Tryd.prog 52 #[.pointer (some ⟨b', 0, none⟩), .int .u64 (nn % 65536), .int .i64 2] wy fun r w' => r = .returned (.tuple #[]) ∧ VwGoes wy w' base b' v o s2 by rw [hs2]; exact vwnumber_ok hv hb _ (by omega) (by omega) 2 (by omega)))
  clear hs2
  obtain ⟨x, hx⟩ : ∃ x, x = nn % 65536 := ⟨_, rfl⟩
  rw [← hx] at HN1 HN2
  have e1 : IntKind.u16.wrap nn = x := by rw [IntKind.wrap_u16, hx]
  have e2 : nn.tmod 65536 = x := by rw [hx]; exact Int.tmod_eq_emod_of_nonneg hn0
  have e3 : IntKind.u64.wrap x = x := by rw [IntKind.wrap_u64]; omega
  have e4 : nn % 65536 = x := hx.symm
  clear hx
  obtain ⟨pv, hT⟩ := h
  go_enter Tryd.func20, Tryd.ntmps20
  go_upto_region 1 with (fail)
  obtain ⟨wa, hwa⟩ : ∃ wa, wa = w.alloc (.cells #[.int .i64 2, .int .u64 nn, .int .i64 k, .slice ob bl.length bc, .string st] 50 (0, 0)) := ⟨_, rfl⟩
  obtain ⟨Y, hY⟩ : ∃ Y, Y = w.heap.size := ⟨_, rfl⟩
  have hc0 : Chg (fun _ => False) w wa := by rw [hwa]; exact (Chg.refl _ _).alloc _
  have hyb : blk wa Y = some (opO 2 nn k (.slice ob bl.length bc) st) := by rw [hwa, hY]; exact blk_alloc_at _ _ _ rfl
  have HC0 := Lib.hid (show Chg (fun i => base ≤ i) w wa from hc0.mono fun (i : Nat) _ (h : False) => h.elim)
  have HT0 := Lib.hid (hT.add (u := blkT Y (opO 2 nn k (.slice ob bl.length bc) st)) hbs hc0 hyb (fun i hi => by
    have hi : i = Y := hi
    omega))
  have HBS := Lib.hid (Nat.le_trans hbs hc0.size)
  have x0 := cell_of_blk (show blk wa X = some (mkO b b' pv sz dn) from HT0.out.mem (t := blkT X (mkO b b' pv sz dn)) (by simp)) 0
  have x1 := cell_of_blk (show blk wa X = some (mkO b b' pv sz dn) from HT0.out.mem (t := blkT X (mkO b b' pv sz dn)) (by simp)) 1
  have y0 := cell_of_blk hyb 0
  have y1 := cell_of_blk hyb 1
  have y2 := cell_of_blk hyb 2
  have y3 := cell_of_blk hyb 3
  have y4 := cell_of_blk hyb 4
  rw [← hwa, ← hY]
  clear hwa hY hc0 hT hyb hbs
  obtain ⟨m, v, hw, hnx⟩ := HT0.out.wr HBS.out
  have HW := Lib.hid hw
  have HNX := Lib.hid hnx
  clear hw hnx
  go_wp2_with fail
  refine (HN1.out _ _ _ HW.out HBS.out).mono ?_
  rintro e w1 ⟨rfl, hg⟩
  have k1 := HNX.out _ _ hg
  have HT1 := Lib.hid k1.1
  have HC1 := Lib.hid (HC0.out.trans k1.2 fun _ _ h => h)
  have HB1 := Lib.hid (Nat.le_trans HBS0.out HC1.out.size)
  have y1_w1 := cell_of_blk (show blk w1 Y = some (opO 2 nn k (.slice ob bl.length bc) st) from HT1.out.mem (t := blkT Y (opO 2 nn k (.slice ob bl.length bc) st)) (by simp)) 1
  have y2_w1 := cell_of_blk (show blk w1 Y = some (opO 2 nn k (.slice ob bl.length bc) st) from HT1.out.mem (t := blkT Y (opO 2 nn k (.slice ob bl.length bc) st)) (by simp)) 2
  have y4_w1 := cell_of_blk (show blk w1 Y = some (opO 2 nn k (.slice ob bl.length bc) st) from HT1.out.mem (t := blkT Y (opO 2 nn k (.slice ob bl.length bc) st)) (by simp)) 4
  obtain ⟨v', o', hv, hnx⟩ := HT1.out.vw HB1.out
  have HV := Lib.hid hv
  have HNV := Lib.hid hnx
  clear hg k1 hv hnx x0 x1 y0 y1 y2 y3 y4
  go_wp2_with fail
  refine (HN2.out _ _ _ HV.out HB1.out).mono ?_
  rintro e w2 ⟨rfl, hg⟩
  have k2 := HNV.out _ _ hg
  have HT2 := Lib.hid k2.1
  have HC2 := Lib.hid (HC1.out.trans k2.2 fun _ _ h => h)
  have HB2 := Lib.hid (Nat.le_trans HBS0.out HC2.out.size)
  clear hg k2 y1_w1 y2_w1 y4_w1
  obtain ⟨m7, u7, hw7, -⟩ := HT2.out.wr HB2.out
  obtain ⟨x7, y7, hv7, -⟩ := HT2.out.vw HB2.out
  have HLN := Lib.hid (fun (j : Nat) => (show Calls Tryd.prog 59 #[.pointer (some ⟨b, 0, none⟩)] (w2.drewN j) fun e w' => e = .returned (.int .i64 s2.xs.length) ∧ w' = w2.drewN j from (wlen_ok (hw7.frame ((Chg.refl (fun _ => False) w2).drewN j) fun _ _ => id)).mono fun _ _ h => ⟨h.1, h.2.symm⟩))
  obtain ⟨yb, -, yy1, -⟩ := hv7.facts
  obtain ⟨oB, cB, rfl, -⟩ := row_form hv7.row
  have hll : ((s2.xs.length : Int) == (s2.xs.length : Int)) = true := by simp
  clear hw7 hv7
  go_upto_region 57 with (fail)
  go_quiet ((go_at_call 59; refine Calls.quiet_of_same (HLN.out _)))
  go_wp2
  go_ret
  exact ⟨rfl, ⟨bs, s2, pl, HF.out.more (by omega), by omega, HPI.out, pv, (HT2.out.still ((Chg.refl (fun _ => False) w2).drewN _)).sub (List.sublist_cons_self _ _)⟩, HC2.out.trans ((Chg.refl (fun _ => False) w2).drewN _) fun _ _ h => h.elim⟩

set_option maxHeartbeats 4000000 in
set_option maxRecDepth 100000 in
theorem step_3 {w : World} {base B X b b' : Nat} {bs : BS} {s : WS} {pl : List Int} {sz dn : Int} {R : List Thing} (h : Maker base w B bs X b b' s pl sz dn R) (hbs : base ≤ w.heap.size) {n : Nat} (hf : bs.few n) (hn : n ≤ 999990) (hpl : pl.length ≤ 1000000) (hpi : ∀ p ∈ pl, I64 p) (nn k : Int) (hn0 : 0 ≤ nn) (hn1 : nn ≤ 18446744073709551615) (hk : I64 k) (ob : Option Addr) (bl : List Int) (bc : Nat) (hbl : bl.length ≤ 3000) (hbb : ∀ wy, Chg (fun i => base ≤ i) w wy → BytesIs wy (.slice ob bl.length bc) bl) (st : ByteArray) (hst : st.size ≤ 70000) :
    Calls Tryd.prog 20 #[.pointer (some ⟨X, 0, none⟩), .agg #[.int .i64 3, .int .u64 nn, .int .i64 k, .slice ob bl.length bc, .string st], .pointer (some ⟨B, 0, none⟩)] w (Stepped base w B n X b b' pl sz dn R) := by
  unfold Stepped
  have HF := Lib.hid hf
  have HN := Lib.hid hn
  have HPL := Lib.hid hpl
  have HPI := Lib.hid hpi
  have HKK := Lib.hid hk
  have HBL := Lib.hid hbl
  have HBB := Lib.hid hbb
  have HST := Lib.hid hst
  have HBS0 := Lib.hid hbs
  clear hf hn hpl hpi hk hbl hbb hst
  obtain ⟨s2, hs2⟩ : ∃ s2, s2 = s.raw (leB (nn % 4294967296) 4) := ⟨_, rfl⟩
  have HN1 := Lib.hid (fun (wy : World) (m : Nat) (v : Value) (hw : WrIs wy base b m v s) (hb : base ≤ wy.heap.size) => (show Calls Tryd.prog 48 #[.pointer (some ⟨b, 0, none⟩), .int .u32 (nn % 4294967296)] wy fun r w' => r = .returned (.tuple #[]) ∧ WGoes wy w' base b m v s2 by rw [hs2]; exact wword_ok hw hb _ (by omega) (by omega)))
  have HN2 := Lib.hid (fun (wy : World) (v o : Value) (hv : VwIs wy base b' v o s) (hb : base ≤ wy.heap.size) => (show Calls Tryd.prog 52 #[.pointer (some ⟨b', 0, none⟩), .int .u64 (nn % 4294967296), .int .i64 4] wy fun r w' => r = .returned (.tuple #[]) ∧ VwGoes wy w' base b' v o s2 by rw [hs2]; exact vwnumber_ok hv hb _ (by omega) (by omega) 4 (by omega)))
  clear hs2
  obtain ⟨x, hx⟩ : ∃ x, x = nn % 4294967296 := ⟨_, rfl⟩
  rw [← hx] at HN1 HN2
  have e1 : IntKind.u32.wrap nn = x := by rw [IntKind.wrap_u32, hx]
  have e2 : nn.tmod 4294967296 = x := by rw [hx]; exact Int.tmod_eq_emod_of_nonneg hn0
  have e3 : IntKind.u64.wrap x = x := by rw [IntKind.wrap_u64]; omega
  have e4 : nn % 4294967296 = x := hx.symm
  clear hx
  obtain ⟨pv, hT⟩ := h
  go_enter Tryd.func20, Tryd.ntmps20
  go_upto_region 1 with (fail)
  obtain ⟨wa, hwa⟩ : ∃ wa, wa = w.alloc (.cells #[.int .i64 3, .int .u64 nn, .int .i64 k, .slice ob bl.length bc, .string st] 50 (0, 0)) := ⟨_, rfl⟩
  obtain ⟨Y, hY⟩ : ∃ Y, Y = w.heap.size := ⟨_, rfl⟩
  have hc0 : Chg (fun _ => False) w wa := by rw [hwa]; exact (Chg.refl _ _).alloc _
  have hyb : blk wa Y = some (opO 3 nn k (.slice ob bl.length bc) st) := by rw [hwa, hY]; exact blk_alloc_at _ _ _ rfl
  have HC0 := Lib.hid (show Chg (fun i => base ≤ i) w wa from hc0.mono fun (i : Nat) _ (h : False) => h.elim)
  have HT0 := Lib.hid (hT.add (u := blkT Y (opO 3 nn k (.slice ob bl.length bc) st)) hbs hc0 hyb (fun i hi => by
    have hi : i = Y := hi
    omega))
  have HBS := Lib.hid (Nat.le_trans hbs hc0.size)
  have x0 := cell_of_blk (show blk wa X = some (mkO b b' pv sz dn) from HT0.out.mem (t := blkT X (mkO b b' pv sz dn)) (by simp)) 0
  have x1 := cell_of_blk (show blk wa X = some (mkO b b' pv sz dn) from HT0.out.mem (t := blkT X (mkO b b' pv sz dn)) (by simp)) 1
  have y0 := cell_of_blk hyb 0
  have y1 := cell_of_blk hyb 1
  have y2 := cell_of_blk hyb 2
  have y3 := cell_of_blk hyb 3
  have y4 := cell_of_blk hyb 4
  rw [← hwa, ← hY]
  clear hwa hY hc0 hT hyb hbs
  obtain ⟨m, v, hw, hnx⟩ := HT0.out.wr HBS.out
  have HW := Lib.hid hw
  have HNX := Lib.hid hnx
  clear hw hnx
  go_wp2_with fail
  refine (HN1.out _ _ _ HW.out HBS.out).mono ?_
  rintro e w1 ⟨rfl, hg⟩
  have k1 := HNX.out _ _ hg
  have HT1 := Lib.hid k1.1
  have HC1 := Lib.hid (HC0.out.trans k1.2 fun _ _ h => h)
  have HB1 := Lib.hid (Nat.le_trans HBS0.out HC1.out.size)
  have y1_w1 := cell_of_blk (show blk w1 Y = some (opO 3 nn k (.slice ob bl.length bc) st) from HT1.out.mem (t := blkT Y (opO 3 nn k (.slice ob bl.length bc) st)) (by simp)) 1
  have y2_w1 := cell_of_blk (show blk w1 Y = some (opO 3 nn k (.slice ob bl.length bc) st) from HT1.out.mem (t := blkT Y (opO 3 nn k (.slice ob bl.length bc) st)) (by simp)) 2
  have y4_w1 := cell_of_blk (show blk w1 Y = some (opO 3 nn k (.slice ob bl.length bc) st) from HT1.out.mem (t := blkT Y (opO 3 nn k (.slice ob bl.length bc) st)) (by simp)) 4
  obtain ⟨v', o', hv, hnx⟩ := HT1.out.vw HB1.out
  have HV := Lib.hid hv
  have HNV := Lib.hid hnx
  clear hg k1 hv hnx x0 x1 y0 y1 y2 y3 y4
  go_wp2_with fail
  refine (HN2.out _ _ _ HV.out HB1.out).mono ?_
  rintro e w2 ⟨rfl, hg⟩
  have k2 := HNV.out _ _ hg
  have HT2 := Lib.hid k2.1
  have HC2 := Lib.hid (HC1.out.trans k2.2 fun _ _ h => h)
  have HB2 := Lib.hid (Nat.le_trans HBS0.out HC2.out.size)
  clear hg k2 y1_w1 y2_w1 y4_w1
  obtain ⟨m7, u7, hw7, -⟩ := HT2.out.wr HB2.out
  obtain ⟨x7, y7, hv7, -⟩ := HT2.out.vw HB2.out
  have HLN := Lib.hid (fun (j : Nat) => (show Calls Tryd.prog 59 #[.pointer (some ⟨b, 0, none⟩)] (w2.drewN j) fun e w' => e = .returned (.int .i64 s2.xs.length) ∧ w' = w2.drewN j from (wlen_ok (hw7.frame ((Chg.refl (fun _ => False) w2).drewN j) fun _ _ => id)).mono fun _ _ h => ⟨h.1, h.2.symm⟩))
  obtain ⟨yb, -, yy1, -⟩ := hv7.facts
  obtain ⟨oB, cB, rfl, -⟩ := row_form hv7.row
  have hll : ((s2.xs.length : Int) == (s2.xs.length : Int)) = true := by simp
  clear hw7 hv7
  go_upto_region 57 with (fail)
  go_quiet ((go_at_call 59; refine Calls.quiet_of_same (HLN.out _)))
  go_wp2
  go_ret
  exact ⟨rfl, ⟨bs, s2, pl, HF.out.more (by omega), by omega, HPI.out, pv, (HT2.out.still ((Chg.refl (fun _ => False) w2).drewN _)).sub (List.sublist_cons_self _ _)⟩, HC2.out.trans ((Chg.refl (fun _ => False) w2).drewN _) fun _ _ h => h.elim⟩

set_option maxHeartbeats 4000000 in
set_option maxRecDepth 100000 in
theorem step_4 {w : World} {base B X b b' : Nat} {bs : BS} {s : WS} {pl : List Int} {sz dn : Int} {R : List Thing} (h : Maker base w B bs X b b' s pl sz dn R) (hbs : base ≤ w.heap.size) {n : Nat} (hf : bs.few n) (hn : n ≤ 999990) (hpl : pl.length ≤ 1000000) (hpi : ∀ p ∈ pl, I64 p) (nn k : Int) (hn0 : 0 ≤ nn) (hn1 : nn ≤ 18446744073709551615) (hk : I64 k) (ob : Option Addr) (bl : List Int) (bc : Nat) (hbl : bl.length ≤ 3000) (hbb : ∀ wy, Chg (fun i => base ≤ i) w wy → BytesIs wy (.slice ob bl.length bc) bl) (st : ByteArray) (hst : st.size ≤ 70000) :
    Calls Tryd.prog 20 #[.pointer (some ⟨X, 0, none⟩), .agg #[.int .i64 4, .int .u64 nn, .int .i64 k, .slice ob bl.length bc, .string st], .pointer (some ⟨B, 0, none⟩)] w (Stepped base w B n X b b' pl sz dn R) := by
  unfold Stepped
  have HF := Lib.hid hf
  have HN := Lib.hid hn
  have HPL := Lib.hid hpl
  have HPI := Lib.hid hpi
  have HKK := Lib.hid hk
  have HBL := Lib.hid hbl
  have HBB := Lib.hid hbb
  have HST := Lib.hid hst
  have HBS0 := Lib.hid hbs
  clear hf hn hpl hpi hk hbl hbb hst
  obtain ⟨s2, hs2⟩ : ∃ s2, s2 = s.raw (leB nn 8) := ⟨_, rfl⟩
  have HN1 := Lib.hid (fun (wy : World) (m : Nat) (v : Value) (hw : WrIs wy base b m v s) (hb : base ≤ wy.heap.size) => (show Calls Tryd.prog 54 #[.pointer (some ⟨b, 0, none⟩), .int .u64 nn] wy fun r w' => r = .returned (.tuple #[]) ∧ WGoes wy w' base b m v s2 by rw [hs2]; exact wlong_ok hw hb _ hn0 hn1))
  have HN2 := Lib.hid (fun (wy : World) (v o : Value) (hv : VwIs wy base b' v o s) (hb : base ≤ wy.heap.size) => (show Calls Tryd.prog 52 #[.pointer (some ⟨b', 0, none⟩), .int .u64 nn, .int .i64 8] wy fun r w' => r = .returned (.tuple #[]) ∧ VwGoes wy w' base b' v o s2 by rw [hs2]; exact vwnumber_ok hv hb _ hn0 hn1 8 (by omega)))
  clear hs2
  obtain ⟨pv, hT⟩ := h
  go_enter Tryd.func20, Tryd.ntmps20
  go_upto_region 1 with (fail)
  obtain ⟨wa, hwa⟩ : ∃ wa, wa = w.alloc (.cells #[.int .i64 4, .int .u64 nn, .int .i64 k, .slice ob bl.length bc, .string st] 50 (0, 0)) := ⟨_, rfl⟩
  obtain ⟨Y, hY⟩ : ∃ Y, Y = w.heap.size := ⟨_, rfl⟩
  have hc0 : Chg (fun _ => False) w wa := by rw [hwa]; exact (Chg.refl _ _).alloc _
  have hyb : blk wa Y = some (opO 4 nn k (.slice ob bl.length bc) st) := by rw [hwa, hY]; exact blk_alloc_at _ _ _ rfl
  have HC0 := Lib.hid (show Chg (fun i => base ≤ i) w wa from hc0.mono fun (i : Nat) _ (h : False) => h.elim)
  have HT0 := Lib.hid (hT.add (u := blkT Y (opO 4 nn k (.slice ob bl.length bc) st)) hbs hc0 hyb (fun i hi => by
    have hi : i = Y := hi
    omega))
  have HBS := Lib.hid (Nat.le_trans hbs hc0.size)
  have x0 := cell_of_blk (show blk wa X = some (mkO b b' pv sz dn) from HT0.out.mem (t := blkT X (mkO b b' pv sz dn)) (by simp)) 0
  have x1 := cell_of_blk (show blk wa X = some (mkO b b' pv sz dn) from HT0.out.mem (t := blkT X (mkO b b' pv sz dn)) (by simp)) 1
  have y0 := cell_of_blk hyb 0
  have y1 := cell_of_blk hyb 1
  have y2 := cell_of_blk hyb 2
  have y3 := cell_of_blk hyb 3
  have y4 := cell_of_blk hyb 4
  rw [← hwa, ← hY]
  clear hwa hY hc0 hT hyb hbs
  obtain ⟨m, v, hw, hnx⟩ := HT0.out.wr HBS.out
  have HW := Lib.hid hw
  have HNX := Lib.hid hnx
  clear hw hnx
  go_wp2_with fail
  refine (HN1.out _ _ _ HW.out HBS.out).mono ?_
  rintro e w1 ⟨rfl, hg⟩
  have k1 := HNX.out _ _ hg
  have HT1 := Lib.hid k1.1
  have HC1 := Lib.hid (HC0.out.trans k1.2 fun _ _ h => h)
  have HB1 := Lib.hid (Nat.le_trans HBS0.out HC1.out.size)
  have y1_w1 := cell_of_blk (show blk w1 Y = some (opO 4 nn k (.slice ob bl.length bc) st) from HT1.out.mem (t := blkT Y (opO 4 nn k (.slice ob bl.length bc) st)) (by simp)) 1
  have y2_w1 := cell_of_blk (show blk w1 Y = some (opO 4 nn k (.slice ob bl.length bc) st) from HT1.out.mem (t := blkT Y (opO 4 nn k (.slice ob bl.length bc) st)) (by simp)) 2
  have y4_w1 := cell_of_blk (show blk w1 Y = some (opO 4 nn k (.slice ob bl.length bc) st) from HT1.out.mem (t := blkT Y (opO 4 nn k (.slice ob bl.length bc) st)) (by simp)) 4
  obtain ⟨v', o', hv, hnx⟩ := HT1.out.vw HB1.out
  have HV := Lib.hid hv
  have HNV := Lib.hid hnx
  clear hg k1 hv hnx x0 x1 y0 y1 y2 y3 y4
  go_wp2_with fail
  refine (HN2.out _ _ _ HV.out HB1.out).mono ?_
  rintro e w2 ⟨rfl, hg⟩
  have k2 := HNV.out _ _ hg
  have HT2 := Lib.hid k2.1
  have HC2 := Lib.hid (HC1.out.trans k2.2 fun _ _ h => h)
  have HB2 := Lib.hid (Nat.le_trans HBS0.out HC2.out.size)
  clear hg k2 y1_w1 y2_w1 y4_w1
  obtain ⟨m7, u7, hw7, -⟩ := HT2.out.wr HB2.out
  obtain ⟨x7, y7, hv7, -⟩ := HT2.out.vw HB2.out
  have HLN := Lib.hid (fun (j : Nat) => (show Calls Tryd.prog 59 #[.pointer (some ⟨b, 0, none⟩)] (w2.drewN j) fun e w' => e = .returned (.int .i64 s2.xs.length) ∧ w' = w2.drewN j from (wlen_ok (hw7.frame ((Chg.refl (fun _ => False) w2).drewN j) fun _ _ => id)).mono fun _ _ h => ⟨h.1, h.2.symm⟩))
  obtain ⟨yb, -, yy1, -⟩ := hv7.facts
  obtain ⟨oB, cB, rfl, -⟩ := row_form hv7.row
  have hll : ((s2.xs.length : Int) == (s2.xs.length : Int)) = true := by simp
  clear hw7 hv7
  go_upto_region 57 with (fail)
  go_quiet ((go_at_call 59; refine Calls.quiet_of_same (HLN.out _)))
  go_wp2
  go_ret
  exact ⟨rfl, ⟨bs, s2, pl, HF.out.more (by omega), by omega, HPI.out, pv, (HT2.out.still ((Chg.refl (fun _ => False) w2).drewN _)).sub (List.sublist_cons_self _ _)⟩, HC2.out.trans ((Chg.refl (fun _ => False) w2).drewN _) fun _ _ h => h.elim⟩

set_option maxHeartbeats 4000000 in
set_option maxRecDepth 100000 in
theorem step_6 {w : World} {base B X b b' : Nat} {bs : BS} {s : WS} {pl : List Int} {sz dn : Int} {R : List Thing} (h : Maker base w B bs X b b' s pl sz dn R) (hbs : base ≤ w.heap.size) {n : Nat} (hf : bs.few n) (hn : n ≤ 999990) (hpl : pl.length ≤ 1000000) (hpi : ∀ p ∈ pl, I64 p) (nn k : Int) (hn0 : 0 ≤ nn) (hn1 : nn ≤ 18446744073709551615) (hk : I64 k) (ob : Option Addr) (bl : List Int) (bc : Nat) (hbl : bl.length ≤ 3000) (hbb : ∀ wy, Chg (fun i => base ≤ i) w wy → BytesIs wy (.slice ob bl.length bc) bl) (st : ByteArray) (hst : st.size ≤ 70000) :
    Calls Tryd.prog 20 #[.pointer (some ⟨X, 0, none⟩), .agg #[.int .i64 6, .int .u64 nn, .int .i64 k, .slice ob bl.length bc, .string st], .pointer (some ⟨B, 0, none⟩)] w (Stepped base w B n X b b' pl sz dn R) := by
  unfold Stepped
  have HF := Lib.hid hf
  have HN := Lib.hid hn
  have HPL := Lib.hid hpl
  have HPI := Lib.hid hpi
  have HKK := Lib.hid hk
  have HBL := Lib.hid hbl
  have HBB := Lib.hid hbb
  have HST := Lib.hid hst
  have HBS0 := Lib.hid hbs
  clear hf hn hpl hpi hk hbl hbb hst
  obtain ⟨s2, hs2⟩ : ∃ s2, s2 = s.text st := ⟨_, rfl⟩
  have HN1 := Lib.hid (fun (wy : World) (m : Nat) (v : Value) (hw : WrIs wy base b m v s) (hb : base ≤ wy.heap.size) => (show Calls Tryd.prog 55 #[.pointer (some ⟨b, 0, none⟩), .string st] wy fun r w' => r = .returned (.tuple #[]) ∧ WGoes wy w' base b m v s2 by rw [hs2]; exact wtext_ok hw hb st (by have := HST.out; omega)))
  have HN2 := Lib.hid (fun (wy : World) (v o : Value) (hv : VwIs wy base b' v o s) (hb : base ≤ wy.heap.size) => (show Calls Tryd.prog 56 #[.pointer (some ⟨b', 0, none⟩), .string st] wy fun r w' => r = .returned (.tuple #[]) ∧ VwGoes wy w' base b' v o s2 by rw [hs2]; exact vwtext_ok hv hb st (by have := HST.out; omega)))
  clear hs2
  obtain ⟨pv, hT⟩ := h
  go_enter Tryd.func20, Tryd.ntmps20
  go_upto_region 1 with (fail)
  obtain ⟨wa, hwa⟩ : ∃ wa, wa = w.alloc (.cells #[.int .i64 6, .int .u64 nn, .int .i64 k, .slice ob bl.length bc, .string st] 50 (0, 0)) := ⟨_, rfl⟩
  obtain ⟨Y, hY⟩ : ∃ Y, Y = w.heap.size := ⟨_, rfl⟩
  have hc0 : Chg (fun _ => False) w wa := by rw [hwa]; exact (Chg.refl _ _).alloc _
  have hyb : blk wa Y = some (opO 6 nn k (.slice ob bl.length bc) st) := by rw [hwa, hY]; exact blk_alloc_at _ _ _ rfl
  have HC0 := Lib.hid (show Chg (fun i => base ≤ i) w wa from hc0.mono fun (i : Nat) _ (h : False) => h.elim)
  have HT0 := Lib.hid (hT.add (u := blkT Y (opO 6 nn k (.slice ob bl.length bc) st)) hbs hc0 hyb (fun i hi => by
    have hi : i = Y := hi
    omega))
  have HBS := Lib.hid (Nat.le_trans hbs hc0.size)
  have x0 := cell_of_blk (show blk wa X = some (mkO b b' pv sz dn) from HT0.out.mem (t := blkT X (mkO b b' pv sz dn)) (by simp)) 0
  have x1 := cell_of_blk (show blk wa X = some (mkO b b' pv sz dn) from HT0.out.mem (t := blkT X (mkO b b' pv sz dn)) (by simp)) 1
  have y0 := cell_of_blk hyb 0
  have y1 := cell_of_blk hyb 1
  have y2 := cell_of_blk hyb 2
  have y3 := cell_of_blk hyb 3
  have y4 := cell_of_blk hyb 4
  rw [← hwa, ← hY]
  clear hwa hY hc0 hT hyb hbs
  obtain ⟨m, v, hw, hnx⟩ := HT0.out.wr HBS.out
  have HW := Lib.hid hw
  have HNX := Lib.hid hnx
  clear hw hnx
  go_wp2_with fail
  refine (HN1.out _ _ _ HW.out HBS.out).mono ?_
  rintro e w1 ⟨rfl, hg⟩
  have k1 := HNX.out _ _ hg
  have HT1 := Lib.hid k1.1
  have HC1 := Lib.hid (HC0.out.trans k1.2 fun _ _ h => h)
  have HB1 := Lib.hid (Nat.le_trans HBS0.out HC1.out.size)
  have y1_w1 := cell_of_blk (show blk w1 Y = some (opO 6 nn k (.slice ob bl.length bc) st) from HT1.out.mem (t := blkT Y (opO 6 nn k (.slice ob bl.length bc) st)) (by simp)) 1
  have y2_w1 := cell_of_blk (show blk w1 Y = some (opO 6 nn k (.slice ob bl.length bc) st) from HT1.out.mem (t := blkT Y (opO 6 nn k (.slice ob bl.length bc) st)) (by simp)) 2
  have y4_w1 := cell_of_blk (show blk w1 Y = some (opO 6 nn k (.slice ob bl.length bc) st) from HT1.out.mem (t := blkT Y (opO 6 nn k (.slice ob bl.length bc) st)) (by simp)) 4
  obtain ⟨v', o', hv, hnx⟩ := HT1.out.vw HB1.out
  have HV := Lib.hid hv
  have HNV := Lib.hid hnx
  clear hg k1 hv hnx x0 x1 y0 y1 y2 y3 y4
  go_wp2_with fail
  refine (HN2.out _ _ _ HV.out HB1.out).mono ?_
  rintro e w2 ⟨rfl, hg⟩
  have k2 := HNV.out _ _ hg
  have HT2 := Lib.hid k2.1
  have HC2 := Lib.hid (HC1.out.trans k2.2 fun _ _ h => h)
  have HB2 := Lib.hid (Nat.le_trans HBS0.out HC2.out.size)
  clear hg k2 y1_w1 y2_w1 y4_w1
  obtain ⟨m7, u7, hw7, -⟩ := HT2.out.wr HB2.out
  obtain ⟨x7, y7, hv7, -⟩ := HT2.out.vw HB2.out
  have HLN := Lib.hid (fun (j : Nat) => (show Calls Tryd.prog 59 #[.pointer (some ⟨b, 0, none⟩)] (w2.drewN j) fun e w' => e = .returned (.int .i64 s2.xs.length) ∧ w' = w2.drewN j from (wlen_ok (hw7.frame ((Chg.refl (fun _ => False) w2).drewN j) fun _ _ => id)).mono fun _ _ h => ⟨h.1, h.2.symm⟩))
  obtain ⟨yb, -, yy1, -⟩ := hv7.facts
  obtain ⟨oB, cB, rfl, -⟩ := row_form hv7.row
  have hll : ((s2.xs.length : Int) == (s2.xs.length : Int)) = true := by simp
  clear hw7 hv7
  go_upto_region 57 with (fail)
  go_quiet ((go_at_call 59; refine Calls.quiet_of_same (HLN.out _)))
  go_wp2
  go_ret
  exact ⟨rfl, ⟨bs, s2, pl, HF.out.more (by omega), by omega, HPI.out, pv, (HT2.out.still ((Chg.refl (fun _ => False) w2).drewN _)).sub (List.sublist_cons_self _ _)⟩, HC2.out.trans ((Chg.refl (fun _ => False) w2).drewN _) fun _ _ h => h.elim⟩

set_option maxHeartbeats 4000000 in
set_option maxRecDepth 100000 in
theorem step_7 {w : World} {base B X b b' : Nat} {bs : BS} {s : WS} {pl : List Int} {sz dn : Int} {R : List Thing} (h : Maker base w B bs X b b' s pl sz dn R) (hbs : base ≤ w.heap.size) {n : Nat} (hf : bs.few n) (hn : n ≤ 999990) (hpl : pl.length ≤ 1000000) (hpi : ∀ p ∈ pl, I64 p) (nn k : Int) (hn0 : 0 ≤ nn) (hn1 : nn ≤ 18446744073709551615) (hk : I64 k) (ob : Option Addr) (bl : List Int) (bc : Nat) (hbl : bl.length ≤ 3000) (hbb : ∀ wy, Chg (fun i => base ≤ i) w wy → BytesIs wy (.slice ob bl.length bc) bl) (st : ByteArray) (hst : st.size ≤ 70000) :
    Calls Tryd.prog 20 #[.pointer (some ⟨X, 0, none⟩), .agg #[.int .i64 7, .int .u64 nn, .int .i64 k, .slice ob bl.length bc, .string st], .pointer (some ⟨B, 0, none⟩)] w (Stepped base w B n X b b' pl sz dn R) := by
  unfold Stepped
  have HF := Lib.hid hf
  have HN := Lib.hid hn
  have HPL := Lib.hid hpl
  have HPI := Lib.hid hpi
  have HKK := Lib.hid hk
  have HBL := Lib.hid hbl
  have HBB := Lib.hid hbb
  have HST := Lib.hid hst
  have HBS0 := Lib.hid hbs
  clear hf hn hpl hpi hk hbl hbb hst
  obtain ⟨s2, hs2⟩ : ∃ s2, s2 = s.pad k := ⟨_, rfl⟩
  have HN1 := Lib.hid (fun (wy : World) (m : Nat) (v : Value) (hw : WrIs wy base b m v s) (hb : base ≤ wy.heap.size) => (show Calls Tryd.prog 57 #[.pointer (some ⟨b, 0, none⟩), .int .i64 k] wy fun r w' => r = .returned (.tuple #[]) ∧ WGoes wy w' base b m v s2 by rw [hs2]; exact wpad_ok hw hb k))
  have HN2 := Lib.hid (fun (wy : World) (v o : Value) (hv : VwIs wy base b' v o s) (hb : base ≤ wy.heap.size) => (show Calls Tryd.prog 58 #[.pointer (some ⟨b', 0, none⟩), .int .i64 k] wy fun r w' => r = .returned (.tuple #[]) ∧ VwGoes wy w' base b' v o s2 by rw [hs2]; exact vwpad_ok hv hb k))
  clear hs2
  obtain ⟨pv, hT⟩ := h
  go_enter Tryd.func20, Tryd.ntmps20
  go_upto_region 1 with (fail)
  obtain ⟨wa, hwa⟩ : ∃ wa, wa = w.alloc (.cells #[.int .i64 7, .int .u64 nn, .int .i64 k, .slice ob bl.length bc, .string st] 50 (0, 0)) := ⟨_, rfl⟩
  obtain ⟨Y, hY⟩ : ∃ Y, Y = w.heap.size := ⟨_, rfl⟩
  have hc0 : Chg (fun _ => False) w wa := by rw [hwa]; exact (Chg.refl _ _).alloc _
  have hyb : blk wa Y = some (opO 7 nn k (.slice ob bl.length bc) st) := by rw [hwa, hY]; exact blk_alloc_at _ _ _ rfl
  have HC0 := Lib.hid (show Chg (fun i => base ≤ i) w wa from hc0.mono fun (i : Nat) _ (h : False) => h.elim)
  have HT0 := Lib.hid (hT.add (u := blkT Y (opO 7 nn k (.slice ob bl.length bc) st)) hbs hc0 hyb (fun i hi => by
    have hi : i = Y := hi
    omega))
  have HBS := Lib.hid (Nat.le_trans hbs hc0.size)
  have x0 := cell_of_blk (show blk wa X = some (mkO b b' pv sz dn) from HT0.out.mem (t := blkT X (mkO b b' pv sz dn)) (by simp)) 0
  have x1 := cell_of_blk (show blk wa X = some (mkO b b' pv sz dn) from HT0.out.mem (t := blkT X (mkO b b' pv sz dn)) (by simp)) 1
  have y0 := cell_of_blk hyb 0
  have y1 := cell_of_blk hyb 1
  have y2 := cell_of_blk hyb 2
  have y3 := cell_of_blk hyb 3
  have y4 := cell_of_blk hyb 4
  rw [← hwa, ← hY]
  clear hwa hY hc0 hT hyb hbs
  obtain ⟨m, v, hw, hnx⟩ := HT0.out.wr HBS.out
  have HW := Lib.hid hw
  have HNX := Lib.hid hnx
  clear hw hnx
  go_wp2_with fail
  refine (HN1.out _ _ _ HW.out HBS.out).mono ?_
  rintro e w1 ⟨rfl, hg⟩
  have k1 := HNX.out _ _ hg
  have HT1 := Lib.hid k1.1
  have HC1 := Lib.hid (HC0.out.trans k1.2 fun _ _ h => h)
  have HB1 := Lib.hid (Nat.le_trans HBS0.out HC1.out.size)
  have y1_w1 := cell_of_blk (show blk w1 Y = some (opO 7 nn k (.slice ob bl.length bc) st) from HT1.out.mem (t := blkT Y (opO 7 nn k (.slice ob bl.length bc) st)) (by simp)) 1
  have y2_w1 := cell_of_blk (show blk w1 Y = some (opO 7 nn k (.slice ob bl.length bc) st) from HT1.out.mem (t := blkT Y (opO 7 nn k (.slice ob bl.length bc) st)) (by simp)) 2
  have y4_w1 := cell_of_blk (show blk w1 Y = some (opO 7 nn k (.slice ob bl.length bc) st) from HT1.out.mem (t := blkT Y (opO 7 nn k (.slice ob bl.length bc) st)) (by simp)) 4
  obtain ⟨v', o', hv, hnx⟩ := HT1.out.vw HB1.out
  have HV := Lib.hid hv
  have HNV := Lib.hid hnx
  clear hg k1 hv hnx x0 x1 y0 y1 y2 y3 y4
  go_wp2_with fail
  refine (HN2.out _ _ _ HV.out HB1.out).mono ?_
  rintro e w2 ⟨rfl, hg⟩
  have k2 := HNV.out _ _ hg
  have HT2 := Lib.hid k2.1
  have HC2 := Lib.hid (HC1.out.trans k2.2 fun _ _ h => h)
  have HB2 := Lib.hid (Nat.le_trans HBS0.out HC2.out.size)
  clear hg k2 y1_w1 y2_w1 y4_w1
  obtain ⟨m7, u7, hw7, -⟩ := HT2.out.wr HB2.out
  obtain ⟨x7, y7, hv7, -⟩ := HT2.out.vw HB2.out
  have HLN := Lib.hid (fun (j : Nat) => (show Calls Tryd.prog 59 #[.pointer (some ⟨b, 0, none⟩)] (w2.drewN j) fun e w' => e = .returned (.int .i64 s2.xs.length) ∧ w' = w2.drewN j from (wlen_ok (hw7.frame ((Chg.refl (fun _ => False) w2).drewN j) fun _ _ => id)).mono fun _ _ h => ⟨h.1, h.2.symm⟩))
  obtain ⟨yb, -, yy1, -⟩ := hv7.facts
  obtain ⟨oB, cB, rfl, -⟩ := row_form hv7.row
  have hll : ((s2.xs.length : Int) == (s2.xs.length : Int)) = true := by simp
  clear hw7 hv7
  go_upto_region 57 with (fail)
  go_quiet ((go_at_call 59; refine Calls.quiet_of_same (HLN.out _)))
  go_wp2
  go_ret
  exact ⟨rfl, ⟨bs, s2, pl, HF.out.more (by omega), by omega, HPI.out, pv, (HT2.out.still ((Chg.refl (fun _ => False) w2).drewN _)).sub (List.sublist_cons_self _ _)⟩, HC2.out.trans ((Chg.refl (fun _ => False) w2).drewN _) fun _ _ h => h.elim⟩

set_option maxHeartbeats 4000000 in
set_option maxRecDepth 100000 in
theorem step_9 {w : World} {base B X b b' : Nat} {bs : BS} {s : WS} {pl : List Int} {sz dn : Int} {R : List Thing} (h : Maker base w B bs X b b' s pl sz dn R) (hbs : base ≤ w.heap.size) {n : Nat} (hf : bs.few n) (hn : n ≤ 999990) (hpl : pl.length ≤ 1000000) (hpi : ∀ p ∈ pl, I64 p) (nn k : Int) (hn0 : 0 ≤ nn) (hn1 : nn ≤ 18446744073709551615) (hk : I64 k) (ob : Option Addr) (bl : List Int) (bc : Nat) (hbl : bl.length ≤ 3000) (hbb : ∀ wy, Chg (fun i => base ≤ i) w wy → BytesIs wy (.slice ob bl.length bc) bl) (st : ByteArray) (hst : st.size ≤ 70000) :
    Calls Tryd.prog 20 #[.pointer (some ⟨X, 0, none⟩), .agg #[.int .i64 9, .int .u64 nn, .int .i64 k, .slice ob bl.length bc, .string st], .pointer (some ⟨B, 0, none⟩)] w (Stepped base w B n X b b' pl sz dn R) := by
  unfold Stepped
  have HF := Lib.hid hf
  have HN := Lib.hid hn
  have HPL := Lib.hid hpl
  have HPI := Lib.hid hpi
  have HKK := Lib.hid hk
  have HBL := Lib.hid hbl
  have HBB := Lib.hid hbb
  have HST := Lib.hid hst
  have HBS0 := Lib.hid hbs
  clear hf hn hpl hpi hk hbl hbb hst
  obtain ⟨s2, hs2⟩ : ∃ s2, s2 = s.shut k := ⟨_, rfl⟩
  have HN1 := Lib.hid (fun (wy : World) (m : Nat) (v : Value) (hw : WrIs wy base b m v s) (hb : base ≤ wy.heap.size) => (show Calls Tryd.prog 46 #[.pointer (some ⟨b, 0, none⟩), .int .i64 k] wy fun r w' => r = .returned (.tuple #[]) ∧ WGoes wy w' base b m v s2 by rw [hs2]; exact wshut_ok hw k HKK.out))
  have HN2 := Lib.hid (fun (wy : World) (v o : Value) (hv : VwIs wy base b' v o s) (hb : base ≤ wy.heap.size) => (show Calls Tryd.prog 47 #[.pointer (some ⟨b', 0, none⟩), .int .i64 k] wy fun r w' => r = .returned (.tuple #[]) ∧ VwGoes wy w' base b' v o s2 by rw [hs2]; exact vwshut_ok hv hb k HKK.out))
  clear hs2
  obtain ⟨pv, hT⟩ := h
  go_enter Tryd.func20, Tryd.ntmps20
  go_upto_region 1 with (fail)
  obtain ⟨wa, hwa⟩ : ∃ wa, wa = w.alloc (.cells #[.int .i64 9, .int .u64 nn, .int .i64 k, .slice ob bl.length bc, .string st] 50 (0, 0)) := ⟨_, rfl⟩
  obtain ⟨Y, hY⟩ : ∃ Y, Y = w.heap.size := ⟨_, rfl⟩
  have hc0 : Chg (fun _ => False) w wa := by rw [hwa]; exact (Chg.refl _ _).alloc _
  have hyb : blk wa Y = some (opO 9 nn k (.slice ob bl.length bc) st) := by rw [hwa, hY]; exact blk_alloc_at _ _ _ rfl
  have HC0 := Lib.hid (show Chg (fun i => base ≤ i) w wa from hc0.mono fun (i : Nat) _ (h : False) => h.elim)
  have HT0 := Lib.hid (hT.add (u := blkT Y (opO 9 nn k (.slice ob bl.length bc) st)) hbs hc0 hyb (fun i hi => by
    have hi : i = Y := hi
    omega))
  have HBS := Lib.hid (Nat.le_trans hbs hc0.size)
  have x0 := cell_of_blk (show blk wa X = some (mkO b b' pv sz dn) from HT0.out.mem (t := blkT X (mkO b b' pv sz dn)) (by simp)) 0
  have x1 := cell_of_blk (show blk wa X = some (mkO b b' pv sz dn) from HT0.out.mem (t := blkT X (mkO b b' pv sz dn)) (by simp)) 1
  have y0 := cell_of_blk hyb 0
  have y1 := cell_of_blk hyb 1
  have y2 := cell_of_blk hyb 2
  have y3 := cell_of_blk hyb 3
  have y4 := cell_of_blk hyb 4
  rw [← hwa, ← hY]
  clear hwa hY hc0 hT hyb hbs
  obtain ⟨m, v, hw, hnx⟩ := HT0.out.wr HBS.out
  have HW := Lib.hid hw
  have HNX := Lib.hid hnx
  clear hw hnx
  go_wp2_with fail
  refine (HN1.out _ _ _ HW.out HBS.out).mono ?_
  rintro e w1 ⟨rfl, hg⟩
  have k1 := HNX.out _ _ hg
  have HT1 := Lib.hid k1.1
  have HC1 := Lib.hid (HC0.out.trans k1.2 fun _ _ h => h)
  have HB1 := Lib.hid (Nat.le_trans HBS0.out HC1.out.size)
  have y1_w1 := cell_of_blk (show blk w1 Y = some (opO 9 nn k (.slice ob bl.length bc) st) from HT1.out.mem (t := blkT Y (opO 9 nn k (.slice ob bl.length bc) st)) (by simp)) 1
  have y2_w1 := cell_of_blk (show blk w1 Y = some (opO 9 nn k (.slice ob bl.length bc) st) from HT1.out.mem (t := blkT Y (opO 9 nn k (.slice ob bl.length bc) st)) (by simp)) 2
  have y4_w1 := cell_of_blk (show blk w1 Y = some (opO 9 nn k (.slice ob bl.length bc) st) from HT1.out.mem (t := blkT Y (opO 9 nn k (.slice ob bl.length bc) st)) (by simp)) 4
  obtain ⟨v', o', hv, hnx⟩ := HT1.out.vw HB1.out
  have HV := Lib.hid hv
  have HNV := Lib.hid hnx
  clear hg k1 hv hnx x0 x1 y0 y1 y2 y3 y4
  go_wp2_with fail
  refine (HN2.out _ _ _ HV.out HB1.out).mono ?_
  rintro e w2 ⟨rfl, hg⟩
  have k2 := HNV.out _ _ hg
  have HT2 := Lib.hid k2.1
  have HC2 := Lib.hid (HC1.out.trans k2.2 fun _ _ h => h)
  have HB2 := Lib.hid (Nat.le_trans HBS0.out HC2.out.size)
  clear hg k2 y1_w1 y2_w1 y4_w1
  obtain ⟨m7, u7, hw7, -⟩ := HT2.out.wr HB2.out
  obtain ⟨x7, y7, hv7, -⟩ := HT2.out.vw HB2.out
  have HLN := Lib.hid (fun (j : Nat) => (show Calls Tryd.prog 59 #[.pointer (some ⟨b, 0, none⟩)] (w2.drewN j) fun e w' => e = .returned (.int .i64 s2.xs.length) ∧ w' = w2.drewN j from (wlen_ok (hw7.frame ((Chg.refl (fun _ => False) w2).drewN j) fun _ _ => id)).mono fun _ _ h => ⟨h.1, h.2.symm⟩))
  obtain ⟨yb, -, yy1, -⟩ := hv7.facts
  obtain ⟨oB, cB, rfl, -⟩ := row_form hv7.row
  have hll : ((s2.xs.length : Int) == (s2.xs.length : Int)) = true := by simp
  clear hw7 hv7
  go_upto_region 57 with (fail)
  go_quiet ((go_at_call 59; refine Calls.quiet_of_same (HLN.out _)))
  go_wp2
  go_ret
  exact ⟨rfl, ⟨bs, s2, pl, HF.out.more (by omega), by omega, HPI.out, pv, (HT2.out.still ((Chg.refl (fun _ => False) w2).drewN _)).sub (List.sublist_cons_self _ _)⟩, HC2.out.trans ((Chg.refl (fun _ => False) w2).drewN _) fun _ _ h => h.elim⟩

end Go.Proofs.YtfihpiommicdbaaDoor
