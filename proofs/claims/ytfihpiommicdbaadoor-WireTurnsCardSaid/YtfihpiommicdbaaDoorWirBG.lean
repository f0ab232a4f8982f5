/- The law's pair of readers: contracts of reads, kind by kind. No condition. (Printed by genBG.py.) -/
import Derived.Test.YtfihpiommicdbaaDoorWirBF
namespace Go.Proofs.YtfihpiommicdbaaDoor
open Go.RowKit Go.Cl
set_option linter.unusedVariables false
set_option linter.unusedSimpArgs false
attribute [local go_sem] lt_add_one' blk_alloc_past blk_alloc_at blk_drew blk_setCell_ne

set_option maxHeartbeats 4000000 in
set_option maxRecDepth 100000 in
theorem reads_1 {w : World} {base B b b' : Nat} {v v' : Value} {s : RS} {bs : BS} {R : List Thing} (h : BookAt base w B bs (rdT base b v s :: vdT base b' v' s :: R)) (hbs : base ≤ w.heap.size) (nn k : Int) (hk : k ≤ 9223372036854775807) (ov : Value) (st : ByteArray) :
    Calls Tryd.prog 28 #[.agg #[.pointer (some ⟨b, 0, none⟩), .pointer (some ⟨b', 0, none⟩)], .agg #[.int .i64 1, .int .u64 nn, .int .i64 k, ov, .string st], .pointer (some ⟨B, 0, none⟩)] w fun e w' => e = .returned (.bool true) ∧ BookAt base w' B bs (rdT base b v (s.next 1) :: vdT base b' v' (s.next 1) :: R) ∧ Chg (fun i => base ≤ i) w w' := by
  go_enter Tryd.func28, Tryd.ntmps28
  go_upto_region 1 with (fail)
  obtain ⟨wa, hwa⟩ : ∃ wa, wa = (w.alloc (.cells #[.pointer (some ⟨b, 0, none⟩), .pointer (some ⟨b', 0, none⟩)] 61 (0, 0))).alloc (.cells #[.int .i64 1, .int .u64 nn, .int .i64 k, ov, .string st] 50 (0, 0)) := ⟨_, rfl⟩
  obtain ⟨X, hX⟩ : ∃ X, X = w.heap.size := ⟨_, rfl⟩
  have hc0 : Chg (fun _ => False) w wa := by rw [hwa]; exact ((Chg.refl _ _).alloc _).alloc _
  have HX := Lib.hid (show blk wa X = some (.cells #[.pointer (some ⟨b, 0, none⟩), .pointer (some ⟨b', 0, none⟩)] 61 (0, 0)) by rw [hwa, hX, blk_alloc_past _ _ _ (by simp)]; exact blk_alloc_at _ _ _ rfl)
  have HY := Lib.hid (show blk wa (X + 1) = some (.cells #[.int .i64 1, .int .u64 nn, .int .i64 k, ov, .string st] 50 (0, 0)) by rw [hwa, hX]; exact blk_alloc_at _ _ _ (by simp))
  have HC0 := Lib.hid (hc0.mono fun (i : Nat) _ (h : False) => (show base ≤ i from h.elim))
  have HBA := Lib.hid (h.still hc0)
  have HBS := Lib.hid (Nat.le_trans hbs hc0.size)
  have hR : RdIs wa base b v s := HBA.out.mem (t := rdT base b v s) (by simp)
  have hRl := ((h.mem (t := rdT base b v s) (by simp) : RdIs w base b v s).foot (i := b) (.inl rfl)).2
  have HNX := Lib.hid (show X ≠ b ∧ X + 1 ≠ b by rw [hX]; omega)
  have x0 := cell_of_blk HX.out 0
  have y0 := cell_of_blk HY.out 0
  have y2 := cell_of_blk HY.out 2
  have HR := Lib.hid hR
  rw [← hwa, ← hX]
  clear hwa hX hc0 h hbs hR hRl
  have nb := num_bd HR.out.byte 1
  have HN1 := Lib.hid (rByte_ok HR.out)
  have HN2 := Lib.hid (fun (wy : World) (hv : VdIs wy base b' v' s) => vnumber_ok hv 1 (by omega))
  rw [show (256 : Int) ^ 1 = 256 from by decide] at nb
  obtain ⟨nv, hnv⟩ : ∃ nv, nv = s.num 1 := ⟨_, rfl⟩
  rw [← hnv] at nb HN1 HN2
  obtain ⟨nb0, nb1⟩ := nb
  have wn : IntKind.u64.wrap nv = nv := by rw [IntKind.wrap_u64]; omega
  clear hnv
  go_wp2_with fail
  refine (HN1.out).mono ?_
  rintro e w1 ⟨rfl, hg⟩
  have HG := Lib.hid hg
  have x1 := cell_of_blk (hg.2.blk' HX.out HNX.out.1) 1
  have y2' := cell_of_blk (hg.2.blk' HY.out HNX.out.2) 2
  have HV1 := Lib.hid (show VdIs w1 base b' v' s from (HBA.out.rd HBS.out hg).1.mem (t := vdT base b' v' s) (by simp))
  have HB1 := Lib.hid (Nat.le_trans HBS.out hg.2.size)
  clear hg x0 y0 y2
  go_wp2_with fail
  refine (HN2.out _ HV1.out).mono ?_
  rintro e w2 ⟨rfl, hg2⟩
  have E := Lib.hid (HBA.out.both HBS.out HG.out hg2)
  clear hg2
  go_wp2
  go_ret
  exact ⟨rfl, E.out.1, HC0.out.trans E.out.2 fun _ _ h => h⟩

set_option maxHeartbeats 4000000 in
set_option maxRecDepth 100000 in
theorem reads_2 {w : World} {base B b b' : Nat} {v v' : Value} {s : RS} {bs : BS} {R : List Thing} (h : BookAt base w B bs (rdT base b v s :: vdT base b' v' s :: R)) (hbs : base ≤ w.heap.size) (nn k : Int) (hk : k ≤ 9223372036854775807) (ov : Value) (st : ByteArray) :
    Calls Tryd.prog 28 #[.agg #[.pointer (some ⟨b, 0, none⟩), .pointer (some ⟨b', 0, none⟩)], .agg #[.int .i64 2, .int .u64 nn, .int .i64 k, ov, .string st], .pointer (some ⟨B, 0, none⟩)] w fun e w' => e = .returned (.bool true) ∧ BookAt base w' B bs (rdT base b v (s.next 2) :: vdT base b' v' (s.next 2) :: R) ∧ Chg (fun i => base ≤ i) w w' := by
  go_enter Tryd.func28, Tryd.ntmps28
  go_upto_region 1 with (fail)
  obtain ⟨wa, hwa⟩ : ∃ wa, wa = (w.alloc (.cells #[.pointer (some ⟨b, 0, none⟩), .pointer (some ⟨b', 0, none⟩)] 61 (0, 0))).alloc (.cells #[.int .i64 2, .int .u64 nn, .int .i64 k, ov, .string st] 50 (0, 0)) := ⟨_, rfl⟩
  obtain ⟨X, hX⟩ : ∃ X, X = w.heap.size := ⟨_, rfl⟩
  have hc0 : Chg (fun _ => False) w wa := by rw [hwa]; exact ((Chg.refl _ _).alloc _).alloc _
  have HX := Lib.hid (show blk wa X = some (.cells #[.pointer (some ⟨b, 0, none⟩), .pointer (some ⟨b', 0, none⟩)] 61 (0, 0)) by rw [hwa, hX, blk_alloc_past _ _ _ (by simp)]; exact blk_alloc_at _ _ _ rfl)
  have HY := Lib.hid (show blk wa (X + 1) = some (.cells #[.int .i64 2, .int .u64 nn, .int .i64 k, ov, .string st] 50 (0, 0)) by rw [hwa, hX]; exact blk_alloc_at _ _ _ (by simp))
  have HC0 := Lib.hid (hc0.mono fun (i : Nat) _ (h : False) => (show base ≤ i from h.elim))
  have HBA := Lib.hid (h.still hc0)
  have HBS := Lib.hid (Nat.le_trans hbs hc0.size)
  have hR : RdIs wa base b v s := HBA.out.mem (t := rdT base b v s) (by simp)
  have hRl := ((h.mem (t := rdT base b v s) (by simp) : RdIs w base b v s).foot (i := b) (.inl rfl)).2
  have HNX := Lib.hid (show X ≠ b ∧ X + 1 ≠ b by rw [hX]; omega)
  have x0 := cell_of_blk HX.out 0
  have y0 := cell_of_blk HY.out 0
  have y2 := cell_of_blk HY.out 2
  have HR := Lib.hid hR
  rw [← hwa, ← hX]
  clear hwa hX hc0 h hbs hR hRl
  have nb := num_bd HR.out.byte 2
  have HN1 := Lib.hid (rHalf_ok HR.out)
  have HN2 := Lib.hid (fun (wy : World) (hv : VdIs wy base b' v' s) => vnumber_ok hv 2 (by omega))
  rw [show (256 : Int) ^ 2 = 65536 from by decide] at nb
  obtain ⟨nv, hnv⟩ : ∃ nv, nv = s.num 2 := ⟨_, rfl⟩
  rw [← hnv] at nb HN1 HN2
  obtain ⟨nb0, nb1⟩ := nb
  have wn : IntKind.u64.wrap nv = nv := by rw [IntKind.wrap_u64]; omega
  clear hnv
  go_wp2_with fail
  refine (HN1.out).mono ?_
  rintro e w1 ⟨rfl, hg⟩
  have HG := Lib.hid hg
  have x1 := cell_of_blk (hg.2.blk' HX.out HNX.out.1) 1
  have y2' := cell_of_blk (hg.2.blk' HY.out HNX.out.2) 2
  have HV1 := Lib.hid (show VdIs w1 base b' v' s from (HBA.out.rd HBS.out hg).1.mem (t := vdT base b' v' s) (by simp))
  have HB1 := Lib.hid (Nat.le_trans HBS.out hg.2.size)
  clear hg x0 y0 y2
  go_wp2_with fail
  refine (HN2.out _ HV1.out).mono ?_
  rintro e w2 ⟨rfl, hg2⟩
  have E := Lib.hid (HBA.out.both HBS.out HG.out hg2)
  clear hg2
  go_wp2
  go_ret
  exact ⟨rfl, E.out.1, HC0.out.trans E.out.2 fun _ _ h => h⟩

set_option maxHeartbeats 4000000 in
set_option maxRecDepth 100000 in
theorem reads_3 {w : World} {base B b b' : Nat} {v v' : Value} {s : RS} {bs : BS} {R : List Thing} (h : BookAt base w B bs (rdT base b v s :: vdT base b' v' s :: R)) (hbs : base ≤ w.heap.size) (nn k : Int) (hk : k ≤ 9223372036854775807) (ov : Value) (st : ByteArray) :
    Calls Tryd.prog 28 #[.agg #[.pointer (some ⟨b, 0, none⟩), .pointer (some ⟨b', 0, none⟩)], .agg #[.int .i64 3, .int .u64 nn, .int .i64 k, ov, .string st], .pointer (some ⟨B, 0, none⟩)] w fun e w' => e = .returned (.bool true) ∧ BookAt base w' B bs (rdT base b v (s.next 4) :: vdT base b' v' (s.next 4) :: R) ∧ Chg (fun i => base ≤ i) w w' := by
  go_enter Tryd.func28, Tryd.ntmps28
  go_upto_region 1 with (fail)
  obtain ⟨wa, hwa⟩ : ∃ wa, wa = (w.alloc (.cells #[.pointer (some ⟨b, 0, none⟩), .pointer (some ⟨b', 0, none⟩)] 61 (0, 0))).alloc (.cells #[.int .i64 3, .int .u64 nn, .int .i64 k, ov, .string st] 50 (0, 0)) := ⟨_, rfl⟩
  obtain ⟨X, hX⟩ : ∃ X, X = w.heap.size := ⟨_, rfl⟩
  have hc0 : Chg (fun _ => False) w wa := by rw [hwa]; exact ((Chg.refl _ _).alloc _).alloc _
  have HX := Lib.hid (show blk wa X = some (.cells #[.pointer (some ⟨b, 0, none⟩), .pointer (some ⟨b', 0, none⟩)] 61 (0, 0)) by rw [hwa, hX, blk_alloc_past _ _ _ (by simp)]; exact blk_alloc_at _ _ _ rfl)
  have HY := Lib.hid (show blk wa (X + 1) = some (.cells #[.int .i64 3, .int .u64 nn, .int .i64 k, ov, .string st] 50 (0, 0)) by rw [hwa, hX]; exact blk_alloc_at _ _ _ (by simp))
  have HC0 := Lib.hid (hc0.mono fun (i : Nat) _ (h : False) => (show base ≤ i from h.elim))
  have HBA := Lib.hid (h.still hc0)
  have HBS := Lib.hid (Nat.le_trans hbs hc0.size)
  have hR : RdIs wa base b v s := HBA.out.mem (t := rdT base b v s) (by simp)
  have hRl := ((h.mem (t := rdT base b v s) (by simp) : RdIs w base b v s).foot (i := b) (.inl rfl)).2
  have HNX := Lib.hid (show X ≠ b ∧ X + 1 ≠ b by rw [hX]; omega)
  have x0 := cell_of_blk HX.out 0
  have y0 := cell_of_blk HY.out 0
  have y2 := cell_of_blk HY.out 2
  have HR := Lib.hid hR
  rw [← hwa, ← hX]
  clear hwa hX hc0 h hbs hR hRl
  have nb := num_bd HR.out.byte 4
  have HN1 := Lib.hid (rWord_ok HR.out)
  have HN2 := Lib.hid (fun (wy : World) (hv : VdIs wy base b' v' s) => vnumber_ok hv 4 (by omega))
  rw [show (256 : Int) ^ 4 = 4294967296 from by decide] at nb
  obtain ⟨nv, hnv⟩ : ∃ nv, nv = s.num 4 := ⟨_, rfl⟩
  rw [← hnv] at nb HN1 HN2
  obtain ⟨nb0, nb1⟩ := nb
  have wn : IntKind.u64.wrap nv = nv := by rw [IntKind.wrap_u64]; omega
  clear hnv
  go_wp2_with fail
  refine (HN1.out).mono ?_
  rintro e w1 ⟨rfl, hg⟩
  have HG := Lib.hid hg
  have x1 := cell_of_blk (hg.2.blk' HX.out HNX.out.1) 1
  have y2' := cell_of_blk (hg.2.blk' HY.out HNX.out.2) 2
  have HV1 := Lib.hid (show VdIs w1 base b' v' s from (HBA.out.rd HBS.out hg).1.mem (t := vdT base b' v' s) (by simp))
  have HB1 := Lib.hid (Nat.le_trans HBS.out hg.2.size)
  clear hg x0 y0 y2
  go_wp2_with fail
  refine (HN2.out _ HV1.out).mono ?_
  rintro e w2 ⟨rfl, hg2⟩
  have E := Lib.hid (HBA.out.both HBS.out HG.out hg2)
  clear hg2
  go_wp2
  go_ret
  exact ⟨rfl, E.out.1, HC0.out.trans E.out.2 fun _ _ h => h⟩

set_option maxHeartbeats 4000000 in
set_option maxRecDepth 100000 in
theorem reads_4 {w : World} {base B b b' : Nat} {v v' : Value} {s : RS} {bs : BS} {R : List Thing} (h : BookAt base w B bs (rdT base b v s :: vdT base b' v' s :: R)) (hbs : base ≤ w.heap.size) (nn k : Int) (hk : k ≤ 9223372036854775807) (ov : Value) (st : ByteArray) :
    Calls Tryd.prog 28 #[.agg #[.pointer (some ⟨b, 0, none⟩), .pointer (some ⟨b', 0, none⟩)], .agg #[.int .i64 4, .int .u64 nn, .int .i64 k, ov, .string st], .pointer (some ⟨B, 0, none⟩)] w fun e w' => e = .returned (.bool true) ∧ BookAt base w' B bs (rdT base b v (s.next 8) :: vdT base b' v' (s.next 8) :: R) ∧ Chg (fun i => base ≤ i) w w' := by
  go_enter Tryd.func28, Tryd.ntmps28
  go_upto_region 1 with (fail)
  obtain ⟨wa, hwa⟩ : ∃ wa, wa = (w.alloc (.cells #[.pointer (some ⟨b, 0, none⟩), .pointer (some ⟨b', 0, none⟩)] 61 (0, 0))).alloc (.cells #[.int .i64 4, .int .u64 nn, .int .i64 k, ov, .string st] 50 (0, 0)) := ⟨_, rfl⟩
  obtain ⟨X, hX⟩ : ∃ X, X = w.heap.size := ⟨_, rfl⟩
  have hc0 : Chg (fun _ => False) w wa := by rw [hwa]; exact ((Chg.refl _ _).alloc _).alloc _
  have HX := Lib.hid (show blk wa X = some (.cells #[.pointer (some ⟨b, 0, none⟩), .pointer (some ⟨b', 0, none⟩)] 61 (0, 0)) by rw [hwa, hX, blk_alloc_past _ _ _ (by simp)]; exact blk_alloc_at _ _ _ rfl)
  have HY := Lib.hid (show blk wa (X + 1) = some (.cells #[.int .i64 4, .int .u64 nn, .int .i64 k, ov, .string st] 50 (0, 0)) by rw [hwa, hX]; exact blk_alloc_at _ _ _ (by simp))
  have HC0 := Lib.hid (hc0.mono fun (i : Nat) _ (h : False) => (show base ≤ i from h.elim))
  have HBA := Lib.hid (h.still hc0)
  have HBS := Lib.hid (Nat.le_trans hbs hc0.size)
  have hR : RdIs wa base b v s := HBA.out.mem (t := rdT base b v s) (by simp)
  have hRl := ((h.mem (t := rdT base b v s) (by simp) : RdIs w base b v s).foot (i := b) (.inl rfl)).2
  have HNX := Lib.hid (show X ≠ b ∧ X + 1 ≠ b by rw [hX]; omega)
  have x0 := cell_of_blk HX.out 0
  have y0 := cell_of_blk HY.out 0
  have y2 := cell_of_blk HY.out 2
  have HR := Lib.hid hR
  rw [← hwa, ← hX]
  clear hwa hX hc0 h hbs hR hRl
  have nb := num_bd HR.out.byte 8
  have HN1 := Lib.hid (rLong_ok HR.out)
  have HN2 := Lib.hid (fun (wy : World) (hv : VdIs wy base b' v' s) => vnumber_ok hv 8 (by omega))
  rw [show (256 : Int) ^ 8 = 18446744073709551616 from by decide] at nb
  obtain ⟨nv, hnv⟩ : ∃ nv, nv = s.num 8 := ⟨_, rfl⟩
  rw [← hnv] at nb HN1 HN2
  obtain ⟨nb0, nb1⟩ := nb
  have wn : IntKind.u64.wrap nv = nv := by rw [IntKind.wrap_u64]; omega
  clear hnv
  go_wp2_with fail
  refine (HN1.out).mono ?_
  rintro e w1 ⟨rfl, hg⟩
  have HG := Lib.hid hg
  have x1 := cell_of_blk (hg.2.blk' HX.out HNX.out.1) 1
  have y2' := cell_of_blk (hg.2.blk' HY.out HNX.out.2) 2
  have HV1 := Lib.hid (show VdIs w1 base b' v' s from (HBA.out.rd HBS.out hg).1.mem (t := vdT base b' v' s) (by simp))
  have HB1 := Lib.hid (Nat.le_trans HBS.out hg.2.size)
  clear hg x0 y0 y2
  go_wp2_with fail
  refine (HN2.out _ HV1.out).mono ?_
  rintro e w2 ⟨rfl, hg2⟩
  have E := Lib.hid (HBA.out.both HBS.out HG.out hg2)
  clear hg2
  go_wp2
  go_ret
  exact ⟨rfl, E.out.1, HC0.out.trans E.out.2 fun _ _ h => h⟩

set_option maxHeartbeats 4000000 in
set_option maxRecDepth 100000 in
theorem reads_7 {w : World} {base B b b' : Nat} {v v' : Value} {s : RS} {bs : BS} {R : List Thing} (h : BookAt base w B bs (rdT base b v s :: vdT base b' v' s :: R)) (hbs : base ≤ w.heap.size) (nn k : Int) (hk : k ≤ 9223372036854775807) (ov : Value) (st : ByteArray) :
    Calls Tryd.prog 28 #[.agg #[.pointer (some ⟨b, 0, none⟩), .pointer (some ⟨b', 0, none⟩)], .agg #[.int .i64 7, .int .u64 nn, .int .i64 k, ov, .string st], .pointer (some ⟨B, 0, none⟩)] w fun e w' => e = .returned (.bool true) ∧ BookAt base w' B bs (rdT base b v (s.padS k) :: vdT base b' v' (s.padS k) :: R) ∧ Chg (fun i => base ≤ i) w w' := by
  go_enter Tryd.func28, Tryd.ntmps28
  go_upto_region 1 with (fail)
  obtain ⟨wa, hwa⟩ : ∃ wa, wa = (w.alloc (.cells #[.pointer (some ⟨b, 0, none⟩), .pointer (some ⟨b', 0, none⟩)] 61 (0, 0))).alloc (.cells #[.int .i64 7, .int .u64 nn, .int .i64 k, ov, .string st] 50 (0, 0)) := ⟨_, rfl⟩
  obtain ⟨X, hX⟩ : ∃ X, X = w.heap.size := ⟨_, rfl⟩
  have hc0 : Chg (fun _ => False) w wa := by rw [hwa]; exact ((Chg.refl _ _).alloc _).alloc _
  have HX := Lib.hid (show blk wa X = some (.cells #[.pointer (some ⟨b, 0, none⟩), .pointer (some ⟨b', 0, none⟩)] 61 (0, 0)) by rw [hwa, hX, blk_alloc_past _ _ _ (by simp)]; exact blk_alloc_at _ _ _ rfl)
  have HY := Lib.hid (show blk wa (X + 1) = some (.cells #[.int .i64 7, .int .u64 nn, .int .i64 k, ov, .string st] 50 (0, 0)) by rw [hwa, hX]; exact blk_alloc_at _ _ _ (by simp))
  have HC0 := Lib.hid (hc0.mono fun (i : Nat) _ (h : False) => (show base ≤ i from h.elim))
  have HBA := Lib.hid (h.still hc0)
  have HBS := Lib.hid (Nat.le_trans hbs hc0.size)
  have hR : RdIs wa base b v s := HBA.out.mem (t := rdT base b v s) (by simp)
  have hRl := ((h.mem (t := rdT base b v s) (by simp) : RdIs w base b v s).foot (i := b) (.inl rfl)).2
  have HNX := Lib.hid (show X ≠ b ∧ X + 1 ≠ b by rw [hX]; omega)
  have x0 := cell_of_blk HX.out 0
  have y0 := cell_of_blk HY.out 0
  have y2 := cell_of_blk HY.out 2
  have HR := Lib.hid hR
  rw [← hwa, ← hX]
  clear hwa hX hc0 h hbs hR hRl
  go_wp2_with fail
  refine (rpad_ok HR.out k).mono ?_
  rintro e w1 ⟨rfl, hg⟩
  have HG := Lib.hid hg
  have x1 := cell_of_blk (hg.2.blk' HX.out HNX.out.1) 1
  have y2' := cell_of_blk (hg.2.blk' HY.out HNX.out.2) 2
  have HV1 := Lib.hid (show VdIs w1 base b' v' s from (HBA.out.rd HBS.out hg).1.mem (t := vdT base b' v' s) (by simp))
  have HB1 := Lib.hid (Nat.le_trans HBS.out hg.2.size)
  clear hg x0 y0 y2
  go_wp2_with fail
  refine (vpad_ok HV1.out k).mono ?_
  rintro e w2 ⟨rfl, hg2⟩
  have E := Lib.hid (HBA.out.both HBS.out HG.out hg2)
  clear hg2
  go_wp2
  go_ret
  exact ⟨rfl, E.out.1, HC0.out.trans E.out.2 fun _ _ h => h⟩

set_option maxHeartbeats 4000000 in
set_option maxRecDepth 100000 in
theorem reads_9 {w : World} {base B b b' : Nat} {v v' : Value} {s : RS} {bs : BS} {R : List Thing} (h : BookAt base w B bs (rdT base b v s :: vdT base b' v' s :: R)) (hbs : base ≤ w.heap.size) (nn k : Int) (hk : k ≤ 9223372036854775807) (ov : Value) (st : ByteArray) :
    Calls Tryd.prog 28 #[.agg #[.pointer (some ⟨b, 0, none⟩), .pointer (some ⟨b', 0, none⟩)], .agg #[.int .i64 9, .int .u64 nn, .int .i64 k, ov, .string st], .pointer (some ⟨B, 0, none⟩)] w fun e w' => e = .returned (.bool true) ∧ BookAt base w' B bs (rdT base b v s.end :: vdT base b' v' s.end :: R) ∧ Chg (fun i => base ≤ i) w w' := by
  go_enter Tryd.func28, Tryd.ntmps28
  go_upto_region 1 with (fail)
  obtain ⟨wa, hwa⟩ : ∃ wa, wa = (w.alloc (.cells #[.pointer (some ⟨b, 0, none⟩), .pointer (some ⟨b', 0, none⟩)] 61 (0, 0))).alloc (.cells #[.int .i64 9, .int .u64 nn, .int .i64 k, ov, .string st] 50 (0, 0)) := ⟨_, rfl⟩
  obtain ⟨X, hX⟩ : ∃ X, X = w.heap.size := ⟨_, rfl⟩
  have hc0 : Chg (fun _ => False) w wa := by rw [hwa]; exact ((Chg.refl _ _).alloc _).alloc _
  have HX := Lib.hid (show blk wa X = some (.cells #[.pointer (some ⟨b, 0, none⟩), .pointer (some ⟨b', 0, none⟩)] 61 (0, 0)) by rw [hwa, hX, blk_alloc_past _ _ _ (by simp)]; exact blk_alloc_at _ _ _ rfl)
  have HY := Lib.hid (show blk wa (X + 1) = some (.cells #[.int .i64 9, .int .u64 nn, .int .i64 k, ov, .string st] 50 (0, 0)) by rw [hwa, hX]; exact blk_alloc_at _ _ _ (by simp))
  have HC0 := Lib.hid (hc0.mono fun (i : Nat) _ (h : False) => (show base ≤ i from h.elim))
  have HBA := Lib.hid (h.still hc0)
  have HBS := Lib.hid (Nat.le_trans hbs hc0.size)
  have hR : RdIs wa base b v s := HBA.out.mem (t := rdT base b v s) (by simp)
  have hRl := ((h.mem (t := rdT base b v s) (by simp) : RdIs w base b v s).foot (i := b) (.inl rfl)).2
  have HNX := Lib.hid (show X ≠ b ∧ X + 1 ≠ b by rw [hX]; omega)
  have x0 := cell_of_blk HX.out 0
  have y0 := cell_of_blk HY.out 0
  have y2 := cell_of_blk HY.out 2
  have HR := Lib.hid hR
  rw [← hwa, ← hX]
  clear hwa hX hc0 h hbs hR hRl
  go_wp2_with fail
  refine (rend_ok HR.out).mono ?_
  rintro e w1 ⟨rfl, hg⟩
  have HG := Lib.hid hg
  have x1 := cell_of_blk (hg.2.blk' HX.out HNX.out.1) 1
  have y2' := cell_of_blk (hg.2.blk' HY.out HNX.out.2) 2
  have HV1 := Lib.hid (show VdIs w1 base b' v' s from (HBA.out.rd HBS.out hg).1.mem (t := vdT base b' v' s) (by simp))
  have HB1 := Lib.hid (Nat.le_trans HBS.out hg.2.size)
  clear hg x0 y0 y2
  go_wp2_with fail
  refine (vend_ok HV1.out).mono ?_
  rintro e w2 ⟨rfl, hg2⟩
  have E := Lib.hid (HBA.out.both HBS.out HG.out hg2)
  clear hg2
  go_wp2
  go_ret
  exact ⟨rfl, E.out.1, HC0.out.trans E.out.2 fun _ _ h => h⟩

set_option maxHeartbeats 4000000 in
set_option maxRecDepth 100000 in
theorem reads_11 {w : World} {base B b b' : Nat} {v v' : Value} {s : RS} {bs : BS} {R : List Thing} (h : BookAt base w B bs (rdT base b v s :: vdT base b' v' s :: R)) (hbs : base ≤ w.heap.size) (nn k : Int) (hk : k ≤ 9223372036854775807) (ov : Value) (st : ByteArray) :
    Calls Tryd.prog 28 #[.agg #[.pointer (some ⟨b, 0, none⟩), .pointer (some ⟨b', 0, none⟩)], .agg #[.int .i64 11, .int .u64 nn, .int .i64 k, ov, .string st], .pointer (some ⟨B, 0, none⟩)] w fun e w' => e = .returned (.bool true) ∧ BookAt base w' B bs (rdT base b v (if k = 0 then s else s.fail k s.pos) :: vdT base b' v' (if k = 0 then s else s.fail k s.pos) :: R) ∧ Chg (fun i => base ≤ i) w w' := by
  obtain ⟨s2, hs2⟩ : ∃ s2, s2 = (if k = 0 then s else s.fail k s.pos) := ⟨_, rfl⟩
  rw [← hs2]
  go_enter Tryd.func28, Tryd.ntmps28
  go_upto_region 1 with (fail)
  obtain ⟨wa, hwa⟩ : ∃ wa, wa = (w.alloc (.cells #[.pointer (some ⟨b, 0, none⟩), .pointer (some ⟨b', 0, none⟩)] 61 (0, 0))).alloc (.cells #[.int .i64 11, .int .u64 nn, .int .i64 k, ov, .string st] 50 (0, 0)) := ⟨_, rfl⟩
  obtain ⟨X, hX⟩ : ∃ X, X = w.heap.size := ⟨_, rfl⟩
  have hc0 : Chg (fun _ => False) w wa := by rw [hwa]; exact ((Chg.refl _ _).alloc _).alloc _
  have HX := Lib.hid (show blk wa X = some (.cells #[.pointer (some ⟨b, 0, none⟩), .pointer (some ⟨b', 0, none⟩)] 61 (0, 0)) by rw [hwa, hX, blk_alloc_past _ _ _ (by simp)]; exact blk_alloc_at _ _ _ rfl)
  have HY := Lib.hid (show blk wa (X + 1) = some (.cells #[.int .i64 11, .int .u64 nn, .int .i64 k, ov, .string st] 50 (0, 0)) by rw [hwa, hX]; exact blk_alloc_at _ _ _ (by simp))
  have HC0 := Lib.hid (hc0.mono fun (i : Nat) _ (h : False) => (show base ≤ i from h.elim))
  have HBA := Lib.hid (h.still hc0)
  have HBS := Lib.hid (Nat.le_trans hbs hc0.size)
  have hR : RdIs wa base b v s := HBA.out.mem (t := rdT base b v s) (by simp)
  have hRl := ((h.mem (t := rdT base b v s) (by simp) : RdIs w base b v s).foot (i := b) (.inl rfl)).2
  have HNX := Lib.hid (show X ≠ b ∧ X + 1 ≠ b by rw [hX]; omega)
  have x0 := cell_of_blk HX.out 0
  have y0 := cell_of_blk HY.out 0
  have y2 := cell_of_blk HY.out 2
  have HR := Lib.hid hR
  rw [← hwa, ← hX]
  clear hwa hX hc0 h hbs hR hRl
  have HN1 := Lib.hid (rFail_ok HR.out k)
  have HN2 := Lib.hid (fun (wy : World) (hv : VdIs wy base b' v' s) => vFail_ok hv k)
  rw [← hs2] at HN1 HN2
  clear hs2
  go_wp2_with fail
  refine (HN1.out).mono ?_
  rintro e w1 ⟨rfl, hg⟩
  have HG := Lib.hid hg
  have x1 := cell_of_blk (hg.2.blk' HX.out HNX.out.1) 1
  have y2' := cell_of_blk (hg.2.blk' HY.out HNX.out.2) 2
  have HV1 := Lib.hid (show VdIs w1 base b' v' s from (HBA.out.rd HBS.out hg).1.mem (t := vdT base b' v' s) (by simp))
  have HB1 := Lib.hid (Nat.le_trans HBS.out hg.2.size)
  clear hg x0 y0 y2
  go_wp2_with fail
  refine (HN2.out _ HV1.out).mono ?_
  rintro e w2 ⟨rfl, hg2⟩
  have E := Lib.hid (HBA.out.both HBS.out HG.out hg2)
  clear hg2
  go_wp2
  go_ret
  exact ⟨rfl, E.out.1, HC0.out.trans E.out.2 fun _ _ h => h⟩

set_option maxHeartbeats 4000000 in
set_option maxRecDepth 100000 in
theorem reads_6 {w : World} {base B b b' : Nat} {v v' : Value} {s : RS} {bs : BS} {R : List Thing} (h : BookAt base w B bs (rdT base b v s :: vdT base b' v' s :: R)) (hbs : base ≤ w.heap.size) (nn k : Int) (hk : k ≤ 9223372036854775807) (ov : Value) (st : ByteArray) :
    Calls Tryd.prog 28 #[.agg #[.pointer (some ⟨b, 0, none⟩), .pointer (some ⟨b', 0, none⟩)], .agg #[.int .i64 6, .int .u64 nn, .int .i64 k, ov, .string st], .pointer (some ⟨B, 0, none⟩)] w fun e w' => e = .returned (.bool true) ∧ BookAt base w' B bs (rdT base b v (s.textS k) :: vdT base b' v' (s.textS k) :: R) ∧ Chg (fun i => base ≤ i) w w' := by
  go_enter Tryd.func28, Tryd.ntmps28
  go_upto_region 1 with (fail)
  obtain ⟨wa, hwa⟩ : ∃ wa, wa = (w.alloc (.cells #[.pointer (some ⟨b, 0, none⟩), .pointer (some ⟨b', 0, none⟩)] 61 (0, 0))).alloc (.cells #[.int .i64 6, .int .u64 nn, .int .i64 k, ov, .string st] 50 (0, 0)) := ⟨_, rfl⟩
  obtain ⟨X, hX⟩ : ∃ X, X = w.heap.size := ⟨_, rfl⟩
  have hc0 : Chg (fun _ => False) w wa := by rw [hwa]; exact ((Chg.refl _ _).alloc _).alloc _
  have HX := Lib.hid (show blk wa X = some (.cells #[.pointer (some ⟨b, 0, none⟩), .pointer (some ⟨b', 0, none⟩)] 61 (0, 0)) by rw [hwa, hX, blk_alloc_past _ _ _ (by simp)]; exact blk_alloc_at _ _ _ rfl)
  have HY := Lib.hid (show blk wa (X + 1) = some (.cells #[.int .i64 6, .int .u64 nn, .int .i64 k, ov, .string st] 50 (0, 0)) by rw [hwa, hX]; exact blk_alloc_at _ _ _ (by simp))
  have HC0 := Lib.hid (hc0.mono fun (i : Nat) _ (h : False) => (show base ≤ i from h.elim))
  have HBA := Lib.hid (h.still hc0)
  have HBS := Lib.hid (Nat.le_trans hbs hc0.size)
  have hR : RdIs wa base b v s := HBA.out.mem (t := rdT base b v s) (by simp)
  have hRl := ((h.mem (t := rdT base b v s) (by simp) : RdIs w base b v s).foot (i := b) (.inl rfl)).2
  have HNX := Lib.hid (show X ≠ b ∧ X + 1 ≠ b by rw [hX]; omega)
  have x0 := cell_of_blk HX.out 0
  have y0 := cell_of_blk HY.out 0
  have y2 := cell_of_blk HY.out 2
  have HR := Lib.hid hR
  rw [← hwa, ← hX]
  clear hwa hX hc0 h hbs hR hRl
  have HN1 := Lib.hid (rtext_ok HR.out HBS.out k)
  have HN2 := Lib.hid (fun (wy : World) (hv : VdIs wy base b' v' s) (hb : base ≤ wy.heap.size) => vtext_ok hv hb k)
  obtain ⟨tv, htv⟩ : ∃ tv, tv = strOfNums (s.textV k) := ⟨_, rfl⟩
  rw [← htv] at HN1 HN2
  clear htv
  go_wp2_with fail
  refine (HN1.out).mono ?_
  rintro e w1 ⟨rfl, hg⟩
  have HG := Lib.hid hg
  have x1 := cell_of_blk (hg.2.blk' HX.out HNX.out.1) 1
  have y2' := cell_of_blk (hg.2.blk' HY.out HNX.out.2) 2
  have HV1 := Lib.hid (show VdIs w1 base b' v' s from (HBA.out.rd HBS.out hg).1.mem (t := vdT base b' v' s) (by simp))
  have HB1 := Lib.hid (Nat.le_trans HBS.out hg.2.size)
  clear hg x0 y0 y2
  go_wp2_with fail
  refine (HN2.out _ HV1.out HB1.out).mono ?_
  rintro e w2 ⟨rfl, hg2⟩
  have E := Lib.hid (HBA.out.both HBS.out HG.out hg2)
  clear hg2
  go_wp2
  go_ret
  exact ⟨rfl, E.out.1, HC0.out.trans E.out.2 fun _ _ h => h⟩

set_option maxHeartbeats 4000000 in
set_option maxRecDepth 100000 in
theorem reads_else {w : World} {base B b b' : Nat} {v v' : Value} {s : RS} {bs : BS} {R : List Thing} (h : BookAt base w B bs (rdT base b v s :: vdT base b' v' s :: R)) (hbs : base ≤ w.heap.size) (kd : Int) (h1 : kd ≠ 1) (h2 : kd ≠ 2) (h3 : kd ≠ 3) (h4 : kd ≠ 4) (h5 : kd ≠ 5) (h6 : kd ≠ 6) (h7 : kd ≠ 7) (h9 : kd ≠ 9) (h11 : kd ≠ 11) (nn k : Int) (hk : k ≤ 9223372036854775807) (ov : Value) (st : ByteArray) :
    Calls Tryd.prog 28 #[.agg #[.pointer (some ⟨b, 0, none⟩), .pointer (some ⟨b', 0, none⟩)], .agg #[.int .i64 kd, .int .u64 nn, .int .i64 k, ov, .string st], .pointer (some ⟨B, 0, none⟩)] w fun e w' => e = .returned (.bool true) ∧ BookAt base w' B bs (rdT base b v s :: vdT base b' v' s :: R) ∧ Chg (fun i => base ≤ i) w w' := by
  go_enter Tryd.func28, Tryd.ntmps28
  go_upto_region 1 with (fail)
  obtain ⟨wa, hwa⟩ : ∃ wa, wa = (w.alloc (.cells #[.pointer (some ⟨b, 0, none⟩), .pointer (some ⟨b', 0, none⟩)] 61 (0, 0))).alloc (.cells #[.int .i64 kd, .int .u64 nn, .int .i64 k, ov, .string st] 50 (0, 0)) := ⟨_, rfl⟩
  obtain ⟨X, hX⟩ : ∃ X, X = w.heap.size := ⟨_, rfl⟩
  have hc0 : Chg (fun _ => False) w wa := by rw [hwa]; exact ((Chg.refl _ _).alloc _).alloc _
  have HX := Lib.hid (show blk wa X = some (.cells #[.pointer (some ⟨b, 0, none⟩), .pointer (some ⟨b', 0, none⟩)] 61 (0, 0)) by rw [hwa, hX, blk_alloc_past _ _ _ (by simp)]; exact blk_alloc_at _ _ _ rfl)
  have HY := Lib.hid (show blk wa (X + 1) = some (.cells #[.int .i64 kd, .int .u64 nn, .int .i64 k, ov, .string st] 50 (0, 0)) by rw [hwa, hX]; exact blk_alloc_at _ _ _ (by simp))
  have HC0 := Lib.hid (hc0.mono fun (i : Nat) _ (h : False) => (show base ≤ i from h.elim))
  have HBA := Lib.hid (h.still hc0)
  have HBS := Lib.hid (Nat.le_trans hbs hc0.size)
  have hR : RdIs wa base b v s := HBA.out.mem (t := rdT base b v s) (by simp)
  have hRl := ((h.mem (t := rdT base b v s) (by simp) : RdIs w base b v s).foot (i := b) (.inl rfl)).2
  have HNX := Lib.hid (show X ≠ b ∧ X + 1 ≠ b by rw [hX]; omega)
  have x0 := cell_of_blk HX.out 0
  have y0 := cell_of_blk HY.out 0
  have y2 := cell_of_blk HY.out 2
  have HR := Lib.hid hR
  rw [← hwa, ← hX]
  clear hwa hX hc0 h hbs hR hRl
  have g1 : (kd == 1) = false := beq_eq_false_iff_ne.2 h1
  have g2 : (kd == 2) = false := beq_eq_false_iff_ne.2 h2
  have g3 : (kd == 3) = false := beq_eq_false_iff_ne.2 h3
  have g4 : (kd == 4) = false := beq_eq_false_iff_ne.2 h4
  have g5 : (kd == 5) = false := beq_eq_false_iff_ne.2 h5
  have g6 : (kd == 6) = false := beq_eq_false_iff_ne.2 h6
  have g7 : (kd == 7) = false := beq_eq_false_iff_ne.2 h7
  have g9 : (kd == 9) = false := beq_eq_false_iff_ne.2 h9
  have g11 : (kd == 11) = false := beq_eq_false_iff_ne.2 h11
  clear h1 h2 h3 h4 h5 h6 h7 h9 h11
  go_wp2
  go_ret
  exact ⟨rfl, HBA.out, HC0.out⟩

end Go.Proofs.YtfihpiommicdbaaDoor
