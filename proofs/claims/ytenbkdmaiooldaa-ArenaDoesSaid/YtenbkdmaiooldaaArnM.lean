/- The law's world: contracts of step on the newer arenas, kind by kind. No condition. (Printed by genAM.py.) -/
import Derived.Test.YtenbkdmaiooldaaArnL
import Derived.Test.YtenbkdmaiooldaaMemG
import Derived.StillTailTactics
namespace Go.Proofs.Ytenbkdmaiooldaa
open Go.RowKit Go.Cl
set_option linter.unusedVariables false
set_option linter.unusedSimpArgs false
attribute [local go_sem] lt_add_one' blk_alloc_past blk_alloc_at blk_drew blk_setCell_ne

abbrev stO (kd pg : Int) (old : Bool) (at_ base : Nat) (bt : Int) : Obj := .cells #[.int .i64 kd, .int .i64 pg, .bool old, .int .u32 at_, .int .u32 base, .int .u8 bt] 54 (0, 0)
def Kept (P Q : List Thing → Prop) (bs : Nat) (w : World) (X b n mp : Nat) (p q : Option (Nat × Nat)) (L : List Thing) (e : Ending) (w' : World) : Prop :=
  e = .returned (.bool true) ∧ StG P Q bs w' X b n mp p q L ∧ Chg (fun i => bs ≤ i) w w'
def Stepd (bs : Nat) (w : World) (X b n mp : Nat) (q : Option (Nat × Nat)) (L : List Thing) (e : Ending) (w' : World) : Prop :=
  e = .returned (.bool true) ∧ (∃ p' q', St bs w' X b n mp (some p') q' L) ∧ Chg (fun i => bs ≤ i) w w'

theorem Kept.stepd {bs : Nat} {w : World} {X b n mp : Nat} {p : Nat × Nat} {q : Option (Nat × Nat)} {L : List Thing} {e : Ending} {w' : World} (h : Kept (Pr mp b n (some p)) (Pr mp b n q) bs w X b n mp (some p) q L e w') : Stepd bs w X b n mp q L e w' := ⟨h.1, ⟨_, _, h.2.1⟩, h.2.2⟩

theorem StG.make {bs : Nat} {w : World} {X b n mp a r : Nat} {q : Option (Nat × Nat)} {L : List Thing} (h : St bs w X b n mp (some (a, r)) q L) (hbs : bs ≤ w.heap.size) {base : Nat} (hba : base < 4294967296) {pg : Int} (hpg : I64 pg) : Calls Try.prog 26 #[.pointer (some ⟨X, 0, none⟩), .int .u32 base, .int .i64 pg] w (Stepd bs w X b n mp q L) := by
  by_cases hok : arenaOk mp base pg
  · have hmp : mp ≤ 4096 := h.few.2
    obtain ⟨k, rfl⟩ := Int.eq_ofNat_of_zero_le hok.2.1
    refine (make_ok h hbs hba hok).mono fun e w' he => ⟨he.1, ?_, he.2.2⟩
    obtain ⟨a', r', hs⟩ := he.2.1
    exact ⟨_, _, hs.mono (fun l hl => hl.pr (pair_new hmp hba hok)) fun _ h => h⟩
  · refine (make_bad h hba (by unfold I64 at hpg; omega) hok).mono fun e w' he => ?_
    obtain ⟨rfl, rfl⟩ := he
    exact ⟨rfl, ⟨_, _, h⟩, Chg.refl _ _⟩
theorem StG.told {bs : Nat} {w : World} {X b n mp a r : Nat} {q : Option (Nat × Nat)} {L : List Thing} (h : St bs w X b n mp (some (a, r)) q L) {addr : Nat} (hat : addr < 4294967296) : Calls Try.prog 28 #[.pointer (some ⟨X, 0, none⟩), .int .u32 addr] w fun e w' => e = .returned (.bool true) ∧ Chg (fun _ => False) w w' := by
  have hx := h.x
  obtain ⟨m, pg, R, qs, f, Lp, Lq, ⟨base, pages, taken, sealed, hok, rfl⟩, h2, h3, h4, h5, h6⟩ := h
  exact told_ok hx (h6.all (blkT a (arO b base pages taken sealed)) (by simp)) (h6.all (blkT r (rarO n base pages taken sealed)) (by simp)) hok hat

set_option maxHeartbeats 4000000 in
set_option maxRecDepth 100000 in
theorem step_0 {bs : Nat} {w : World} {X b n mp a r : Nat} {q : Option (Nat × Nat)} {L : List Thing} (h : St bs w X b n mp (some (a, r)) q L) (hbs : bs ≤ w.heap.size) (kd pg : Int) (hkd : I64 kd) (hpg : I64 pg) (hk : pickI kd 6 = 0) (at_ base : Nat) (hat : at_ < 4294967296) (hba : base < 4294967296) (bt : Int) (hbt : 0 ≤ bt ∧ bt ≤ 255) :
    Calls Try.prog 27 #[.pointer (some ⟨X, 0, none⟩), .agg #[.int .i64 kd, .int .i64 pg, .bool false, .int .u32 at_, .int .u32 base, .int .u8 bt]] w (Kept (Pr mp b n (some (a, r))) (Pr mp b n q) bs w X b n mp (some (a, r)) q L) := by
  have HPK := Lib.hid (fun (wy : World) => (show Calls Try.prog 18 #[.int .i64 kd, .int .i64 6] wy fun e w' => e = .returned (.int .i64 0) ∧ w' = wy from by have h1 := pick6_any kd 6 hkd (by omega) (by omega) wy; rw [hk] at h1; exact h1))
  have HPG := Lib.hid hpg
  have HAT := Lib.hid (And.intro hat hba)
  have HBT := Lib.hid hbt
  clear hkd hpg hk hat hba hbt
  go_enter Try.func27, Try.ntmps27
  go_upto_region 1 with (fail)
  obtain ⟨wa, hwa⟩ : ∃ wa, wa = w.alloc (.cells #[.int .i64 kd, .int .i64 pg, .bool false, .int .u32 at_, .int .u32 base, .int .u8 bt] 54 (0, 0)) := ⟨_, rfl⟩
  obtain ⟨Y, hY⟩ : ∃ Y, Y = w.heap.size := ⟨_, rfl⟩
  have hc0 : Chg (fun _ => False) w wa := by rw [hwa]; exact (Chg.refl _ _).alloc _
  have hyb : blk wa Y = some (stO kd pg false at_ base bt) := by rw [hwa, hY]; exact blk_alloc_at _ _ _ rfl
  have HT0 := Lib.hid (h.add (u := blkT Y (stO kd pg false at_ base bt)) hbs hc0 hyb (fun i hi => by
    have hi : i = Y := hi
    omega))
  have HC0 := Lib.hid (show Chg (fun i => bs ≤ i) w wa from hc0.mono fun (i : Nat) _ (h : False) => h.elim)
  have HB0 := Lib.hid (Nat.le_trans hbs hc0.size)
  have y0 := cell_of_blk hyb 0
  have y1 := cell_of_blk hyb 1
  have y2 := cell_of_blk hyb 2
  have y4 := cell_of_blk hyb 4
  have y5 := cell_of_blk hyb 5
  have y3 := cell_of_blk hyb 3
  have hxx := HT0.out.x
  unfold wO ptrO at hxx
  have x2 := cell_of_blk hxx 2
  have x3 := cell_of_blk hxx 3
  rw [← hwa, ← hY]
  clear hwa hY hc0 hyb h hbs hxx
  obtain ⟨x, y, ht⟩ := HT0.out.take HB0.out
  have HS := Lib.hid ht
  have bx : (x == x) = true := by simp
  have byy : (y == y) = true := by simp
  clear ht
  go_wp2_with fail
  refine (HPK.out _).mono ?_
  rintro e w1 ⟨rfl, rfl⟩
  go_wp2_with fail
  refine HS.out.mono ?_
  rintro e w2 ⟨rfl, hx2, hc2, hcall⟩
  have HC2 := Lib.hid (HC0.out.trans hc2 fun _ _ h => h)
  have HCALL := Lib.hid hcall
  unfold wO ptrO at hx2
  have x3' := cell_of_blk hx2 3
  clear x2 x3 y0 y1 y2 y3 y4 y5 hx2 hc2 hcall HS
  go_wp2_with fail
  refine HCALL.out.mono ?_
  rintro e w3 ⟨rfl, hs3, hc3⟩
  have HS3 := Lib.hid (hs3.sub (List.sublist_cons_self _ _))
  have HC3 := Lib.hid (HC2.out.trans hc3 fun _ _ h => h)
  clear hs3 hc3 HCALL
  go_wp2_with fail
  refine (num_ok _ y).mono ?_
  rintro e w4 ⟨rfl, rfl⟩
  go_wp2
  go_ret
  exact ⟨rfl, HS3.out, HC3.out⟩

set_option maxHeartbeats 4000000 in
set_option maxRecDepth 100000 in
theorem step_1 {bs : Nat} {w : World} {X b n mp a r : Nat} {q : Option (Nat × Nat)} {L : List Thing} (h : St bs w X b n mp (some (a, r)) q L) (hbs : bs ≤ w.heap.size) (kd pg : Int) (hkd : I64 kd) (hpg : I64 pg) (hk : pickI kd 6 = 1) (at_ base : Nat) (hat : at_ < 4294967296) (hba : base < 4294967296) (bt : Int) (hbt : 0 ≤ bt ∧ bt ≤ 255) :
    Calls Try.prog 27 #[.pointer (some ⟨X, 0, none⟩), .agg #[.int .i64 kd, .int .i64 pg, .bool false, .int .u32 at_, .int .u32 base, .int .u8 bt]] w (Kept (Pr mp b n (some (a, r))) (Pr mp b n q) bs w X b n mp (some (a, r)) q L) := by
  have HPK := Lib.hid (fun (wy : World) => (show Calls Try.prog 18 #[.int .i64 kd, .int .i64 6] wy fun e w' => e = .returned (.int .i64 1) ∧ w' = wy from by have h1 := pick6_any kd 6 hkd (by omega) (by omega) wy; rw [hk] at h1; exact h1))
  have HPG := Lib.hid hpg
  have HAT := Lib.hid (And.intro hat hba)
  have HBT := Lib.hid hbt
  clear hkd hpg hk hat hba hbt
  go_enter Try.func27, Try.ntmps27
  go_upto_region 1 with (fail)
  obtain ⟨wa, hwa⟩ : ∃ wa, wa = w.alloc (.cells #[.int .i64 kd, .int .i64 pg, .bool false, .int .u32 at_, .int .u32 base, .int .u8 bt] 54 (0, 0)) := ⟨_, rfl⟩
  obtain ⟨Y, hY⟩ : ∃ Y, Y = w.heap.size := ⟨_, rfl⟩
  have hc0 : Chg (fun _ => False) w wa := by rw [hwa]; exact (Chg.refl _ _).alloc _
  have hyb : blk wa Y = some (stO kd pg false at_ base bt) := by rw [hwa, hY]; exact blk_alloc_at _ _ _ rfl
  have HT0 := Lib.hid (h.add (u := blkT Y (stO kd pg false at_ base bt)) hbs hc0 hyb (fun i hi => by
    have hi : i = Y := hi
    omega))
  have HC0 := Lib.hid (show Chg (fun i => bs ≤ i) w wa from hc0.mono fun (i : Nat) _ (h : False) => h.elim)
  have HB0 := Lib.hid (Nat.le_trans hbs hc0.size)
  have y0 := cell_of_blk hyb 0
  have y1 := cell_of_blk hyb 1
  have y2 := cell_of_blk hyb 2
  have y4 := cell_of_blk hyb 4
  have y5 := cell_of_blk hyb 5
  have y3 := cell_of_blk hyb 3
  have hxx := HT0.out.x
  unfold wO ptrO at hxx
  have x2 := cell_of_blk hxx 2
  have x3 := cell_of_blk hxx 3
  rw [← hwa, ← hY]
  clear hwa hY hc0 hyb h hbs hxx
  obtain ⟨x, y, ht⟩ := HT0.out.take HB0.out
  have HS := Lib.hid ht
  have bx : (x == x) = true := by simp
  have byy : (y == y) = true := by simp
  clear ht
  go_wp2_with fail
  refine (HPK.out _).mono ?_
  rintro e w1 ⟨rfl, rfl⟩
  go_wp2_with fail
  refine HS.out.mono ?_
  rintro e w2 ⟨rfl, hx2, hc2, hcall⟩
  have HC2 := Lib.hid (HC0.out.trans hc2 fun _ _ h => h)
  have HCALL := Lib.hid hcall
  unfold wO ptrO at hx2
  have x3' := cell_of_blk hx2 3
  clear x2 x3 y0 y1 y2 y3 y4 y5 hx2 hc2 hcall HS
  go_wp2_with fail
  refine HCALL.out.mono ?_
  rintro e w3 ⟨rfl, hs3, hc3⟩
  have HS3 := Lib.hid (hs3.sub (List.sublist_cons_self _ _))
  have HC3 := Lib.hid (HC2.out.trans hc3 fun _ _ h => h)
  clear hs3 hc3 HCALL
  go_wp2_with fail
  refine (num_ok _ y).mono ?_
  rintro e w4 ⟨rfl, rfl⟩
  go_wp2
  go_ret
  exact ⟨rfl, HS3.out, HC3.out⟩

set_option maxHeartbeats 4000000 in
set_option maxRecDepth 100000 in
theorem step_2 {bs : Nat} {w : World} {X b n mp a r : Nat} {q : Option (Nat × Nat)} {L : List Thing} (h : St bs w X b n mp (some (a, r)) q L) (hbs : bs ≤ w.heap.size) (kd pg : Int) (hkd : I64 kd) (hpg : I64 pg) (hk : pickI kd 6 = 2) (at_ base : Nat) (hat : at_ < 4294967296) (hba : base < 4294967296) (bt : Int) (hbt : 0 ≤ bt ∧ bt ≤ 255) :
    Calls Try.prog 27 #[.pointer (some ⟨X, 0, none⟩), .agg #[.int .i64 kd, .int .i64 pg, .bool false, .int .u32 at_, .int .u32 base, .int .u8 bt]] w (Kept (Pr mp b n (some (a, r))) (Pr mp b n q) bs w X b n mp (some (a, r)) q L) := by
  have HPK := Lib.hid (fun (wy : World) => (show Calls Try.prog 18 #[.int .i64 kd, .int .i64 6] wy fun e w' => e = .returned (.int .i64 2) ∧ w' = wy from by have h1 := pick6_any kd 6 hkd (by omega) (by omega) wy; rw [hk] at h1; exact h1))
  have HPG := Lib.hid hpg
  have HAT := Lib.hid (And.intro hat hba)
  have HBT := Lib.hid hbt
  clear hkd hpg hk hat hba hbt
  go_enter Try.func27, Try.ntmps27
  go_upto_region 1 with (fail)
  obtain ⟨wa, hwa⟩ : ∃ wa, wa = w.alloc (.cells #[.int .i64 kd, .int .i64 pg, .bool false, .int .u32 at_, .int .u32 base, .int .u8 bt] 54 (0, 0)) := ⟨_, rfl⟩
  obtain ⟨Y, hY⟩ : ∃ Y, Y = w.heap.size := ⟨_, rfl⟩
  have hc0 : Chg (fun _ => False) w wa := by rw [hwa]; exact (Chg.refl _ _).alloc _
  have hyb : blk wa Y = some (stO kd pg false at_ base bt) := by rw [hwa, hY]; exact blk_alloc_at _ _ _ rfl
  have HT0 := Lib.hid (h.add (u := blkT Y (stO kd pg false at_ base bt)) hbs hc0 hyb (fun i hi => by
    have hi : i = Y := hi
    omega))
  have HC0 := Lib.hid (show Chg (fun i => bs ≤ i) w wa from hc0.mono fun (i : Nat) _ (h : False) => h.elim)
  have HB0 := Lib.hid (Nat.le_trans hbs hc0.size)
  have y0 := cell_of_blk hyb 0
  have y1 := cell_of_blk hyb 1
  have y2 := cell_of_blk hyb 2
  have y4 := cell_of_blk hyb 4
  have y5 := cell_of_blk hyb 5
  have y3 := cell_of_blk hyb 3
  have hxx := HT0.out.x
  unfold wO ptrO at hxx
  have x2 := cell_of_blk hxx 2
  have x3 := cell_of_blk hxx 3
  rw [← hwa, ← hY]
  clear hwa hY hc0 hyb h hbs hxx
  have HS := Lib.hid (HT0.out.seal HB0.out)
  go_wp2_with fail
  refine (HPK.out _).mono ?_
  rintro e w1 ⟨rfl, rfl⟩
  go_wp2_with fail
  refine HS.out.mono ?_
  rintro e w2 ⟨rfl, hx2, hc2, hcall⟩
  have HC2 := Lib.hid (HC0.out.trans hc2 fun _ _ h => h)
  have HCALL := Lib.hid hcall
  unfold wO ptrO at hx2
  have x3' := cell_of_blk hx2 3
  clear x2 x3 y0 y1 y2 y3 y4 y5 hx2 hc2 hcall HS
  go_wp2_with fail
  refine HCALL.out.mono ?_
  rintro e w3 ⟨rfl, hs3, hc3⟩
  have HS3 := Lib.hid (hs3.sub (List.sublist_cons_self _ _))
  have HC3 := Lib.hid (HC2.out.trans hc3 fun _ _ h => h)
  clear hs3 hc3 HCALL
  go_wp2
  go_ret
  exact ⟨rfl, HS3.out, HC3.out⟩

set_option maxHeartbeats 4000000 in
set_option maxRecDepth 100000 in
theorem step_3 {bs : Nat} {w : World} {X b n mp a r : Nat} {q : Option (Nat × Nat)} {L : List Thing} (h : St bs w X b n mp (some (a, r)) q L) (hbs : bs ≤ w.heap.size) (kd pg : Int) (hkd : I64 kd) (hpg : I64 pg) (hk : pickI kd 6 = 3) (at_ base : Nat) (hat : at_ < 4294967296) (hba : base < 4294967296) (bt : Int) (hbt : 0 ≤ bt ∧ bt ≤ 255) :
    Calls Try.prog 27 #[.pointer (some ⟨X, 0, none⟩), .agg #[.int .i64 kd, .int .i64 pg, .bool false, .int .u32 at_, .int .u32 base, .int .u8 bt]] w (Kept (Pr mp b n (some (a, r))) (Pr mp b n q) bs w X b n mp (some (a, r)) q L) := by
  have HPK := Lib.hid (fun (wy : World) => (show Calls Try.prog 18 #[.int .i64 kd, .int .i64 6] wy fun e w' => e = .returned (.int .i64 3) ∧ w' = wy from by have h1 := pick6_any kd 6 hkd (by omega) (by omega) wy; rw [hk] at h1; exact h1))
  have HPG := Lib.hid hpg
  have HAT := Lib.hid (And.intro hat hba)
  have HBT := Lib.hid hbt
  clear hkd hpg hk hat hba hbt
  go_enter Try.func27, Try.ntmps27
  go_upto_region 1 with (fail)
  obtain ⟨wa, hwa⟩ : ∃ wa, wa = w.alloc (.cells #[.int .i64 kd, .int .i64 pg, .bool false, .int .u32 at_, .int .u32 base, .int .u8 bt] 54 (0, 0)) := ⟨_, rfl⟩
  obtain ⟨Y, hY⟩ : ∃ Y, Y = w.heap.size := ⟨_, rfl⟩
  have hc0 : Chg (fun _ => False) w wa := by rw [hwa]; exact (Chg.refl _ _).alloc _
  have hyb : blk wa Y = some (stO kd pg false at_ base bt) := by rw [hwa, hY]; exact blk_alloc_at _ _ _ rfl
  have HT0 := Lib.hid (h.add (u := blkT Y (stO kd pg false at_ base bt)) hbs hc0 hyb (fun i hi => by
    have hi : i = Y := hi
    omega))
  have HC0 := Lib.hid (show Chg (fun i => bs ≤ i) w wa from hc0.mono fun (i : Nat) _ (h : False) => h.elim)
  have HB0 := Lib.hid (Nat.le_trans hbs hc0.size)
  have y0 := cell_of_blk hyb 0
  have y1 := cell_of_blk hyb 1
  have y2 := cell_of_blk hyb 2
  have y4 := cell_of_blk hyb 4
  have y5 := cell_of_blk hyb 5
  have y3 := cell_of_blk hyb 3
  have hxx := HT0.out.x
  unfold wO ptrO at hxx
  have x2 := cell_of_blk hxx 2
  have x3 := cell_of_blk hxx 3
  rw [← hwa, ← hY]
  clear hwa hY hc0 hyb h hbs hxx
  have HS := Lib.hid (HT0.out.told HAT.out.1)
  go_wp2_with fail
  refine (HPK.out _).mono ?_
  rintro e w1 ⟨rfl, rfl⟩
  go_wp2_with fail
  refine HS.out.mono ?_
  rintro e w2 ⟨rfl, hc2⟩
  have HC2 := Lib.hid (HC0.out.trans hc2 fun _ _ h => h.elim)
  have HS2 := Lib.hid ((HT0.out.still hc2).sub (List.sublist_cons_self _ _))
  clear x2 x3 y0 y1 y2 y3 y4 y5 hc2 HS
  go_wp2
  go_ret
  exact ⟨rfl, HS2.out, HC2.out⟩

set_option maxHeartbeats 4000000 in
set_option maxRecDepth 100000 in
theorem step_5 {bs : Nat} {w : World} {X b n mp a r : Nat} {q : Option (Nat × Nat)} {L : List Thing} (h : St bs w X b n mp (some (a, r)) q L) (hbs : bs ≤ w.heap.size) (kd pg : Int) (hkd : I64 kd) (hpg : I64 pg) (hk : pickI kd 6 = 5) (at_ base : Nat) (hat : at_ < 4294967296) (hba : base < 4294967296) (bt : Int) (hbt : 0 ≤ bt ∧ bt ≤ 255) :
    Calls Try.prog 27 #[.pointer (some ⟨X, 0, none⟩), .agg #[.int .i64 kd, .int .i64 pg, .bool false, .int .u32 at_, .int .u32 base, .int .u8 bt]] w (Stepd bs w X b n mp q L) := by
  have HPK := Lib.hid (fun (wy : World) => (show Calls Try.prog 18 #[.int .i64 kd, .int .i64 6] wy fun e w' => e = .returned (.int .i64 5) ∧ w' = wy from by have h1 := pick6_any kd 6 hkd (by omega) (by omega) wy; rw [hk] at h1; exact h1))
  have HPG := Lib.hid hpg
  have HAT := Lib.hid (And.intro hat hba)
  have HBT := Lib.hid hbt
  clear hkd hpg hk hat hba hbt
  go_enter Try.func27, Try.ntmps27
  go_upto_region 1 with (fail)
  obtain ⟨wa, hwa⟩ : ∃ wa, wa = w.alloc (.cells #[.int .i64 kd, .int .i64 pg, .bool false, .int .u32 at_, .int .u32 base, .int .u8 bt] 54 (0, 0)) := ⟨_, rfl⟩
  obtain ⟨Y, hY⟩ : ∃ Y, Y = w.heap.size := ⟨_, rfl⟩
  have hc0 : Chg (fun _ => False) w wa := by rw [hwa]; exact (Chg.refl _ _).alloc _
  have hyb : blk wa Y = some (stO kd pg false at_ base bt) := by rw [hwa, hY]; exact blk_alloc_at _ _ _ rfl
  have HT0 := Lib.hid (h.add (u := blkT Y (stO kd pg false at_ base bt)) hbs hc0 hyb (fun i hi => by
    have hi : i = Y := hi
    omega))
  have HC0 := Lib.hid (show Chg (fun i => bs ≤ i) w wa from hc0.mono fun (i : Nat) _ (h : False) => h.elim)
  have HB0 := Lib.hid (Nat.le_trans hbs hc0.size)
  have y0 := cell_of_blk hyb 0
  have y1 := cell_of_blk hyb 1
  have y2 := cell_of_blk hyb 2
  have y4 := cell_of_blk hyb 4
  have y5 := cell_of_blk hyb 5
  have y3 := cell_of_blk hyb 3
  have hxx := HT0.out.x
  unfold wO ptrO at hxx
  have x2 := cell_of_blk hxx 2
  have x3 := cell_of_blk hxx 3
  rw [← hwa, ← hY]
  clear hwa hY hc0 hyb h hbs hxx
  have HS := Lib.hid (HT0.out.make HB0.out HAT.out.2 HPG.out)
  go_wp2_with fail
  refine (HPK.out _).mono ?_
  rintro e w1 ⟨rfl, rfl⟩
  go_wp2_with fail
  refine HS.out.mono ?_
  rintro e w2 ⟨rfl, ⟨p', q', hs2⟩, hc2⟩
  have HC2 := Lib.hid (HC0.out.trans hc2 fun _ _ h => h)
  have HS2 := Lib.hid (hs2.sub (List.sublist_cons_self _ _))
  clear x2 x3 y0 y1 y2 y3 y4 y5 hs2 hc2 HS
  go_wp2
  go_ret
  exact ⟨rfl, ⟨_, _, HS2.out⟩, HC2.out⟩

set_option maxHeartbeats 4000000 in
set_option maxRecDepth 100000 in
theorem step_4 {P Q : List Thing → Prop} {bs : Nat} {w : World} {X b n mp a r : Nat} {q : Option (Nat × Nat)} {L : List Thing} (h : StG P Q bs w X b n mp (some (a, r)) q L) (hbs : bs ≤ w.heap.size) (kd pg : Int) (hkd : I64 kd) (hpg : I64 pg) (hk : pickI kd 6 = 4) (at_ base : Nat) (hat : at_ < 4294967296) (hba : base < 4294967296) (bt : Int) (hbt : 0 ≤ bt ∧ bt ≤ 255) :
    Calls Try.prog 27 #[.pointer (some ⟨X, 0, none⟩), .agg #[.int .i64 kd, .int .i64 pg, .bool false, .int .u32 at_, .int .u32 base, .int .u8 bt]] w (Kept P Q bs w X b n mp (some (a, r)) q L) := by
  have HPK := Lib.hid (fun (wy : World) => (show Calls Try.prog 18 #[.int .i64 kd, .int .i64 6] wy fun e w' => e = .returned (.int .i64 4) ∧ w' = wy from by have h1 := pick6_any kd 6 hkd (by omega) (by omega) wy; rw [hk] at h1; exact h1))
  have HPG := Lib.hid hpg
  have HAT := Lib.hid (And.intro hat hba)
  have HBT := Lib.hid hbt
  clear hkd hpg hk hat hba hbt
  go_enter Try.func27, Try.ntmps27
  go_upto_region 1 with (fail)
  obtain ⟨wa, hwa⟩ : ∃ wa, wa = w.alloc (.cells #[.int .i64 kd, .int .i64 pg, .bool false, .int .u32 at_, .int .u32 base, .int .u8 bt] 54 (0, 0)) := ⟨_, rfl⟩
  obtain ⟨Y, hY⟩ : ∃ Y, Y = w.heap.size := ⟨_, rfl⟩
  have hc0 : Chg (fun _ => False) w wa := by rw [hwa]; exact (Chg.refl _ _).alloc _
  have hyb : blk wa Y = some (stO kd pg false at_ base bt) := by rw [hwa, hY]; exact blk_alloc_at _ _ _ rfl
  have HT0 := Lib.hid (h.add (u := blkT Y (stO kd pg false at_ base bt)) hbs hc0 hyb (fun i hi => by
    have hi : i = Y := hi
    omega))
  have HC0 := Lib.hid (show Chg (fun i => bs ≤ i) w wa from hc0.mono fun (i : Nat) _ (h : False) => h.elim)
  have HB0 := Lib.hid (Nat.le_trans hbs hc0.size)
  have y0 := cell_of_blk hyb 0
  have y1 := cell_of_blk hyb 1
  have y2 := cell_of_blk hyb 2
  have y4 := cell_of_blk hyb 4
  have y5 := cell_of_blk hyb 5
  have y3 := cell_of_blk hyb 3
  have hxx := HT0.out.x
  unfold wO ptrO at hxx
  have x2 := cell_of_blk hxx 2
  have x3 := cell_of_blk hxx 3
  rw [← hwa, ← hY]
  clear hwa hY hc0 hyb h hbs hxx
  have hat := HAT.out.1
  obtain ⟨z, hz⟩ : ∃ z : Nat, z = at_ % 65536 := ⟨_, rfl⟩
  have zz1 : (at_ : Int).tmod 65536 = (z : Int) := by rw [Int.tmod_eq_emod_of_nonneg (by omega)]; omega
  have zz2 : (at_ : Int) % 65536 = (z : Int) := by omega
  have zz3 : IntKind.u32.wrap (z : Int) = (z : Int) := by rw [IntKind.wrap_u32]; omega
  have HS := Lib.hid ((HT0.out.still ((Chg.refl _ wa).drew)).fill (by simpa using HB0.out) (addr := z) (by omega) HBT.out)
  have x0 := cell_of_blk HT0.out.x 0
  unfold ptrV at x0 HS
  clear hz hat
  go_wp2_with fail
  refine (HPK.out _).mono ?_
  rintro e w1 ⟨rfl, rfl⟩
  go_upto_region 18 with (fail)
  go_still_tail 7, (by kernel_rfl)
  change wpList _ _ _ _ _ (World.drew _)
  go_wp2_with fail
  refine HS.out.mono ?_
  rintro e w2 ⟨⟨v, rfl⟩, hx2, hL, hc2, hcall⟩
  have HC2 := Lib.hid (show Chg (fun i => bs ≤ i) w w2 from HC0.out.trans (((Chg.refl (fun i => bs ≤ i) w1).drew).trans hc2 fun _ _ h => h) fun _ _ h => h)
  have HCALL := Lib.hid (hcall _ ((Chg.refl _ w2).drew))
  have hy2 : blk w2 Y = some (stO kd pg false at_ base bt) := hL (blkT Y (stO kd pg false at_ base bt)) (by simp)
  have y5' := cell_of_blk hy2 5
  unfold wO ptrO at hx2
  have x1' := cell_of_blk hx2 1
  clear x0 x2 x3 y0 y1 y2 y3 y4 y5 hx2 hc2 hcall HS hL hy2
  go_upto_region 19 with (fail)
  go_still_tail 7, (by kernel_rfl)
  change wpList _ _ _ _ _ (World.drew _)
  go_wp2_with fail
  refine HCALL.out.mono ?_
  rintro e w3 ⟨⟨v3, rfl⟩, hs3, hc3⟩
  have HS3 := Lib.hid (hs3.sub (List.sublist_cons_self _ _))
  have HC3 := Lib.hid (show Chg (fun i => bs ≤ i) w w3 from HC2.out.trans (((Chg.refl (fun i => bs ≤ i) w2).drew).trans hc3 fun _ _ h => h) fun _ _ h => h)
  clear hs3 hc3 HCALL
  go_wp2
  go_ret
  exact ⟨rfl, HS3.out, HC3.out⟩

set_option maxHeartbeats 4000000 in
set_option maxRecDepth 100000 in
theorem step_first {Q : List Thing → Prop} {bs : Nat} {w : World} {X b n mp a r base0 pages0 taken0 : Nat} {q : Option (Nat × Nat)} {L : List Thing} (h : StG (ArL a r b n base0 pages0 taken0) Q bs w X b n mp (some (a, r)) q L) (hok0 : PairOk mp base0 pages0 taken0) (ht0 : taken0 < pages0) (hbs : bs ≤ w.heap.size) (kd pg : Int) (hkd : I64 kd) (hpg : I64 pg) (hk : pickI kd 6 = 0) (at_ base : Nat) (hat : at_ < 4294967296) (hba : base < 4294967296) (bt : Int) (hbt : 0 ≤ bt ∧ bt ≤ 255) :
    Calls Try.prog 27 #[.pointer (some ⟨X, 0, none⟩), .agg #[.int .i64 kd, .int .i64 pg, .bool false, .int .u32 at_, .int .u32 base, .int .u8 bt]] w (Kept (ArL a r b n base0 pages0 (taken0 + 1)) Q bs w X b n mp (some (a, r)) q L) := by
  have HPK := Lib.hid (fun (wy : World) => (show Calls Try.prog 18 #[.int .i64 kd, .int .i64 6] wy fun e w' => e = .returned (.int .i64 0) ∧ w' = wy from by have h1 := pick6_any kd 6 hkd (by omega) (by omega) wy; rw [hk] at h1; exact h1))
  have HPG := Lib.hid hpg
  have HAT := Lib.hid (And.intro hat hba)
  have HBT := Lib.hid hbt
  clear hkd hpg hk hat hba hbt
  go_enter Try.func27, Try.ntmps27
  go_upto_region 1 with (fail)
  obtain ⟨wa, hwa⟩ : ∃ wa, wa = w.alloc (.cells #[.int .i64 kd, .int .i64 pg, .bool false, .int .u32 at_, .int .u32 base, .int .u8 bt] 54 (0, 0)) := ⟨_, rfl⟩
  obtain ⟨Y, hY⟩ : ∃ Y, Y = w.heap.size := ⟨_, rfl⟩
  have hc0 : Chg (fun _ => False) w wa := by rw [hwa]; exact (Chg.refl _ _).alloc _
  have hyb : blk wa Y = some (stO kd pg false at_ base bt) := by rw [hwa, hY]; exact blk_alloc_at _ _ _ rfl
  have HT0 := Lib.hid (h.add (u := blkT Y (stO kd pg false at_ base bt)) hbs hc0 hyb (fun i hi => by
    have hi : i = Y := hi
    omega))
  have HC0 := Lib.hid (show Chg (fun i => bs ≤ i) w wa from hc0.mono fun (i : Nat) _ (h : False) => h.elim)
  have HB0 := Lib.hid (Nat.le_trans hbs hc0.size)
  have y0 := cell_of_blk hyb 0
  have y1 := cell_of_blk hyb 1
  have y2 := cell_of_blk hyb 2
  have y4 := cell_of_blk hyb 4
  have y5 := cell_of_blk hyb 5
  have y3 := cell_of_blk hyb 3
  have hxx := HT0.out.x
  unfold wO ptrO at hxx
  have x2 := cell_of_blk hxx 2
  have x3 := cell_of_blk hxx 3
  rw [← hwa, ← hY]
  clear hwa hY hc0 hyb h hbs hxx
  obtain ⟨x, y, ht⟩ := HT0.out.take1 hok0 ht0 HB0.out
  have HS := Lib.hid ht
  have bx : (x == x) = true := by simp
  have byy : (y == y) = true := by simp
  clear ht hok0 ht0
  go_wp2_with fail
  refine (HPK.out _).mono ?_
  rintro e w1 ⟨rfl, rfl⟩
  go_wp2_with fail
  refine HS.out.mono ?_
  rintro e w2 ⟨rfl, hx2, hc2, hcall⟩
  have HC2 := Lib.hid (HC0.out.trans hc2 fun _ _ h => h)
  have HCALL := Lib.hid hcall
  unfold wO ptrO at hx2
  have x3' := cell_of_blk hx2 3
  clear x2 x3 y0 y1 y2 y3 y4 y5 hx2 hc2 hcall HS
  go_wp2_with fail
  refine HCALL.out.mono ?_
  rintro e w3 ⟨rfl, hs3, hc3⟩
  have HS3 := Lib.hid (hs3.sub (List.sublist_cons_self _ _))
  have HC3 := Lib.hid (HC2.out.trans hc3 fun _ _ h => h)
  clear hs3 hc3 HCALL
  go_wp2_with fail
  refine (num_ok _ y).mono ?_
  rintro e w4 ⟨rfl, rfl⟩
  go_wp2
  go_ret
  exact ⟨rfl, HS3.out, HC3.out⟩

set_option maxHeartbeats 4000000 in
set_option maxRecDepth 100000 in
theorem stepO_0 {bs : Nat} {w : World} {X b n mp a r : Nat} {L : List Thing} (h : St bs w X b n mp (some (a, r)) none L) (hbs : bs ≤ w.heap.size) (kd pg : Int) (hkd : I64 kd) (hpg : I64 pg) (hk : pickI kd 6 = 0) (at_ base : Nat) (hat : at_ < 4294967296) (hba : base < 4294967296) (bt : Int) (hbt : 0 ≤ bt ∧ bt ≤ 255) :
    Calls Try.prog 27 #[.pointer (some ⟨X, 0, none⟩), .agg #[.int .i64 kd, .int .i64 pg, .bool true, .int .u32 at_, .int .u32 base, .int .u8 bt]] w (Kept (Pr mp b n (some (a, r))) (Pr mp b n none) bs w X b n mp (some (a, r)) none L) := by
  have HPK := Lib.hid (fun (wy : World) => (show Calls Try.prog 18 #[.int .i64 kd, .int .i64 6] wy fun e w' => e = .returned (.int .i64 0) ∧ w' = wy from by have h1 := pick6_any kd 6 hkd (by omega) (by omega) wy; rw [hk] at h1; exact h1))
  have HPG := Lib.hid hpg
  have HAT := Lib.hid (And.intro hat hba)
  have HBT := Lib.hid hbt
  clear hkd hpg hk hat hba hbt
  go_enter Try.func27, Try.ntmps27
  go_upto_region 1 with (fail)
  obtain ⟨wa, hwa⟩ : ∃ wa, wa = w.alloc (.cells #[.int .i64 kd, .int .i64 pg, .bool true, .int .u32 at_, .int .u32 base, .int .u8 bt] 54 (0, 0)) := ⟨_, rfl⟩
  obtain ⟨Y, hY⟩ : ∃ Y, Y = w.heap.size := ⟨_, rfl⟩
  have hc0 : Chg (fun _ => False) w wa := by rw [hwa]; exact (Chg.refl _ _).alloc _
  have hyb : blk wa Y = some (stO kd pg true at_ base bt) := by rw [hwa, hY]; exact blk_alloc_at _ _ _ rfl
  have HT0 := Lib.hid (h.add (u := blkT Y (stO kd pg true at_ base bt)) hbs hc0 hyb (fun i hi => by
    have hi : i = Y := hi
    omega))
  have HC0 := Lib.hid (show Chg (fun i => bs ≤ i) w wa from hc0.mono fun (i : Nat) _ (h : False) => h.elim)
  have HB0 := Lib.hid (Nat.le_trans hbs hc0.size)
  have y0 := cell_of_blk hyb 0
  have y1 := cell_of_blk hyb 1
  have y2 := cell_of_blk hyb 2
  have y4 := cell_of_blk hyb 4
  have y5 := cell_of_blk hyb 5
  have y3 := cell_of_blk hyb 3
  have hxx := HT0.out.x
  unfold wO ptrO at hxx
  have x2 := cell_of_blk hxx 2
  have x3 := cell_of_blk hxx 3
  have x4 := cell_of_blk hxx 4
  rw [← hwa, ← hY]
  clear hwa hY hc0 hyb h hbs hxx
  obtain ⟨x, y, ht⟩ := HT0.out.take HB0.out
  have HS := Lib.hid ht
  have bx : (x == x) = true := by simp
  have byy : (y == y) = true := by simp
  clear ht
  go_wp2_with fail
  refine (HPK.out _).mono ?_
  rintro e w1 ⟨rfl, rfl⟩
  go_wp2_with fail
  refine HS.out.mono ?_
  rintro e w2 ⟨rfl, hx2, hc2, hcall⟩
  have HC2 := Lib.hid (HC0.out.trans hc2 fun _ _ h => h)
  have HCALL := Lib.hid hcall
  unfold wO ptrO at hx2
  have x3' := cell_of_blk hx2 3
  clear x2 x3 x4 y0 y1 y2 y3 y4 y5 hx2 hc2 hcall HS
  go_wp2_with fail
  refine HCALL.out.mono ?_
  rintro e w3 ⟨rfl, hs3, hc3⟩
  have HS3 := Lib.hid (hs3.sub (List.sublist_cons_self _ _))
  have HC3 := Lib.hid (HC2.out.trans hc3 fun _ _ h => h)
  clear hs3 hc3 HCALL
  go_wp2_with fail
  refine (num_ok _ y).mono ?_
  rintro e w4 ⟨rfl, rfl⟩
  go_wp2
  go_ret
  exact ⟨rfl, HS3.out, HC3.out⟩

set_option maxHeartbeats 4000000 in
set_option maxRecDepth 100000 in
theorem stepO_1 {bs : Nat} {w : World} {X b n mp a r : Nat} {L : List Thing} (h : St bs w X b n mp (some (a, r)) none L) (hbs : bs ≤ w.heap.size) (kd pg : Int) (hkd : I64 kd) (hpg : I64 pg) (hk : pickI kd 6 = 1) (at_ base : Nat) (hat : at_ < 4294967296) (hba : base < 4294967296) (bt : Int) (hbt : 0 ≤ bt ∧ bt ≤ 255) :
    Calls Try.prog 27 #[.pointer (some ⟨X, 0, none⟩), .agg #[.int .i64 kd, .int .i64 pg, .bool true, .int .u32 at_, .int .u32 base, .int .u8 bt]] w (Kept (Pr mp b n (some (a, r))) (Pr mp b n none) bs w X b n mp (some (a, r)) none L) := by
  have HPK := Lib.hid (fun (wy : World) => (show Calls Try.prog 18 #[.int .i64 kd, .int .i64 6] wy fun e w' => e = .returned (.int .i64 1) ∧ w' = wy from by have h1 := pick6_any kd 6 hkd (by omega) (by omega) wy; rw [hk] at h1; exact h1))
  have HPG := Lib.hid hpg
  have HAT := Lib.hid (And.intro hat hba)
  have HBT := Lib.hid hbt
  clear hkd hpg hk hat hba hbt
  go_enter Try.func27, Try.ntmps27
  go_upto_region 1 with (fail)
  obtain ⟨wa, hwa⟩ : ∃ wa, wa = w.alloc (.cells #[.int .i64 kd, .int .i64 pg, .bool true, .int .u32 at_, .int .u32 base, .int .u8 bt] 54 (0, 0)) := ⟨_, rfl⟩
  obtain ⟨Y, hY⟩ : ∃ Y, Y = w.heap.size := ⟨_, rfl⟩
  have hc0 : Chg (fun _ => False) w wa := by rw [hwa]; exact (Chg.refl _ _).alloc _
  have hyb : blk wa Y = some (stO kd pg true at_ base bt) := by rw [hwa, hY]; exact blk_alloc_at _ _ _ rfl
  have HT0 := Lib.hid (h.add (u := blkT Y (stO kd pg true at_ base bt)) hbs hc0 hyb (fun i hi => by
    have hi : i = Y := hi
    omega))
  have HC0 := Lib.hid (show Chg (fun i => bs ≤ i) w wa from hc0.mono fun (i : Nat) _ (h : False) => h.elim)
  have HB0 := Lib.hid (Nat.le_trans hbs hc0.size)
  have y0 := cell_of_blk hyb 0
  have y1 := cell_of_blk hyb 1
  have y2 := cell_of_blk hyb 2
  have y4 := cell_of_blk hyb 4
  have y5 := cell_of_blk hyb 5
  have y3 := cell_of_blk hyb 3
  have hxx := HT0.out.x
  unfold wO ptrO at hxx
  have x2 := cell_of_blk hxx 2
  have x3 := cell_of_blk hxx 3
  have x4 := cell_of_blk hxx 4
  rw [← hwa, ← hY]
  clear hwa hY hc0 hyb h hbs hxx
  obtain ⟨x, y, ht⟩ := HT0.out.take HB0.out
  have HS := Lib.hid ht
  have bx : (x == x) = true := by simp
  have byy : (y == y) = true := by simp
  clear ht
  go_wp2_with fail
  refine (HPK.out _).mono ?_
  rintro e w1 ⟨rfl, rfl⟩
  go_wp2_with fail
  refine HS.out.mono ?_
  rintro e w2 ⟨rfl, hx2, hc2, hcall⟩
  have HC2 := Lib.hid (HC0.out.trans hc2 fun _ _ h => h)
  have HCALL := Lib.hid hcall
  unfold wO ptrO at hx2
  have x3' := cell_of_blk hx2 3
  clear x2 x3 x4 y0 y1 y2 y3 y4 y5 hx2 hc2 hcall HS
  go_wp2_with fail
  refine HCALL.out.mono ?_
  rintro e w3 ⟨rfl, hs3, hc3⟩
  have HS3 := Lib.hid (hs3.sub (List.sublist_cons_self _ _))
  have HC3 := Lib.hid (HC2.out.trans hc3 fun _ _ h => h)
  clear hs3 hc3 HCALL
  go_wp2_with fail
  refine (num_ok _ y).mono ?_
  rintro e w4 ⟨rfl, rfl⟩
  go_wp2
  go_ret
  exact ⟨rfl, HS3.out, HC3.out⟩

set_option maxHeartbeats 4000000 in
set_option maxRecDepth 100000 in
theorem stepO_2 {bs : Nat} {w : World} {X b n mp a r : Nat} {L : List Thing} (h : St bs w X b n mp (some (a, r)) none L) (hbs : bs ≤ w.heap.size) (kd pg : Int) (hkd : I64 kd) (hpg : I64 pg) (hk : pickI kd 6 = 2) (at_ base : Nat) (hat : at_ < 4294967296) (hba : base < 4294967296) (bt : Int) (hbt : 0 ≤ bt ∧ bt ≤ 255) :
    Calls Try.prog 27 #[.pointer (some ⟨X, 0, none⟩), .agg #[.int .i64 kd, .int .i64 pg, .bool true, .int .u32 at_, .int .u32 base, .int .u8 bt]] w (Kept (Pr mp b n (some (a, r))) (Pr mp b n none) bs w X b n mp (some (a, r)) none L) := by
  have HPK := Lib.hid (fun (wy : World) => (show Calls Try.prog 18 #[.int .i64 kd, .int .i64 6] wy fun e w' => e = .returned (.int .i64 2) ∧ w' = wy from by have h1 := pick6_any kd 6 hkd (by omega) (by omega) wy; rw [hk] at h1; exact h1))
  have HPG := Lib.hid hpg
  have HAT := Lib.hid (And.intro hat hba)
  have HBT := Lib.hid hbt
  clear hkd hpg hk hat hba hbt
  go_enter Try.func27, Try.ntmps27
  go_upto_region 1 with (fail)
  obtain ⟨wa, hwa⟩ : ∃ wa, wa = w.alloc (.cells #[.int .i64 kd, .int .i64 pg, .bool true, .int .u32 at_, .int .u32 base, .int .u8 bt] 54 (0, 0)) := ⟨_, rfl⟩
  obtain ⟨Y, hY⟩ : ∃ Y, Y = w.heap.size := ⟨_, rfl⟩
  have hc0 : Chg (fun _ => False) w wa := by rw [hwa]; exact (Chg.refl _ _).alloc _
  have hyb : blk wa Y = some (stO kd pg true at_ base bt) := by rw [hwa, hY]; exact blk_alloc_at _ _ _ rfl
  have HT0 := Lib.hid (h.add (u := blkT Y (stO kd pg true at_ base bt)) hbs hc0 hyb (fun i hi => by
    have hi : i = Y := hi
    omega))
  have HC0 := Lib.hid (show Chg (fun i => bs ≤ i) w wa from hc0.mono fun (i : Nat) _ (h : False) => h.elim)
  have HB0 := Lib.hid (Nat.le_trans hbs hc0.size)
  have y0 := cell_of_blk hyb 0
  have y1 := cell_of_blk hyb 1
  have y2 := cell_of_blk hyb 2
  have y4 := cell_of_blk hyb 4
  have y5 := cell_of_blk hyb 5
  have y3 := cell_of_blk hyb 3
  have hxx := HT0.out.x
  unfold wO ptrO at hxx
  have x2 := cell_of_blk hxx 2
  have x3 := cell_of_blk hxx 3
  have x4 := cell_of_blk hxx 4
  rw [← hwa, ← hY]
  clear hwa hY hc0 hyb h hbs hxx
  have HS := Lib.hid (HT0.out.seal HB0.out)
  go_wp2_with fail
  refine (HPK.out _).mono ?_
  rintro e w1 ⟨rfl, rfl⟩
  go_wp2_with fail
  refine HS.out.mono ?_
  rintro e w2 ⟨rfl, hx2, hc2, hcall⟩
  have HC2 := Lib.hid (HC0.out.trans hc2 fun _ _ h => h)
  have HCALL := Lib.hid hcall
  unfold wO ptrO at hx2
  have x3' := cell_of_blk hx2 3
  clear x2 x3 x4 y0 y1 y2 y3 y4 y5 hx2 hc2 hcall HS
  go_wp2_with fail
  refine HCALL.out.mono ?_
  rintro e w3 ⟨rfl, hs3, hc3⟩
  have HS3 := Lib.hid (hs3.sub (List.sublist_cons_self _ _))
  have HC3 := Lib.hid (HC2.out.trans hc3 fun _ _ h => h)
  clear hs3 hc3 HCALL
  go_wp2
  go_ret
  exact ⟨rfl, HS3.out, HC3.out⟩

set_option maxHeartbeats 4000000 in
set_option maxRecDepth 100000 in
theorem stepO_3 {bs : Nat} {w : World} {X b n mp a r : Nat} {L : List Thing} (h : St bs w X b n mp (some (a, r)) none L) (hbs : bs ≤ w.heap.size) (kd pg : Int) (hkd : I64 kd) (hpg : I64 pg) (hk : pickI kd 6 = 3) (at_ base : Nat) (hat : at_ < 4294967296) (hba : base < 4294967296) (bt : Int) (hbt : 0 ≤ bt ∧ bt ≤ 255) :
    Calls Try.prog 27 #[.pointer (some ⟨X, 0, none⟩), .agg #[.int .i64 kd, .int .i64 pg, .bool true, .int .u32 at_, .int .u32 base, .int .u8 bt]] w (Kept (Pr mp b n (some (a, r))) (Pr mp b n none) bs w X b n mp (some (a, r)) none L) := by
  have HPK := Lib.hid (fun (wy : World) => (show Calls Try.prog 18 #[.int .i64 kd, .int .i64 6] wy fun e w' => e = .returned (.int .i64 3) ∧ w' = wy from by have h1 := pick6_any kd 6 hkd (by omega) (by omega) wy; rw [hk] at h1; exact h1))
  have HPG := Lib.hid hpg
  have HAT := Lib.hid (And.intro hat hba)
  have HBT := Lib.hid hbt
  clear hkd hpg hk hat hba hbt
  go_enter Try.func27, Try.ntmps27
  go_upto_region 1 with (fail)
  obtain ⟨wa, hwa⟩ : ∃ wa, wa = w.alloc (.cells #[.int .i64 kd, .int .i64 pg, .bool true, .int .u32 at_, .int .u32 base, .int .u8 bt] 54 (0, 0)) := ⟨_, rfl⟩
  obtain ⟨Y, hY⟩ : ∃ Y, Y = w.heap.size := ⟨_, rfl⟩
  have hc0 : Chg (fun _ => False) w wa := by rw [hwa]; exact (Chg.refl _ _).alloc _
  have hyb : blk wa Y = some (stO kd pg true at_ base bt) := by rw [hwa, hY]; exact blk_alloc_at _ _ _ rfl
  have HT0 := Lib.hid (h.add (u := blkT Y (stO kd pg true at_ base bt)) hbs hc0 hyb (fun i hi => by
    have hi : i = Y := hi
    omega))
  have HC0 := Lib.hid (show Chg (fun i => bs ≤ i) w wa from hc0.mono fun (i : Nat) _ (h : False) => h.elim)
  have HB0 := Lib.hid (Nat.le_trans hbs hc0.size)
  have y0 := cell_of_blk hyb 0
  have y1 := cell_of_blk hyb 1
  have y2 := cell_of_blk hyb 2
  have y4 := cell_of_blk hyb 4
  have y5 := cell_of_blk hyb 5
  have y3 := cell_of_blk hyb 3
  have hxx := HT0.out.x
  unfold wO ptrO at hxx
  have x2 := cell_of_blk hxx 2
  have x3 := cell_of_blk hxx 3
  have x4 := cell_of_blk hxx 4
  rw [← hwa, ← hY]
  clear hwa hY hc0 hyb h hbs hxx
  have HS := Lib.hid (HT0.out.told HAT.out.1)
  go_wp2_with fail
  refine (HPK.out _).mono ?_
  rintro e w1 ⟨rfl, rfl⟩
  go_wp2_with fail
  refine HS.out.mono ?_
  rintro e w2 ⟨rfl, hc2⟩
  have HC2 := Lib.hid (HC0.out.trans hc2 fun _ _ h => h.elim)
  have HS2 := Lib.hid ((HT0.out.still hc2).sub (List.sublist_cons_self _ _))
  clear x2 x3 x4 y0 y1 y2 y3 y4 y5 hc2 HS
  go_wp2
  go_ret
  exact ⟨rfl, HS2.out, HC2.out⟩

set_option maxHeartbeats 4000000 in
set_option maxRecDepth 100000 in
theorem stepO_5 {bs : Nat} {w : World} {X b n mp a r : Nat} {L : List Thing} (h : St bs w X b n mp (some (a, r)) none L) (hbs : bs ≤ w.heap.size) (kd pg : Int) (hkd : I64 kd) (hpg : I64 pg) (hk : pickI kd 6 = 5) (at_ base : Nat) (hat : at_ < 4294967296) (hba : base < 4294967296) (bt : Int) (hbt : 0 ≤ bt ∧ bt ≤ 255) :
    Calls Try.prog 27 #[.pointer (some ⟨X, 0, none⟩), .agg #[.int .i64 kd, .int .i64 pg, .bool true, .int .u32 at_, .int .u32 base, .int .u8 bt]] w (Stepd bs w X b n mp none L) := by
  have HPK := Lib.hid (fun (wy : World) => (show Calls Try.prog 18 #[.int .i64 kd, .int .i64 6] wy fun e w' => e = .returned (.int .i64 5) ∧ w' = wy from by have h1 := pick6_any kd 6 hkd (by omega) (by omega) wy; rw [hk] at h1; exact h1))
  have HPG := Lib.hid hpg
  have HAT := Lib.hid (And.intro hat hba)
  have HBT := Lib.hid hbt
  clear hkd hpg hk hat hba hbt
  go_enter Try.func27, Try.ntmps27
  go_upto_region 1 with (fail)
  obtain ⟨wa, hwa⟩ : ∃ wa, wa = w.alloc (.cells #[.int .i64 kd, .int .i64 pg, .bool true, .int .u32 at_, .int .u32 base, .int .u8 bt] 54 (0, 0)) := ⟨_, rfl⟩
  obtain ⟨Y, hY⟩ : ∃ Y, Y = w.heap.size := ⟨_, rfl⟩
  have hc0 : Chg (fun _ => False) w wa := by rw [hwa]; exact (Chg.refl _ _).alloc _
  have hyb : blk wa Y = some (stO kd pg true at_ base bt) := by rw [hwa, hY]; exact blk_alloc_at _ _ _ rfl
  have HT0 := Lib.hid (h.add (u := blkT Y (stO kd pg true at_ base bt)) hbs hc0 hyb (fun i hi => by
    have hi : i = Y := hi
    omega))
  have HC0 := Lib.hid (show Chg (fun i => bs ≤ i) w wa from hc0.mono fun (i : Nat) _ (h : False) => h.elim)
  have HB0 := Lib.hid (Nat.le_trans hbs hc0.size)
  have y0 := cell_of_blk hyb 0
  have y1 := cell_of_blk hyb 1
  have y2 := cell_of_blk hyb 2
  have y4 := cell_of_blk hyb 4
  have y5 := cell_of_blk hyb 5
  have y3 := cell_of_blk hyb 3
  have hxx := HT0.out.x
  unfold wO ptrO at hxx
  have x2 := cell_of_blk hxx 2
  have x3 := cell_of_blk hxx 3
  have x4 := cell_of_blk hxx 4
  rw [← hwa, ← hY]
  clear hwa hY hc0 hyb h hbs hxx
  have HS := Lib.hid (HT0.out.make HB0.out HAT.out.2 HPG.out)
  go_wp2_with fail
  refine (HPK.out _).mono ?_
  rintro e w1 ⟨rfl, rfl⟩
  go_wp2_with fail
  refine HS.out.mono ?_
  rintro e w2 ⟨rfl, ⟨p', q', hs2⟩, hc2⟩
  have HC2 := Lib.hid (HC0.out.trans hc2 fun _ _ h => h)
  have HS2 := Lib.hid (hs2.sub (List.sublist_cons_self _ _))
  clear x2 x3 x4 y0 y1 y2 y3 y4 y5 hs2 hc2 HS
  go_wp2
  go_ret
  exact ⟨rfl, ⟨_, _, HS2.out⟩, HC2.out⟩

set_option maxHeartbeats 4000000 in
set_option maxRecDepth 100000 in
theorem stepO_4 {P Q : List Thing → Prop} {bs : Nat} {w : World} {X b n mp a r : Nat} {L : List Thing} (h : StG P Q bs w X b n mp (some (a, r)) none L) (hbs : bs ≤ w.heap.size) (kd pg : Int) (hkd : I64 kd) (hpg : I64 pg) (hk : pickI kd 6 = 4) (at_ base : Nat) (hat : at_ < 4294967296) (hba : base < 4294967296) (bt : Int) (hbt : 0 ≤ bt ∧ bt ≤ 255) :
    Calls Try.prog 27 #[.pointer (some ⟨X, 0, none⟩), .agg #[.int .i64 kd, .int .i64 pg, .bool true, .int .u32 at_, .int .u32 base, .int .u8 bt]] w (Kept P Q bs w X b n mp (some (a, r)) none L) := by
  have HPK := Lib.hid (fun (wy : World) => (show Calls Try.prog 18 #[.int .i64 kd, .int .i64 6] wy fun e w' => e = .returned (.int .i64 4) ∧ w' = wy from by have h1 := pick6_any kd 6 hkd (by omega) (by omega) wy; rw [hk] at h1; exact h1))
  have HPG := Lib.hid hpg
  have HAT := Lib.hid (And.intro hat hba)
  have HBT := Lib.hid hbt
  clear hkd hpg hk hat hba hbt
  go_enter Try.func27, Try.ntmps27
  go_upto_region 1 with (fail)
  obtain ⟨wa, hwa⟩ : ∃ wa, wa = w.alloc (.cells #[.int .i64 kd, .int .i64 pg, .bool true, .int .u32 at_, .int .u32 base, .int .u8 bt] 54 (0, 0)) := ⟨_, rfl⟩
  obtain ⟨Y, hY⟩ : ∃ Y, Y = w.heap.size := ⟨_, rfl⟩
  have hc0 : Chg (fun _ => False) w wa := by rw [hwa]; exact (Chg.refl _ _).alloc _
  have hyb : blk wa Y = some (stO kd pg true at_ base bt) := by rw [hwa, hY]; exact blk_alloc_at _ _ _ rfl
  have HT0 := Lib.hid (h.add (u := blkT Y (stO kd pg true at_ base bt)) hbs hc0 hyb (fun i hi => by
    have hi : i = Y := hi
    omega))
  have HC0 := Lib.hid (show Chg (fun i => bs ≤ i) w wa from hc0.mono fun (i : Nat) _ (h : False) => h.elim)
  have HB0 := Lib.hid (Nat.le_trans hbs hc0.size)
  have y0 := cell_of_blk hyb 0
  have y1 := cell_of_blk hyb 1
  have y2 := cell_of_blk hyb 2
  have y4 := cell_of_blk hyb 4
  have y5 := cell_of_blk hyb 5
  have y3 := cell_of_blk hyb 3
  have hxx := HT0.out.x
  unfold wO ptrO at hxx
  have x2 := cell_of_blk hxx 2
  have x3 := cell_of_blk hxx 3
  have x4 := cell_of_blk hxx 4
  rw [← hwa, ← hY]
  clear hwa hY hc0 hyb h hbs hxx
  have hat := HAT.out.1
  obtain ⟨z, hz⟩ : ∃ z : Nat, z = at_ % 65536 := ⟨_, rfl⟩
  have zz1 : (at_ : Int).tmod 65536 = (z : Int) := by rw [Int.tmod_eq_emod_of_nonneg (by omega)]; omega
  have zz2 : (at_ : Int) % 65536 = (z : Int) := by omega
  have zz3 : IntKind.u32.wrap (z : Int) = (z : Int) := by rw [IntKind.wrap_u32]; omega
  have HS := Lib.hid ((HT0.out.still ((Chg.refl _ wa).drew)).fill (by simpa using HB0.out) (addr := z) (by omega) HBT.out)
  have x0 := cell_of_blk HT0.out.x 0
  unfold ptrV at x0 HS
  clear hz hat
  go_wp2_with fail
  refine (HPK.out _).mono ?_
  rintro e w1 ⟨rfl, rfl⟩
  go_upto_region 18 with (fail)
  go_still_tail 7, (by kernel_rfl)
  change wpList _ _ _ _ _ (World.drew _)
  go_wp2_with fail
  refine HS.out.mono ?_
  rintro e w2 ⟨⟨v, rfl⟩, hx2, hL, hc2, hcall⟩
  have HC2 := Lib.hid (show Chg (fun i => bs ≤ i) w w2 from HC0.out.trans (((Chg.refl (fun i => bs ≤ i) w1).drew).trans hc2 fun _ _ h => h) fun _ _ h => h)
  have HCALL := Lib.hid (hcall _ ((Chg.refl _ w2).drew))
  have hy2 : blk w2 Y = some (stO kd pg true at_ base bt) := hL (blkT Y (stO kd pg true at_ base bt)) (by simp)
  have y5' := cell_of_blk hy2 5
  unfold wO ptrO at hx2
  have x1' := cell_of_blk hx2 1
  clear x0 x2 x3 x4 y0 y1 y2 y3 y4 y5 hx2 hc2 hcall HS hL hy2
  go_upto_region 19 with (fail)
  go_still_tail 7, (by kernel_rfl)
  change wpList _ _ _ _ _ (World.drew _)
  go_wp2_with fail
  refine HCALL.out.mono ?_
  rintro e w3 ⟨⟨v3, rfl⟩, hs3, hc3⟩
  have HS3 := Lib.hid (hs3.sub (List.sublist_cons_self _ _))
  have HC3 := Lib.hid (show Chg (fun i => bs ≤ i) w w3 from HC2.out.trans (((Chg.refl (fun i => bs ≤ i) w2).drew).trans hc3 fun _ _ h => h) fun _ _ h => h)
  clear hs3 hc3 HCALL
  go_wp2
  go_ret
  exact ⟨rfl, HS3.out, HC3.out⟩

end Go.Proofs.Ytenbkdmaiooldaa
