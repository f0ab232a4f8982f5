/- Contracts: math/bits.Mul of 1, slices.Repeat of one byte, package memory's Fill. -/
import Derived.Test.YtenbkdmaiooldaaMemG
namespace Go.Proofs.Ytenbkdmaiooldaa
open Go.RowKit Go.Cl
open Go.Maps (Keyed)
open Go.ChangeMaps (setBlock)
set_option linter.unusedVariables false
set_option linter.unusedSimpArgs false
attribute [local go_sem] lt_add_one' blk_alloc_past blk_alloc_at blk_drew blk_setCell_ne blk_setBlock_ne blk_setBlock_eq cell_setBlock_ne frozen_setBlock_ne size_setBlock

theorem and_mask {n : Nat} (h : n < 4294967296) : bits .and .u64 (n : Int) 4294967295 = (n : Int) := by
  have e1 : (BitVec.ofInt 64 (n : Int)).toNat = n := by
    rw [BitVec.ofInt_natCast, BitVec.toNat_ofNat]
    exact Nat.mod_eq_of_lt (by omega)
  have e2 : (BitVec.ofInt 64 4294967295).toNat = 2 ^ 32 - 1 := by decide
  have e3 : (BitVec.ofInt 64 (n : Int) &&& BitVec.ofInt 64 4294967295).toNat = n := by
    rw [BitVec.toNat_and, e1, e2, Nat.and_two_pow_sub_one_eq_mod]
    exact Nat.mod_eq_of_lt (by omega)
  show IntKind.u64.wrap ((BitVec.ofInt 64 (n : Int) &&& BitVec.ofInt 64 4294967295).toNat : Int) = _
  rw [e3, IntKind.wrap_u64]
  omega

set_option maxRecDepth 100000 in
theorem mul64_one (n : Nat) (h : n < 4294967296) (w : World) : Calls Try.prog 93 #[.int .u64 1, .int .u64 n] w fun e w' => e = .returned (.tuple #[.int .u64 0, .int .u64 n]) ∧ w = w' := by
  have a1 : bits .and .u64 1 4294967295 = 1 := by decide
  have a0 : bits .and .u64 0 4294967295 = 0 := by decide
  have a2 := and_mask h
  have d1 : (n : Int) / 4294967296 = 0 := by omega
  go_enter Try.func93, Try.ntmps93
  go_wp2
  go_ret2
  exact ⟨rfl, rfl⟩

set_option maxRecDepth 100000 in
theorem mul_one_ok (n : Nat) (h : n < 4294967296) (w : World) : Calls Try.prog 84 #[.int .u64 1, .int .u64 n] w fun e w' => e = .returned (.tuple #[.int .u64 0, .int .u64 n]) ∧ w = w' := by
  go_enter Try.func84, Try.ntmps84
  go_wp2_with fail
  refine (mul64_one n h w).mono ?_
  rintro e w' ⟨rfl, rfl⟩
  go_wp2
  go_ret2
  exact ⟨rfl, rfl⟩

/-- A copy within a row of bytes, or from another place. -/
theorem copy_row {g s0 so n m e c dl dc sl : Nat} {h bs : Nat → Int} (w' : World) (hg : blk w' g = some (.cells (rowCells h n).toArray 5 (0, 0))) (hs : ∀ j, j < e → w'.cell? ⟨s0, so + j, none⟩ = some (.int .u8 (bs j))) (he : e = Nat.min sl dl) (hme : m + e ≤ n) :
    (Builtin.copy_ #[58, 58] 3 #[.slice (some ⟨g, m, none⟩) dl dc, .slice (some ⟨s0, so, none⟩) sl c]).run Try.prog w' = .ok (.int .i64 e) (w'.setRow g (rowCells (put h m e bs) n).toArray) := by
  have hcs : ((List.range e).map fun j => Value.int .u8 (bs j)).length = Nat.min sl dl := by simp [he]
  have := run_copy_row (P := Try.prog) w' 58 58 3 5 g m dl dc ⟨s0, so, none⟩ sl c (rowCells h n).toArray 5 ((List.range e).map fun j => Value.int .u8 (bs j)) Try.underlying58 info5 hg hcs
    (fun j v hv => by
      have hj : j < e := by have := (List.getElem?_eq_some_iff.1 hv).1; simpa using this
      simp [hj] at hv
      subst hv
      have e1 : (⟨s0, so, none⟩ : Addr).add j = ⟨s0, so + j, none⟩ := by
        simp only [Addr.add]
        split
        · rename_i h0; rw [h0]; rfl
        · rfl
      rw [e1]
      exact hs j hj)
    (by simp [length_rowCells]; omega)
    (fun v hv => by
      obtain ⟨j, _, rfl⟩ := List.mem_map.1 hv
      rfl)
  rw [this, List.toList_toArray, splice_row (by omega)]
  simp [goInt]

/-- A row whose first bytes are written. -/
def Begun (w w' : World) (g n m : Nat) (bt : Int) : Prop :=
  blk w' g = some (.cells (rowCells (put (fun _ => 0) 0 m (fun _ => bt)) n).toArray 5 (0, 0)) ∧ Chg (fun i => i = g) w w'

set_option maxHeartbeats 1000000 in
set_option maxRecDepth 100000 in
/-- One byte, so many times. -/
theorem repeat_ok {w : World} {sb so cap : Nat} {bt : Int} (hs : Src w sb so 1 (fun _ => bt)) (n : Nat) (hn : n ≤ 16777216) :
    Calls Try.prog 61 #[.slice (some ⟨sb, so, none⟩) 1 cap, .int .i64 n] w fun e w' => ∃ g, e = .returned (.slice (some ⟨g, 0, none⟩) n n) ∧ w.heap.size ≤ g ∧ blk w' g = some (.cells (rowCells (fun _ => bt) n).toArray 5 (0, 0)) ∧ Chg (fun _ => False) w w' := by
  have hmk := make_bytes n (by omega)
  have hmu := mul_one_ok n (by omega)
  have hs0 := (hs 0 (by omega)).1
  have lsb : sb < w.heap.size := World.block_lt_of_cell? _ _ hs0
  have HMU := Lib.hid hmu
  clear hmu
  have hcp := copy_row (g := w.heap.size) (s0 := sb) (so := so) (n := n) (m := 0) (e := Nat.min 1 n) (c := cap) (dl := n) (dc := n) (sl := 1) (h := fun _ => 0) (bs := fun _ => bt) (w.alloc (.cells (rowCells (fun _ => 0) n).toArray 5 (0, 0)))
    (blk_alloc_at _ _ _ rfl) (fun j hj => by
      have : j < 1 := Nat.lt_of_lt_of_le hj (Nat.min_le_left _ _)
      have hj0 : j = 0 := by omega
      subst hj0
      exact (World.cell?_of_block (w := w) (a := ⟨sb, so + 0, none⟩) (blk_alloc_past _ _ _ lsb)).trans hs0) rfl (by have : Nat.min 1 n ≤ n := Nat.min_le_right 1 n; omega)
  obtain ⟨w1, hw1⟩ : ∃ w1, w1 = w.alloc (.cells (rowCells (fun _ => 0) n).toArray 5 (0, 0)) := ⟨_, rfl⟩
  have hb1 : Begun w1 (w1.setRow w.heap.size (rowCells (put (fun _ => 0) 0 (Nat.min 1 n) (fun _ => bt)) n).toArray) w.heap.size n (Nat.min 1 n) bt := by
    refine ⟨blk_setRow_eq w1 _ _ (rowCells (fun _ => 0) n).toArray _ _ ?_, chg_setRow (Chg.refl _ _) (by simp) _⟩
    rw [hw1]
    exact blk_alloc_at _ _ _ rfl
  have hc1 : Chg (fun _ => False) w w1 := by rw [hw1]; exact (Chg.refl _ _).alloc _
  obtain ⟨m0, hm0⟩ : ∃ m0, m0 = Nat.min 1 n := ⟨_, rfl⟩
  have hm1 : m0 ≤ n := by rw [hm0]; exact Nat.min_le_right 1 n
  have hm2 : 0 < n → 1 ≤ m0 := fun h => by rw [hm0]; exact Nat.le_min.2 ⟨by omega, h⟩
  rw [← hm0] at hcp hb1
  have HB1 := Lib.hid hb1
  have HC1 := Lib.hid hc1
  have HW1 := Lib.hid hw1
  have HM1 := Lib.hid hm1
  have HM2 := Lib.hid hm2
  clear hs hs0 hb1 hc1 hw1 hm0 hm1 hm2
  go_enter Try.func61, Try.ntmps61
  go_wp2_with fail
  refine (HMU.out _).mono ?_
  rintro e w' ⟨rfl, rfl⟩
  go_wp2
  rw [← HW1.out]
  obtain ⟨g, hg⟩ : ∃ g, g = w.heap.size := ⟨_, rfl⟩
  rw [← hg] at HB1 ⊢
  have HG := Lib.hid hg
  clear hg
  go_loopw [8] (fun s8 wr => ∃ m : Nat, s8 = .int .i64 m ∧ m ≤ n ∧ (0 < n → 1 ≤ m) ∧ Begun w1 wr g n m bt) (fun s8 _ => n - (intOf s8).toNat)
  case atStart => exact ⟨m0, rfl, HM1.out, HM2.out, HB1.out⟩
  case round =>
    obtain ⟨m, rfl, hmn, hm1, hB⟩ := hrel
    have HBr := Lib.hid hB
    by_cases hlt : m < n
    · have hm1' := hm1 (by omega)
      have hsr : ∀ j, j < Nat.min m (n - m) → wr.drew.cell? ⟨g, 0 + j, none⟩ = some (.int .u8 bt) := fun j hj => by
        have h1 : j < m := Nat.lt_of_lt_of_le hj (Nat.min_le_left _ _)
        show wr.cell? _ = _
        rw [cell_of_blk hB.1, Nat.zero_add, List.getElem?_toArray, getElem_rowCells _ _ _ (by omega)]
        unfold put
        rw [if_pos (by omega)]
      have hle : Nat.min m (n - m) ≤ n - m := Nat.min_le_right m (n - m)
      have hcp2 := copy_row (g := g) (s0 := g) (so := 0) (n := n) (m := m) (e := Nat.min m (n - m)) (c := n) (dl := n - m) (dc := n - m) (sl := m) (bs := fun _ => bt) wr.drew hB.1 hsr rfl (by omega)
      have e1 : ¬ (n = m) := by omega
      have he1 : 1 ≤ Nat.min m (n - m) := Nat.le_min.2 ⟨hm1', by omega⟩
      generalize Nat.min m (n - m) = q at *
      have hn63 : n ≤ 9223372036854775807 := by omega
      clear hB hsr hm1 hcp
      go_wp2
      go_region
      go_wp2
      refine ⟨⟨m + q, by simp, by omega, by omega, ?_, chg_setRow HBr.out.2.drew (by simp) _⟩, by simp only [intOf]; omega⟩
      have e2 := put_put (fun _ => 0) 0 m q (fun _ => bt)
      rw [Nat.zero_add] at e2
      rw [e2]
      exact blk_setRow_eq _ _ _ _ _ _ ((blk_drew _ _).trans HBr.out.1)
    · have e : m = n := by omega
      subst e
      clear hB
      go_wp2
      go_ret
      refine ⟨g, rfl, by rw [HG.out]; exact Nat.le_refl _, ?_, HC1.out.trans (S := fun _ => False) HBr.out.2 fun i hi e => by rw [HG.out] at e; omega⟩
      · rw [HBr.out.1]
        have e1 : rowCells (put (fun _ => 0) 0 m fun _ => bt) m = rowCells (fun _ => bt) m := rowCells_congr fun i hi => by
          unfold put
          rw [if_pos (by omega)]
        rw [e1]

theorem placeE_zero {pages : Nat} {a n : Int} (h : placeE pages a n = 0) : 0 ≤ n ∧ a + n ≤ pages * 4096 := by
  unfold placeE at h
  split at h
  · omega
  · split at h
    · omega
    · omega

set_option maxHeartbeats 1000000 in
set_option maxRecDepth 100000 in
/-- No bytes laid. -/
theorem write_none {w : World} {b : Nat} {p : Option Addr} {cap : Nat} {a : Nat} (ha : a ≤ 16777216) :
    Calls Try.prog 49 #[ptrV b, .int .u32 a, .slice p 0 cap] w fun e w' => e = .returned (.tuple #[]) ∧ Chg (fun _ => False) w w' := by
  unfold ptrV
  go_enter Try.func49, Try.ntmps49
  go_wp2_with fail
  have hc : Chg (fun _ => False) w ((w.alloc (.cells #[.pointer (some ⟨b, 0, none⟩)] 24 (0, 0))).alloc (.cells #[.slice p 0 cap] 58 (0, 0))) := ((Chg.refl _ _).alloc _).alloc _
  obtain ⟨w1, hw1⟩ : ∃ w1, w1 = (w.alloc (.cells #[.pointer (some ⟨b, 0, none⟩)] 24 (0, 0))).alloc (.cells #[.slice p 0 cap] 58 (0, 0)) := ⟨_, rfl⟩
  rw [← hw1] at hc ⊢
  have HC := Lib.hid hc
  clear hw1 hc
  refine (split_any 78 (fun _ _ => rfl) _ _ a 0 (by omega) (fun done w' => w1 = w') (fun done w' hd hI => by omega) _ rfl).mono ?_
  rintro e w' ⟨rfl, rfl⟩
  go_wp2
  go_end0
  exact ⟨rfl, HC.out⟩

theorem write_any {w : World} {b m : Nat} {pg : List (Nat × Nat)} {pages : Nat} {f : Nat → Int} (h : MemIs w b m pg pages f) {sb so n cap : Nat} {bs : Nat → Int}
    (hs : Src w sb so n bs) (hsb : ¬ Foot b m pg sb) (hnc : n ≤ cap) (hcm : cap ≤ 9223372036854775807) {a : Nat} (ha : a + n ≤ pages * 4096) :
    Calls Try.prog 49 #[ptrV b, .int .u32 a, .slice (some ⟨sb, so, none⟩) n cap] w fun e w' => e = .returned (.tuple #[]) ∧ Wrote w w' b m pg pages (put f a n bs) := by
  by_cases h0 : n = 0
  · subst h0
    have := h.size
    refine (write_none (by omega)).mono ?_
    rintro e w' ⟨rfl, hc⟩
    refine ⟨rfl, pg, ?_, hc.mono fun _ _ h => h.elim, fun i hi => .inl hi⟩
    rw [put_none]
    exact h.frame hc fun _ _ => id
  · exact write_ok h hs hsb (by omega) hnc hcm ha

theorem src_row {w : World} {g n : Nat} {h : Nat → Int} {t : TypeId} (hb : blk w g = some (.cells (rowCells h n).toArray t (0, 0))) (hh : ∀ j, j < n → 0 ≤ h j ∧ h j ≤ 255) : Src w g 0 n h := fun j hj => by
  rw [Nat.zero_add, cell_of_blk hb, List.getElem?_toArray, getElem_rowCells _ _ _ hj]
  exact ⟨rfl, hh j hj⟩

set_option maxHeartbeats 1000000 in
set_option maxRecDepth 100000 in
theorem fill_bad {w : World} {b m : Nat} {pg : List (Nat × Nat)} {pages : Nat} {f : Nat → Int} (h : MemIs w b m pg pages f) {a n : Int} {v : Value} (ha0 : 0 ≤ a) (ha : a ≤ 4294967295) (hn : -9223372036854775808 ≤ n ∧ n ≤ 9223372036854775807) (hw : placeE pages a n ≠ 0) :
    Calls Try.prog 35 #[ptrV b, .int .u32 a, .int .i64 n, v] w fun e w' => e = .returned (.int .i64 (placeE pages a n)) ∧ w = w' := by
  have c0 := place_ok h a n ha0 ha hn
  generalize placeE pages a n = e0 at *
  have C0 := Lib.hid c0
  clear c0 h
  unfold ptrV at *
  go_enter Try.func35, Try.ntmps35
  go_wp2_with fail
  refine C0.out.mono ?_
  rintro e w' ⟨rfl, rfl⟩
  have n1 : (e0 != 0) = true := by simpa using hw
  go_wp2
  go_ret
  exact ⟨rfl, rfl⟩

set_option maxHeartbeats 1000000 in
set_option maxRecDepth 100000 in
/-- Each byte of a place made the same. -/
theorem fill_ok {w : World} {b m : Nat} {pg : List (Nat × Nat)} {pages : Nat} {f : Nat → Int} (h : MemIs w b m pg pages f) {a n : Nat} {bt : Int} (hb : 0 ≤ bt ∧ bt ≤ 255) (ha : a + n ≤ pages * 4096) :
    Calls Try.prog 35 #[ptrV b, .int .u32 a, .int .i64 n, .int .u8 bt] w fun e w' => e = .returned (.int .i64 0) ∧ Wrote w w' b m pg pages (put f a n (fun _ => bt)) := by
  have hp := h.size
  have c0 := place_ok h a n (by omega) (by omega) (by omega)
  have e0 : placeE pages a n = 0 := by unfold placeE; rw [if_neg (by omega), if_neg (by omega)]
  rw [e0] at c0
  have C0 := Lib.hid c0
  have H := Lib.hid h
  clear c0 h e0
  unfold ptrV at *
  go_enter Try.func35, Try.ntmps35
  go_wp2_with fail
  refine C0.out.mono ?_
  rintro e w' ⟨rfl, rfl⟩
  go_wp2_with fail
  have hc1 : Chg (fun _ => False) w (w.alloc (.cells #[.int .u8 bt] 5 (0, 0))) := (Chg.refl _ _).alloc _
  have hs1 : Src (w.alloc (.cells #[.int .u8 bt] 5 (0, 0))) w.heap.size 0 1 (fun _ => bt) := fun j hj => by
    have hb1 : blk (w.alloc (.cells #[.int .u8 bt] 5 (0, 0))) w.heap.size = some (.cells #[.int .u8 bt] 5 (0, 0)) := blk_alloc_at _ _ _ rfl
    have : j = 0 := by omega
    subst this
    exact ⟨(cell_of_blk hb1 _).trans rfl, hb⟩
  refine (repeat_ok hs1 n (by omega)).mono ?_
  rintro e w2 ⟨g, rfl, hg, hr, hc2⟩
  have c2 := hc1.trans hc2 fun _ _ => id
  have h2 := H.out.frame c2 fun _ _ => id
  have hng : ¬ Foot b m pg g := fun e => by
    have := H.out.lt _ e
    have := hc1.size
    omega
  have hs2 := src_row hr fun _ _ => hb
  have HH := Lib.hid h2
  have HN := Lib.hid hng
  have HS := Lib.hid hs2
  have HC := Lib.hid c2
  clear hc1 hs1 hg hr hc2 c2 h2 hng hs2
  go_wp2_with fail
  refine (write_any HH.out HS.out HN.out (Nat.le_refl _) (by omega) ha).mono ?_
  rintro e w3 ⟨rfl, hw⟩
  have HW := Lib.hid hw
  clear hw
  go_wp2
  go_ret
  exact ⟨rfl, Wrote.trans (HC.out.mono fun _ _ h => h.elim) (fun i hi => .inl hi) HW.out⟩
end Go.Proofs.Ytenbkdmaiooldaa
