/- Contracts of package memory's Store and Load: a word is the bytes of its place. -/
import Derived.Test.YtenbkdmaiooldaaMemC
namespace Go.Proofs.Ytenbkdmaiooldaa
open Go.RowKit Go.Cl
open Go.Maps (Keyed)
open Go.ChangeMaps (setBlock)
set_option linter.unusedVariables false
set_option linter.unusedSimpArgs false
attribute [local go_sem] lt_add_one' blk_alloc_past blk_alloc_at blk_drew blk_setCell_ne blk_setBlock_ne blk_setBlock_eq cell_setBlock_ne frozen_setBlock_ne size_setBlock

/-- The bytes of a word. -/
def byteOf (v : Int) (j : Nat) : Int := v / 256 ^ j % 256

theorem wordE_zero {pages : Nat} {a n : Int} (h : wordE pages a n = 0) : (n = 1 ∨ n = 2 ∨ n = 4) ∧ a % n = 0 ∧ a + n ≤ pages * 4096 := by
  unfold wordE at h
  split at h
  · omega
  · rename_i h1
    split at h
    · omega
    · rename_i h2
      unfold placeE at h
      split at h
      · omega
      · split at h
        · omega
        · omega

theorem word_any {w : World} {b m : Nat} {pg : List (Nat × Nat)} {pages : Nat} {f : Nat → Int} (h : MemIs w b m pg pages f) (a n : Int) (ha0 : 0 ≤ a) (ha : a ≤ 4294967295) :
    Calls Try.prog 48 #[ptrV b, .int .u32 a, .int .i64 n] w fun e w' => e = .returned (.int .i64 (wordE pages a n)) ∧ w = w' := by
  by_cases hn : n = 1 ∨ n = 2 ∨ n = 4
  · exact word_ok h a n ha0 ha hn
  · exact word_bad pages a n hn

set_option maxHeartbeats 1000000 in
set_option maxRecDepth 100000 in
theorem store_bad {w : World} {b m : Nat} {pg : List (Nat × Nat)} {pages : Nat} {f : Nat → Int} (h : MemIs w b m pg pages f) {a n v : Int} (ha0 : 0 ≤ a) (ha : a ≤ 4294967295) (hw : wordE pages a n ≠ 0) :
    Calls Try.prog 15 #[ptrV b, .int .u32 a, .int .i64 n, .int .u32 v] w fun e w' => e = .returned (.int .i64 (wordE pages a n)) ∧ w = w' := by
  have c0 := word_any h a n ha0 ha
  generalize wordE pages a n = e0 at *
  have C0 := Lib.hid c0
  clear c0 h
  unfold ptrV at *
  go_enter Try.func15, Try.ntmps15
  go_wp2_with fail
  refine C0.out.mono ?_
  rintro e w' ⟨rfl, rfl⟩
  have n1 : (e0 != 0) = true := by simpa using hw
  go_wp2
  go_ret
  exact ⟨rfl, rfl⟩

set_option maxHeartbeats 1000000 in
set_option maxRecDepth 100000 in
theorem store_ok {w : World} {b m : Nat} {pg : List (Nat × Nat)} {pages : Nat} {f : Nat → Int} (h : MemIs w b m pg pages f) {a n : Nat} {v : Int} (hv : 0 ≤ v ∧ v < 4294967296) (ha : a < 4294967296) (hw : wordE pages a n = 0) :
    Calls Try.prog 15 #[ptrV b, .int .u32 a, .int .i64 n, .int .u32 v] w fun e w' => e = .returned (.int .i64 0) ∧ Wrote w w' b m pg pages (put f a n (byteOf v)) := by
  have c0 := word_any h a n (by omega) (by omega)
  obtain ⟨z1, z2, z3⟩ := wordE_zero hw
  have h0 : 0 < n := by omega
  have h4 : n ≤ 4 := by omega
  rw [hw] at c0
  have H := Lib.hid h
  have C0 := Lib.hid c0
  have Z1 := Lib.hid z1
  have Z2 := Lib.hid z2
  clear h c0 z1 z2 hw
  unfold ptrV at *
  go_enter Try.func15, Try.ntmps15
  go_wp2_with fail
  refine C0.out.mono ?_
  rintro e w' ⟨rfl, rfl⟩
  go_wp2_with fail
  have hc : Chg (fun _ => False) w (w.alloc (.cells #[.int .u8 (v % 256), .int .u8 (v / 256 % 256), .int .u8 (v / 65536 % 256), .int .u8 (v / 16777216)] 5 (0, 0))) := (Chg.refl _ _).alloc _
  have hb : blk (w.alloc (.cells #[.int .u8 (v % 256), .int .u8 (v / 256 % 256), .int .u8 (v / 65536 % 256), .int .u8 (v / 16777216)] 5 (0, 0))) w.heap.size = some (.cells #[.int .u8 (v % 256), .int .u8 (v / 256 % 256), .int .u8 (v / 65536 % 256), .int .u8 (v / 16777216)] 5 (0, 0)) := blk_alloc_at _ _ _ rfl
  have hs : Src (w.alloc (.cells #[.int .u8 (v % 256), .int .u8 (v / 256 % 256), .int .u8 (v / 65536 % 256), .int .u8 (v / 16777216)] 5 (0, 0))) w.heap.size 0 n (byteOf v) := by
    intro j hj
    refine ⟨?_, ?_⟩
    · rw [Nat.zero_add, cell_of_blk hb]
      have : j = 0 ∨ j = 1 ∨ j = 2 ∨ j = 3 := by omega
      unfold byteOf
      rcases this with rfl | rfl | rfl | rfl
      · simp
      · simp
      · simp
      · simp
        omega
    · unfold byteOf
      exact ⟨Int.emod_nonneg _ (by decide), by have := Int.emod_lt_of_pos (v / 256 ^ j) (show (0:Int) < 256 by decide); omega⟩
  have hl0 : ∀ i, Foot b m pg i → i < w.heap.size := H.out.lt
  refine (write_ok (H.out.frame hc fun _ _ => id) hs (fun e => by have := hl0 _ e; omega) h0 h4 (by omega) (a := a) (by omega)).mono ?_
  rintro e w' ⟨rfl, hw⟩
  have HW := Lib.hid hw
  have HC := Lib.hid hc
  clear hw hc hb hs hl0
  go_wp2
  go_ret
  exact ⟨rfl, Wrote.trans (HC.out.mono fun _ _ h => h.elim) (fun i hi => .inl hi) HW.out⟩
end Go.Proofs.Ytenbkdmaiooldaa
