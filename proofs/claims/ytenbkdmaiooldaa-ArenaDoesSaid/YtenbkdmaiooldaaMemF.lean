/- Contract of package memory's Load. -/
import Derived.Test.YtenbkdmaiooldaaMemD
import Derived.Test.YtenbkdmaiooldaaMemE
namespace Go.Proofs.Ytenbkdmaiooldaa
open Go.RowKit Go.Cl
open Go.Maps (Keyed)
open Go.ChangeMaps (setBlock)
set_option linter.unusedVariables false
set_option linter.unusedSimpArgs false
attribute [local go_sem] lt_add_one' blk_alloc_past blk_alloc_at blk_drew blk_setCell_ne blk_setBlock_ne blk_setBlock_eq cell_setBlock_ne frozen_setBlock_ne size_setBlock

/-- The word of n bytes. -/
def wordOf (h : Nat → Int) : Nat → Int
  | 0 => 0
  | n + 1 => wordOf h n + h n * 256 ^ n

theorem wordOf_lt {h : Nat → Int} (hb : ∀ j, 0 ≤ h j ∧ h j ≤ 255) : ∀ n, 0 ≤ wordOf h n ∧ wordOf h n < 256 ^ n
  | 0 => by simp [wordOf]
  | n + 1 => by
    have ih := wordOf_lt hb n
    have := hb n
    simp only [wordOf]
    rw [Int.pow_succ]
    have hp : (0:Int) < 256 ^ n := Int.pow_pos (by decide)
    have h1 : 0 ≤ h n * 256 ^ n := Int.mul_nonneg this.1 (by omega)
    have h2 : h n * 256 ^ n ≤ 255 * 256 ^ n := Int.mul_le_mul_of_nonneg_right this.2 (by omega)
    omega

theorem bits_or_add {x y i : Nat} (hx : x < 2 ^ i) (h : y * 2 ^ i + x < 4294967296) : bits .or .u32 (x : Int) ((y * 2 ^ i : Nat) : Int) = ((x + y * 2 ^ i : Nat) : Int) := by
  have e1 : (BitVec.ofInt 32 (x : Int)).toNat = x := by
    rw [BitVec.ofInt_natCast, BitVec.toNat_ofNat]
    exact Nat.mod_eq_of_lt (by omega)
  have e2 : (BitVec.ofInt 32 ((y * 2 ^ i : Nat) : Int)).toNat = y * 2 ^ i := by
    rw [BitVec.ofInt_natCast, BitVec.toNat_ofNat]
    exact Nat.mod_eq_of_lt (by omega)
  have e3 : (BitVec.ofInt 32 (x : Int) ||| BitVec.ofInt 32 ((y * 2 ^ i : Nat) : Int)).toNat = x + y * 2 ^ i := by
    rw [BitVec.toNat_or, e1, e2, Nat.or_comm, Nat.mul_comm y, ← Nat.two_pow_add_eq_or_of_lt hx, Nat.add_comm]
  show IntKind.u32.wrap ((BitVec.ofInt 32 (x : Int) ||| BitVec.ofInt 32 ((y * 2 ^ i : Nat) : Int)).toNat : Int) = _
  rw [e3, IntKind.wrap_u32]
  omega

theorem or_byte {h : Nat → Int} (hb : ∀ j, 0 ≤ h j ∧ h j ≤ 255) {k : Nat} (hk : k < 4) : bits .or .u32 (wordOf h k) (h k * 2 ^ (8 * k) % 4294967296) = wordOf h (k + 1) := by
  obtain ⟨w0, w1⟩ := wordOf_lt hb k
  obtain ⟨b0, b1⟩ := hb k
  simp only [wordOf]
  generalize wordOf h k = x at *
  generalize h k = y at *
  obtain ⟨X, rfl⟩ := Int.eq_ofNat_of_zero_le w0
  obtain ⟨Y, rfl⟩ := Int.eq_ofNat_of_zero_le b0
  have : k = 0 ∨ k = 1 ∨ k = 2 ∨ k = 3 := by omega
  have key := fun i (hx : X < 2 ^ i) (h : Y * 2 ^ i + X < 4294967296) => bits_or_add hx h
  rcases this with rfl | rfl | rfl | rfl
  · have := key 0 (by omega) (by omega)
    have e : (Y : Int) * 2 ^ (8 * 0) % 4294967296 = ((Y * 2 ^ 0 : Nat) : Int) := by omega
    rw [e, this]; omega
  · have := key 8 (by omega) (by omega)
    have e : (Y : Int) * 2 ^ (8 * 1) % 4294967296 = ((Y * 2 ^ 8 : Nat) : Int) := by omega
    rw [e, this]; omega
  · have := key 16 (by omega) (by omega)
    have e : (Y : Int) * 2 ^ (8 * 2) % 4294967296 = ((Y * 2 ^ 16 : Nat) : Int) := by omega
    rw [e, this]; omega
  · have := key 24 (by omega) (by omega)
    have e : (Y : Int) * 2 ^ (8 * 3) % 4294967296 = ((Y * 2 ^ 24 : Nat) : Int) := by omega
    rw [e, this]; omega

set_option maxHeartbeats 1000000 in
set_option maxRecDepth 100000 in
theorem load_bad {w : World} {b m : Nat} {pg : List (Nat × Nat)} {pages : Nat} {f : Nat → Int} (h : MemIs w b m pg pages f) {a n : Int} (ha0 : 0 ≤ a) (ha : a ≤ 4294967295) (hw : wordE pages a n ≠ 0) :
    Calls Try.prog 16 #[ptrV b, .int .u32 a, .int .i64 n] w fun e w' => e = .returned (.tuple #[.int .u32 0, .int .i64 (wordE pages a n)]) ∧ w = w' := by
  have c0 := word_any h a n ha0 ha
  generalize wordE pages a n = e0 at *
  have C0 := Lib.hid c0
  clear c0 h
  unfold ptrV at *
  go_enter Try.func16, Try.ntmps16
  go_wp2_with fail
  refine C0.out.mono ?_
  rintro e w' ⟨rfl, rfl⟩
  have n1 : (e0 != 0) = true := by simpa using hw
  go_wp2
  go_ret2
  exact ⟨rfl, rfl⟩

set_option maxHeartbeats 1000000 in
set_option maxRecDepth 100000 in
theorem load_ok {w : World} {b m : Nat} {pg : List (Nat × Nat)} {pages : Nat} {f : Nat → Int} (h : MemIs w b m pg pages f) {a n : Nat} (ha : a < 4294967296) (hw : wordE pages a n = 0) :
    Calls Try.prog 16 #[ptrV b, .int .u32 a, .int .i64 n] w fun e w' => e = .returned (.tuple #[.int .u32 (wordOf (fun j => f (a + j)) n), .int .i64 0]) ∧ Chg (fun _ => False) w w' := by
  have c0 := word_any h a n (by omega) (by omega)
  obtain ⟨z1, z2, z3⟩ := wordE_zero hw
  have h0 : 0 < n := by omega
  have h4 : n ≤ 4 := by omega
  have hR := read_ok h (a := a) (n := n) (by omega)
  have hby := h.byte
  rw [hw] at c0
  have BY := Lib.hid hby
  have C0 := Lib.hid c0
  have RD := Lib.hid hR
  clear h c0 z1 z2 z3 hw hR hby
  unfold ptrV at *
  go_enter Try.func16, Try.ntmps16
  go_wp2_with fail
  refine C0.out.mono ?_
  rintro e w' ⟨rfl, rfl⟩
  go_wp2_with fail
  refine RD.out.mono ?_
  rintro e w' ⟨g, rfl, hg, hr, hc⟩
  have hy : ∀ j, j < n → w'.cell? ⟨g, j, none⟩ = some (.int .u8 (f (a + j))) := fun j hj => by
    rw [cell_of_blk hr, List.getElem?_toArray, getElem_rowCells _ _ _ hj]
  have HC := Lib.hid hc
  have HY := Lib.hid hy
  clear hr hc hg hy
  go_wp2
  go_loopw [9, 24] (fun v i wr => ∃ k : Nat, k ≤ n ∧ v = .int .u32 (wordOf (fun j => f (a + j)) k) ∧ i = .int .i64 k ∧ wr = w') (fun _ i _ => n - (intOf i).toNat)
  case atStart => exact ⟨0, by omega, rfl, rfl, rfl⟩
  case round =>
    obtain ⟨k, hk, rfl, rfl, rfl⟩ := hrel
    have hlt := wordOf_lt (fun j => BY.out (a + j)) k
    by_cases hkn : k < n
    · have y := HY.out k hkn
      have by1 := BY.out (a + k)
      go_wp2
      refine ⟨⟨k + 1, by omega, ?_, by simp, trivial⟩, by simp only [intOf]; omega⟩
      rw [or_byte (h := fun j => f (a + j)) (fun j => BY.out (a + j)) (by omega)]
    · have e : k = n := by omega
      subst e
      go_wp2
      go_ret2
      exact ⟨rfl, HC.out⟩
end Go.Proofs.Ytenbkdmaiooldaa
