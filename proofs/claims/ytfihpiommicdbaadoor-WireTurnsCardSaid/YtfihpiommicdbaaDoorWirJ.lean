/- Bits of a list of bytes turned one by one: plain. No condition. -/
import Derived.Test.YtfihpiommicdbaaDoorWirI
namespace Go.Proofs.YtfihpiommicdbaaDoor
open Go.RowKit Go.Cl
set_option linter.unusedVariables false

/-- A byte of a row is written. -/
theorem row_set {w : World} {base g n cap : Nat} {e : TypeId} {L : List Int} {j : Nat} {v : Int} (h : w.ownsRow base e 1 (.slice (some ⟨g, 0, none⟩) n cap) n (u8s L)) (hj : j < n) :
    (w.setCell ⟨g, j, none⟩ (.int .u8 v)).ownsRow base e 1 (.slice (some ⟨g, 0, none⟩) n cap) n (u8s (L.set j v)) := by
  obtain ⟨h1, h2 | ⟨g', cap', cur, hv, hb, hh, hc, hm, hcs, hx⟩⟩ := h
  · simp at h2
  · simp only [Value.slice.injEq, Option.some.injEq, Addr.mk.injEq, true_and, and_true] at hv
    obtain ⟨rfl, rfl⟩ := hv
    refine ⟨by simpa using h1, .inr ⟨g, cap, cur.setIfInBounds j (.int .u8 v), rfl, hb, blk_setCell _ _ _ _ _ _ _ hh, hc, hm, by simpa using hcs, ?_⟩⟩
    rw [Array.toList_setIfInBounds, List.take_set, hx]
    unfold u8s
    rw [List.map_set]

/-- One bit is turned. -/
def turnB (L : List Int) (p : Nat) : List Int := L.set (p / 8) (((L.getD (p / 8) 0).toNat ^^^ 2 ^ (p % 8) : Nat) : Int)
theorem turnB_len (L : List Int) (p : Nat) : (turnB L p).length = L.length := by simp [turnB]
theorem byte_xor {x : Int} (h : 0 ≤ x ∧ x ≤ 255) (q : Nat) (hq : q < 8) : x.toNat ^^^ 2 ^ q < 256 := Nat.xor_lt_two_pow (n := 8) (by omega) (Nat.pow_lt_pow_right (by omega) hq)
theorem getD_byte {L : List Int} (h : Bytes L) (j : Nat) : 0 ≤ L.getD j 0 ∧ L.getD j 0 ≤ 255 := by
  rw [List.getD_eq_getElem?_getD]
  cases e : L[j]? with
  | none => simp
  | some x => exact h x (List.mem_of_getElem? e)
theorem turnB_byte {L : List Int} (h : Bytes L) (p : Nat) : Bytes (turnB L p) := fun b hb => by
  rcases List.mem_or_eq_of_mem_set hb with hb | rfl
  · exact h b hb
  · have := byte_xor (getD_byte h (p / 8)) (p % 8) (by omega)
    omega
theorem turnB_bit {L : List Int} (h : Bytes L) {p : Nat} (hp : p < 8 * L.length) (k : Nat) : bitOf ((turnB L p).map Int.toNat) k = (bitOf (L.map Int.toNat) k ^^ decide (k = p)) := by
  unfold bitOf turnB
  simp only [List.getD_eq_getElem?_getD, List.getElem?_map, List.getElem?_set]
  by_cases hk : p / 8 = k / 8
  · rw [if_pos hk, if_pos (by omega)]
    rw [← hk, List.getElem?_eq_getElem (show p / 8 < L.length by omega)]
    simp only [Option.map_some, Option.getD_some, Int.toNat_natCast, Nat.testBit_xor, Nat.testBit_two_pow]
    congr 1
    apply decide_eq_decide.2
    omega
  · rw [if_neg hk]
    have : decide (k = p) = false := decide_eq_false fun e => hk (by rw [e])
    rw [this]
    simp
def flipTo (L : List Int) (f r : Nat) : Nat → List Int
  | 0 => L
  | i + 1 => if r.testBit i = true ∧ f + i < 8 * L.length then turnB (flipTo L f r i) (f + i) else flipTo L f r i
theorem flipTo_len (L : List Int) (f r i : Nat) : (flipTo L f r i).length = L.length := by
  induction i with
  | zero => rfl
  | succ i ih =>
    rw [flipTo]
    split
    · rw [turnB_len, ih]
    · exact ih
theorem flipTo_byte {L : List Int} (h : Bytes L) (f r i : Nat) : Bytes (flipTo L f r i) := by
  induction i with
  | zero => exact h
  | succ i ih =>
    rw [flipTo]
    split
    · exact turnB_byte ih _
    · exact ih
theorem flipTo_bit {L : List Int} (h : Bytes L) (f r i k : Nat) : bitOf ((flipTo L f r i).map Int.toNat) k = (bitOf (L.map Int.toNat) k ^^ (decide (f ≤ k) && decide (k < f + i) && decide (k < 8 * L.length) && r.testBit (k - f))) := by
  induction i with
  | zero =>
    rw [flipTo]
    have : (decide (f ≤ k) && decide (k < f + 0)) = false := by simp
    rw [this]
    simp
  | succ i ih =>
    rw [flipTo]
    by_cases hk : k = f + i
    · subst hk
      have e1 : f + i - f = i := by omega
      rw [e1] at *
      split
      · rename_i hc
        rw [turnB_bit (flipTo_byte h f r i) (by rw [flipTo_len]; exact hc.2), ih]
        simp [hc.1, hc.2]
      · rename_i hc
        rw [ih]
        congr 1
        simp only [Nat.lt_irrefl, decide_false, Bool.and_false, Bool.false_and]
        symm
        by_cases h1 : r.testBit i = true
        · have : ¬ f + i < 8 * L.length := fun h2 => hc ⟨h1, h2⟩
          simp [this]
        · simp [h1]
    · have e : decide (k < f + (i + 1)) = decide (k < f + i) := decide_eq_decide.2 (by omega)
      rw [e]
      split
      · rename_i hc
        rw [turnB_bit (flipTo_byte h f r i) (by rw [flipTo_len]; exact hc.2), ih, decide_eq_false hk]
        simp
      · exact ih
/-- WHAT IS TURNED IS SEEN. -/
theorem flip_sum {L : List Int} (h : Bytes L) {f r i : Nat} (hf : f < 8 * L.length) (hr : r % 2 = 1) (hi : i ≤ 32) (he : i = 32 ∨ 8 * L.length ≤ f + i) : sumI L ≠ sumI (flipTo L f r i) := by
  have hn : ∀ M : List Int, Bytes M → ∀ x ∈ M.map Int.toNat, x < 256 := fun M hM x hx => by
    obtain ⟨y, hy, rfl⟩ := List.mem_map.1 hx
    have := hM y hy
    omega
  have hi0 : 0 < i := by rcases he with h | h <;> omega
  refine sumN_burst (L.map Int.toNat) ((flipTo L f r i).map Int.toNat) (hn _ h) (hn _ (flipTo_byte h f r i)) (by rw [List.length_map, List.length_map, flipTo_len]) f (by rw [List.length_map]; exact hf) (fun k hk => ?_) ?_ (fun k hk => ?_)
  · rw [flipTo_bit h, decide_eq_false (show ¬ f ≤ k by omega)]
    simp
  · rw [flipTo_bit h]
    have h0 : r.testBit 0 = true := by rw [Nat.testBit_zero]; simp [hr]
    simp [h0, hf, hi0]
  · rw [flipTo_bit h, decide_eq_false (show ¬ k < f + i by omega)]
    simp
end Go.Proofs.YtfihpiommicdbaaDoor
