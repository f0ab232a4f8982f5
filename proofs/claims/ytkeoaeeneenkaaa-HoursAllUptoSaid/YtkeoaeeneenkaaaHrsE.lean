/- Hours: when windows start, in plain numbers: how many have begun at a tick. No condition. -/
import Derived.Test.YtkeoaeeneenkaaaHrsD
namespace Go.Proofs.Ytkeoaeeneenkaaa
open Go.RowKit Go.Cl
set_option linter.unusedVariables false

/-- When a window starts, the last tick left aside. -/
def Tab.raw (T : Tab) (k : Int) : Int := k / T.n * T.major + (T.win k).s

theorem Tab.sta_eq (T : Tab) (k : Int) : T.sta k = if 9223372036854775807 < T.raw k then 9223372036854775807 else T.raw k := rfl

theorem Tab.Ok.n_pos {T : Tab} (h : T.Ok) : 1 ≤ T.n := by have := h.n1; unfold Tab.n; omega

theorem Tab.Ok.winE {T : Tab} (h : T.Ok) {k : Int} (hk : 0 ≤ k) : 1 ≤ (T.win k).c ∧ (T.win k).c ≤ 8 ∧ 1 ≤ (T.win k).n ∧ 0 ≤ (T.win k).s ∧ (T.win k).s + (T.win k).n ≤ T.major := h.each _ (h.win hk).2

theorem Tab.win_mod (T : Tab) (k : Int) : T.win (k % T.n) = T.win k := by
  unfold Tab.win
  rw [Int.emod_emod_of_dvd _ (Int.dvd_refl _)]

theorem Tab.win_add (T : Tab) (k : Int) : T.win (k + T.n) = T.win k := by
  rw [← T.win_mod, ← T.win_mod k, Int.add_emod_right]

theorem Tab.Ok.raw_add {T : Tab} (h : T.Ok) (k : Int) : T.raw (k + T.n) = T.raw k + T.major := by
  have hn := h.n_pos
  unfold Tab.raw
  rw [T.win_add, Int.add_ediv_of_dvd_right (Int.dvd_refl _), Int.ediv_self (by omega), Int.add_mul]
  omega

/-- Of two numbers within one frame the later window starts behind the earlier one's end. -/
theorem Tab.Ok.win_lt {T : Tab} (h : T.Ok) {i j : Int} (hi : 0 ≤ i) (hij : i < j) (hj : j < T.n) : (T.win i).s + (T.win i).n ≤ (T.win j).s := by
  obtain ⟨a, rfl⟩ := Int.eq_ofNat_of_zero_le hi
  obtain ⟨b, rfl⟩ := Int.eq_ofNat_of_zero_le (show 0 ≤ j by omega)
  unfold Tab.n at hj
  exact h.mono (h.wini (by omega)) (h.wini (by omega)) (by omega)

theorem Tab.Ok.raw_step {T : Tab} (h : T.Ok) {k : Int} (hk : 0 ≤ k) : T.raw k + (T.win k).n ≤ T.raw (k + 1) := by
  have hn := h.n_pos
  have e1 := Int.mul_ediv_add_emod k T.n
  have e2 := Int.mul_ediv_add_emod (k + 1) T.n
  have m1 := Int.emod_lt_of_pos k (show 0 < T.n by omega)
  have m2 := Int.emod_nonneg k (show T.n ≠ 0 by omega)
  have hw := h.winE hk
  by_cases hl : k % T.n + 1 < T.n
  · have a : (k + 1) / T.n = k / T.n := by
      have : k + 1 = (k % T.n + 1) + T.n * (k / T.n) := by omega
      rw [this, Int.add_mul_ediv_left _ _ (by omega), Int.ediv_eq_zero_of_lt (by omega) hl]
      omega
    have b : (k + 1) % T.n = k % T.n + 1 := by
      have : k + 1 = (k % T.n + 1) + T.n * (k / T.n) := by omega
      rw [this, Int.add_mul_emod_self_left, Int.emod_eq_of_lt (by omega) hl]
    have c := h.win_lt m2 (show k % T.n < k % T.n + 1 by omega) hl
    unfold Tab.raw
    rw [a, ← T.win_mod (k + 1), b, ← T.win_mod k]
    omega
  · have hz : k % T.n + 1 = T.n := by omega
    have a : (k + 1) / T.n = k / T.n + 1 := by
      have : k + 1 = T.n + T.n * (k / T.n) := by omega
      rw [this, Int.add_mul_ediv_left _ _ (by omega), Int.ediv_self (by omega)]
      omega
    have hw2 := h.winE (show 0 ≤ k + 1 by omega)
    unfold Tab.raw
    rw [a, Int.add_mul]
    omega

theorem Tab.Ok.raw_nonneg {T : Tab} (h : T.Ok) {k : Int} (hk : 0 ≤ k) : 0 ≤ T.raw k := by
  have hw := h.winE hk
  have := Int.mul_nonneg (Int.ediv_nonneg hk (show 0 ≤ T.n by have := h.n_pos; omega)) (show 0 ≤ T.major by have := h.m1; omega)
  unfold Tab.raw
  omega

theorem Tab.Ok.raw_mono {T : Tab} (h : T.Ok) {k : Int} (hk : 0 ≤ k) (d : Nat) : T.raw k + d ≤ T.raw (k + d) := by
  induction d with
  | zero => simp
  | succ d ih =>
    have a := h.raw_step (show 0 ≤ k + d by omega)
    have b := h.winE (show 0 ≤ k + d by omega)
    rw [show k + ((d + 1 : Nat) : Int) = k + d + 1 by omega]
    omega

theorem Tab.Ok.raw_lt {T : Tab} (h : T.Ok) {j k : Int} (hj : 0 ≤ j) (hjk : j < k) : T.raw j < T.raw k := by
  have := h.raw_mono hj (k - j).toNat
  rw [show j + ((k - j).toNat : Int) = k by omega] at this
  omega

theorem Tab.Ok.raw_le {T : Tab} (h : T.Ok) {j k : Int} (hj : 0 ≤ j) (hjk : j ≤ k) : T.raw j + (k - j) ≤ T.raw k := by
  have := h.raw_mono hj (k - j).toNat
  rw [show j + ((k - j).toNat : Int) = k by omega] at this
  omega

theorem cnt_iff_aux : ∀ (l : List Win) (r : Int), l.Pairwise (fun a b => a.s + a.n ≤ b.s) → (∀ x ∈ l, 1 ≤ x.n) → ∀ (i : Nat) x, l[i]? = some x → (x.s ≤ r ↔ i < l.countP fun x => decide (x.s ≤ r))
  | [], r, _, _, i, x, hx => by simp at hx
  | y :: l, r, hp, hn, i, x, hx => by
    obtain ⟨p1, p2⟩ := List.pairwise_cons.1 hp
    by_cases hy : y.s ≤ r
    · rw [List.countP_cons_of_pos (by simpa using hy)]
      cases i with
      | zero => simp at hx; subst hx; simp [hy]
      | succ i =>
        rw [cnt_iff_aux l r p2 (fun x hx => hn x (by simp [hx])) i x (by simpa using hx)]
        omega
    · have h0 : (l.countP fun x => decide (x.s ≤ r)) = 0 := by
        rw [List.countP_eq_zero]
        intro z hz
        have := p1 z hz
        have := hn y (by simp)
        simp; omega
      rw [List.countP_cons_of_neg (by simpa using hy), h0]
      have : ¬ x.s ≤ r := by
        cases i with
        | zero => simp at hx; subst hx; exact hy
        | succ i =>
          have hz := p1 x (List.mem_of_getElem? (by simpa using hx))
          have := hn y (by simp)
          omega
      simp [this]

/-- How many windows begin at a tick of the frame or ahead of it. -/
theorem Tab.Ok.cnt_iff {T : Tab} (h : T.Ok) {i : Int} (hi : 0 ≤ i) (hn : i < T.n) (r : Int) : (T.win i).s ≤ r ↔ i < T.cnt r := by
  obtain ⟨a, rfl⟩ := Int.eq_ofNat_of_zero_le hi
  unfold Tab.n at hn
  have := cnt_iff_aux T.l r h.sorted (fun x hx => (h.each x hx).2.2.1) a _ (h.wini (by omega))
  unfold Tab.cnt
  rw [this]
  omega

/-- THE LAW: window k has begun at a tick just if it is among those that are counted. -/
theorem Tab.Ok.beg_iff {T : Tab} (h : T.Ok) {t : Int} (ht : 0 ≤ t) {k : Int} (hk : 0 ≤ k) : T.raw k ≤ capT t ↔ k < T.beg t := by
  have hn := h.n_pos
  have m1 := h.m1
  have hc : 0 ≤ capT t := by unfold capT; omega
  have e1 := Int.mul_ediv_add_emod k T.n
  have e2 := Int.mul_ediv_add_emod (capT t) T.major
  have a1 := Int.emod_lt_of_pos k (show 0 < T.n by omega)
  have a2 := Int.emod_nonneg k (show T.n ≠ 0 by omega)
  have b1 := Int.emod_lt_of_pos (capT t) (show 0 < T.major by omega)
  have b2 := Int.emod_nonneg (capT t) (show T.major ≠ 0 by omega)
  have hw := h.winE hk
  have hci := h.cnt_iff a2 a1 (capT t % T.major)
  rw [T.win_mod] at hci
  have hcl := h.cnt_le (capT t % T.major)
  unfold Tab.raw Tab.beg
  generalize capT t = c at *
  generalize hq : k / T.n = q at *
  generalize hi : k % T.n = i at *
  generalize hf : c / T.major = f at *
  generalize hr : c % T.major = r at *
  generalize (T.win k).s = s at *
  generalize T.cnt r = cn at *
  generalize T.n = n at *
  generalize T.major = M at *
  rw [Int.mul_comm] at e1 e2
  rcases Int.lt_trichotomy q f with h1 | h1 | h1
  · have x1 : (q + 1) * n ≤ f * n := Int.mul_le_mul_of_nonneg_right (by omega) (by omega)
    have x2 : (q + 1) * M ≤ f * M := Int.mul_le_mul_of_nonneg_right (by omega) (by omega)
    rw [Int.add_mul] at x1 x2
    constructor <;> intro _ <;> omega
  · subst h1
    constructor
    · intro h2
      have := hci.1 (by omega)
      omega
    · intro h2
      have := hci.2 (by omega)
      omega
  · have x1 : (f + 1) * n ≤ q * n := Int.mul_le_mul_of_nonneg_right (by omega) (by omega)
    have x2 : (f + 1) * M ≤ q * M := Int.mul_le_mul_of_nonneg_right (by omega) (by omega)
    rw [Int.add_mul] at x1 x2
    constructor <;> intro _ <;> omega

/-- How many have begun, by the last of them. -/
theorem Tab.Ok.beg_at {T : Tab} (h : T.Ok) {t k : Int} (ht : 0 ≤ t) (hk : 0 ≤ k) (h1 : T.raw k ≤ capT t) (h2 : capT t < T.raw (k + 1)) : T.beg t = k + 1 := by
  have a := (h.beg_iff ht hk).1 h1
  have b := h.beg_iff ht (show 0 ≤ k + 1 by omega)
  have : ¬ k + 1 < T.beg t := fun hh => by have := b.2 hh; omega
  omega
end Go.Proofs.Ytkeoaeeneenkaaa
