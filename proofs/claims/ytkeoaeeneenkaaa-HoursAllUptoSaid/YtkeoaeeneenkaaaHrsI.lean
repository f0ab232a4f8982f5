/- Hours: what All and Of tell, in plain numbers. No condition. -/
import Derived.Test.YtkeoaeeneenkaaaHrsG
import Derived.Test.YtkeoaeeneenkaaaHrsH
namespace Go.Proofs.Ytkeoaeeneenkaaa
open Go.RowKit Go.Cl
set_option linter.unusedVariables false

/-- Next counts the windows that start ahead of a tick. -/
theorem Tab.Ok.nxt_iff {T : Tab} (h : T.Ok) {t k : Int} (ht : 0 ≤ t) (ht2 : t ≤ 9223372036854775807) (hk : 0 ≤ k) : T.raw k < t ↔ k < T.nxt t := by
  unfold Tab.nxt
  by_cases q : t = 0
  · rw [if_pos q]
    have := h.raw_nonneg hk
    omega
  · rw [if_neg q]
    have hc : capT t = t := by unfold capT; omega
    have hc2 : capT (t - 1) = t - 1 := by unfold capT; omega
    have a := h.beg_iff (t := t - 1) (by omega) hk
    rw [hc2] at a
    rw [hc, ← a]
    omega

theorem Tab.Ok.nxt_bd {T : Tab} (h : T.Ok) {t : Int} (ht : 0 ≤ t) (ht2 : t ≤ 9223372036854775807) : 0 ≤ T.nxt t ∧ T.nxt t ≤ t := by
  constructor
  · unfold Tab.nxt
    split
    · omega
    · exact (h.beg_le (by unfold capT; omega)).1
  · have a := h.nxt_iff ht ht2 ht
    have b := h.raw_le (Int.le_refl 0) ht
    have c := h.raw_nonneg (Int.le_refl 0)
    by_cases q : t < T.nxt t
    · have := a.2 q; omega
    · omega

theorem Tab.Ok.nxt_mono {T : Tab} (h : T.Ok) {s t : Int} (hs : 0 ≤ s) (hst : s ≤ t) (ht2 : t ≤ 9223372036854775807) : T.nxt s ≤ T.nxt t := by
  by_cases q : T.nxt t < T.nxt s
  · have a := (h.nxt_iff hs (by omega) (h.nxt_bd (t := t) (by omega) ht2).1).2 q
    have b := (h.nxt_iff (t := t) (by omega) ht2 (h.nxt_bd (t := t) (by omega) ht2).1).1 (by omega)
    omega
  · omega

/-- What a round of All is handed: in its place, within the two ticks. -/
def GoodAt (T : Tab) (f t : Int) (i : Nat) (x : Int) : Prop := x = T.nxt f + i ∧ f ≤ T.sta x ∧ T.sta x < t

theorem list_facts {T : Tab} (h : T.Ok) {f t : Int} (f0 : 0 ≤ f) (ft : f ≤ t) (t1 : t ≤ 9223372036854775807) :
    ((T.list f t).length : Int) = T.nxt t - T.nxt f ∧ ∀ (i : Nat) x, (T.list f t)[i]? = some x → GoodAt T f t i x := by
  have m := h.nxt_mono f0 ft t1
  have nb := (h.nxt_bd f0 (by omega)).1
  have hlen : ((T.list f t).length : Int) = T.nxt t - T.nxt f := by
    by_cases q : f < t
    · rw [T.list_len ⟨q, by omega⟩]
      have e : T.nxt t = T.beg (t - 1) := by
        unfold Tab.nxt
        rw [if_neg (by omega), show capT t = t by unfold capT; omega]
      rw [← e]
      omega
    · have : f = t := by omega
      subst this
      unfold Tab.list
      rw [if_neg (by omega)]
      simp
  refine ⟨hlen, fun i x hx => ?_⟩
  have hl := (List.getElem?_eq_some_iff.1 hx).1
  rw [T.list_at hl] at hx
  cases hx
  have a := h.nxt_iff f0 (by omega) (show 0 ≤ T.nxt f + (i : Int) by omega)
  have b := (h.nxt_iff (t := t) (by omega) t1 (show 0 ≤ T.nxt f + (i : Int) by omega)).2 (by omega)
  have c : ¬ T.raw (T.nxt f + i) < f := fun hh => by have := a.1 hh; omega
  refine ⟨rfl, ?_, ?_⟩
  · rw [T.sta_eq, if_neg (by omega)]; omega
  · rw [T.sta_eq, if_neg (by omega)]; omega

/-! ### each cell's windows -/
theorem ofIdx_count (c : Int) : ∀ (k : Nat) (l : List Win), (ofIdx c k l).length = l.countP fun x => decide (x.c = c)
  | _, [] => rfl
  | k, x :: l => by
    unfold ofIdx
    by_cases q : x.c = c
    · rw [if_pos q, List.countP_cons_of_pos (by simpa using q), List.length_cons, ofIdx_count c (k + 1) l]
    · rw [if_neg q, List.countP_cons_of_neg (by simpa using q), ofIdx_count c (k + 1) l]

theorem ofIdx_at (c : Int) : ∀ (k : Nat) (l : List Win) (j : Int), j ∈ ofIdx c k l → ∃ i : Nat, ∃ x, j = ((k + i : Nat) : Int) ∧ l[i]? = some x ∧ x.c = c
  | k, [], j, h => by simp [ofIdx] at h
  | k, x :: l, j, h => by
    unfold ofIdx at h
    have step : j ∈ ofIdx c (k + 1) l → ∃ i : Nat, ∃ x', j = ((k + i : Nat) : Int) ∧ (x :: l)[i]? = some x' ∧ x'.c = c := fun h' => by
      obtain ⟨i, y, h1, h2, h3⟩ := ofIdx_at c (k + 1) l j h'
      exact ⟨i + 1, y, by rw [h1]; omega, by simpa using h2, h3⟩
    by_cases q : x.c = c
    · rw [if_pos q] at h
      rcases List.mem_cons.1 h with rfl | h
      · exact ⟨0, x, by simp, rfl, q⟩
      · exact step h
    · rw [if_neg q] at h
      exact step h

theorem of_owner {T : Tab} (h : T.Ok) {c j : Int} (hj : j ∈ ofIdx c 0 T.l) : 0 ≤ j ∧ j < T.n ∧ (T.win j).c = c := by
  obtain ⟨i, x, h1, h2, h3⟩ := ofIdx_at c 0 T.l j hj
  have hl := (List.getElem?_eq_some_iff.1 h2).1
  have e := h.wini hl
  rw [h2] at e
  cases e
  refine ⟨by omega, by unfold Tab.n; omega, ?_⟩
  rw [h1, Nat.zero_add]
  exact h3

def below (T : Tab) (c : Int) : Nat := T.l.countP fun x => decide (x.c < c)
theorem below_step (T : Tab) (c : Int) : below T (c + 1) = below T c + (ofIdx c 0 T.l).length := by
  rw [ofIdx_count]
  unfold below
  induction T.l with
  | nil => rfl
  | cons x l ih =>
    simp only [List.countP_cons, ih]
    by_cases q : x.c < c
    · rw [decide_eq_true q, decide_eq_true (show x.c < c + 1 by omega), decide_eq_false (show ¬ x.c = c by omega)]
      simp only [if_true, if_false, Bool.false_eq_true]
      omega
    · by_cases q2 : x.c = c
      · rw [decide_eq_false q, decide_eq_true (show x.c < c + 1 by omega), decide_eq_true q2]
        simp only [if_true, if_false, Bool.false_eq_true]
        omega
      · rw [decide_eq_false q, decide_eq_false (show ¬ x.c < c + 1 by omega), decide_eq_false q2]
        simp only [if_false, Bool.false_eq_true]
        omega
theorem below_one {T : Tab} (h : T.Ok) : below T 1 = 0 := by
  unfold below
  rw [List.countP_eq_zero]
  intro x hx
  have := h.each x hx
  simp; omega
theorem below_nine {T : Tab} (h : T.Ok) : below T 9 = T.l.length := by
  unfold below
  rw [List.countP_eq_length]
  intro x hx
  have := h.each x hx
  simp; omega
theorem below_le (T : Tab) (c : Int) : below T c ≤ T.l.length := List.countP_le_length
end Go.Proofs.Ytkeoaeeneenkaaa
