/- The rule of reuse, in lists alone: a TLB's tags are the first of all that were used, the latest first. No condition. -/
import Derived.Test.YtoglgkplddlemaaTlbC
namespace Go.Proofs.Ytoglgkplddlemaa

def tg (e : En) : Int × Int := (e.c, e.p)

theorem is_tg (e : En) (c p : Int) : e.is c p = (tg e == (c, p)) := by
  simp only [En.is, tg]
  rfl

/-- Where a tag stands; the length, if nowhere. -/
def spot (T : List (Int × Int)) (t : Int × Int) : Nat := T.findIdx (· == t)

theorem spot_lt {T : List (Int × Int)} {t : Int × Int} : spot T t < T.length ↔ t ∈ T := by
  unfold spot
  rw [List.findIdx_lt_length]
  simp

theorem spot_take {T : List (Int × Int)} {t : Int × Int} {n : Nat} (h : spot T t < n) : spot (T.take n) t = min (spot T t) (T.take n).length := by
  unfold spot at *
  rw [List.findIdx_take]
  simp only [List.length_take]
  have := List.findIdx_le_length (xs := T) (p := (· == t))
  omega

theorem mem_take_iff {T : List (Int × Int)} {t : Int × Int} {n : Nat} : t ∈ T.take n ↔ spot T t < T.length ∧ spot T t < n := by
  rw [← spot_lt]
  unfold spot
  rw [List.findIdx_take, List.length_take]
  have := List.findIdx_le_length (xs := T) (p := (· == t))
  omega

theorem filter_erase {T : List (Int × Int)} (h : T.Nodup) (t : Int × Int) : T.filter (fun x => !(x == t)) = T.eraseIdx (spot T t) := by
  induction T with
  | nil => simp [spot]
  | cons x T ih =>
    obtain ⟨h1, h2⟩ := List.nodup_cons.1 h
    by_cases hx : x = t
    · subst hx
      have : spot (x :: T) x = 0 := by simp [spot, List.findIdx_cons]
      rw [this, List.filter_cons_of_neg (by simp), List.eraseIdx_zero, List.tail_cons]
      refine List.filter_eq_self.2 fun y hy => ?_
      have : y ≠ x := fun e => h1 (e ▸ hy)
      simpa using this
    · have : spot (x :: T) t = spot T t + 1 := by
        have hb : (x == t) = false := by simpa using hx
        simp [spot, List.findIdx_cons, hb]
      rw [this, List.filter_cons_of_pos (by simpa using hx), List.eraseIdx_cons_succ, ih h2]

theorem take_eraseIdx {α : Type} (T : List α) : ∀ (n s : Nat), s < n → (T.take n).eraseIdx s = (T.eraseIdx s).take (n - 1) := by
  induction T with
  | nil => intro n s _; simp
  | cons x T ih =>
    intro n s h
    obtain ⟨n, rfl⟩ : ∃ k, n = k + 1 := ⟨n - 1, by omega⟩
    cases s with
    | zero => simp
    | succ s =>
      obtain ⟨n, rfl⟩ : ∃ k, n = k + 1 := ⟨n - 1, by omega⟩
      simp only [List.take_succ_cons, List.eraseIdx_cons_succ, Nat.add_sub_cancel]
      rw [ih (n + 1) s (by omega)]
      simp

theorem take_eraseIdx_ge {α : Type} (T : List α) : ∀ (m s : Nat), m ≤ s → (T.eraseIdx s).take m = T.take m := by
  induction T with
  | nil => intro m s _; simp
  | cons x T ih =>
    intro m s h
    cases m with
    | zero => simp
    | succ m =>
      obtain ⟨s, rfl⟩ : ∃ k, s = k + 1 := ⟨s - 1, by omega⟩
      simp only [List.take_succ_cons, List.eraseIdx_cons_succ]
      rw [ih m s (by omega)]

/-- Behind a use: the tag first, then the others. -/
def front (T : List (Int × Int)) (t : Int × Int) : List (Int × Int) := t :: T.eraseIdx (spot T t)

theorem front_nodup {T : List (Int × Int)} (h : T.Nodup) (t : Int × Int) : (front T t).Nodup := by
  unfold front
  rw [← filter_erase h]
  refine List.nodup_cons.2 ⟨fun hm => ?_, h.filter _⟩
  have := (List.mem_filter.1 hm).2
  simp at this

theorem tags_filter (L : List En) (c p : Int) : (L.filter fun e => !e.is c p).map tg = (L.map tg).filter fun x => !(x == (c, p)) := by
  rw [List.filter_map]
  congr 1

theorem tags_bump (L : List En) (c p f r now : Int) : (bump L c p f r now).map tg = (c, p) :: (L.map tg).filter fun x => !(x == (c, p)) := by
  unfold bump
  rw [List.map_cons, tags_filter]
  rfl

theorem hit_mem {L : List En} {c p : Int} : (hitE L c p).isSome = decide ((c, p) ∈ L.map tg) := by
  unfold hitE
  rw [Bool.eq_iff_iff, List.find?_isSome]
  simp only [decide_eq_true_eq, List.mem_map, is_tg, beq_iff_eq]

/-- What a TLB of n slots holds of all tags that were used. -/
def Held (L : List En) (T : List (Int × Int)) (n : Nat) : Prop := T.Nodup ∧ L.map tg = T.take n

theorem held_hit {L : List En} {T : List (Int × Int)} {n : Nat} (h : Held L T n) (c p : Int) : (hitE L c p).isSome = decide (spot T (c, p) < T.length ∧ spot T (c, p) < n) := by
  rw [hit_mem, h.2]
  congr 1
  exact propext mem_take_iff

theorem held_look {L : List En} {T : List (Int × Int)} {n : Nat} (h : Held L T n) {c p : Int} (f r now : Int) (hs : (hitE L c p).isSome = true) : Held (bump L c p f r now) (front T (c, p)) n := by
  rw [held_hit h] at hs
  obtain ⟨h1, h2⟩ := of_decide_eq_true hs
  refine ⟨front_nodup h.1 _, ?_⟩
  rw [tags_bump, h.2, filter_erase (h.1.sublist (List.take_sublist _ _))]
  have h3 : spot (T.take n) (c, p) = spot T (c, p) := by
    rw [spot_take h2, List.length_take]
    omega
  obtain ⟨m, rfl⟩ : ∃ m, n = m + 1 := ⟨n - 1, by omega⟩
  rw [h3, take_eraseIdx T _ _ h2]
  unfold front
  rw [List.take_succ_cons, Nat.add_sub_cancel]

theorem filter_not {T : List (Int × Int)} {t : Int × Int} (h : t ∉ T) : T.filter (fun x => !(x == t)) = T :=
  List.filter_eq_self.2 fun y hy => by
    have : y ≠ t := fun e => h (e ▸ hy)
    simpa using this

theorem held_put {L : List En} {T : List (Int × Int)} {n : Nat} (h : Held L T n) {c p : Int} (f r now : Int) (hs : (hitE L c p).isSome = false) (hn : 1 ≤ n) : Held (putL L n c p f r now).1 (front T (c, p)) n := by
  have hs' := hs
  rw [hit_mem, h.2] at hs'
  have hnot := of_decide_eq_false hs'
  have hlen : L.length = min n T.length := by
    have := congrArg List.length h.2
    simpa using this
  obtain ⟨m, rfl⟩ : ∃ m, n = m + 1 := ⟨n - 1, by omega⟩
  refine ⟨front_nodup h.1 _, ?_⟩
  unfold putL front
  rw [if_neg (by rw [hs]; simp), List.take_succ_cons]
  by_cases hr : (L.length : Int) < ((m + 1 : Nat) : Int)
  · rw [if_pos hr, tags_bump, h.2, filter_not hnot]
    have ht : T.take (m + 1) = T := List.take_of_length_le (by omega)
    rw [ht] at hnot ⊢
    have hsp : ¬ spot T (c, p) < T.length := fun e => hnot (spot_lt.1 e)
    rw [List.eraseIdx_of_length_le (by omega), List.take_of_length_le (by omega)]
  · rw [if_neg hr]
    have hT : m + 1 ≤ T.length := by omega
    have hge : m + 1 ≤ spot T (c, p) := by
      rcases Nat.lt_or_ge (spot T (c, p)) (m + 1) with hh | hh
      · exact absurd (mem_take_iff.2 ⟨by omega, hh⟩) hnot
      · exact hh
    cases hl : L.getLast? with
    | none =>
      rw [List.getLast?_eq_none_iff] at hl
      subst hl
      simp at hlen
      omega
    | some e =>
      simp only
      have hcut : (cut L e.c e.p).map tg = T.take m := by
        unfold cut
        rw [tags_filter, h.2]
        have hlast : (T.take (m + 1)).getLast? = some (e.c, e.p) := by
          rw [← h.2, List.getLast?_map, hl]
          rfl
        have hnd : (T.take (m + 1)).Nodup := h.1.sublist (List.take_sublist _ _)
        have hsplit : T.take (m + 1) = T.take m ++ [(e.c, e.p)] := by
          have h1 := List.take_succ_eq_append_getElem (show m < T.length by omega)
          rw [h1, List.getLast?_concat] at hlast
          rw [h1, Option.some.inj hlast]
        rw [hsplit, List.filter_append]
        have hnm : (e.c, e.p) ∉ T.take m := by
          rw [hsplit] at hnd
          intro hm
          have := (List.nodup_append.1 hnd).2.2 _ hm _ (List.mem_singleton.2 rfl)
          exact this rfl
        rw [filter_not hnm]
        simp
      rw [tags_bump, hcut]
      have hnm : (c, p) ∉ T.take m := fun e => hnot (by
        have : T.take m = (T.take (m + 1)).take m := by rw [List.take_take]; congr 1; omega
        rw [this] at e
        exact List.mem_of_mem_take e)
      rw [filter_not hnm, take_eraseIdx_ge T _ _ (by omega)]
end Go.Proofs.Ytoglgkplddlemaa
