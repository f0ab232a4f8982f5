/- The rule of reuse with flushes and drops, in lists alone. No condition. -/
import Derived.Test.YtoglgkplddlemaaTlbF
import Derived.Test.YtoglgkplddlemaaTlbG
namespace Go.Proofs.Ytoglgkplddlemaa

abbrev Tag := Int × Int

/-- The tags used since a tag's last use, the latest first; none: it was not used, or flushed or dropped since. (The history's latest step first.) -/
def seg : List (Tag × Int) → Tag → Option (List Tag)
  | [], _ => none
  | (x, f) :: h, t => if f = 1 then none else if f = 2 then (if x.1 = t.1 then none else seg h t) else if f = 3 then (if x = t then none else seg h t) else if x = t then some [] else (seg h t).map (x :: ·)

def addNew (os : List Tag) (x : Tag) : List Tag := if x ∈ os then os else os ++ [x]
def dd (l : List Tag) : List Tag := l.foldl addNew []
def dcount (l : List Tag) : Nat := (dd l).length

theorem foldl_nodup (l : List Tag) : ∀ os : List Tag, os.Nodup → (l.foldl addNew os).Nodup := by
  induction l with
  | nil => exact fun _ h => h
  | cons x l ih =>
    intro os h
    refine ih _ ?_
    unfold addNew
    split
    · exact h
    · rename_i hx
      exact List.nodup_append.2 ⟨h, by simp, fun a ha b hb e => by simp at hb; subst hb; subst e; exact hx ha⟩

theorem mem_foldl (l : List Tag) : ∀ (os : List Tag) (y : Tag), y ∈ l.foldl addNew os ↔ y ∈ os ∨ y ∈ l := by
  induction l with
  | nil => simp
  | cons x l ih =>
    intro os y
    rw [List.foldl_cons, ih]
    unfold addNew
    split
    · rename_i hx
      constructor
      · rintro (h | h)
        · exact .inl h
        · exact .inr (by simp [h])
      · rintro (h | h)
        · exact .inl h
        · rcases List.mem_cons.1 h with rfl | h
          · exact .inl hx
          · exact .inr h
    · simp only [List.mem_append, List.mem_cons, List.not_mem_nil, false_or, or_assoc]

theorem dd_nodup (l : List Tag) : (dd l).Nodup := foldl_nodup l [] List.nodup_nil
theorem mem_dd {l : List Tag} {y : Tag} : y ∈ dd l ↔ y ∈ l := by simp [dd, mem_foldl]

theorem length_le_of_subset {a : List Tag} : ∀ {b : List Tag}, a.Nodup → (∀ x ∈ a, x ∈ b) → a.length ≤ b.length := by
  induction a with
  | nil => intro b _ _; simp
  | cons x a ih =>
    intro b ha h
    obtain ⟨h1, h2⟩ := List.nodup_cons.1 ha
    have hx : x ∈ b := h x (by simp)
    have := ih (b := b.erase x) h2 fun y hy => (List.mem_erase_of_ne (show y ≠ x from fun e => h1 (by rw [← e]; exact hy))).2 (h y (by simp [hy]))
    rw [List.length_erase_of_mem hx] at this
    have := List.length_pos_of_mem hx
    simp only [List.length_cons]
    omega
theorem dcount_ge {a l : List Tag} (ha : a.Nodup) (h : ∀ x ∈ a, x ∈ l) : a.length ≤ dcount l := length_le_of_subset ha fun x hx => mem_dd.2 (h x hx)
theorem dcount_mono {a l : List Tag} (h : ∀ x ∈ a, x ∈ l) : dcount a ≤ dcount l := length_le_of_subset (dd_nodup a) fun x hx => mem_dd.2 (h x (mem_dd.1 hx))
theorem dcount_eq {a l : List Tag} (ha : a.Nodup) (h : ∀ x, x ∈ a ↔ x ∈ l) : dcount l = a.length :=
  Nat.le_antisymm (length_le_of_subset (dd_nodup l) fun x hx => (h x).2 (mem_dd.1 hx)) (dcount_ge ha fun x hx => (h x).1 hx)

/-- What holds of a TLB of n slots behind a history. -/
structure Reuse (h : List (Tag × Int)) (n : Nat) (L : List En) : Prop where
  frame : ∀ e ∈ L, e.f = e.p + 1000 * e.c
  used : ∀ (i : Nat) (e : En), L[i]? = some e → ∃ l, seg h (tg e) = some l ∧ ∀ (j : Nat) (e' : En), j < i → L[j]? = some e' → tg e' ∈ l
  gone : ∀ t l, seg h t = some l → t ∉ L.map tg → n ≤ dcount l
  len : L.length ≤ n
  nd : (L.map tg).Nodup

theorem reuse_nil (n : Nat) : Reuse [] n [] := ⟨by simp, by simp, by simp [seg], by simp, by simp⟩

theorem seg_flush (h : List (Tag × Int)) (x t : Tag) : seg ((x, 1) :: h) t = none := by simp [seg]
theorem reuse_flush (h : List (Tag × Int)) (x : Tag) (n : Nat) : Reuse ((x, 1) :: h) n [] := ⟨by simp, by simp, fun t l hs => by simp [seg] at hs, by simp, by simp⟩

theorem getElem_filter {L : List En} (q : En → Bool) : ∀ {i : Nat} {e : En}, (L.filter q)[i]? = some e → ∃ k : Nat, L[k]? = some e ∧ ∀ (j : Nat) (e' : En), j < i → (L.filter q)[j]? = some e' → ∃ k' : Nat, k' < k ∧ L[k']? = some e' := by
  induction L with
  | nil => simp
  | cons x L ih =>
    intro i e h
    by_cases hx : q x = true
    · rw [List.filter_cons_of_pos hx] at h ⊢
      cases i with
      | zero =>
        simp at h
        exact ⟨0, by simp [h], fun j e' hj => by omega⟩
      | succ i =>
        simp only [List.getElem?_cons_succ] at h
        obtain ⟨k, hk, hb⟩ := ih h
        refine ⟨k + 1, by simpa using hk, fun j e' hj he' => ?_⟩
        cases j with
        | zero => simp at he'; exact ⟨0, by omega, by simp [he']⟩
        | succ j =>
          simp only [List.getElem?_cons_succ] at he'
          obtain ⟨k', h1, h2⟩ := hb j e' (by omega) he'
          exact ⟨k' + 1, by omega, by simpa using h2⟩
    · rw [List.filter_cons_of_neg (by simpa using hx)] at h ⊢
      obtain ⟨k, hk, hb⟩ := ih h
      refine ⟨k + 1, by simpa using hk, fun j e' hj he' => ?_⟩
      obtain ⟨k', h1, h2⟩ := hb j e' hj he'
      exact ⟨k' + 1, by omega, by simpa using h2⟩

/-- Behind a step that takes some away: those that stay are told of as they were. -/
theorem reuse_filter {h : List (Tag × Int)} {n : Nat} {L : List En} (hR : Reuse h n L) (s : Tag × Int) (q : En → Bool) (hkeep : ∀ e ∈ L, q e = true → seg (s :: h) (tg e) = seg h (tg e)) (hgone : ∀ t l, seg (s :: h) t = some l → seg h t = some l ∧ ∀ e ∈ L, tg e = t → q e = true) : Reuse (s :: h) n (L.filter q) := by
  refine ⟨fun e he => hR.frame e (List.mem_filter.1 he).1, fun i e hi => ?_, fun t l hs hn => ?_, Nat.le_trans (List.length_filter_le _ _) hR.len, hR.nd.sublist ((List.filter_sublist).map _)⟩
  · obtain ⟨k, hk, hb⟩ := getElem_filter q hi
    obtain ⟨l, hl, hl2⟩ := hR.used k e hk
    have hq := List.mem_filter.1 (List.mem_of_getElem? hi)
    refine ⟨l, by rw [hkeep e hq.1 hq.2]; exact hl, fun j e' hj he' => ?_⟩
    obtain ⟨k', h1, h2⟩ := hb j e' hj he'
    exact hl2 k' e' h1 h2
  · obtain ⟨h1, h2⟩ := hgone t l hs
    refine hR.gone t l h1 fun hm => hn ?_
    obtain ⟨e, he, het⟩ := List.mem_map.1 hm
    exact List.mem_map.2 ⟨e, List.mem_filter.2 ⟨he, h2 e he het⟩, het⟩

theorem reuse_cell {h : List (Tag × Int)} {n : Nat} {L : List En} (hR : Reuse h n L) (x : Tag) : Reuse ((x, 2) :: h) n (L.filter fun e => !cellsIn [x.1] e) := by
  refine reuse_filter hR (x, 2) _ (fun e he hq => ?_) (fun t l hs => ?_)
  · have : ¬ x.1 = e.c := fun e1 => by simp [cellsIn, e1] at hq
    simp [seg, tg, this]
  · simp only [seg] at hs
    have hne : ¬ x.1 = t.1 := by
      intro e
      simp [e] at hs
    simp [hne] at hs
    refine ⟨hs, fun e he het => ?_⟩
    have : ¬ e.c = x.1 := fun e1 => hne (by rw [← het]; exact e1.symm)
    simp [cellsIn, this]

theorem reuse_drop {h : List (Tag × Int)} {n : Nat} {L : List En} (hR : Reuse h n L) (x : Tag) : Reuse ((x, 3) :: h) n (cut L x.1 x.2) := by
  refine reuse_filter hR (x, 3) _ (fun e he hq => ?_) (fun t l hs => ?_)
  · have : ¬ x = tg e := fun e1 => by simp [is_tg, ← e1] at hq
    simp [seg, this]
  · simp only [seg] at hs
    have hne : ¬ x = t := by
      intro e
      simp [e] at hs
    simp [hne] at hs
    refine ⟨hs, fun e he het => ?_⟩
    have : ¬ tg e = x := fun e1 => hne (e1.symm.trans het)
    simpa [is_tg] using this

theorem seg_use {h : List (Tag × Int)} {x t : Tag} {f : Int} (hf : f ≠ 1 ∧ f ≠ 2 ∧ f ≠ 3) : seg ((x, f) :: h) t = if x = t then some [] else (seg h t).map (x :: ·) := by
  simp [seg, hf.1, hf.2.1, hf.2.2]

/-- A use of a tag that is there. -/
theorem reuse_hit {h : List (Tag × Int)} {n : Nat} {L : List En} (hR : Reuse h n L) {x : Tag} {f : Int} (hf : f ≠ 1 ∧ f ≠ 2 ∧ f ≠ 3) {e0 : En} (he : hitE L x.1 x.2 = some e0) (now : Int) : Reuse ((x, f) :: h) n (bump L x.1 x.2 e0.f e0.r now) := by
  obtain ⟨m1, m2, m3⟩ := hit_some he
  have hx : tg e0 = x := by simp [tg, m2, m3]
  refine ⟨fun e hm => ?_, fun i e hi => ?_, fun t l hs hn => ?_, ?_, ?_⟩
  · unfold bump at hm
    rcases List.mem_cons.1 hm with rfl | hm
    · have := hR.frame e0 m1
      simp only
      rw [this, m2, m3]
    · exact hR.frame e (List.mem_filter.1 hm).1
  · unfold bump at hi ⊢
    cases i with
    | zero =>
      simp at hi
      subst hi
      refine ⟨[], ?_, fun j e' hj => by omega⟩
      rw [seg_use hf]
      exact if_pos rfl
    | succ i =>
      simp only [List.getElem?_cons_succ] at hi
      obtain ⟨k, hk, hb⟩ := getElem_filter _ hi
      obtain ⟨l, hl, hl2⟩ := hR.used k e hk
      have hq := (List.mem_filter.1 (List.mem_of_getElem? hi)).2
      have hne : ¬ x = tg e := fun e1 => by simp [is_tg, ← e1] at hq
      refine ⟨x :: l, by rw [seg_use hf, if_neg hne, hl]; rfl, fun j e' hj he' => ?_⟩
      cases j with
      | zero => simp at he'; subst he'; simp [tg]
      | succ j =>
        simp only [List.getElem?_cons_succ] at he'
        obtain ⟨k', h1, h2⟩ := hb j e' (by omega) he'
        exact List.mem_cons_of_mem _ (hl2 k' e' h1 h2)
  · rw [seg_use hf] at hs
    rw [tags_bump] at hn
    by_cases hxt : x = t
    · subst hxt
      exact absurd (by simp) hn
    · rw [if_neg hxt] at hs
      obtain ⟨l', hl', rfl⟩ := Option.map_eq_some_iff.1 hs
      have : t ∉ L.map tg := fun hm => hn (List.mem_cons_of_mem _ (List.mem_filter.2 ⟨hm, by simpa using fun e1 => hxt e1.symm⟩))
      exact Nat.le_trans (hR.gone t l' hl' this) (dcount_mono fun y hy => List.mem_cons_of_mem _ hy)
  · have := bump_len (f := e0.f) (r := e0.r) (now := now) m1 (by simp [En.is, m2, m3] : e0.is x.1 x.2 = true)
    have := hR.len
    omega
  · rw [tags_bump]
    refine List.nodup_cons.2 ⟨fun hm => ?_, hR.nd.filter _⟩
    have := (List.mem_filter.1 hm).2
    simp at this

/-- A use of a tag that is not there. -/
theorem reuse_put {h : List (Tag × Int)} {n : Nat} {L : List En} (hR : Reuse h n L) {x : Tag} {f : Int} (hf : f ≠ 1 ∧ f ≠ 2 ∧ f ≠ 3) (he : hitE L x.1 x.2 = none) (r now : Int) (hn1 : 1 ≤ n) :
    Reuse ((x, f) :: h) n (putL L n x.1 x.2 (x.2 + 1000 * x.1) r now).1 := by
  have hxL : x ∉ L.map tg := fun hm => by
    have := hit_mem (L := L) (c := x.1) (p := x.2)
    rw [he] at this
    simp at this
    obtain ⟨e, h1, h2⟩ := List.mem_map.1 hm
    exact this e h1 h2
  -- L': what stays; whoever left was the last of a full list
  have key : ∃ L', (putL L n x.1 x.2 (x.2 + 1000 * x.1) r now).1 = bump L' x.1 x.2 (x.2 + 1000 * x.1) r now ∧ L'.length + 1 ≤ n ∧ (L' = L ∨ ∃ e, L = L' ++ [e] ∧ L.length = n) := by
    unfold putL
    rw [if_neg (by rw [he]; simp)]
    by_cases hr : (L.length : Int) < (n : Int)
    · rw [if_pos hr]
      exact ⟨L, rfl, by omega, .inl rfl⟩
    · rw [if_neg hr]
      have hlen : L.length = n := by have := hR.len; omega
      cases hl : L.getLast? with
      | none =>
        rw [List.getLast?_eq_none_iff] at hl
        subst hl
        simp at hlen
        omega
      | some e =>
        have hne : L ≠ [] := by intro e1; rw [e1] at hl; simp at hl
        have hsp := List.dropLast_concat_getLast hne
        have hle : L.getLast hne = e := by
          rw [List.getLast?_eq_some_getLast hne] at hl
          exact Option.some.inj hl
        rw [hle] at hsp
        have hcut : cut L e.c e.p = L.dropLast := by
          unfold cut
          conv => lhs; rw [← hsp]
          rw [List.filter_append]
          have h1 : [e].filter (fun e' => !e'.is e.c e.p) = [] := by simp [En.is]
          have h2 : L.dropLast.filter (fun e' => !e'.is e.c e.p) = L.dropLast := by
            refine List.filter_eq_self.2 fun y hy => ?_
            have hnd := hR.nd
            rw [← hsp, List.map_append, List.nodup_append] at hnd
            have : tg y ≠ tg e := hnd.2.2 _ (List.mem_map.2 ⟨y, hy, rfl⟩) _ (by simp)
            rw [is_tg]
            simpa [tg] using this
          rw [h1, h2, List.append_nil]
        refine ⟨L.dropLast, by simp only [hcut], ?_, .inr ⟨e, hsp.symm, hlen⟩⟩
        rw [List.length_dropLast]
        omega
  obtain ⟨L', hL', hlen', hcase⟩ := key
  have hsub : ∀ e ∈ L', e ∈ L := by
    rcases hcase with rfl | ⟨e, h1, _⟩
    · exact fun _ h => h
    · intro y hy; rw [h1]; simp [hy]
  have hget : ∀ (i : Nat) (e : En), L'[i]? = some e → L[i]? = some e := by
    rcases hcase with rfl | ⟨e, h1, _⟩
    · exact fun _ _ h => h
    · intro i y hy
      rw [h1, List.getElem?_append_left (List.getElem?_eq_some_iff.1 hy).1]
      exact hy
  have hx' : x ∉ L'.map tg := fun hm => hxL (by
    obtain ⟨e, h1, h2⟩ := List.mem_map.1 hm
    exact List.mem_map.2 ⟨e, hsub e h1, h2⟩)
  have hfil : L'.filter (fun e => !e.is x.1 x.2) = L' := List.filter_eq_self.2 fun e hm => by
    have : tg e ≠ x := fun e1 => hx' (List.mem_map.2 ⟨e, hm, e1⟩)
    rw [is_tg]
    simpa using this
  rw [hL']
  unfold bump
  rw [hfil]
  refine ⟨fun e hm => ?_, fun i e hi => ?_, fun t l hs hn => ?_, by simp only [List.length_cons]; omega, ?_⟩
  · rcases List.mem_cons.1 hm with rfl | hm
    · rfl
    · exact hR.frame e (hsub e hm)
  · cases i with
    | zero =>
      simp at hi
      subst hi
      exact ⟨[], by rw [seg_use hf]; exact if_pos rfl, fun j e' hj => by omega⟩
    | succ i =>
      simp only [List.getElem?_cons_succ] at hi
      obtain ⟨l, hl, hl2⟩ := hR.used i e (hget i e hi)
      have hne : ¬ x = tg e := fun e1 => hx' (List.mem_map.2 ⟨e, List.mem_of_getElem? hi, e1.symm⟩)
      refine ⟨x :: l, by rw [seg_use hf, if_neg hne, hl]; rfl, fun j e' hj he' => ?_⟩
      cases j with
      | zero => simp at he'; subst he'; simp [tg]
      | succ j =>
        simp only [List.getElem?_cons_succ] at he'
        exact List.mem_cons_of_mem _ (hl2 j e' (by omega) (hget j e' he'))
  · rw [seg_use hf] at hs
    rw [List.map_cons] at hn
    by_cases hxt : x = t
    · subst hxt
      exact absurd (by simp [tg]) hn
    · rw [if_neg hxt] at hs
      obtain ⟨l', hl', rfl⟩ := Option.map_eq_some_iff.1 hs
      have hn' : t ∉ L'.map tg := fun hm => hn (List.mem_cons_of_mem _ hm)
      rcases hcase with rfl | ⟨e, h1, h2⟩
      · exact Nat.le_trans (hR.gone t l' hl' hn') (dcount_mono fun y hy => List.mem_cons_of_mem _ hy)
      · by_cases hte : t = tg e
        · subst hte
          have hi : L[L'.length]? = some e := by rw [h1]; simp
          obtain ⟨l2, hl2, hall⟩ := hR.used _ _ hi
          rw [hl2] at hl'
          cases hl'
          have hnd : (x :: L'.map tg).Nodup := List.nodup_cons.2 ⟨hx', hR.nd.sublist (by rw [h1]; simp)⟩
          have := dcount_ge (l := x :: l') hnd fun y hy => by
            rcases List.mem_cons.1 hy with rfl | hy
            · simp
            · obtain ⟨e2, h3, rfl⟩ := List.mem_map.1 hy
              obtain ⟨j, hj, hje⟩ := List.getElem_of_mem h3
              exact List.mem_cons_of_mem _ (hall j e2 hj (hget j e2 (by rw [List.getElem?_eq_getElem hj, hje])))
          simp only [List.length_cons, List.length_map] at this
          have hl3 : L.length = L'.length + 1 := by rw [h1]; simp
          omega
        · have : t ∉ L.map tg := fun hm => by
            rw [h1, List.map_append, List.mem_append] at hm
            rcases hm with hm | hm
            · exact hn' hm
            · simp at hm; exact hte hm
          exact Nat.le_trans (hR.gone t l' hl' this) (dcount_mono fun y hy => List.mem_cons_of_mem _ hy)
  · rw [List.map_cons]
    exact List.nodup_cons.2 ⟨hx', by
      rcases hcase with rfl | ⟨e, h1, _⟩
      · exact hR.nd
      · exact hR.nd.sublist (by rw [h1]; simp)⟩

/-- Without flushes and drops: the tags in the order of their last uses. -/
structure Pure0 (h : List (Tag × Int)) (T : List Tag) : Prop where
  nd : T.Nodup
  none : ∀ t, seg h t = none ↔ t ∉ T
  some : ∀ t l, seg h t = some l → ∀ y, y ∈ l ↔ y ∈ T.take (spot T t)

theorem spot_front_self (T : List Tag) (x : Tag) : spot (front T x) x = 0 := by simp [spot, front, List.findIdx_cons]

theorem spot_cons_ne {T : List Tag} {x t : Tag} (h : x ≠ t) : spot (x :: T) t = spot T t + 1 := by
  have hb : (x == t) = false := by simpa using h
  simp [spot, List.findIdx_cons, hb]

theorem pure_use {h : List (Tag × Int)} {T : List Tag} (hP : Pure0 h T) {x : Tag} {f : Int} (hf : f ≠ 1 ∧ f ≠ 2 ∧ f ≠ 3) : Pure0 ((x, f) :: h) (front T x) := by
  have hmem : ∀ t, t ∈ front T x ↔ t = x ∨ t ∈ T := fun t => by
    unfold front
    rw [← filter_erase hP.nd, List.mem_cons, List.mem_filter]
    by_cases e : t = x <;> simp [e]
  refine ⟨front_nodup hP.nd x, fun t => ?_, fun t l hs y => ?_⟩
  · rw [seg_use hf, hmem]
    by_cases e : x = t
    · subst e; simp
    · rw [if_neg e, Option.map_eq_none_iff, hP.none]
      constructor
      · rintro h1 (h2 | h2)
        · exact e h2.symm
        · exact h1 h2
      · exact fun h1 h2 => h1 (.inr h2)
  · rw [seg_use hf] at hs
    by_cases e : x = t
    · subst e
      rw [if_pos rfl] at hs
      cases hs
      rw [spot_front_self]
      simp
    · rw [if_neg e] at hs
      obtain ⟨l', hl', rfl⟩ := Option.map_eq_some_iff.1 hs
      have h1 := hP.some t l' hl' y
      have ht : t ∈ T := by
        by_cases hm : t ∈ T
        · exact hm
        · rw [(hP.none t).2 hm] at hl'; cases hl'
      have hs2 : spot (front T x) t = spot (T.eraseIdx (spot T x)) t + 1 := spot_cons_ne e
      rw [hs2]
      unfold front
      rw [List.take_succ_cons, List.mem_cons, List.mem_cons, h1]
      -- what lies ahead of t in T without x
      by_cases hyx : y = x
      · simp [hyx]
      · simp only [hyx, false_or]
        rw [← filter_erase hP.nd]
        have gen : ∀ (T : List Tag), y ∈ T.take (spot T t) ↔ y ∈ (T.filter fun z => !(z == x)).take (spot (T.filter fun z => !(z == x)) t) := by
          intro T
          induction T with
          | nil => simp
          | cons z T ih =>
            by_cases hzt : z = t
            · subst hzt
              rw [List.filter_cons_of_pos (p := fun z => !(z == x)) (by simpa using fun e1 => e e1.symm)]
              simp [spot, List.findIdx_cons]
            · rw [spot_cons_ne hzt, List.take_succ_cons, List.mem_cons, ih]
              by_cases hzx : z = x
              · subst hzx
                rw [List.filter_cons_of_neg (by simp)]
                simp [hyx]
              · rw [List.filter_cons_of_pos (by simpa using hzx), spot_cons_ne hzt, List.take_succ_cons, List.mem_cons]
        exact gen T

theorem pure_count {h : List (Tag × Int)} {T : List Tag} (hP : Pure0 h T) {t : Tag} {l : List Tag} (hs : seg h t = some l) : dcount l = spot T t := by
  rw [dcount_eq (hP.nd.sublist (List.take_sublist _ _)) (fun y => (hP.some t l hs y).symm), List.length_take]
  exact Nat.min_eq_left List.findIdx_le_length

theorem pure_nil : Pure0 [] [] := ⟨List.nodup_nil, by simp [seg], by simp [seg]⟩

/-- The rule, as the law asks it. -/
def usedB (h : List (Tag × Int)) (t : Tag) : Bool := (seg h t).isSome
def othersN (h : List (Tag × Int)) (t : Tag) : Nat := ((seg h t).map dcount).getD 0

theorem rule_hit {h : List (Tag × Int)} {n : Nat} {L : List En} (hR : Reuse h n L) {c p : Int} (hit : (hitE L c p).isSome = true) : usedB h (c, p) = true := by
  rw [hit_mem] at hit
  obtain ⟨e, h1, h2⟩ := List.mem_map.1 (of_decide_eq_true hit)
  obtain ⟨i, hi, hie⟩ := List.getElem_of_mem h1
  obtain ⟨l, hl, _⟩ := hR.used i e (by rw [List.getElem?_eq_getElem hi, hie])
  rw [h2] at hl
  simp [usedB, hl]

theorem rule_miss {h : List (Tag × Int)} {n : Nat} {L : List En} (hR : Reuse h n L) {c p : Int} (hit : (hitE L c p).isSome = false) (hu : usedB h (c, p) = true) : n ≤ othersN h (c, p) := by
  obtain ⟨l, hl⟩ := Option.isSome_iff_exists.1 hu
  rw [hit_mem] at hit
  have := hR.gone _ l hl (of_decide_eq_false hit)
  simpa [othersN, hl] using this

theorem rule_pure {h : List (Tag × Int)} {n : Nat} {L : List En} {T : List Tag} (hH : Held L T n) (hP : Pure0 h T) {c p : Int} : (hitE L c p).isSome = (usedB h (c, p) && decide (othersN h (c, p) < n)) := by
  rw [held_hit hH]
  cases hs : seg h (c, p) with
  | none =>
    have : (c, p) ∉ T := (hP.none _).1 hs
    have h2 : ¬ spot T (c, p) < T.length := fun e => this (spot_lt.1 e)
    simp [usedB, hs, h2]
  | some l =>
    have h1 : (c, p) ∈ T := by
      by_cases hm : (c, p) ∈ T
      · exact hm
      · rw [(hP.none _).2 hm] at hs; cases hs
    have h2 := spot_lt.2 h1
    simp [usedB, othersN, hs, h2, pure_count hP hs]
end Go.Proofs.Ytoglgkplddlemaa
