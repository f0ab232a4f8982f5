/- The document's memory (cloisterref2): how it lies; contracts of New, At, Set. No condition. -/
import Derived.Test.YtenbkdmaiooldaaMemI
import Derived.Test.YtenbkdmaiooldaaLibSep
namespace Go.Proofs.Ytenbkdmaiooldaa
open Go.RowKit Go.Cl
set_option linter.unusedVariables false
set_option linter.unusedSimpArgs false
attribute [local go_sem] lt_add_one' blk_alloc_past blk_alloc_at blk_drew blk_setCell_ne

def pageV : Option Nat → Value
  | none => .slice none 0 0
  | some g => .slice (some ⟨g, 0, none⟩) 4096 4096

/-- Block b is the document's memory, block R its list of pages; a page is a block of its own, or none. -/
structure RefIs (w : World) (base b R : Nat) (qs : List (Option Nat)) (f : Nat → Int) : Prop where
  st : blk w b = some (.cells #[.slice (some ⟨R, 0, none⟩) qs.length qs.length] 94 (0, 0))
  row : blk w R = some (.cells (qs.map pageV).toArray 58 (0, 0))
  pg : ∀ (k g : Nat), qs[k]? = some (some g) → blk w g = some (.cells (pageCells f k).toArray 5 (0, 0)) ∧ base ≤ g
  zero : ∀ (k : Nat), qs[k]? = some none → ∀ i, i < 4096 → f (k * 4096 + i) = 0
  one : ∀ (k k' g : Nat), qs[k]? = some (some g) → qs[k']? = some (some g) → k = k'
  byte : ∀ i, 0 ≤ f i ∧ f i ≤ 255
  few : 1 ≤ qs.length ∧ qs.length ≤ 4096
  nb : base ≤ b
  nr : base ≤ R
def RefFoot (b R : Nat) (qs : List (Option Nat)) (i : Nat) : Prop := i = b ∨ i = R ∨ some i ∈ qs

theorem RefIs.ne {w : World} {base b R : Nat} {qs : List (Option Nat)} {f : Nat → Int} (h : RefIs w base b R qs f) : b ≠ R ∧ ∀ (k g : Nat), qs[k]? = some (some g) → g ≠ b ∧ g ≠ R := by
  refine ⟨fun e => ?_, fun k g hg => ⟨fun e => ?_, fun e => ?_⟩⟩
  · have h1 := h.st
    rw [e, h.row] at h1
    simp only [Option.some.injEq, Obj.cells.injEq] at h1
    exact absurd h1.2.1 (by decide)
  · have h1 := (h.pg k g hg).1
    rw [e, h.st] at h1
    simp only [Option.some.injEq, Obj.cells.injEq] at h1
    exact absurd h1.2.1 (by decide)
  · have h1 := (h.pg k g hg).1
    rw [e, h.row] at h1
    simp only [Option.some.injEq, Obj.cells.injEq] at h1
    exact absurd h1.2.1 (by decide)
theorem RefIs.frame {S : Nat → Prop} {w w' : World} {base b R : Nat} {qs : List (Option Nat)} {f : Nat → Int} (h : RefIs w base b R qs f) (hc : Chg S w w') (hs : ∀ i, RefFoot b R qs i → ¬ S i) : RefIs w' base b R qs f :=
  ⟨hc.blk' h.st (hs b (.inl rfl)), hc.blk' h.row (hs R (.inr (.inl rfl))), fun k g hg => ⟨hc.blk' (h.pg k g hg).1 (hs g (.inr (.inr (List.mem_of_getElem? hg)))), (h.pg k g hg).2⟩, h.zero, h.one, h.byte, h.few, h.nb, h.nr⟩
theorem RefIs.foot {w : World} {base b R : Nat} {qs : List (Option Nat)} {f : Nat → Int} (h : RefIs w base b R qs f) {i : Nat} (hi : RefFoot b R qs i) : base ≤ i ∧ i < w.heap.size := by
  rcases hi with rfl | rfl | hi
  · exact ⟨h.nb, blk_lt h.st⟩
  · exact ⟨h.nr, blk_lt h.row⟩
  · obtain ⟨k, hk⟩ := List.getElem?_of_mem hi
    exact ⟨(h.pg k i hk).2, blk_lt (h.pg k i hk).1⟩
/-- The cells of the list. -/
theorem RefIs.at {w : World} {base b R : Nat} {qs : List (Option Nat)} {f : Nat → Int} (h : RefIs w base b R qs f) {k : Nat} {q : Option Nat} (hk : qs[k]? = some q) : w.cell? ⟨R, k, none⟩ = some (pageV q) := by
  have := cell_of_blk h.row k
  rw [this]
  simp [hk]
theorem RefIs.byteAt {w : World} {base b R : Nat} {qs : List (Option Nat)} {f : Nat → Int} (h : RefIs w base b R qs f) {k g i : Nat} (hk : qs[k]? = some (some g)) (hi : i < 4096) : w.cell? ⟨g, i, none⟩ = some (.int .u8 (f (k * 4096 + i))) := by
  have := cell_of_blk (h.pg k g hk).1 i
  rw [this]
  simpa using getElem_pageCells f k i hi

/-- What Set leaves. -/
def RefGoes (w w' : World) (base b R : Nat) (qs : List (Option Nat)) (f' : Nat → Int) : Prop :=
  ∃ qs', RefIs w' base b R qs' f' ∧ qs'.length = qs.length ∧ Chg (RefFoot b R qs) w w' ∧ ∀ i, RefFoot b R qs' i → RefFoot b R qs i ∨ w.heap.size ≤ i
theorem RefIs.stays {w w' : World} {base b R : Nat} {qs : List (Option Nat)} {f : Nat → Int} (h : RefIs w base b R qs f) (hc : Chg (fun _ => False) w w') : RefGoes w w' base b R qs f :=
  ⟨qs, h.frame hc fun _ _ => id, rfl, hc.mono fun _ _ h => h.elim, fun i hi => .inl hi⟩
theorem RefGoes.after {w w1 w2 : World} {base b R : Nat} {qs qs1 : List (Option Nat)} {f2 : Nat → Int} (hl : qs1.length = qs.length) (a2 : Chg (RefFoot b R qs) w w1) (a3 : ∀ i, RefFoot b R qs1 i → RefFoot b R qs i ∨ w.heap.size ≤ i) (h2 : RefGoes w1 w2 base b R qs1 f2) : RefGoes w w2 base b R qs f2 := by
  obtain ⟨qs2, b1, b0, b2, b3⟩ := h2
  refine ⟨qs2, b1, b0.trans hl, a2.step b2 (fun _ _ h => h) fun i hi h => ?_, fun i hi => ?_⟩
  · rcases a3 i h with h | h
    · exact h
    · omega
  · rcases b3 i hi with h | h
    · exact a3 i h
    · exact .inr (Nat.le_trans a2.size h)

/-- One byte is another one. -/
def setF (f : Nat → Int) (a : Nat) (x : Int) (i : Nat) : Int := if i = a then x else f i
theorem pageCells_set {f : Nat → Int} {k i : Nat} {x : Int} (hi : i < 4096) : (pageCells f k).set i (.int .u8 x) = pageCells (setF f (k * 4096 + i) x) k := by
  apply List.ext_getElem?
  intro j
  by_cases hj : j < 4096
  · rw [getElem_pageCells _ _ _ hj]
    by_cases e : i = j
    · subst e
      rw [List.getElem?_set_self (by rw [length_pageCells]; exact hi)]
      simp [setF]
    · rw [List.getElem?_set_ne e, getElem_pageCells _ _ _ hj]
      have e2 : ¬ (k * 4096 + j = k * 4096 + i) := by omega
      unfold setF
      rw [if_neg e2]
  · rw [List.getElem?_eq_none (by simp [length_pageCells]; omega), List.getElem?_eq_none (by simp [length_pageCells]; omega)]
theorem pageCells_other {f : Nat → Int} {k k' i : Nat} {x : Int} (hi : i < 4096) (hk : k' ≠ k) : pageCells (setF f (k * 4096 + i) x) k' = pageCells f k' := pageCells_congr fun j hj => by
  have : ¬ (k' * 4096 + j = k * 4096 + i) := by omega
  simp [setF, this]

/-- A byte of a page that is there. -/
theorem RefIs.put {w : World} {base b R : Nat} {qs : List (Option Nat)} {f : Nat → Int} (h : RefIs w base b R qs f) {k g i : Nat} {x : Int} (hk : qs[k]? = some (some g)) (hi : i < 4096) (hx : 0 ≤ x ∧ x ≤ 255) : RefIs (w.setCell ⟨g, i, none⟩ (.int .u8 x)) base b R qs (setF f (k * 4096 + i) x) := by
  have hc : Chg (fun j => j = g) w (w.setCell ⟨g, i, none⟩ (.int .u8 x)) := (Chg.refl (fun j => j = g) w).setCell (p := ⟨g, i, none⟩) (fun _ => rfl) _
  have hne := h.ne.2 k g hk
  refine ⟨hc.blk' h.st (fun e => hne.1 e.symm), hc.blk' h.row (fun e => hne.2 e.symm), fun k' g' hg' => ⟨?_, (h.pg k' g' hg').2⟩, fun k' hk' j hj => ?_, h.one, fun j => ?_, h.few, h.nb, h.nr⟩
  · by_cases e : k' = k
    · subst e
      rw [hk] at hg'
      obtain rfl : g = g' := by simpa using hg'
      rw [blk_setCell_eq, (h.pg k' g hk).1]
      simp only [Option.map_some, objSet_cells, List.set_toArray, Option.some.injEq]
      rw [← pageCells_set hi]
    · have hgg : g' ≠ g := fun e2 => e (h.one k' k g (by rw [hg', e2]) hk)
      rw [pageCells_other hi e]
      exact hc.blk' (h.pg k' g' hg').1 hgg
  · have e : k' ≠ k := fun e => by rw [e, hk] at hk'; cases hk'
    have : ¬ (k' * 4096 + j = k * 4096 + i) := by omega
    simp only [setF, this, if_false]
    exact h.zero k' hk' j hj
  · unfold setF
    split
    · exact hx
    · exact h.byte j
theorem zero_pageA {f : Nat → Int} {k : Nat} (h : ∀ j, j < 4096 → f (k * 4096 + j) = 0) : rowCells (fun _ => 0) 4096 = pageCells f k := by
  unfold rowCells pageCells
  refine List.map_congr_left fun j hj => ?_
  rw [h j (List.mem_range.1 hj)]
/-- A page is made. -/
theorem RefIs.grow {w w2 : World} {base b R : Nat} {qs : List (Option Nat)} {f : Nat → Int} (h : RefIs w base b R qs f) (hb : base ≤ w.heap.size) {k : Nat} (hk : qs[k]? = some none) (hc : Chg (fun j => j = R) w w2) (hr : blk w2 R = some (.cells ((qs.map pageV).set k (.slice (some ⟨w.heap.size, 0, none⟩) 4096 4096)).toArray 58 (0, 0))) (hg : blk w2 w.heap.size = some (.cells (rowCells (fun _ => 0) 4096).toArray 5 (0, 0))) :
    RefIs w2 base b R (qs.set k (some w.heap.size)) f := by
  have hkl : k < qs.length := (List.getElem?_eq_some_iff.1 hk).1
  have hnew : ∀ (k' g' : Nat), qs[k']? = some (some g') → g' < w.heap.size := fun k' g' hg' => blk_lt (h.pg k' g' hg').1
  refine ⟨?_, ?_, fun k' g' hg' => ?_, fun k' hk' j hj => ?_, fun k1 k2 g' e1 e2 => ?_, h.byte, by rw [List.length_set]; exact h.few, h.nb, h.nr⟩
  · rw [List.length_set]
    exact hc.blk' h.st h.ne.1
  · rw [hr, List.map_set]
    rfl
  · by_cases e : k = k'
    · subst e
      rw [List.getElem?_set_self hkl] at hg'
      obtain rfl : w.heap.size = g' := by simpa using hg'
      exact ⟨by rw [hg, zero_pageA fun j hj => h.zero k hk j hj], hb⟩
    · rw [List.getElem?_set_ne e] at hg'
      have hn := h.ne.2 k' g' hg'
      exact ⟨hc.blk' (h.pg k' g' hg').1 hn.2, (h.pg k' g' hg').2⟩
  · have e : k ≠ k' := fun e => by subst e; rw [List.getElem?_set_self hkl] at hk'; cases hk'
    rw [List.getElem?_set_ne e] at hk'
    exact h.zero k' hk' j hj
  · by_cases a1 : k = k1 <;> by_cases a2 : k = k2
    · omega
    · subst a1
      rw [List.getElem?_set_self hkl] at e1
      rw [List.getElem?_set_ne a2] at e2
      have := hnew k2 g' e2
      simp at e1
      omega
    · subst a2
      rw [List.getElem?_set_self hkl] at e2
      rw [List.getElem?_set_ne a1] at e1
      have := hnew k1 g' e1
      simp at e2
      omega
    · rw [List.getElem?_set_ne a1] at e1
      rw [List.getElem?_set_ne a2] at e2
      exact h.one k1 k2 g' e1 e2
end Go.Proofs.Ytenbkdmaiooldaa
