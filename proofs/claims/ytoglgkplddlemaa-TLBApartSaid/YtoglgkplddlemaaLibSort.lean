/- The library's sort of structs, told of a row of one's own. Generic: no program. No condition. -/
import Derived.Test.YtoglgkplddlemaaLibRows
import Derived.Shelf.SlSortCmp.WholeK
namespace Go.Cl
open Go.RowKit Go.Sort Go.Proofs
set_option linter.unusedVariables false

variable {α : Type} [Inhabited α]

theorem blk_grow (w : World) (os : Array Obj) {i : Nat} (h : i < w.heap.size) : blk (Sort.grow w os) i = blk w i := by
  simp only [blk, Sort.grow]
  rw [Array.getElem?_append_left h]
theorem size_mapBlock (w : World) (g : Nat) (f : Array Value → Array Value) : (mapBlock w g f).heap.size = w.heap.size := by simp [mapBlock]
theorem blk_mapBlock_ne (w : World) (g : Nat) (f : Array Value → Array Value) {i : Nat} (h : i ≠ g) : blk (mapBlock w g f) i = blk w i := by
  simp only [blk, mapBlock, Array.getElem?_modify]
  rw [if_neg (Ne.symm h)]
theorem blk_mapBlock_eq {w : World} {g : Nat} {f : Array Value → Array Value} {c : Array Value} {t : TypeId} {fr : Nat × Nat} (h : blk w g = some (.cells c t fr)) : blk (mapBlock w g f) g = some (.cells (f c) t fr) := by
  simp only [blk] at h
  simp only [blk, mapBlock, Array.getElem?_modify, ↓reduceIte, h, Option.map_some, onCells]

theorem size_sortWorldK (enc : α → List Value) (k : Nat) (w : World) (g off m : Nat) (d : Array α) (os : Array Obj) : w.heap.size ≤ (sortWorldK enc k w g off m d os).heap.size := by
  simp [sortWorldK, putRowK, putRow, Sort.grow, size_mapBlock]
theorem blk_sortWorldK_ne (enc : α → List Value) (k : Nat) (w : World) (g off m : Nat) (d : Array α) (os : Array Obj) {i : Nat} (h : i ≠ g) (hi : i < w.heap.size) : blk (sortWorldK enc k w g off m d os) i = blk w i := by
  unfold sortWorldK
  rw [blk_grow _ _ (by simp [putRowK, putRow, size_mapBlock]; exact hi)]
  exact blk_mapBlock_ne _ _ _ h
theorem blk_sortWorldK_eq (enc : α → List Value) (k : Nat) {w : World} {g : Nat} (off m : Nat) (d : Array α) (os : Array Obj) {c : Array Value} {t : TypeId} {fr : Nat × Nat} (h : blk w g = some (.cells c t fr)) : blk (sortWorldK enc k w g off m d os) g = some (.cells (putCells id off (flatK enc k d) c) t fr) := by
  unfold sortWorldK
  rw [blk_grow _ _ (by simp [putRowK, putRow, size_mapBlock]; exact blk_lt h)]
  exact blk_mapBlock_eq h
theorem chg_sortWorldK (enc : α → List Value) (k : Nat) (w : World) (g off m : Nat) (d : Array α) (os : Array Obj) : Chg (fun i => i = g) w (sortWorldK enc k w g off m d os) :=
  ⟨rfl, rfl, rfl, size_sortWorldK enc k w g off m d os, fun i hi hn => blk_sortWorldK_ne enc k w g off m d os hn hi⟩

/-- The cells of a list of structs. -/
theorem flat_get {α : Type} {enc : α → List Value} {k : Nat} (hk : ∀ x, (enc x).length = k) (hk0 : 0 < k) : ∀ (l : List α) (j : Nat), (l.flatMap enc)[j]? = (l[j / k]?).bind fun x => (enc x)[j % k]?
  | [], j => by simp
  | x :: l, j => by
    rw [List.flatMap_cons]
    by_cases h : j < k
    · rw [List.getElem?_append_left (by rw [hk]; exact h), Nat.div_eq_of_lt h, Nat.mod_eq_of_lt h]
      simp
    · have h : k ≤ j := by omega
      rw [List.getElem?_append_right (by rw [hk]; exact h), hk, flat_get hk hk0 l (j - k)]
      have e1 : j / k = (j - k) / k + 1 := by rw [Nat.div_eq_sub_div hk0 h]
      have e2 : j % k = (j - k) % k := Nat.mod_eq_sub_mod h
      rw [e1, e2, List.getElem?_cons_succ]
theorem flat_length {α : Type} {enc : α → List Value} {k : Nat} (hk : ∀ x, (enc x).length = k) : ∀ l : List α, (l.flatMap enc).length = l.length * k
  | [] => by simp
  | x :: l => by rw [List.flatMap_cons, List.length_append, hk, flat_length hk l, List.length_cons, Nat.succ_mul, Nat.add_comm]
theorem flatK_get {enc : α → List Value} {k : Nat} (hk : ∀ x, (enc x).length = k) (hk0 : 0 < k) (l : List α) {j : Nat} (hj : j < l.length * k) : (flatK enc k l.toArray)[j]? = (l.flatMap enc)[j]? := by
  have hd : j / k < l.length := by rw [Nat.div_lt_iff_lt_mul hk0]; exact hj
  have hm : j % k < k := Nat.mod_lt _ hk0
  have hm' : j % k < (enc l[j / k]).length := by rw [hk]; exact hm
  rw [flat_get hk hk0, List.getElem?_eq_getElem hd, Option.bind_some, List.getElem?_eq_getElem hm']
  have hs : j < (flatK enc k l.toArray).size := by simpa using hj
  have e := getElem!_pos (flatK enc k l.toArray) j hs
  rw [get_flatK enc k l.toArray j (by simpa using hj)] at e
  rw [Array.getElem?_eq_getElem hs, ← e, List.getElem!_toArray, getElem!_pos l (j / k) hd, getElem!_pos (enc l[j / k]) (j % k) hm']
theorem flatK_list {enc : α → List Value} {k : Nat} (hk : ∀ x, (enc x).length = k) (hk0 : 0 < k) (l : List α) : (flatK enc k l.toArray).toList = l.flatMap enc := by
  apply List.ext_getElem?
  intro j
  by_cases hj : j < l.length * k
  · rw [Array.getElem?_toList, flatK_get hk hk0 l hj]
  · rw [List.getElem?_eq_none (by simp; omega), List.getElem?_eq_none (by rw [flat_length hk]; omega)]

/-- A row of one's own holds its structs. -/
theorem holdsK_row {enc : α → List Value} {k : Nat} (hk : ∀ x, (enc x).length = k) (hk0 : 0 < k) {w : World} {base g n cap : Nat} {t : TypeId} {l : List α} (h : w.ownsRow base t k (.slice (some ⟨g, 0, none⟩) n cap) n (l.flatMap enc)) : HoldsK enc k w g 0 l.toArray := by
  obtain ⟨h1, h2 | ⟨g', cap', cur, hv, hbs, hh, hc, hm, hcs, hx⟩⟩ := h
  · simp at h2
  · simp at hv
    obtain ⟨rfl, rfl⟩ := hv
    intro j hj
    have hj' : j < l.length * k := by simpa using hj
    have e : (flatK enc k l.toArray)[j]! = (flatK enc k l.toArray)[j] := getElem!_pos (flatK enc k l.toArray) j hj
    have e2 : (flatK enc k l.toArray)[j]? = some ((flatK enc k l.toArray)[j]) := Array.getElem?_eq_getElem hj
    rw [← Array.getElem?_toList, flatK_list hk hk0] at e2
    rw [flat_length hk] at h1
    have hln : j < n * k := by omega
    refine ⟨?_, frozen_of_blk (show blk w g = some (.cells cur t (0, 0)) from hh) _⟩
    rw [e, Nat.zero_add, cell_of_blk (show blk w g = some (.cells cur t (0, 0)) from hh) j]
    have e3 : (cur.toList.take (n * k))[j]? = cur[j]? := by rw [List.getElem?_take_of_lt hln, Array.getElem?_toList]
    rw [hx, e2] at e3
    rw [← e3]
    rfl

/-- BEHIND THE SORT: the row holds the sorted structs. -/
theorem row_sorted {enc : α → List Value} {k : Nat} (hk : ∀ x, (enc x).length = k) (hk0 : 0 < k) {w : World} {base g n cap m : Nat} {t : TypeId} {l l' : List α} {os : Array Obj} (h : w.ownsRow base t k (.slice (some ⟨g, 0, none⟩) n cap) n (l.flatMap enc)) (hn : l'.length = n) :
    (sortWorldK enc k w g 0 m l'.toArray os).ownsRow base t k (.slice (some ⟨g, 0, none⟩) n cap) n (l'.flatMap enc) := by
  obtain ⟨h1, h2 | ⟨g', cap', cur, hv, hbs, hh, hc, hm, hcs, hx⟩⟩ := h
  · simp at h2
  · simp at hv
    obtain ⟨rfl, rfl⟩ := hv
    have hcn : n * k ≤ cap * k := Nat.mul_le_mul_right _ hc
    refine ⟨by rw [flat_length hk, hn], .inr ⟨g, cap, _, rfl, hbs, blk_sortWorldK_eq enc k 0 m l'.toArray os (show blk w g = some (.cells cur t (0, 0)) from hh), hc, hm, by simp [putCells, hcs], ?_⟩⟩
    apply List.ext_getElem?
    intro j
    by_cases hj : j < n * k
    · rw [List.getElem?_take_of_lt hj, Array.getElem?_toList]
      have hj' : j < (flatK enc k l'.toArray).size := by simp; rw [hn]; exact hj
      have e2 : (flatK enc k l'.toArray)[j]? = some ((flatK enc k l'.toArray)[j]) := Array.getElem?_eq_getElem hj'
      rw [← Array.getElem?_toList, flatK_list hk hk0] at e2
      rw [e2, Array.getElem?_eq_getElem (by simp [putCells]; omega)]
      simp only [putCells, Array.getElem_mapIdx, Nat.zero_le, true_and, Nat.zero_add, Nat.sub_zero, id]
      rw [if_pos hj', getElem!_pos (flatK enc k l'.toArray) j hj']
    · rw [List.getElem?_eq_none (by simp [putCells]; omega), List.getElem?_eq_none (by rw [flat_length hk, hn]; omega)]
end Go.Cl
