/- Rows written in place: setRow, setCells as setRow, append where there is room, clear of a part. Generic: no program. No condition. -/
import Derived.Test.YtoglgkplddlemaaLibMore
import Derived.Laws.CopyRow
import Derived.Deep.RegionLaw
import Derived.Lib.SliceRun
namespace Go.Cl
theorem blk_setRow_ne (w : World) (g : Nat) (cs : Array Value) (n : Nat) (hn : n ≠ g) : blk (w.setRow g cs) n = blk w n := by
  simp only [blk, World.setRow, Array.getElem?_modify]
  rw [if_neg (Ne.symm hn)]
theorem blk_setRow_eq (w : World) (g : Nat) (cs c : Array Value) (t : TypeId) (fr : Nat × Nat) (h : blk w g = some (.cells c t fr)) : blk (w.setRow g cs) g = some (.cells cs t fr) := by
  simp only [blk] at h
  simp only [blk, World.setRow, Array.getElem?_modify, ↓reduceIte, h, Option.map_some]
theorem size_setRow (w : World) (g : Nat) (cs : Array Value) : (w.setRow g cs).heap.size = w.heap.size := by simp [World.setRow]
theorem chg_setRow {S : Nat → Prop} {a w : World} (h : Chg S a w) {g : Nat} (hp : g < a.heap.size → S g) (cs : Array Value) : Chg S a (w.setRow g cs) :=
  h.trans (S' := fun i => i = g) ⟨rfl, rfl, rfl, by rw [size_setRow]; exact Nat.le_refl _, fun k _ hn => blk_setRow_ne _ _ _ _ hn⟩ (fun i hi e => e ▸ hp (e ▸ hi))

/-- So many cells written one by one are a row laid anew. -/
theorem setCells_eq (P : Program) {w : World} {g o : Nat} {t : TypeId} {cur : Array Value} {vs : List Value} (hg : blk w g = some (.cells cur t (0, 0))) (hl : o + vs.length ≤ cur.size) (h1 : ∀ v ∈ vs, v.oneCell' = true) :
    w.setCells g o vs = w.setRow g (cur.toList.take o ++ vs ++ cur.toList.drop (o + vs.length)).toArray := by
  have a := run_storeCells_cells (P := P) g o vs 0 w (fun j hj => by rw [cell_of_blk' hg]; simp; omega) (fun j hj => frozen_of_blk hg _) h1
  have b := run_storeCells_at (P := P) g o t vs 0 cur w hg (by omega) h1
  rw [a] at b
  simp only [Nat.add_zero, Result.ok.injEq, true_and] at b
  exact b

/-- Where a part of a row is written. -/
theorem row_write {w w' : World} {base g : Nat} {e : TypeId} {size n k cap : Nat} {cs vs : List Value} {o : Nat} (h : w.ownsRow base e size (.slice (some ⟨g, 0, none⟩) n cap) n cs) (hl : o + vs.length ≤ n * size)
    (hk : k ≤ n) (hb : ∀ cur, blk w g = some (.cells cur e (0, 0)) → blk w' g = some (.cells (cur.toList.take o ++ vs ++ cur.toList.drop (o + vs.length)).toArray e (0, 0))) :
    w'.ownsRow base e size (.slice (some ⟨g, 0, none⟩) k cap) k ((cs.take o ++ vs ++ cs.drop (o + vs.length)).take (k * size)) := by
  obtain ⟨h1, h2 | ⟨g', cap', cur, hv, hbs, hh, hc, hm, hcs, hx⟩⟩ := h
  · simp at h2
  · simp at hv
    obtain ⟨rfl, rfl⟩ := hv
    have hks : k * size ≤ n * size := Nat.mul_le_mul_right _ hk
    have hncs : n * size ≤ cap * size := Nat.mul_le_mul_right _ hc
    have hlc : cur.toList.length = cap * size := by simpa using hcs
    refine ⟨by simp only [List.length_take, List.length_append, List.length_drop, h1]; omega, .inr ⟨g, cap, _, rfl, hbs, hb cur hh, by omega, hm, ?_, ?_⟩⟩
    · simp only [List.size_toArray, List.length_append, List.length_take, List.length_drop, hlc]; omega
    · rw [List.toList_toArray]
      apply List.ext_getElem?
      intro i
      by_cases hi : i < k * size
      · rw [List.getElem?_take_of_lt hi, List.getElem?_take_of_lt hi]
        rw [← hx]
        rw [List.getElem?_append, List.getElem?_append, List.getElem?_append, List.getElem?_append]
        simp only [List.length_append, List.length_take, hlc]
        have e2 : min o (cap * size) = o := by omega
        have e3 : min o (min (n * size) (cap * size)) = o := by omega
        simp only [e2, e3]
        split
        · split
          · rw [List.getElem?_take_of_lt (by omega), List.getElem?_take_of_lt (by omega), List.getElem?_take_of_lt (by omega)]
          · rfl
        · rw [List.getElem?_drop, List.getElem?_drop, List.getElem?_take_of_lt (by omega)]
      · rw [List.getElem?_eq_none (by simp; omega), List.getElem?_eq_none (by simp; omega)]
end Go.Cl
