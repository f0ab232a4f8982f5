/- Loops over an iterator: blocks of cells stay while a loop's records turn. Generic: no program. No condition. -/
import Derived.Test.YtoglgkplddlemaaLibMore
import Derived.RangeFuncNested
import Derived.RangeFuncLeaves
namespace Go.Cl
open Go.RowKit
set_option linter.unusedVariables false

theorem not_row {A : World} {row : Option Nat} {B p : Nat} {c : Array Value} {t : TypeId} {fr : Nat × Nat} (hr : ∀ r, row = some r → B ≤ r ∧ ∃ o : Obj, A.heap[r]? = some o ∧ o.isCells = false) (hb : blk A p = some (.cells c t fr)) : ¬ (some p = row) := fun e => by
  obtain ⟨_, o, ho, hc⟩ := hr p e.symm
  simp only [blk] at hb
  rw [hb] at ho
  cases ho
  cases hc

/-- What is said of a block of cells stays. -/
theorem own_blk {β : Type} {B : Nat} (p : Nat) (c : β → Array Value) (t : TypeId) (fr : Nat × Nat) : OwnFrom B (fun s W => blk W p = some (.cells (c s) t fr)) := fun s A C row hs hg hr =>
  (Chg.of_grown hg).blk' hs (not_row hr hs)

/-- That nothing below has turned stays. -/
theorem own_chg {β : Type} {B : Nat} {w : World} (hB : w.heap.size ≤ B) : OwnFrom B (fun (_ : β) W => Chg (fun _ => False) w W) := fun s A C row hs hg hr =>
  hs.trans (Chg.of_grown hg) fun i hi e => by have := (hr i e.symm).1; omega
theorem own_chgS {β : Type} {B : Nat} {w : World} (S : Nat → Prop) (hB : w.heap.size ≤ B) : OwnFrom B (fun (_ : β) W => Chg S w W) := fun s A C row hs hg hr =>
  hs.trans (Chg.of_grown hg) fun i hi e => by have := (hr i e.symm).1; omega

theorem keepsFrom_of_chg {B : Nat} {W W' : World} (h : Chg (fun _ => False) W W') : KeepsFrom B W W' := ⟨h.size, fun k o _ hk _ => (h.block k (Array.getElem?_eq_some_iff.1 hk).1 id).trans hk⟩
theorem keepsFrom_of_chgS {B : Nat} {S : Nat → Prop} {W W' : World} (h : Chg S W W') (hS : ∀ i, S i → ∃ o, W.heap[i]? = some o ∧ o.isCells = true) : KeepsFrom B W W' := ⟨h.size, fun k o _ hk hc => (h.block k (Array.getElem?_eq_some_iff.1 hk).1 fun hs => by
  obtain ⟨o', h1, h2⟩ := hS k hs
  rw [hk] at h1
  cases h1
  rw [hc] at h2
  cases h2).trans hk⟩
end Go.Cl
