/- More of the small library: cells behind a step, draws. Generic: no program. No condition. -/
import Derived.Test.YtoglgkplddlemaaLibApp
namespace Go.Cl
theorem cell_frame {S : Nat → Prop} {w w' : World} (hc : Chg S w w') (hs : ∀ i, i < w.heap.size → ¬ S i) {a : Addr} {v : Value} (h : w.cell? a = some v) : w'.cell? a = some v :=
  (World.cell?_of_block (hc.block _ (World.block_lt_of_cell? _ _ h) (hs _ (World.block_lt_of_cell? _ _ h)))).trans h
/-- A cell whose block is none of those that may have turned. -/
theorem cell_keep {S : Nat → Prop} {w w' : World} (hc : Chg S w w') {a : Addr} {v : Value} (h : w.cell? a = some v) (hs : ¬ S a.block) : w'.cell? a = some v :=
  (World.cell?_of_block (hc.block _ (World.block_lt_of_cell? _ _ h) hs)).trans h
theorem frozen_keep {w w' : World} (hc : Chg (fun _ => False) w w') {a : Addr} (h : w.frozen? a = false) (hl : a.block < w.heap.size) : w'.frozen? a = false := (World.frozen?_of_block (hc.block _ hl id)).trans h
end Go.Cl
