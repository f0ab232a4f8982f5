/- The listed table, out of the row's condition: where its cells lie; the witness's world meets the condition. No condition. -/
import Derived.Test.YtfihpiommicdbaaDoorRows
import Derived.Test.YtfihpiommicdbaaDoorWirA
import Derived.LaidMore
import Derived.Stop.Joined
import Derived.OpenShut
import Derived.ProofKit
namespace Go.Proofs.YtfihpiommicdbaaDoor
open Go.ChangeShapes Go.WideShapes Go.ChangeAt Go.WideMaps Go.WideElems Go.RowKit Go.Cl
set_option linter.unusedVariables false

def laidT : List (String × DataW Unit) := [("cloister/wire.table", Rows.laid_cloister_wire_table)]
theorem own : ownKnob Tryd.prog.godebug = none := by kernel_rfl
theorem gT : Tryd.prog.globalNamed "cloister/wire.table" = some 0 := by kernel_rfl
theorem tT : (Tryd.prog.globals[0]?).map (·.type) = some 90 := by kernel_rfl
theorem c26 : Tryd.prog.cellsOf 26 = 1 := by kernel_rfl

theorem door_met (os : Os) (args : Array Value) : laidMetH Tryd.prog laidT ((World.doorLaid Tryd.prog 400 os).forCall (fun _ _ => 0) ⟨#[], args, []⟩).memory :=
  laidMetH_of_parts3 (fuel := 8) (laidMet_of_run' 8 (by kernel_rfl) (by kernel_rfl)) (by kernel_rfl) (by kernel_rfl)

theorem table_of_laid {W : World} (h : laidMetH Tryd.prog laidT W) : TableAt W := by
  rw [MakeChecks.laidMetH_plain _ _ _ (by kernel_rfl)] at h
  obtain ⟨ps, ⟨g0, t0, cs0, f0, p0, q0, hg0, ht0, hv0, hd0, _⟩, _, _⟩ := h
  obtain rfl := Option.some.inj (gT.symm.trans hg0)
  obtain rfl := Option.some.inj (tT.symm.trans ht0)
  obtain ⟨xs, m1, rfl, hx1, hlen, hn3, hel⟩ := DataW.trod_array Tryd.underlying90 hd0
  simp only [Prod.mk.injEq] at hx1
  have hD : xs.map (·.1) = tabL.map fun (n : Nat) => (DataW.lit (.int .u32 (n : Int)) : DataW Unit) := by
    have := hx1.1
    unfold Rows.laid_cloister_wire_table at this
    simp only [DataW.agg.injEq] at this
    rw [← this]
    rfl
  intro k hk
  have hk2 := hel k hk
  have hkl : k < xs.length := by omega
  rw [List.getElem?_eq_getElem hkl, c26] at hk2
  obtain ⟨n, e1, e2, _⟩ := DataW.trod_int Tryd.underlying26 hk2
  have h3 : (xs.map (·.1))[k]? = some (.lit (.int .u32 n)) := by
    rw [List.getElem?_map, List.getElem?_eq_getElem hkl, e2]; rfl
  rw [hD, List.getElem?_map] at h3
  have hk4 : k < tabL.length := hk
  rw [List.getElem?_eq_getElem hk4] at h3
  simp only [Option.map_some, Option.some.injEq, DataW.lit.injEq, Lit.int.injEq, true_and] at h3
  rw [World.var?_cell hg0 hv0 k, List.getD_eq_getElem?_getD, List.getElem?_eq_getElem hk4, Option.getD_some, h3]
  have h5 : (cs0.toList.drop (k * 1)).take 1 = [Value.int .u32 n] := e1
  have h6 := congrArg (fun l => l[0]?) h5
  simp only [List.getElem?_take_of_lt (show 0 < 1 by omega), List.getElem?_drop] at h6
  simpa using h6
end Go.Proofs.YtfihpiommicdbaaDoor
