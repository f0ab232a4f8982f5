/- The law's argument of steps, read. No condition. -/
import Derived.Test.YtenbkdmaiooldaaArnM
import Derived.Test.YtenbkdmaiooldaaLibRead
namespace Go.Proofs.Ytenbkdmaiooldaa
open Go.RowKit Go.Cl
set_option linter.unusedVariables false

abbrev OpT := Int × Int × Bool × Int × Int × Int
abbrev rOp : Rd OpT := rStruct6 1 1 1 1 1 1 (rInt .i64) (rInt .i64) rBool (rInt .u32) (rInt .u32) (rInt .u8)
theorem dOp : Decodes Try.prog 54 rOp := dStruct6 Try.underlying54 (by kernel_rfl) ⟨rfl, by kernel_rfl⟩ ⟨rfl, by kernel_rfl⟩ ⟨rfl, by kernel_rfl⟩ ⟨rfl, by kernel_rfl⟩ ⟨rfl, by kernel_rfl⟩ ⟨rfl, by kernel_rfl⟩
  (dInt Try.underlying3) (dInt Try.underlying3) (dBool Try.underlying4) (dInt Try.underlying22) (dInt Try.underlying22) (dInt Try.underlying5)
theorem dOps : Decodes Try.prog 42 (rSlice 6 rOp) := dSlice Try.underlying42 (by kernel_rfl) dOp

def OpOk (p : OpT) : Prop := I64 p.1 ∧ I64 p.2.1 ∧ (0 ≤ p.2.2.2.1 ∧ p.2.2.2.1 < 4294967296) ∧ (0 ≤ p.2.2.2.2.1 ∧ p.2.2.2.2.1 < 4294967296) ∧ (0 ≤ p.2.2.2.2.2 ∧ p.2.2.2.2.2 ≤ 255)

/-- A slice of steps. -/
def OpsAre (w : World) (v : Value) (ps : List OpT) : Prop :=
  ∃ (oa : Option Addr) (cap : Nat), v = .slice oa ps.length cap ∧ ps.length ≤ cap ∧ cap ≤ maxLen ∧ ∀ i p, ps[i]? = some p → ∃ a, oa = some a ∧
    w.cell? (a.add (i * 6)) = some (.int .i64 p.1) ∧ w.cell? (a.add (i * 6 + 1)) = some (.int .i64 p.2.1) ∧ w.cell? (a.add (i * 6 + 2)) = some (.bool p.2.2.1) ∧ w.cell? (a.add (i * 6 + 3)) = some (.int .u32 p.2.2.2.1) ∧
    w.cell? (a.add (i * 6 + 4)) = some (.int .u32 p.2.2.2.2.1) ∧ w.cell? (a.add (i * 6 + 5)) = some (.int .u8 p.2.2.2.2.2) ∧ OpOk p

theorem op_cells {w : World} {c : List Value} {p : OpT} (h : rOp w c p) : c = [.int .i64 p.1, .int .i64 p.2.1, .bool p.2.2.1, .int .u32 p.2.2.2.1, .int .u32 p.2.2.2.2.1, .int .u8 p.2.2.2.2.2] ∧ OpOk p := by
  obtain ⟨hl, ⟨h0, w0⟩, ⟨h1, w1⟩, h2, ⟨h3, w3⟩, ⟨h4, w4⟩, ⟨h5, w5⟩⟩ := h
  match c, hl with
  | [x0, x1, x2, x3, x4, x5], _ =>
    simp [rBool] at h0 h1 h2 h3 h4 h5
    subst h0 h1 h2 h3 h4 h5
    simp [Lit.wf, IntKind.min, IntKind.max, IntKind.signed, IntKind.bits] at w0 w1 w3 w4 w5
    exact ⟨rfl, by unfold I64; omega, by unfold I64; omega, by omega, by omega, by omega⟩

theorem ops_are {w : World} {v : Value} {ps : List OpT} (h : rSlice 6 rOp w [v] ps) : OpsAre w v ps := by
  rcases h with ⟨rfl, h2⟩ | ⟨a, cap, h1, h2, h3, h4⟩
  · simp at h2
    exact ⟨none, 0, h2, by simp, by simp, fun i p hp => by simp at hp⟩
  · simp at h1
    refine ⟨some a, cap, h1, h2, h3, fun i p hp => ?_⟩
    obtain ⟨c, hc, hl, hat⟩ := h4 i p hp
    obtain ⟨rfl, hok⟩ := op_cells hc
    exact ⟨a, rfl, hat 0 _ rfl, hat 1 _ rfl, hat 2 _ rfl, hat 3 _ rfl, hat 4 _ rfl, hat 5 _ rfl, hok⟩

set_option maxRecDepth 100000 in
theorem open_steps {H : Type} {enc : TypeId × Value → H} {w : World} {b0 base : Nat} {sp : Nat → Bool} {held : Bool} {v : Value} {d : DataW H} {p : List MemPlace}
    (hok : Value.okWide Try.prog w .any b0 42 v) (h : DataW.Trod enc Try.prog w base sp held 42 v d p) : ∃ us, OpsAre w v us := by
  obtain ⟨us, hu⟩ := decode_slice Try.underlying42 dOps hok h
  exact ⟨us, ops_are hu⟩
end Go.Proofs.Ytenbkdmaiooldaa
