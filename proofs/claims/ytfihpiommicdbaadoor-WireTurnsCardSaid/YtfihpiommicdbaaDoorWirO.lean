/- The laws' argument of steps, read; readers that are wrong stay as they are. No condition. -/
import Derived.Test.YtfihpiommicdbaaDoorWirN
import Derived.Test.YtfihpiommicdbaaDoorWirU
namespace Go.Proofs.YtfihpiommicdbaaDoor
open Go.RowKit Go.Cl Go.ChangeShapes Go.WideShapes Go.Deep
set_option linter.unusedVariables false

abbrev OpT := Int × Int × Int × List Int × ByteArray
abbrev rOp : Rd OpT := rStruct5 1 1 1 1 1 (rInt .i64) (rInt .u64) (rInt .i64) (rSlice 1 (rInt .u8)) rStr
theorem dOp : Decodes Tryd.prog 50 rOp := dStruct5 Tryd.underlying50 (by kernel_rfl) ⟨rfl, by kernel_rfl⟩ ⟨rfl, by kernel_rfl⟩ ⟨rfl, by kernel_rfl⟩ ⟨rfl, by kernel_rfl⟩ ⟨rfl, by kernel_rfl⟩
  (dInt Tryd.underlying3) (dInt Tryd.underlying48) (dInt Tryd.underlying3) dBytes (dStr Tryd.underlying9)
theorem dOps : Decodes Tryd.prog 33 (rSlice 5 rOp) := dSlice Tryd.underlying33 (by kernel_rfl) dOp

/-- One step's numbers are in their bounds. -/
def OpOk (p : OpT) : Prop := I64 p.1 ∧ 0 ≤ p.2.1 ∧ p.2.1 < 18446744073709551616 ∧ I64 p.2.2.1 ∧ p.2.2.2.2.size ≤ maxLen
/-- A slice of steps. -/
def OpsAre (w : World) (v : Value) (ps : List OpT) : Prop :=
  ∃ (oa : Option Addr) (cap : Nat), v = .slice oa ps.length cap ∧ ps.length ≤ cap ∧ cap ≤ maxLen ∧ ∀ i p, ps[i]? = some p → ∃ g o bv, oa = some ⟨g, o, none⟩ ∧
    w.cell? ⟨g, o + i * 5, none⟩ = some (.int .i64 p.1) ∧ w.cell? ⟨g, o + i * 5 + 1, none⟩ = some (.int .u64 p.2.1) ∧ w.cell? ⟨g, o + i * 5 + 2, none⟩ = some (.int .i64 p.2.2.1) ∧ w.cell? ⟨g, o + i * 5 + 3, none⟩ = some bv ∧
    w.cell? ⟨g, o + i * 5 + 4, none⟩ = some (.string p.2.2.2.2) ∧ BytesIs w bv p.2.2.2.1 ∧ OpOk p

theorem u64_of {n : Int} (h : (Lit.int .u64 n).wf = true) : 0 ≤ n ∧ n < 18446744073709551616 := by
  simp [Lit.wf, IntKind.min, IntKind.max, IntKind.signed, IntKind.bits] at h; omega
theorem op_cells {w : World} {c : List Value} {p : OpT} (h : rOp w c p) : ∃ bv, c = [.int .i64 p.1, .int .u64 p.2.1, .int .i64 p.2.2.1, bv, .string p.2.2.2.2] ∧ BytesIs w bv p.2.2.2.1 ∧ OpOk p := by
  obtain ⟨hl, ⟨h0, w0⟩, ⟨h1, w1⟩, ⟨h2, w2⟩, h3, ⟨h4, w4⟩⟩ := h
  match c, hl with
  | [x0, x1, x2, x3, x4], _ =>
    simp at h0 h1 h2 h4
    subst h0 h1 h2 h4
    exact ⟨x3, rfl, nums_bytes (nums_are (by simpa using h3)), i64_of w0, (u64_of w1).1, (u64_of w1).2, i64_of w2, w4⟩

theorem ops_are {w : World} {v : Value} {ps : List OpT} (h : rSlice 5 rOp w [v] ps) : OpsAre w v ps := by
  have ht := things_are h
  obtain ⟨oa, cap, rfl, h1, h2, h3, _⟩ := ht
  refine ⟨oa, cap, rfl, h1, h2, fun i p hp => ?_⟩
  obtain ⟨g, o, c, rfl, hc, hl, hat⟩ := (things_are h).at (by omega) hp
  obtain ⟨bv, rfl, hb, hok⟩ := op_cells hc
  exact ⟨g, o, bv, rfl, hat 0 _ rfl, hat 1 _ rfl, hat 2 _ rfl, hat 3 _ rfl, hat 4 _ rfl, hb, hok⟩

set_option maxRecDepth 100000 in
theorem open_ops {H : Type} {enc : TypeId × Value → H} {w : World} {b0 base : Nat} {sp : Nat → Bool} {held : Bool} {v : Value} {d : DataW H} {p : List MemPlace}
    (hok : Value.okWide Tryd.prog w .any b0 33 v) (h : DataW.Trod enc Tryd.prog w base sp held 33 v d p) : ∃ us, OpsAre w v us := by
  obtain ⟨us, hu⟩ := decode_slice Tryd.underlying33 dOps hok h
  exact ⟨us, ops_are hu⟩

/-! ### what is wrong stays so -/
section
variable {s : RS} (h : s.bad ≠ 0)
include h
theorem st_fail (e p : Int) : s.fail e p = s := by unfold RS.fail; rw [if_neg h]
theorem st_okB (n : Nat) : s.okB n = false := by unfold RS.okB; rw [decide_eq_false h]; rfl
theorem st_next (n : Nat) : s.next n = s := by unfold RS.next; rw [st_okB h]; simp [st_fail h]
theorem st_took (n : Nat) : s.took n = [] := by unfold RS.took; rw [st_okB h]; simp
theorem st_num (n : Nat) : s.num n = 0 := by unfold RS.num; rw [st_took h]; rfl
theorem st_rawS (n : Int) : s.rawS n = s := by unfold RS.rawS; split; exact st_fail h _ _; exact st_next h _
theorem st_rawV (n : Int) : s.rawV n = [] := by unfold RS.rawV; split; rfl; exact st_took h _
theorem st_textS (n : Int) : s.textS n = s := by unfold RS.textS; rw [if_neg h]
theorem st_textV (n : Int) : s.textV n = [] := by unfold RS.textV; rw [if_neg h]
theorem st_partS : s.partS = s := by unfold RS.partS; rw [if_neg h]
theorem st_partR : s.partR = ⟨[], 0, 0, s.bad⟩ := by unfold RS.partR; rw [st_partS h, if_neg h]
theorem st_left : s.left = 0 := by unfold RS.left; rw [if_neg h]
theorem st_end : s.end = s := by unfold RS.end; rw [st_left h]; simp
theorem st_padS (t : Int) : s.padS t = s := by
  unfold RS.padS
  split
  · exact st_fail h _ _
  · rw [st_took h]
    exact st_next h _
end
end Go.Proofs.YtfihpiommicdbaaDoor
