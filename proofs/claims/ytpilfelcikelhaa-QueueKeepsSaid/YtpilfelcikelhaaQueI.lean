/- Ports: the laws' arguments read; two ports side by side; QueueMakes as a row's walk. No condition. -/
import Derived.Test.YtpilfelcikelhaaQueH
import Derived.Test.YtpilfelcikelhaaLibNums
namespace Go.Proofs.Ytpilfelcikelhaa
open Go.RowKit Go.Cl Go.ChangeShapes Go.WideShapes
set_option linter.unusedVariables false
set_option linter.unusedSimpArgs false

theorem i64_of {n : Int} (h : (Lit.int .i64 n).wf = true) : I64 n := by
  simp [Lit.wf, IntKind.min, IntKind.max, IntKind.signed, IntKind.bits] at h; unfold I64; omega
theorem u64_of {n : Int} (h : (Lit.int .u64 n).wf = true) : 0 ≤ n ∧ n < 18446744073709551616 := by
  simp [Lit.wf, IntKind.min, IntKind.max, IntKind.signed, IntKind.bits] at h; omega

abbrev rQueue : Rd (Int × Int × Int × Int × Int × Bool) := rStruct6 1 1 1 1 1 1 (rInt .i64) (rInt .i64) (rInt .i64) (rInt .i64) (rInt .i64) rBool
theorem dQueue : Decodes Try.prog 23 rQueue := dStruct6 Try.underlying23 (by kernel_rfl) ⟨rfl, by kernel_rfl⟩ ⟨rfl, by kernel_rfl⟩ ⟨rfl, by kernel_rfl⟩ ⟨rfl, by kernel_rfl⟩ ⟨rfl, by kernel_rfl⟩ ⟨rfl, by kernel_rfl⟩
  (dInt Try.underlying3) (dInt Try.underlying3) (dInt Try.underlying3) (dInt Try.underlying3) (dInt Try.underlying3) (dBool Try.underlying4)

theorem queue_cells {w : World} {c : List Value} {x : Int × Int × Int × Int × Int × Bool} (h : rQueue w c x) : c = [.int .i64 x.1, .int .i64 x.2.1, .int .i64 x.2.2.1, .int .i64 x.2.2.2.1, .int .i64 x.2.2.2.2.1, .bool x.2.2.2.2.2] := by
  obtain ⟨hl, ⟨h0, w0⟩, ⟨h1, w1⟩, ⟨h2, w2⟩, ⟨h3, w3⟩, ⟨h4, w4⟩, h5⟩ := h
  match c, hl with
  | [x0, x1, x2, x3, x4, x5], _ =>
    simp [rBool] at h0 h1 h2 h3 h4 h5
    subst h0 h1 h2 h3 h4 h5
    rfl

set_option maxRecDepth 100000 in
theorem open_queue {H : Type} {enc : TypeId × Value → H} {w : World} {b0 base : Nat} {sp : Nat → Bool} {held : Bool} {v : Value} {d : DataW H} {p : List MemPlace}
    (hok : Value.okWide Try.prog w .any b0 23 v) (h : DataW.Trod enc Try.prog w base sp held 23 v d p) : ∃ q, v = QT.v q := by
  obtain ⟨cs, rfl, hsz⟩ := okWide_struct Try.underlying23 hok
  obtain ⟨x, hx⟩ := Go.Cl.decode dQueue h
  have hc := queue_cells hx
  refine ⟨⟨x.1, x.2.1, x.2.2.1, x.2.2.2.1, x.2.2.2.2.1, x.2.2.2.2.2⟩, ?_⟩
  have : cs = (cs.toList).toArray := by simp
  unfold QT.v
  rw [this]
  simp only [Value.cells] at hc
  rw [hc]

theorem makes_row (w : World) {v : Value} (h : ∃ q, v = QT.v q) : Calls Try.prog 3 #[v] w fun e w' => e = .returned (.bool true) ∧ Below w.heap.size w w' := by
  obtain ⟨q, rfl⟩ := h
  refine (makes_walk q w).mono ?_
  rintro e w' ⟨rfl, hc⟩
  exact ⟨rfl, hc.below (Nat.le_refl _) (by simp)⟩
end Go.Proofs.Ytpilfelcikelhaa
