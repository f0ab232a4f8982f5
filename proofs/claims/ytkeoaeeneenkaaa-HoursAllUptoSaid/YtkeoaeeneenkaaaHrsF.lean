/- Hours: the laws' arguments read. No condition. -/
import Derived.Test.YtkeoaeeneenkaaaHrsE
namespace Go.Proofs.Ytkeoaeeneenkaaa
open Go.RowKit Go.Cl Go.ChangeShapes Go.WideShapes
set_option linter.unusedVariables false

theorem open_ints {H : Type} {enc : TypeId × Value → H} {w : World} {b0 base : Nat} {sp : Nat → Bool} {held : Bool} {v : Value} {d : DataW H} {p : List MemPlace}
    (hok : Value.okWide Try.prog w .any b0 22 v) (h : DataW.Trod enc Try.prog w base sp held 22 v d p) : ∃ us, NumsAre .i64 w v us :=
  open_nums Try.underlying22 Try.underlying3 (by kernel_rfl) hok h
theorem open_u64s {H : Type} {enc : TypeId × Value → H} {w : World} {b0 base : Nat} {sp : Nat → Bool} {held : Bool} {v : Value} {d : DataW H} {p : List MemPlace}
    (hok : Value.okWide Try.prog w .any b0 40 v) (h : DataW.Trod enc Try.prog w base sp held 40 v d p) : ∃ us, NumsAre .u64 w v us :=
  open_nums Try.underlying40 Try.underlying23 (by kernel_rfl) hok h
end Go.Proofs.Ytkeoaeeneenkaaa
