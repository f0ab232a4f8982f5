/-
  No cell of these rows narrows 'for every input' (looked for: loops, veiled, ifaces, maps, wideKeys, modest, calm, conditions, laid).
  DERIVED. THE GIVEN ROWS OF THIS SEAT. 6 by the template 'for every input the law returns true; each argument reads behind the call as it read before'; 0 by the template 'total and deterministic' (their statements: YtoglgkplddlemaaTotals.lean).
  GIVEN WITH THE SEED: the statements are not yours to turn. If you find one false, say at which input.
  Laid BY PROGRAM, IN A SANDBOX (cutbox-rows.mjs): the forced cells as the released guide's own fill.sh prints them over the translation 3e3aba9fcb52aab1… (all of the seat's roots in one cut). By AI agents, Wed Nov 11 2026. No macro, syntax, notation, axiom, sorry.
-/
import Derived.Test.YtoglgkplddlemaaChecked
import GoSem.Claim
import GoSem.ClaimJoined
import GoSem.ClaimMapViews
import Derived.JoinedTies
import Derived.KernelRfl
namespace Go.Proofs.Ytoglgkplddlemaa
/- THE CELL 'sum', in the pinned program and in every row, IS THE sha256 OF THE DUMP (.gsa) THAT YtoglgkplddlemaaProg.lean LOADS. Nothing in Lean hashes anything: it is a label: what it is worth is what the hold of that sum in a sandbox is worth. -/
noncomputable def Try.pinned : Pinned := { name := "ytoglgkplddlemaa", sum := "3e3aba9fcb52aab105070a5e5522f921d5ba752f348a6df9ebd6180d8b428ee9", checked := Try.checked }
namespace Rows
def none {H : Type} : Left H := { results := [], args := [] }

/-- 'cloisterlaw5.TLBLong': WHATEVER THE INPUT: true; the input reads as it did. -/
def tLBLongSpec : ChangeSpec := { name := "tLBLong", fn := fun _ => fun
  | [d1, d2, d3, d4] => { results := [.lit (.bool true)], args := [d1, d2, d3, d4] }
  | _ => none }
def tLBLongRow : OpenClaim := { program := "ytoglgkplddlemaa", sum := "3e3aba9fcb52aab105070a5e5522f921d5ba752f348a6df9ebd6180d8b428ee9", func := "cloister/cloisterlaw5.TLBLong", spec := "tLBLong", plainKeys := false, apart := false }
def TLBLongSaid : Prop := tLBLongRow.holds Try.pinned (OpenSpec.ofChange tLBLongSpec)

/-- ITS FALSE NEIGHBOUR: 'it returns false'. Refute it at one input. -/
def tLBLongWrong : ChangeSpec := { name := "tLBLong", fn := fun _ => fun
  | [d1, d2, d3, d4] => { results := [.lit (.bool false)], args := [d1, d2, d3, d4] }
  | _ => none }
def TLBLongWrongFalsely : Prop := tLBLongRow.holds Try.pinned (OpenSpec.ofChange tLBLongWrong)

/-- 'cloisterlaw5.TLBMany': WHATEVER THE INPUT: true; the input reads as it did. -/
def tLBManySpec : ChangeSpec := { name := "tLBMany", fn := fun _ => fun
  | [d1, d2] => { results := [.lit (.bool true)], args := [d1, d2] }
  | _ => none }
def tLBManyRow : OpenClaim := { program := "ytoglgkplddlemaa", sum := "3e3aba9fcb52aab105070a5e5522f921d5ba752f348a6df9ebd6180d8b428ee9", func := "cloister/cloisterlaw5.TLBMany", spec := "tLBMany", plainKeys := false, apart := false }
def TLBManySaid : Prop := tLBManyRow.holds Try.pinned (OpenSpec.ofChange tLBManySpec)

/-- ITS FALSE NEIGHBOUR: 'it returns false'. Refute it at one input. -/
def tLBManyWrong : ChangeSpec := { name := "tLBMany", fn := fun _ => fun
  | [d1, d2] => { results := [.lit (.bool false)], args := [d1, d2] }
  | _ => none }
def TLBManyWrongFalsely : Prop := tLBManyRow.holds Try.pinned (OpenSpec.ofChange tLBManyWrong)

/-- 'cloisterlaw5.TLBReuse': WHATEVER THE INPUT: true; the input reads as it did. -/
def tLBReuseSpec : ChangeSpec := { name := "tLBReuse", fn := fun _ => fun
  | [d1, d2] => { results := [.lit (.bool true)], args := [d1, d2] }
  | _ => none }
def tLBReuseRow : OpenClaim := { program := "ytoglgkplddlemaa", sum := "3e3aba9fcb52aab105070a5e5522f921d5ba752f348a6df9ebd6180d8b428ee9", func := "cloister/cloisterlaw5.TLBReuse", spec := "tLBReuse", plainKeys := false, apart := false }
def TLBReuseSaid : Prop := tLBReuseRow.holds Try.pinned (OpenSpec.ofChange tLBReuseSpec)

/-- ITS FALSE NEIGHBOUR: 'it returns false'. Refute it at one input. -/
def tLBReuseWrong : ChangeSpec := { name := "tLBReuse", fn := fun _ => fun
  | [d1, d2] => { results := [.lit (.bool false)], args := [d1, d2] }
  | _ => none }
def TLBReuseWrongFalsely : Prop := tLBReuseRow.holds Try.pinned (OpenSpec.ofChange tLBReuseWrong)

/-- 'cloisterlaw5.TLBLate': WHATEVER THE INPUT: true; the input reads as it did. -/
def tLBLateSpec : ChangeSpec := { name := "tLBLate", fn := fun _ => fun
  | [d1, d2] => { results := [.lit (.bool true)], args := [d1, d2] }
  | _ => none }
def tLBLateRow : OpenClaim := { program := "ytoglgkplddlemaa", sum := "3e3aba9fcb52aab105070a5e5522f921d5ba752f348a6df9ebd6180d8b428ee9", func := "cloister/cloisterlaw5.TLBLate", spec := "tLBLate", unfollowed := true, recurses := true, plainKeys := false, apart := false }
def TLBLateSaid : Prop := tLBLateRow.holds Try.pinned (OpenSpec.ofChange tLBLateSpec)

/-- ITS FALSE NEIGHBOUR: 'it returns false'. Refute it at one input. -/
def tLBLateWrong : ChangeSpec := { name := "tLBLate", fn := fun _ => fun
  | [d1, d2] => { results := [.lit (.bool false)], args := [d1, d2] }
  | _ => none }
def TLBLateWrongFalsely : Prop := tLBLateRow.holds Try.pinned (OpenSpec.ofChange tLBLateWrong)

/-- 'cloisterlaw5.TLBApart': WHATEVER THE INPUT: true; the input reads as it did. -/
def tLBApartSpec : ChangeSpec := { name := "tLBApart", fn := fun _ => fun
  | [d1, d2, d3, d4] => { results := [.lit (.bool true)], args := [d1, d2, d3, d4] }
  | _ => none }
def tLBApartRow : OpenClaim := { program := "ytoglgkplddlemaa", sum := "3e3aba9fcb52aab105070a5e5522f921d5ba752f348a6df9ebd6180d8b428ee9", func := "cloister/cloisterlaw5.TLBApart", spec := "tLBApart", unfollowed := true, recurses := true, plainKeys := false, apart := false }
def TLBApartSaid : Prop := tLBApartRow.holds Try.pinned (OpenSpec.ofChange tLBApartSpec)

/-- ITS FALSE NEIGHBOUR: 'it returns false'. Refute it at one input. -/
def tLBApartWrong : ChangeSpec := { name := "tLBApart", fn := fun _ => fun
  | [d1, d2, d3, d4] => { results := [.lit (.bool false)], args := [d1, d2, d3, d4] }
  | _ => none }
def TLBApartWrongFalsely : Prop := tLBApartRow.holds Try.pinned (OpenSpec.ofChange tLBApartWrong)

/-- 'cloisterlaw5.TLBDoes': WHATEVER THE INPUT: true; the input reads as it did. -/
def tLBDoesSpec : ChangeSpec := { name := "tLBDoes", fn := fun _ => fun
  | [d1, d2] => { results := [.lit (.bool true)], args := [d1, d2] }
  | _ => none }
def tLBDoesRow : OpenClaim := { program := "ytoglgkplddlemaa", sum := "3e3aba9fcb52aab105070a5e5522f921d5ba752f348a6df9ebd6180d8b428ee9", func := "cloister/cloisterlaw5.TLBDoes", spec := "tLBDoes", unfollowed := true, recurses := true, plainKeys := false, apart := false }
def TLBDoesSaid : Prop := tLBDoesRow.holds Try.pinned (OpenSpec.ofChange tLBDoesSpec)

/-- ITS FALSE NEIGHBOUR: 'it returns false'. Refute it at one input. -/
def tLBDoesWrong : ChangeSpec := { name := "tLBDoes", fn := fun _ => fun
  | [d1, d2] => { results := [.lit (.bool false)], args := [d1, d2] }
  | _ => none }
def TLBDoesWrongFalsely : Prop := tLBDoesRow.holds Try.pinned (OpenSpec.ofChange tLBDoesWrong)

/- THE SECOND FORM. 'bulk': how many values and letters a reading holds, each counted each time it is reached (what is shared counts as often as it is met; a slice's spare places count too). A statement '..UptoSaid' is the law's where the arguments, and the package variables that the reading takes, are together of bulk at most 1048576: NARROWER than '..Said'. Prove '..Said' where nothing that the law and all that it calls make is longer than what came in: it says more and counts as full. Else prove '..UptoSaid'. A law counts once. -/
mutual
def uptoBulk {H : Type} : DataW H → Nat
  | .lit (.string bytes) => bytes.length + 1
  | .lit _ => 1
  | .nil => 1
  | .ptr d => uptoBulk d + 1
  | .slice elems spare => uptoBulkAll elems + uptoBulkAll spare + 1
  | .agg parts => uptoBulkAll parts + 1
  | .iface _ d => uptoBulk d + 1
  | .map entries => uptoBulkEntries entries + 1
  | .held _ => 1
def uptoBulkAll {H : Type} : List (DataW H) → Nat
  | [] => 0
  | d :: r => uptoBulk d + uptoBulkAll r
def uptoBulkEntries {H : Type} : List (Lit × DataW H) → Nat
  | [] => 0
  | x :: r => uptoBulkEntry x + uptoBulkEntries r
def uptoBulkEntry {H : Type} : Lit × DataW H → Nat
  | (.string bytes, d) => bytes.length + uptoBulk d + 1
  | (_, d) => uptoBulk d + 1
 end
def uptoSmall : (H : Type) → List (DataW H) → Bool := fun _ ds => decide (uptoBulkAll ds ≤ 1048576)
def OpenSpec.upto (s : _root_.Go.ChangeSpec) : _root_.Go.OpenSpec := { _root_.Go.OpenSpec.ofChange s with cond := some uptoSmall }

/-- 'cloisterlaw5.TLBLong', WHERE WHAT IT READS IS OF BULK AT MOST 1048576: true; the input reads as it did. -/
def tLBLongUptoRow : OpenClaim := { program := "ytoglgkplddlemaa", sum := "3e3aba9fcb52aab105070a5e5522f921d5ba752f348a6df9ebd6180d8b428ee9", func := "cloister/cloisterlaw5.TLBLong", spec := "tLBLong", plainKeys := false, apart := false, narrowed := true }
def TLBLongUptoSaid : Prop := tLBLongUptoRow.holds Try.pinned (OpenSpec.upto tLBLongSpec)

/-- 'cloisterlaw5.TLBMany', WHERE WHAT IT READS IS OF BULK AT MOST 1048576: true; the input reads as it did. -/
def tLBManyUptoRow : OpenClaim := { program := "ytoglgkplddlemaa", sum := "3e3aba9fcb52aab105070a5e5522f921d5ba752f348a6df9ebd6180d8b428ee9", func := "cloister/cloisterlaw5.TLBMany", spec := "tLBMany", plainKeys := false, apart := false, narrowed := true }
def TLBManyUptoSaid : Prop := tLBManyUptoRow.holds Try.pinned (OpenSpec.upto tLBManySpec)

/-- 'cloisterlaw5.TLBReuse', WHERE WHAT IT READS IS OF BULK AT MOST 1048576: true; the input reads as it did. -/
def tLBReuseUptoRow : OpenClaim := { program := "ytoglgkplddlemaa", sum := "3e3aba9fcb52aab105070a5e5522f921d5ba752f348a6df9ebd6180d8b428ee9", func := "cloister/cloisterlaw5.TLBReuse", spec := "tLBReuse", plainKeys := false, apart := false, narrowed := true }
def TLBReuseUptoSaid : Prop := tLBReuseUptoRow.holds Try.pinned (OpenSpec.upto tLBReuseSpec)

/-- 'cloisterlaw5.TLBLate', WHERE WHAT IT READS IS OF BULK AT MOST 1048576: true; the input reads as it did. -/
def tLBLateUptoRow : OpenClaim := { program := "ytoglgkplddlemaa", sum := "3e3aba9fcb52aab105070a5e5522f921d5ba752f348a6df9ebd6180d8b428ee9", func := "cloister/cloisterlaw5.TLBLate", spec := "tLBLate", unfollowed := true, recurses := true, plainKeys := false, apart := false, narrowed := true }
def TLBLateUptoSaid : Prop := tLBLateUptoRow.holds Try.pinned (OpenSpec.upto tLBLateSpec)

/-- 'cloisterlaw5.TLBApart', WHERE WHAT IT READS IS OF BULK AT MOST 1048576: true; the input reads as it did. -/
def tLBApartUptoRow : OpenClaim := { program := "ytoglgkplddlemaa", sum := "3e3aba9fcb52aab105070a5e5522f921d5ba752f348a6df9ebd6180d8b428ee9", func := "cloister/cloisterlaw5.TLBApart", spec := "tLBApart", unfollowed := true, recurses := true, plainKeys := false, apart := false, narrowed := true }
def TLBApartUptoSaid : Prop := tLBApartUptoRow.holds Try.pinned (OpenSpec.upto tLBApartSpec)

/-- 'cloisterlaw5.TLBDoes', WHERE WHAT IT READS IS OF BULK AT MOST 1048576: true; the input reads as it did. -/
def tLBDoesUptoRow : OpenClaim := { program := "ytoglgkplddlemaa", sum := "3e3aba9fcb52aab105070a5e5522f921d5ba752f348a6df9ebd6180d8b428ee9", func := "cloister/cloisterlaw5.TLBDoes", spec := "tLBDoes", unfollowed := true, recurses := true, plainKeys := false, apart := false, narrowed := true }
def TLBDoesUptoSaid : Prop := tLBDoesUptoRow.holds Try.pinned (OpenSpec.upto tLBDoesSpec)

end Rows
end Go.Proofs.Ytoglgkplddlemaa
