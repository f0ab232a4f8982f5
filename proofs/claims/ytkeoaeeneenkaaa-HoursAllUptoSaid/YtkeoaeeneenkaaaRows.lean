/-
  No cell of these rows narrows 'for every input' (looked for: loops, veiled, ifaces, maps, wideKeys, modest, calm, conditions, laid).
  DERIVED. THE GIVEN ROWS OF THIS SEAT. 3 by the template 'for every input the law returns true; each argument reads behind the call as it read before'; 0 by the template 'total and deterministic' (their statements: YtkeoaeeneenkaaaTotals.lean).
  GIVEN WITH THE SEED: the statements are not yours to turn. If you find one false, say at which input.
  Laid BY PROGRAM, IN A SANDBOX (cutbox-rows.mjs): the forced cells as the released guide's own fill.sh prints them over the translation 9c14bd706f6c745f… (all of the seat's roots in one cut). By AI agents, Wed Nov 11 2026. No macro, syntax, notation, axiom, sorry.
-/
import Derived.Test.YtkeoaeeneenkaaaChecked
import GoSem.Claim
import GoSem.ClaimJoined
import GoSem.ClaimMapViews
import Derived.JoinedTies
import Derived.KernelRfl
namespace Go.Proofs.Ytkeoaeeneenkaaa
/- THE CELL 'sum', in the pinned program and in every row, IS THE sha256 OF THE DUMP (.gsa) THAT YtkeoaeeneenkaaaProg.lean LOADS. Nothing in Lean hashes anything: it is a label: what it is worth is what the hold of that sum in a sandbox is worth. -/
noncomputable def Try.pinned : Pinned := { name := "ytkeoaeeneenkaaa", sum := "9c14bd706f6c745fb528d8dfa8149dd3a196ed73f5b703c0c49b829816833935", checked := Try.checked }
namespace Rows
def none {H : Type} : Left H := { results := [], args := [] }

/-- 'cloisterlaw18.HoursTurn': WHATEVER THE INPUT: true; the input reads as it did. -/
def hoursTurnSpec : ChangeSpec := { name := "hoursTurn", fn := fun _ => fun
  | [d1, d2] => { results := [.lit (.bool true)], args := [d1, d2] }
  | _ => none }
def hoursTurnRow : OpenClaim := { program := "ytkeoaeeneenkaaa", sum := "9c14bd706f6c745fb528d8dfa8149dd3a196ed73f5b703c0c49b829816833935", func := "cloister/cloisterlaw18.HoursTurn", spec := "hoursTurn", inPlace := ["math/bits.Add64"], unfollowed := true, recurses := true, apart := false }
def HoursTurnSaid : Prop := hoursTurnRow.holds Try.pinned (OpenSpec.ofChange hoursTurnSpec)

/-- ITS FALSE NEIGHBOUR: 'it returns false'. Refute it at one input. -/
def hoursTurnWrong : ChangeSpec := { name := "hoursTurn", fn := fun _ => fun
  | [d1, d2] => { results := [.lit (.bool false)], args := [d1, d2] }
  | _ => none }
def HoursTurnWrongFalsely : Prop := hoursTurnRow.holds Try.pinned (OpenSpec.ofChange hoursTurnWrong)

/-- 'cloisterlaw18.HoursAll': WHATEVER THE INPUT: true; the input reads as it did. -/
def hoursAllSpec : ChangeSpec := { name := "hoursAll", fn := fun _ => fun
  | [d1, d2, d3] => { results := [.lit (.bool true)], args := [d1, d2, d3] }
  | _ => none }
def hoursAllRow : OpenClaim := { program := "ytkeoaeeneenkaaa", sum := "9c14bd706f6c745fb528d8dfa8149dd3a196ed73f5b703c0c49b829816833935", func := "cloister/cloisterlaw18.HoursAll", spec := "hoursAll", inPlace := ["math/bits.Add64"], unfollowed := true, recurses := true, apart := false }
def HoursAllSaid : Prop := hoursAllRow.holds Try.pinned (OpenSpec.ofChange hoursAllSpec)

/-- ITS FALSE NEIGHBOUR: 'it returns false'. Refute it at one input. -/
def hoursAllWrong : ChangeSpec := { name := "hoursAll", fn := fun _ => fun
  | [d1, d2, d3] => { results := [.lit (.bool false)], args := [d1, d2, d3] }
  | _ => none }
def HoursAllWrongFalsely : Prop := hoursAllRow.holds Try.pinned (OpenSpec.ofChange hoursAllWrong)

/-- 'cloisterlaw18.HoursTell': WHATEVER THE INPUT: true; the input reads as it did. -/
def hoursTellSpec : ChangeSpec := { name := "hoursTell", fn := fun _ => fun
  | [d1, d2, d3, d4] => { results := [.lit (.bool true)], args := [d1, d2, d3, d4] }
  | _ => none }
def hoursTellRow : OpenClaim := { program := "ytkeoaeeneenkaaa", sum := "9c14bd706f6c745fb528d8dfa8149dd3a196ed73f5b703c0c49b829816833935", func := "cloister/cloisterlaw18.HoursTell", spec := "hoursTell", inPlace := ["math/bits.Add64"], unfollowed := true, recurses := true, apart := false }
def HoursTellSaid : Prop := hoursTellRow.holds Try.pinned (OpenSpec.ofChange hoursTellSpec)

/-- ITS FALSE NEIGHBOUR: 'it returns false'. Refute it at one input. -/
def hoursTellWrong : ChangeSpec := { name := "hoursTell", fn := fun _ => fun
  | [d1, d2, d3, d4] => { results := [.lit (.bool false)], args := [d1, d2, d3, d4] }
  | _ => none }
def HoursTellWrongFalsely : Prop := hoursTellRow.holds Try.pinned (OpenSpec.ofChange hoursTellWrong)

/- THE SECOND FORM. 'bulk': how many values and letters a reading holds, each counted each time it is reached (what is shared counts as often as it is met; a slice's spare places count too). A statement '..UptoSaid' is the law's where the arguments, and the package variables that the reading takes, are together of bulk at most 1048576: NARROWER than '..Said'. Prove '..Said' where nothing that the law and all that it calls make is longer than what came in: it says more and counts as full. Else prove '..UptoSaid'. A law counts once. -/
mutual
def uptoBulk {H : Type} : DataW H → Nat
  | .lit (.string bytes) => bytes.length + 1
  | .lit _ => 1
  | .nil => 1
  | .ptr d => uptoBulk d + 1
  | .slice elems spare => uptoBulkAll elems + uptoBulkAll spare + 1
  | .agg parts => uptoBulkAll parts + 1
  | .iface _ d => uptoBulk d + 1
  | .map entries => uptoBulkEntries entries + 1
  | .held _ => 1
def uptoBulkAll {H : Type} : List (DataW H) → Nat
  | [] => 0
  | d :: r => uptoBulk d + uptoBulkAll r
def uptoBulkEntries {H : Type} : List (Lit × DataW H) → Nat
  | [] => 0
  | x :: r => uptoBulkEntry x + uptoBulkEntries r
def uptoBulkEntry {H : Type} : Lit × DataW H → Nat
  | (.string bytes, d) => bytes.length + uptoBulk d + 1
  | (_, d) => uptoBulk d + 1
 end
def uptoSmall : (H : Type) → List (DataW H) → Bool := fun _ ds => decide (uptoBulkAll ds ≤ 1048576)
def OpenSpec.upto (s : _root_.Go.ChangeSpec) : _root_.Go.OpenSpec := { _root_.Go.OpenSpec.ofChange s with cond := some uptoSmall }

/-- 'cloisterlaw18.HoursTurn', WHERE WHAT IT READS IS OF BULK AT MOST 1048576: true; the input reads as it did. -/
def hoursTurnUptoRow : OpenClaim := { program := "ytkeoaeeneenkaaa", sum := "9c14bd706f6c745fb528d8dfa8149dd3a196ed73f5b703c0c49b829816833935", func := "cloister/cloisterlaw18.HoursTurn", spec := "hoursTurn", inPlace := ["math/bits.Add64"], unfollowed := true, recurses := true, apart := false, narrowed := true }
def HoursTurnUptoSaid : Prop := hoursTurnUptoRow.holds Try.pinned (OpenSpec.upto hoursTurnSpec)

/-- 'cloisterlaw18.HoursAll', WHERE WHAT IT READS IS OF BULK AT MOST 1048576: true; the input reads as it did. -/
def hoursAllUptoRow : OpenClaim := { program := "ytkeoaeeneenkaaa", sum := "9c14bd706f6c745fb528d8dfa8149dd3a196ed73f5b703c0c49b829816833935", func := "cloister/cloisterlaw18.HoursAll", spec := "hoursAll", inPlace := ["math/bits.Add64"], unfollowed := true, recurses := true, apart := false, narrowed := true }
def HoursAllUptoSaid : Prop := hoursAllUptoRow.holds Try.pinned (OpenSpec.upto hoursAllSpec)

/-- 'cloisterlaw18.HoursTell', WHERE WHAT IT READS IS OF BULK AT MOST 1048576: true; the input reads as it did. -/
def hoursTellUptoRow : OpenClaim := { program := "ytkeoaeeneenkaaa", sum := "9c14bd706f6c745fb528d8dfa8149dd3a196ed73f5b703c0c49b829816833935", func := "cloister/cloisterlaw18.HoursTell", spec := "hoursTell", inPlace := ["math/bits.Add64"], unfollowed := true, recurses := true, apart := false, narrowed := true }
def HoursTellUptoSaid : Prop := hoursTellUptoRow.holds Try.pinned (OpenSpec.upto hoursTellSpec)

end Rows
end Go.Proofs.Ytkeoaeeneenkaaa
