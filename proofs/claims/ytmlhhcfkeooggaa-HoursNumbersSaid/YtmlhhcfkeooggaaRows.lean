/-
  No cell of these rows narrows 'for every input' (looked for: loops, veiled, ifaces, maps, wideKeys, modest, calm, conditions, laid).
  DERIVED. THE GIVEN ROWS OF THIS SEAT. 5 by the template 'for every input the law returns true; each argument reads behind the call as it read before'; 0 by the template 'total and deterministic' (their statements: YtmlhhcfkeooggaaTotals.lean).
  GIVEN WITH THE SEED: the statements are not yours to turn. If you find one false, say at which input.
  Laid BY PROGRAM, IN A SANDBOX (cutbox-rows.mjs): the forced cells as the released guide's own fill.sh prints them over the translation 9cf4be0cb87517e4… (all of the seat's roots in one cut). By AI agents, Wed Nov 11 2026. No macro, syntax, notation, axiom, sorry.
-/
import Derived.Test.YtmlhhcfkeooggaaChecked
import GoSem.Claim
import GoSem.ClaimJoined
import GoSem.ClaimMapViews
import Derived.JoinedTies
import Derived.KernelRfl
namespace Go.Proofs.Ytmlhhcfkeooggaa
/- THE CELL 'sum', in the pinned program and in every row, IS THE sha256 OF THE DUMP (.gsa) THAT YtmlhhcfkeooggaaProg.lean LOADS. Nothing in Lean hashes anything: it is a label: what it is worth is what the hold of that sum in a sandbox is worth. -/
noncomputable def Try.pinned : Pinned := { name := "ytmlhhcfkeooggaa", sum := "9cf4be0cb87517e464830c922012c77f4df650c2f7e38e68e6172c6095426c0b", checked := Try.checked }
namespace Rows
def none {H : Type} : Left H := { results := [], args := [] }

/-- 'cloisterlaw2.MemoryNumbers': WHATEVER THE INPUT: true; the input reads as it did. -/
def memoryNumbersSpec : ChangeSpec := { name := "memoryNumbers", fn := fun _ => fun
  | [] => { results := [.lit (.bool true)], args := [] }
  | _ => none }
def memoryNumbersRow : OpenClaim := { program := "ytmlhhcfkeooggaa", sum := "9cf4be0cb87517e464830c922012c77f4df650c2f7e38e68e6172c6095426c0b", func := "cloister/cloisterlaw2.MemoryNumbers", spec := "memoryNumbers", apart := false }
def MemoryNumbersSaid : Prop := memoryNumbersRow.holds Try.pinned (OpenSpec.ofChange memoryNumbersSpec)

/-- ITS FALSE NEIGHBOUR: 'it returns false'. Refute it at one input. -/
def memoryNumbersWrong : ChangeSpec := { name := "memoryNumbers", fn := fun _ => fun
  | [] => { results := [.lit (.bool false)], args := [] }
  | _ => none }
def MemoryNumbersWrongFalsely : Prop := memoryNumbersRow.holds Try.pinned (OpenSpec.ofChange memoryNumbersWrong)

/-- 'cloisterlaw26.AuditNumbers': WHATEVER THE INPUT: true; the input reads as it did. -/
def auditNumbersSpec : ChangeSpec := { name := "auditNumbers", fn := fun _ => fun
  | [] => { results := [.lit (.bool true)], args := [] }
  | _ => none }
def auditNumbersRow : OpenClaim := { program := "ytmlhhcfkeooggaa", sum := "9cf4be0cb87517e464830c922012c77f4df650c2f7e38e68e6172c6095426c0b", func := "cloister/cloisterlaw26.AuditNumbers", spec := "auditNumbers", apart := false }
def AuditNumbersSaid : Prop := auditNumbersRow.holds Try.pinned (OpenSpec.ofChange auditNumbersSpec)

/-- ITS FALSE NEIGHBOUR: 'it returns false'. Refute it at one input. -/
def auditNumbersWrong : ChangeSpec := { name := "auditNumbers", fn := fun _ => fun
  | [] => { results := [.lit (.bool false)], args := [] }
  | _ => none }
def AuditNumbersWrongFalsely : Prop := auditNumbersRow.holds Try.pinned (OpenSpec.ofChange auditNumbersWrong)

/-- 'cloisterlaw5.TLBNumbers': WHATEVER THE INPUT: true; the input reads as it did. -/
def tLBNumbersSpec : ChangeSpec := { name := "tLBNumbers", fn := fun _ => fun
  | [] => { results := [.lit (.bool true)], args := [] }
  | _ => none }
def tLBNumbersRow : OpenClaim := { program := "ytmlhhcfkeooggaa", sum := "9cf4be0cb87517e464830c922012c77f4df650c2f7e38e68e6172c6095426c0b", func := "cloister/cloisterlaw5.TLBNumbers", spec := "tLBNumbers", apart := false }
def TLBNumbersSaid : Prop := tLBNumbersRow.holds Try.pinned (OpenSpec.ofChange tLBNumbersSpec)

/-- ITS FALSE NEIGHBOUR: 'it returns false'. Refute it at one input. -/
def tLBNumbersWrong : ChangeSpec := { name := "tLBNumbers", fn := fun _ => fun
  | [] => { results := [.lit (.bool false)], args := [] }
  | _ => none }
def TLBNumbersWrongFalsely : Prop := tLBNumbersRow.holds Try.pinned (OpenSpec.ofChange tLBNumbersWrong)

/-- 'cloisterlaw6.ArenaNumbers': WHATEVER THE INPUT: true; the input reads as it did. -/
def arenaNumbersSpec : ChangeSpec := { name := "arenaNumbers", fn := fun _ => fun
  | [] => { results := [.lit (.bool true)], args := [] }
  | _ => none }
def arenaNumbersRow : OpenClaim := { program := "ytmlhhcfkeooggaa", sum := "9cf4be0cb87517e464830c922012c77f4df650c2f7e38e68e6172c6095426c0b", func := "cloister/cloisterlaw6.ArenaNumbers", spec := "arenaNumbers", apart := false }
def ArenaNumbersSaid : Prop := arenaNumbersRow.holds Try.pinned (OpenSpec.ofChange arenaNumbersSpec)

/-- ITS FALSE NEIGHBOUR: 'it returns false'. Refute it at one input. -/
def arenaNumbersWrong : ChangeSpec := { name := "arenaNumbers", fn := fun _ => fun
  | [] => { results := [.lit (.bool false)], args := [] }
  | _ => none }
def ArenaNumbersWrongFalsely : Prop := arenaNumbersRow.holds Try.pinned (OpenSpec.ofChange arenaNumbersWrong)

/-- 'cloisterlaw18.HoursNumbers': WHATEVER THE INPUT: true; the input reads as it did. -/
def hoursNumbersSpec : ChangeSpec := { name := "hoursNumbers", fn := fun _ => fun
  | [] => { results := [.lit (.bool true)], args := [] }
  | _ => none }
def hoursNumbersRow : OpenClaim := { program := "ytmlhhcfkeooggaa", sum := "9cf4be0cb87517e464830c922012c77f4df650c2f7e38e68e6172c6095426c0b", func := "cloister/cloisterlaw18.HoursNumbers", spec := "hoursNumbers", apart := false }
def HoursNumbersSaid : Prop := hoursNumbersRow.holds Try.pinned (OpenSpec.ofChange hoursNumbersSpec)

/-- ITS FALSE NEIGHBOUR: 'it returns false'. Refute it at one input. -/
def hoursNumbersWrong : ChangeSpec := { name := "hoursNumbers", fn := fun _ => fun
  | [] => { results := [.lit (.bool false)], args := [] }
  | _ => none }
def HoursNumbersWrongFalsely : Prop := hoursNumbersRow.holds Try.pinned (OpenSpec.ofChange hoursNumbersWrong)

/- THE SECOND FORM. 'bulk': how many values and letters a reading holds, each counted each time it is reached (what is shared counts as often as it is met; a slice's spare places count too). A statement '..UptoSaid' is the law's where the arguments, and the package variables that the reading takes, are together of bulk at most 1048576: NARROWER than '..Said'. Prove '..Said' where nothing that the law and all that it calls make is longer than what came in: it says more and counts as full. Else prove '..UptoSaid'. A law counts once. -/
mutual
def uptoBulk {H : Type} : DataW H → Nat
  | .lit (.string bytes) => bytes.length + 1
  | .lit _ => 1
  | .nil => 1
  | .ptr d => uptoBulk d + 1
  | .slice elems spare => uptoBulkAll elems + uptoBulkAll spare + 1
  | .agg parts => uptoBulkAll parts + 1
  | .iface _ d => uptoBulk d + 1
  | .map entries => uptoBulkEntries entries + 1
  | .held _ => 1
def uptoBulkAll {H : Type} : List (DataW H) → Nat
  | [] => 0
  | d :: r => uptoBulk d + uptoBulkAll r
def uptoBulkEntries {H : Type} : List (Lit × DataW H) → Nat
  | [] => 0
  | x :: r => uptoBulkEntry x + uptoBulkEntries r
def uptoBulkEntry {H : Type} : Lit × DataW H → Nat
  | (.string bytes, d) => bytes.length + uptoBulk d + 1
  | (_, d) => uptoBulk d + 1
 end
def uptoSmall : (H : Type) → List (DataW H) → Bool := fun _ ds => decide (uptoBulkAll ds ≤ 1048576)
def OpenSpec.upto (s : _root_.Go.ChangeSpec) : _root_.Go.OpenSpec := { _root_.Go.OpenSpec.ofChange s with cond := some uptoSmall }

/-- 'cloisterlaw2.MemoryNumbers', WHERE WHAT IT READS IS OF BULK AT MOST 1048576: true; the input reads as it did. -/
def memoryNumbersUptoRow : OpenClaim := { program := "ytmlhhcfkeooggaa", sum := "9cf4be0cb87517e464830c922012c77f4df650c2f7e38e68e6172c6095426c0b", func := "cloister/cloisterlaw2.MemoryNumbers", spec := "memoryNumbers", apart := false, narrowed := true }
def MemoryNumbersUptoSaid : Prop := memoryNumbersUptoRow.holds Try.pinned (OpenSpec.upto memoryNumbersSpec)

/-- 'cloisterlaw26.AuditNumbers', WHERE WHAT IT READS IS OF BULK AT MOST 1048576: true; the input reads as it did. -/
def auditNumbersUptoRow : OpenClaim := { program := "ytmlhhcfkeooggaa", sum := "9cf4be0cb87517e464830c922012c77f4df650c2f7e38e68e6172c6095426c0b", func := "cloister/cloisterlaw26.AuditNumbers", spec := "auditNumbers", apart := false, narrowed := true }
def AuditNumbersUptoSaid : Prop := auditNumbersUptoRow.holds Try.pinned (OpenSpec.upto auditNumbersSpec)

/-- 'cloisterlaw5.TLBNumbers', WHERE WHAT IT READS IS OF BULK AT MOST 1048576: true; the input reads as it did. -/
def tLBNumbersUptoRow : OpenClaim := { program := "ytmlhhcfkeooggaa", sum := "9cf4be0cb87517e464830c922012c77f4df650c2f7e38e68e6172c6095426c0b", func := "cloister/cloisterlaw5.TLBNumbers", spec := "tLBNumbers", apart := false, narrowed := true }
def TLBNumbersUptoSaid : Prop := tLBNumbersUptoRow.holds Try.pinned (OpenSpec.upto tLBNumbersSpec)

/-- 'cloisterlaw6.ArenaNumbers', WHERE WHAT IT READS IS OF BULK AT MOST 1048576: true; the input reads as it did. -/
def arenaNumbersUptoRow : OpenClaim := { program := "ytmlhhcfkeooggaa", sum := "9cf4be0cb87517e464830c922012c77f4df650c2f7e38e68e6172c6095426c0b", func := "cloister/cloisterlaw6.ArenaNumbers", spec := "arenaNumbers", apart := false, narrowed := true }
def ArenaNumbersUptoSaid : Prop := arenaNumbersUptoRow.holds Try.pinned (OpenSpec.upto arenaNumbersSpec)

/-- 'cloisterlaw18.HoursNumbers', WHERE WHAT IT READS IS OF BULK AT MOST 1048576: true; the input reads as it did. -/
def hoursNumbersUptoRow : OpenClaim := { program := "ytmlhhcfkeooggaa", sum := "9cf4be0cb87517e464830c922012c77f4df650c2f7e38e68e6172c6095426c0b", func := "cloister/cloisterlaw18.HoursNumbers", spec := "hoursNumbers", apart := false, narrowed := true }
def HoursNumbersUptoSaid : Prop := hoursNumbersUptoRow.holds Try.pinned (OpenSpec.upto hoursNumbersSpec)

end Rows
end Go.Proofs.Ytmlhhcfkeooggaa
