/-
  No cell of these rows narrows 'for every input' (looked for: loops, veiled, ifaces, maps, wideKeys, modest, calm, conditions, laid).
  DERIVED. THE GIVEN ROWS OF THIS SEAT. 9 by the template 'for every input the law returns true; each argument reads behind the call as it read before'; 0 by the template 'total and deterministic' (their statements: YtenbkdmaiooldaaTotals.lean).
  GIVEN WITH THE SEED: the statements are not yours to turn. If you find one false, say at which input.
  Laid BY PROGRAM, IN A SANDBOX (cutbox-rows.mjs): the forced cells as the released guide's own fill.sh prints them over the translation 4fc2ff366966bbf6… (all of the seat's roots in one cut). By AI agents, Wed Nov 11 2026. No macro, syntax, notation, axiom, sorry.
-/
import Derived.Test.YtenbkdmaiooldaaChecked
import GoSem.Claim
import GoSem.ClaimJoined
import GoSem.ClaimMapViews
import Derived.JoinedTies
import Derived.KernelRfl
namespace Go.Proofs.Ytenbkdmaiooldaa
/- THE CELL 'sum', in the pinned program and in every row, IS THE sha256 OF THE DUMP (.gsa) THAT YtenbkdmaiooldaaProg.lean LOADS. Nothing in Lean hashes anything: it is a label: what it is worth is what the hold of that sum in a sandbox is worth. -/
noncomputable def Try.pinned : Pinned := { name := "ytenbkdmaiooldaa", sum := "4fc2ff366966bbf63500291618c81d06984d2cc945ac0d2b20f22962818ced84", checked := Try.checked }
namespace Rows
def none {H : Type} : Left H := { results := [], args := [] }

/-- 'cloisterlaw2.MemoryLong': WHATEVER THE INPUT: true; the input reads as it did. -/
def memoryLongSpec : ChangeSpec := { name := "memoryLong", fn := fun _ => fun
  | [d1, d2, d3, d4] => { results := [.lit (.bool true)], args := [d1, d2, d3, d4] }
  | _ => none }
def memoryLongRow : OpenClaim := { program := "ytenbkdmaiooldaa", sum := "4fc2ff366966bbf63500291618c81d06984d2cc945ac0d2b20f22962818ced84", func := "cloister/cloisterlaw2.MemoryLong", spec := "memoryLong", unfollowed := true, recurses := true, apart := false }
def MemoryLongSaid : Prop := memoryLongRow.holds Try.pinned (OpenSpec.ofChange memoryLongSpec)

/-- ITS FALSE NEIGHBOUR: 'it returns false'. Refute it at one input. -/
def memoryLongWrong : ChangeSpec := { name := "memoryLong", fn := fun _ => fun
  | [d1, d2, d3, d4] => { results := [.lit (.bool false)], args := [d1, d2, d3, d4] }
  | _ => none }
def MemoryLongWrongFalsely : Prop := memoryLongRow.holds Try.pinned (OpenSpec.ofChange memoryLongWrong)

/-- 'cloisterlaw2.MemoryMany': WHATEVER THE INPUT: true; the input reads as it did. -/
def memoryManySpec : ChangeSpec := { name := "memoryMany", fn := fun _ => fun
  | [d1, d2] => { results := [.lit (.bool true)], args := [d1, d2] }
  | _ => none }
def memoryManyRow : OpenClaim := { program := "ytenbkdmaiooldaa", sum := "4fc2ff366966bbf63500291618c81d06984d2cc945ac0d2b20f22962818ced84", func := "cloister/cloisterlaw2.MemoryMany", spec := "memoryMany", unfollowed := true, recurses := true, apart := false }
def MemoryManySaid : Prop := memoryManyRow.holds Try.pinned (OpenSpec.ofChange memoryManySpec)

/-- ITS FALSE NEIGHBOUR: 'it returns false'. Refute it at one input. -/
def memoryManyWrong : ChangeSpec := { name := "memoryMany", fn := fun _ => fun
  | [d1, d2] => { results := [.lit (.bool false)], args := [d1, d2] }
  | _ => none }
def MemoryManyWrongFalsely : Prop := memoryManyRow.holds Try.pinned (OpenSpec.ofChange memoryManyWrong)

/-- 'cloisterlaw6.ArenaFar': WHATEVER THE INPUT: true; the input reads as it did. -/
def arenaFarSpec : ChangeSpec := { name := "arenaFar", fn := fun _ => fun
  | [d1, d2, d3, d4] => { results := [.lit (.bool true)], args := [d1, d2, d3, d4] }
  | _ => none }
def arenaFarRow : OpenClaim := { program := "ytenbkdmaiooldaa", sum := "4fc2ff366966bbf63500291618c81d06984d2cc945ac0d2b20f22962818ced84", func := "cloister/cloisterlaw6.ArenaFar", spec := "arenaFar", unfollowed := true, recurses := true, apart := false }
def ArenaFarSaid : Prop := arenaFarRow.holds Try.pinned (OpenSpec.ofChange arenaFarSpec)

/-- ITS FALSE NEIGHBOUR: 'it returns false'. Refute it at one input. -/
def arenaFarWrong : ChangeSpec := { name := "arenaFar", fn := fun _ => fun
  | [d1, d2, d3, d4] => { results := [.lit (.bool false)], args := [d1, d2, d3, d4] }
  | _ => none }
def ArenaFarWrongFalsely : Prop := arenaFarRow.holds Try.pinned (OpenSpec.ofChange arenaFarWrong)

/-- 'cloisterlaw6.ArenaDoes': WHATEVER THE INPUT: true; the input reads as it did. -/
def arenaDoesSpec : ChangeSpec := { name := "arenaDoes", fn := fun _ => fun
  | [d1, d2, d3, d4] => { results := [.lit (.bool true)], args := [d1, d2, d3, d4] }
  | _ => none }
def arenaDoesRow : OpenClaim := { program := "ytenbkdmaiooldaa", sum := "4fc2ff366966bbf63500291618c81d06984d2cc945ac0d2b20f22962818ced84", func := "cloister/cloisterlaw6.ArenaDoes", spec := "arenaDoes", unfollowed := true, recurses := true, apart := false }
def ArenaDoesSaid : Prop := arenaDoesRow.holds Try.pinned (OpenSpec.ofChange arenaDoesSpec)

/-- ITS FALSE NEIGHBOUR: 'it returns false'. Refute it at one input. -/
def arenaDoesWrong : ChangeSpec := { name := "arenaDoes", fn := fun _ => fun
  | [d1, d2, d3, d4] => { results := [.lit (.bool false)], args := [d1, d2, d3, d4] }
  | _ => none }
def ArenaDoesWrongFalsely : Prop := arenaDoesRow.holds Try.pinned (OpenSpec.ofChange arenaDoesWrong)

/-- 'cloisterlaw6.ArenaApart': WHATEVER THE INPUT: true; the input reads as it did. -/
def arenaApartSpec : ChangeSpec := { name := "arenaApart", fn := fun _ => fun
  | [d1, d2, d3, d4, d5] => { results := [.lit (.bool true)], args := [d1, d2, d3, d4, d5] }
  | _ => none }
def arenaApartRow : OpenClaim := { program := "ytenbkdmaiooldaa", sum := "4fc2ff366966bbf63500291618c81d06984d2cc945ac0d2b20f22962818ced84", func := "cloister/cloisterlaw6.ArenaApart", spec := "arenaApart", unfollowed := true, recurses := true, apart := false }
def ArenaApartSaid : Prop := arenaApartRow.holds Try.pinned (OpenSpec.ofChange arenaApartSpec)

/-- ITS FALSE NEIGHBOUR: 'it returns false'. Refute it at one input. -/
def arenaApartWrong : ChangeSpec := { name := "arenaApart", fn := fun _ => fun
  | [d1, d2, d3, d4, d5] => { results := [.lit (.bool false)], args := [d1, d2, d3, d4, d5] }
  | _ => none }
def ArenaApartWrongFalsely : Prop := arenaApartRow.holds Try.pinned (OpenSpec.ofChange arenaApartWrong)

/-- 'cloisterlaw2.MemoryHolds': WHATEVER THE INPUT: true; the input reads as it did. -/
def memoryHoldsSpec : ChangeSpec := { name := "memoryHolds", fn := fun _ => fun
  | [d] => { results := [.lit (.bool true)], args := [d] }
  | _ => none }
def memoryHoldsRow : OpenClaim := { program := "ytenbkdmaiooldaa", sum := "4fc2ff366966bbf63500291618c81d06984d2cc945ac0d2b20f22962818ced84", func := "cloister/cloisterlaw2.MemoryHolds", spec := "memoryHolds", unfollowed := true, recurses := true, apart := false }
def MemoryHoldsSaid : Prop := memoryHoldsRow.holds Try.pinned (OpenSpec.ofChange memoryHoldsSpec)

/-- ITS FALSE NEIGHBOUR: 'it returns false'. Refute it at one input. -/
def memoryHoldsWrong : ChangeSpec := { name := "memoryHolds", fn := fun _ => fun
  | [d] => { results := [.lit (.bool false)], args := [d] }
  | _ => none }
def MemoryHoldsWrongFalsely : Prop := memoryHoldsRow.holds Try.pinned (OpenSpec.ofChange memoryHoldsWrong)

/-- 'cloisterlaw2.MemoryAgain': WHATEVER THE INPUT: true; the input reads as it did. -/
def memoryAgainSpec : ChangeSpec := { name := "memoryAgain", fn := fun _ => fun
  | [d1, d2, d3] => { results := [.lit (.bool true)], args := [d1, d2, d3] }
  | _ => none }
def memoryAgainRow : OpenClaim := { program := "ytenbkdmaiooldaa", sum := "4fc2ff366966bbf63500291618c81d06984d2cc945ac0d2b20f22962818ced84", func := "cloister/cloisterlaw2.MemoryAgain", spec := "memoryAgain", unfollowed := true, recurses := true, apart := false }
def MemoryAgainSaid : Prop := memoryAgainRow.holds Try.pinned (OpenSpec.ofChange memoryAgainSpec)

/-- ITS FALSE NEIGHBOUR: 'it returns false'. Refute it at one input. -/
def memoryAgainWrong : ChangeSpec := { name := "memoryAgain", fn := fun _ => fun
  | [d1, d2, d3] => { results := [.lit (.bool false)], args := [d1, d2, d3] }
  | _ => none }
def MemoryAgainWrongFalsely : Prop := memoryAgainRow.holds Try.pinned (OpenSpec.ofChange memoryAgainWrong)

/-- 'cloisterlaw2.MemoryLate': WHATEVER THE INPUT: true; the input reads as it did. -/
def memoryLateSpec : ChangeSpec := { name := "memoryLate", fn := fun _ => fun
  | [d1, d2, d3] => { results := [.lit (.bool true)], args := [d1, d2, d3] }
  | _ => none }
def memoryLateRow : OpenClaim := { program := "ytenbkdmaiooldaa", sum := "4fc2ff366966bbf63500291618c81d06984d2cc945ac0d2b20f22962818ced84", func := "cloister/cloisterlaw2.MemoryLate", spec := "memoryLate", unfollowed := true, recurses := true, apart := false }
def MemoryLateSaid : Prop := memoryLateRow.holds Try.pinned (OpenSpec.ofChange memoryLateSpec)

/-- ITS FALSE NEIGHBOUR: 'it returns false'. Refute it at one input. -/
def memoryLateWrong : ChangeSpec := { name := "memoryLate", fn := fun _ => fun
  | [d1, d2, d3] => { results := [.lit (.bool false)], args := [d1, d2, d3] }
  | _ => none }
def MemoryLateWrongFalsely : Prop := memoryLateRow.holds Try.pinned (OpenSpec.ofChange memoryLateWrong)

/-- 'cloisterlaw2.MemoryDoes': WHATEVER THE INPUT: true; the input reads as it did. -/
def memoryDoesSpec : ChangeSpec := { name := "memoryDoes", fn := fun _ => fun
  | [d1, d2] => { results := [.lit (.bool true)], args := [d1, d2] }
  | _ => none }
def memoryDoesRow : OpenClaim := { program := "ytenbkdmaiooldaa", sum := "4fc2ff366966bbf63500291618c81d06984d2cc945ac0d2b20f22962818ced84", func := "cloister/cloisterlaw2.MemoryDoes", spec := "memoryDoes", unfollowed := true, recurses := true, apart := false }
def MemoryDoesSaid : Prop := memoryDoesRow.holds Try.pinned (OpenSpec.ofChange memoryDoesSpec)

/-- ITS FALSE NEIGHBOUR: 'it returns false'. Refute it at one input. -/
def memoryDoesWrong : ChangeSpec := { name := "memoryDoes", fn := fun _ => fun
  | [d1, d2] => { results := [.lit (.bool false)], args := [d1, d2] }
  | _ => none }
def MemoryDoesWrongFalsely : Prop := memoryDoesRow.holds Try.pinned (OpenSpec.ofChange memoryDoesWrong)

/- THE SECOND FORM. 'bulk': how many values and letters a reading holds, each counted each time it is reached (what is shared counts as often as it is met; a slice's spare places count too). A statement '..UptoSaid' is the law's where the arguments, and the package variables that the reading takes, are together of bulk at most 1048576: NARROWER than '..Said'. Prove '..Said' where nothing that the law and all that it calls make is longer than what came in: it says more and counts as full. Else prove '..UptoSaid'. A law counts once. -/
mutual
def uptoBulk {H : Type} : DataW H → Nat
  | .lit (.string bytes) => bytes.length + 1
  | .lit _ => 1
  | .nil => 1
  | .ptr d => uptoBulk d + 1
  | .slice elems spare => uptoBulkAll elems + uptoBulkAll spare + 1
  | .agg parts => uptoBulkAll parts + 1
  | .iface _ d => uptoBulk d + 1
  | .map entries => uptoBulkEntries entries + 1
  | .held _ => 1
def uptoBulkAll {H : Type} : List (DataW H) → Nat
  | [] => 0
  | d :: r => uptoBulk d + uptoBulkAll r
def uptoBulkEntries {H : Type} : List (Lit × DataW H) → Nat
  | [] => 0
  | x :: r => uptoBulkEntry x + uptoBulkEntries r
def uptoBulkEntry {H : Type} : Lit × DataW H → Nat
  | (.string bytes, d) => bytes.length + uptoBulk d + 1
  | (_, d) => uptoBulk d + 1
 end
def uptoSmall : (H : Type) → List (DataW H) → Bool := fun _ ds => decide (uptoBulkAll ds ≤ 1048576)
def OpenSpec.upto (s : _root_.Go.ChangeSpec) : _root_.Go.OpenSpec := { _root_.Go.OpenSpec.ofChange s with cond := some uptoSmall }

/-- 'cloisterlaw2.MemoryLong', WHERE WHAT IT READS IS OF BULK AT MOST 1048576: true; the input reads as it did. -/
def memoryLongUptoRow : OpenClaim := { program := "ytenbkdmaiooldaa", sum := "4fc2ff366966bbf63500291618c81d06984d2cc945ac0d2b20f22962818ced84", func := "cloister/cloisterlaw2.MemoryLong", spec := "memoryLong", unfollowed := true, recurses := true, apart := false, narrowed := true }
def MemoryLongUptoSaid : Prop := memoryLongUptoRow.holds Try.pinned (OpenSpec.upto memoryLongSpec)

/-- 'cloisterlaw2.MemoryMany', WHERE WHAT IT READS IS OF BULK AT MOST 1048576: true; the input reads as it did. -/
def memoryManyUptoRow : OpenClaim := { program := "ytenbkdmaiooldaa", sum := "4fc2ff366966bbf63500291618c81d06984d2cc945ac0d2b20f22962818ced84", func := "cloister/cloisterlaw2.MemoryMany", spec := "memoryMany", unfollowed := true, recurses := true, apart := false, narrowed := true }
def MemoryManyUptoSaid : Prop := memoryManyUptoRow.holds Try.pinned (OpenSpec.upto memoryManySpec)

/-- 'cloisterlaw6.ArenaFar', WHERE WHAT IT READS IS OF BULK AT MOST 1048576: true; the input reads as it did. -/
def arenaFarUptoRow : OpenClaim := { program := "ytenbkdmaiooldaa", sum := "4fc2ff366966bbf63500291618c81d06984d2cc945ac0d2b20f22962818ced84", func := "cloister/cloisterlaw6.ArenaFar", spec := "arenaFar", unfollowed := true, recurses := true, apart := false, narrowed := true }
def ArenaFarUptoSaid : Prop := arenaFarUptoRow.holds Try.pinned (OpenSpec.upto arenaFarSpec)

/-- 'cloisterlaw6.ArenaDoes', WHERE WHAT IT READS IS OF BULK AT MOST 1048576: true; the input reads as it did. -/
def arenaDoesUptoRow : OpenClaim := { program := "ytenbkdmaiooldaa", sum := "4fc2ff366966bbf63500291618c81d06984d2cc945ac0d2b20f22962818ced84", func := "cloister/cloisterlaw6.ArenaDoes", spec := "arenaDoes", unfollowed := true, recurses := true, apart := false, narrowed := true }
def ArenaDoesUptoSaid : Prop := arenaDoesUptoRow.holds Try.pinned (OpenSpec.upto arenaDoesSpec)

/-- 'cloisterlaw6.ArenaApart', WHERE WHAT IT READS IS OF BULK AT MOST 1048576: true; the input reads as it did. -/
def arenaApartUptoRow : OpenClaim := { program := "ytenbkdmaiooldaa", sum := "4fc2ff366966bbf63500291618c81d06984d2cc945ac0d2b20f22962818ced84", func := "cloister/cloisterlaw6.ArenaApart", spec := "arenaApart", unfollowed := true, recurses := true, apart := false, narrowed := true }
def ArenaApartUptoSaid : Prop := arenaApartUptoRow.holds Try.pinned (OpenSpec.upto arenaApartSpec)

/-- 'cloisterlaw2.MemoryHolds', WHERE WHAT IT READS IS OF BULK AT MOST 1048576: true; the input reads as it did. -/
def memoryHoldsUptoRow : OpenClaim := { program := "ytenbkdmaiooldaa", sum := "4fc2ff366966bbf63500291618c81d06984d2cc945ac0d2b20f22962818ced84", func := "cloister/cloisterlaw2.MemoryHolds", spec := "memoryHolds", unfollowed := true, recurses := true, apart := false, narrowed := true }
def MemoryHoldsUptoSaid : Prop := memoryHoldsUptoRow.holds Try.pinned (OpenSpec.upto memoryHoldsSpec)

/-- 'cloisterlaw2.MemoryAgain', WHERE WHAT IT READS IS OF BULK AT MOST 1048576: true; the input reads as it did. -/
def memoryAgainUptoRow : OpenClaim := { program := "ytenbkdmaiooldaa", sum := "4fc2ff366966bbf63500291618c81d06984d2cc945ac0d2b20f22962818ced84", func := "cloister/cloisterlaw2.MemoryAgain", spec := "memoryAgain", unfollowed := true, recurses := true, apart := false, narrowed := true }
def MemoryAgainUptoSaid : Prop := memoryAgainUptoRow.holds Try.pinned (OpenSpec.upto memoryAgainSpec)

/-- 'cloisterlaw2.MemoryLate', WHERE WHAT IT READS IS OF BULK AT MOST 1048576: true; the input reads as it did. -/
def memoryLateUptoRow : OpenClaim := { program := "ytenbkdmaiooldaa", sum := "4fc2ff366966bbf63500291618c81d06984d2cc945ac0d2b20f22962818ced84", func := "cloister/cloisterlaw2.MemoryLate", spec := "memoryLate", unfollowed := true, recurses := true, apart := false, narrowed := true }
def MemoryLateUptoSaid : Prop := memoryLateUptoRow.holds Try.pinned (OpenSpec.upto memoryLateSpec)

/-- 'cloisterlaw2.MemoryDoes', WHERE WHAT IT READS IS OF BULK AT MOST 1048576: true; the input reads as it did. -/
def memoryDoesUptoRow : OpenClaim := { program := "ytenbkdmaiooldaa", sum := "4fc2ff366966bbf63500291618c81d06984d2cc945ac0d2b20f22962818ced84", func := "cloister/cloisterlaw2.MemoryDoes", spec := "memoryDoes", unfollowed := true, recurses := true, apart := false, narrowed := true }
def MemoryDoesUptoSaid : Prop := memoryDoesUptoRow.holds Try.pinned (OpenSpec.upto memoryDoesSpec)

end Rows
end Go.Proofs.Ytenbkdmaiooldaa
