/-
  NARROWER THAN 'FOR EVERY INPUT', by the rows' own cells (each row's printed sentence says how): WireSums: laid · WireBursts: laid · WireWrites: laid · WireReads: laid · WireStays: laid · WireBack: laid · WireTurns: laid.
  DERIVED. THE GIVEN ROWS OF THIS SEAT. 7 by the template 'for every input the law returns true; each argument reads behind the call as it read before'; 0 by the template 'total and deterministic' (their statements: YtfihpiommicdbaaDoorTotals.lean).
  GIVEN WITH THE SEED: the statements are not yours to turn. If you find one false, say at which input.
  Laid BY PROGRAM, IN A SANDBOX (cutbox-rows.mjs): the forced cells as the released guide's own fill.sh prints them over the translation 10592ee920e61225… (all of the seat's roots in one cut). By AI agents, Wed Nov 11 2026. No macro, syntax, notation, axiom, sorry.
-/
import Derived.Test.YtfihpiommicdbaaDoorChecked
import GoSem.Claim
import GoSem.ClaimJoined
import GoSem.ClaimMapViews
import Derived.JoinedTies
import Derived.KernelRfl
namespace Go.Proofs.YtfihpiommicdbaaDoor
/- THE CELL 'sum', in the pinned program and in every row, IS THE sha256 OF THE DUMP (.gsa) THAT YtfihpiommicdbaaDoorProg.lean LOADS. Nothing in Lean hashes anything: it is a label: what it is worth is what the hold of that sum in a sandbox is worth. -/
noncomputable def Tryd.pinned : Pinned := { name := "ytfihpiommicdbaadoor", sum := "10592ee920e612257c0b0e47ce816acb23b2e5403ed8c7974334510e3cc3c5f3", checked := Tryd.checked }
namespace Rows
def none {H : Type} : Left H := { results := [], args := [] }

/- WHAT THE LISTED PACKAGE-LEVEL VARIABLES READ AS WHEN THE CALL BEGINS. Each datum BY PROGRAM (the guide's laid-datum.mjs) off the statement by which the dump's own 'gosem.cut.vars' lays the variable. In a bare row this is a premise. The card (YtfihpiommicdbaaDoorCards.lean) ties it to the program's text. -/
def laid_cloister_wire_table {H : Type} : DataW H := .agg [.lit (.int .u32 0), .lit (.int .u32 498536548), .lit (.int .u32 997073096), .lit (.int .u32 651767980), .lit (.int .u32 1994146192), .lit (.int .u32 1802195444), .lit (.int .u32 1303535960), .lit (.int .u32 1342533948), .lit (.int .u32 3988292384), .lit (.int .u32 4027552580), .lit (.int .u32 3604390888), .lit (.int .u32 3412177804), .lit (.int .u32 2607071920), .lit (.int .u32 2262029012), .lit (.int .u32 2685067896), .lit (.int .u32 3183342108)]

/-- 'cloisterlaw1.WireSums': WHATEVER THE INPUT: true; the input reads as it did. -/
def wireSumsSpec : ChangeSpec := { name := "wireSums", fn := fun _ => fun
  | [d] => { results := [.lit (.bool true)], args := [d] }
  | _ => none }
def wireSumsRow : OpenClaim := { program := "ytfihpiommicdbaadoor", sum := "10592ee920e612257c0b0e47ce816acb23b2e5403ed8c7974334510e3cc3c5f3", func := "cloister/cloisterlaw1.WireSums", spec := "wireSums", named := ["cloister/wire.table"], apart := false, laid := [("cloister/wire.table", laid_cloister_wire_table)] }
def WireSumsSaid : Prop := wireSumsRow.holds Tryd.pinned (OpenSpec.ofChange wireSumsSpec)

/-- ITS FALSE NEIGHBOUR: 'it returns false'. Refute it at one input. -/
def wireSumsWrong : ChangeSpec := { name := "wireSums", fn := fun _ => fun
  | [d] => { results := [.lit (.bool false)], args := [d] }
  | _ => none }
def WireSumsWrongFalsely : Prop := wireSumsRow.holds Tryd.pinned (OpenSpec.ofChange wireSumsWrong)

/-- 'cloisterlaw1.WireBursts': WHATEVER THE INPUT: true; the input reads as it did. -/
def wireBurstsSpec : ChangeSpec := { name := "wireBursts", fn := fun _ => fun
  | [d1, d2, d3] => { results := [.lit (.bool true)], args := [d1, d2, d3] }
  | _ => none }
def wireBurstsRow : OpenClaim := { program := "ytfihpiommicdbaadoor", sum := "10592ee920e612257c0b0e47ce816acb23b2e5403ed8c7974334510e3cc3c5f3", func := "cloister/cloisterlaw1.WireBursts", spec := "wireBursts", named := ["cloister/wire.table"], apart := false, laid := [("cloister/wire.table", laid_cloister_wire_table)] }
def WireBurstsSaid : Prop := wireBurstsRow.holds Tryd.pinned (OpenSpec.ofChange wireBurstsSpec)

/-- ITS FALSE NEIGHBOUR: 'it returns false'. Refute it at one input. -/
def wireBurstsWrong : ChangeSpec := { name := "wireBursts", fn := fun _ => fun
  | [d1, d2, d3] => { results := [.lit (.bool false)], args := [d1, d2, d3] }
  | _ => none }
def WireBurstsWrongFalsely : Prop := wireBurstsRow.holds Tryd.pinned (OpenSpec.ofChange wireBurstsWrong)

/-- 'cloisterlaw1.WireWrites': WHATEVER THE INPUT: true; the input reads as it did. -/
def wireWritesSpec : ChangeSpec := { name := "wireWrites", fn := fun _ => fun
  | [d1, d2] => { results := [.lit (.bool true)], args := [d1, d2] }
  | _ => none }
def wireWritesRow : OpenClaim := { program := "ytfihpiommicdbaadoor", sum := "10592ee920e612257c0b0e47ce816acb23b2e5403ed8c7974334510e3cc3c5f3", func := "cloister/cloisterlaw1.WireWrites", spec := "wireWrites", named := ["cloister/wire.table"], apart := false, laid := [("cloister/wire.table", laid_cloister_wire_table)] }
def WireWritesSaid : Prop := wireWritesRow.holds Tryd.pinned (OpenSpec.ofChange wireWritesSpec)

/-- ITS FALSE NEIGHBOUR: 'it returns false'. Refute it at one input. -/
def wireWritesWrong : ChangeSpec := { name := "wireWrites", fn := fun _ => fun
  | [d1, d2] => { results := [.lit (.bool false)], args := [d1, d2] }
  | _ => none }
def WireWritesWrongFalsely : Prop := wireWritesRow.holds Tryd.pinned (OpenSpec.ofChange wireWritesWrong)

/-- 'cloisterlaw1.WireReads': WHATEVER THE INPUT: true; the input reads as it did. -/
def wireReadsSpec : ChangeSpec := { name := "wireReads", fn := fun _ => fun
  | [d1, d2] => { results := [.lit (.bool true)], args := [d1, d2] }
  | _ => none }
def wireReadsRow : OpenClaim := { program := "ytfihpiommicdbaadoor", sum := "10592ee920e612257c0b0e47ce816acb23b2e5403ed8c7974334510e3cc3c5f3", func := "cloister/cloisterlaw1.WireReads", spec := "wireReads", unfollowed := true, recurses := true, named := ["cloister/wire.table"], apart := false, laid := [("cloister/wire.table", laid_cloister_wire_table)] }
def WireReadsSaid : Prop := wireReadsRow.holds Tryd.pinned (OpenSpec.ofChange wireReadsSpec)

/-- ITS FALSE NEIGHBOUR: 'it returns false'. Refute it at one input. -/
def wireReadsWrong : ChangeSpec := { name := "wireReads", fn := fun _ => fun
  | [d1, d2] => { results := [.lit (.bool false)], args := [d1, d2] }
  | _ => none }
def WireReadsWrongFalsely : Prop := wireReadsRow.holds Tryd.pinned (OpenSpec.ofChange wireReadsWrong)

/-- 'cloisterlaw1.WireStays': WHATEVER THE INPUT: true; the input reads as it did. -/
def wireStaysSpec : ChangeSpec := { name := "wireStays", fn := fun _ => fun
  | [d1, d2] => { results := [.lit (.bool true)], args := [d1, d2] }
  | _ => none }
def wireStaysRow : OpenClaim := { program := "ytfihpiommicdbaadoor", sum := "10592ee920e612257c0b0e47ce816acb23b2e5403ed8c7974334510e3cc3c5f3", func := "cloister/cloisterlaw1.WireStays", spec := "wireStays", unfollowed := true, recurses := true, named := ["cloister/wire.table"], apart := false, laid := [("cloister/wire.table", laid_cloister_wire_table)] }
def WireStaysSaid : Prop := wireStaysRow.holds Tryd.pinned (OpenSpec.ofChange wireStaysSpec)

/-- ITS FALSE NEIGHBOUR: 'it returns false'. Refute it at one input. -/
def wireStaysWrong : ChangeSpec := { name := "wireStays", fn := fun _ => fun
  | [d1, d2] => { results := [.lit (.bool false)], args := [d1, d2] }
  | _ => none }
def WireStaysWrongFalsely : Prop := wireStaysRow.holds Tryd.pinned (OpenSpec.ofChange wireStaysWrong)

/-- 'cloisterlaw1.WireBack': WHATEVER THE INPUT: true; the input reads as it did. -/
def wireBackSpec : ChangeSpec := { name := "wireBack", fn := fun _ => fun
  | [d] => { results := [.lit (.bool true)], args := [d] }
  | _ => none }
def wireBackRow : OpenClaim := { program := "ytfihpiommicdbaadoor", sum := "10592ee920e612257c0b0e47ce816acb23b2e5403ed8c7974334510e3cc3c5f3", func := "cloister/cloisterlaw1.WireBack", spec := "wireBack", unfollowed := true, recurses := true, named := ["cloister/wire.table"], apart := false, laid := [("cloister/wire.table", laid_cloister_wire_table)] }
def WireBackSaid : Prop := wireBackRow.holds Tryd.pinned (OpenSpec.ofChange wireBackSpec)

/-- ITS FALSE NEIGHBOUR: 'it returns false'. Refute it at one input. -/
def wireBackWrong : ChangeSpec := { name := "wireBack", fn := fun _ => fun
  | [d] => { results := [.lit (.bool false)], args := [d] }
  | _ => none }
def WireBackWrongFalsely : Prop := wireBackRow.holds Tryd.pinned (OpenSpec.ofChange wireBackWrong)

/-- 'cloisterlaw1.WireTurns': WHATEVER THE INPUT: true; the input reads as it did. -/
def wireTurnsSpec : ChangeSpec := { name := "wireTurns", fn := fun _ => fun
  | [d1, d2, d3, d4, d5] => { results := [.lit (.bool true)], args := [d1, d2, d3, d4, d5] }
  | _ => none }
def wireTurnsRow : OpenClaim := { program := "ytfihpiommicdbaadoor", sum := "10592ee920e612257c0b0e47ce816acb23b2e5403ed8c7974334510e3cc3c5f3", func := "cloister/cloisterlaw1.WireTurns", spec := "wireTurns", unfollowed := true, recurses := true, named := ["cloister/wire.table"], apart := false, laid := [("cloister/wire.table", laid_cloister_wire_table)] }
def WireTurnsSaid : Prop := wireTurnsRow.holds Tryd.pinned (OpenSpec.ofChange wireTurnsSpec)

/-- ITS FALSE NEIGHBOUR: 'it returns false'. Refute it at one input. -/
def wireTurnsWrong : ChangeSpec := { name := "wireTurns", fn := fun _ => fun
  | [d1, d2, d3, d4, d5] => { results := [.lit (.bool false)], args := [d1, d2, d3, d4, d5] }
  | _ => none }
def WireTurnsWrongFalsely : Prop := wireTurnsRow.holds Tryd.pinned (OpenSpec.ofChange wireTurnsWrong)

/- THE SECOND FORM. 'bulk': how many values and letters a reading holds, each counted each time it is reached (what is shared counts as often as it is met; a slice's spare places count too). A statement '..UptoSaid' is the law's where the arguments, and the package variables that the reading takes, are together of bulk at most 1048576: NARROWER than '..Said'. Prove '..Said' where nothing that the law and all that it calls make is longer than what came in: it says more and counts as full. Else prove '..UptoSaid'. A law counts once. -/
mutual
def uptoBulk {H : Type} : DataW H → Nat
  | .lit (.string bytes) => bytes.length + 1
  | .lit _ => 1
  | .nil => 1
  | .ptr d => uptoBulk d + 1
  | .slice elems spare => uptoBulkAll elems + uptoBulkAll spare + 1
  | .agg parts => uptoBulkAll parts + 1
  | .iface _ d => uptoBulk d + 1
  | .map entries => uptoBulkEntries entries + 1
  | .held _ => 1
def uptoBulkAll {H : Type} : List (DataW H) → Nat
  | [] => 0
  | d :: r => uptoBulk d + uptoBulkAll r
def uptoBulkEntries {H : Type} : List (Lit × DataW H) → Nat
  | [] => 0
  | x :: r => uptoBulkEntry x + uptoBulkEntries r
def uptoBulkEntry {H : Type} : Lit × DataW H → Nat
  | (.string bytes, d) => bytes.length + uptoBulk d + 1
  | (_, d) => uptoBulk d + 1
 end
def uptoSmall : (H : Type) → List (DataW H) → Bool := fun _ ds => decide (uptoBulkAll ds ≤ 1048576)
def OpenSpec.upto (s : _root_.Go.ChangeSpec) : _root_.Go.OpenSpec := { _root_.Go.OpenSpec.ofChange s with cond := some uptoSmall }

/-- 'cloisterlaw1.WireSums', WHERE WHAT IT READS IS OF BULK AT MOST 1048576: true; the input reads as it did. -/
def wireSumsUptoRow : OpenClaim := { program := "ytfihpiommicdbaadoor", sum := "10592ee920e612257c0b0e47ce816acb23b2e5403ed8c7974334510e3cc3c5f3", func := "cloister/cloisterlaw1.WireSums", spec := "wireSums", named := ["cloister/wire.table"], apart := false, laid := [("cloister/wire.table", laid_cloister_wire_table)], narrowed := true }
def WireSumsUptoSaid : Prop := wireSumsUptoRow.holds Tryd.pinned (OpenSpec.upto wireSumsSpec)

/-- 'cloisterlaw1.WireBursts', WHERE WHAT IT READS IS OF BULK AT MOST 1048576: true; the input reads as it did. -/
def wireBurstsUptoRow : OpenClaim := { program := "ytfihpiommicdbaadoor", sum := "10592ee920e612257c0b0e47ce816acb23b2e5403ed8c7974334510e3cc3c5f3", func := "cloister/cloisterlaw1.WireBursts", spec := "wireBursts", named := ["cloister/wire.table"], apart := false, laid := [("cloister/wire.table", laid_cloister_wire_table)], narrowed := true }
def WireBurstsUptoSaid : Prop := wireBurstsUptoRow.holds Tryd.pinned (OpenSpec.upto wireBurstsSpec)

/-- 'cloisterlaw1.WireWrites', WHERE WHAT IT READS IS OF BULK AT MOST 1048576: true; the input reads as it did. -/
def wireWritesUptoRow : OpenClaim := { program := "ytfihpiommicdbaadoor", sum := "10592ee920e612257c0b0e47ce816acb23b2e5403ed8c7974334510e3cc3c5f3", func := "cloister/cloisterlaw1.WireWrites", spec := "wireWrites", named := ["cloister/wire.table"], apart := false, laid := [("cloister/wire.table", laid_cloister_wire_table)], narrowed := true }
def WireWritesUptoSaid : Prop := wireWritesUptoRow.holds Tryd.pinned (OpenSpec.upto wireWritesSpec)

/-- 'cloisterlaw1.WireReads', WHERE WHAT IT READS IS OF BULK AT MOST 1048576: true; the input reads as it did. -/
def wireReadsUptoRow : OpenClaim := { program := "ytfihpiommicdbaadoor", sum := "10592ee920e612257c0b0e47ce816acb23b2e5403ed8c7974334510e3cc3c5f3", func := "cloister/cloisterlaw1.WireReads", spec := "wireReads", unfollowed := true, recurses := true, named := ["cloister/wire.table"], apart := false, laid := [("cloister/wire.table", laid_cloister_wire_table)], narrowed := true }
def WireReadsUptoSaid : Prop := wireReadsUptoRow.holds Tryd.pinned (OpenSpec.upto wireReadsSpec)

/-- 'cloisterlaw1.WireStays', WHERE WHAT IT READS IS OF BULK AT MOST 1048576: true; the input reads as it did. -/
def wireStaysUptoRow : OpenClaim := { program := "ytfihpiommicdbaadoor", sum := "10592ee920e612257c0b0e47ce816acb23b2e5403ed8c7974334510e3cc3c5f3", func := "cloister/cloisterlaw1.WireStays", spec := "wireStays", unfollowed := true, recurses := true, named := ["cloister/wire.table"], apart := false, laid := [("cloister/wire.table", laid_cloister_wire_table)], narrowed := true }
def WireStaysUptoSaid : Prop := wireStaysUptoRow.holds Tryd.pinned (OpenSpec.upto wireStaysSpec)

/-- 'cloisterlaw1.WireBack', WHERE WHAT IT READS IS OF BULK AT MOST 1048576: true; the input reads as it did. -/
def wireBackUptoRow : OpenClaim := { program := "ytfihpiommicdbaadoor", sum := "10592ee920e612257c0b0e47ce816acb23b2e5403ed8c7974334510e3cc3c5f3", func := "cloister/cloisterlaw1.WireBack", spec := "wireBack", unfollowed := true, recurses := true, named := ["cloister/wire.table"], apart := false, laid := [("cloister/wire.table", laid_cloister_wire_table)], narrowed := true }
def WireBackUptoSaid : Prop := wireBackUptoRow.holds Tryd.pinned (OpenSpec.upto wireBackSpec)

/-- 'cloisterlaw1.WireTurns', WHERE WHAT IT READS IS OF BULK AT MOST 1048576: true; the input reads as it did. -/
def wireTurnsUptoRow : OpenClaim := { program := "ytfihpiommicdbaadoor", sum := "10592ee920e612257c0b0e47ce816acb23b2e5403ed8c7974334510e3cc3c5f3", func := "cloister/cloisterlaw1.WireTurns", spec := "wireTurns", unfollowed := true, recurses := true, named := ["cloister/wire.table"], apart := false, laid := [("cloister/wire.table", laid_cloister_wire_table)], narrowed := true }
def WireTurnsUptoSaid : Prop := wireTurnsUptoRow.holds Tryd.pinned (OpenSpec.upto wireTurnsSpec)

end Rows
end Go.Proofs.YtfihpiommicdbaaDoor
