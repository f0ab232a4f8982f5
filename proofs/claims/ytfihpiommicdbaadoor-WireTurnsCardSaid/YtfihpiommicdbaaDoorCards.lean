/-
  DERIVED. GIVEN WITH THE SEED: THE CARDS: each row of YtfihpiommicdbaaDoorRows.lean that lists a variable, with what it lists TIED to the program's text (the seventh form; the later family's looks); each row that meets fmt, with fmt's text TOLD by the authors' own Lean function (tested against real Go, not proved from fmt's source: count such statements apart). THE CARD IS WHAT COUNTS. Prove the row's statement (the work); the ties are given (YtfihpiommicdbaaDoorTie.lean); close each card by the builder's one call (the guide's Derived/Test/ToyasCard.lean, 'card_holds'). Laid BY PROGRAM, IN A SANDBOX (cutbox-door.mjs). By AI agents, Wed Nov 11 2026. No macro, syntax, notation, axiom, sorry.
-/
import Derived.Test.YtfihpiommicdbaaDoorRows
import GoSem.ClaimSeven
namespace Go.Proofs.YtfihpiommicdbaaDoor
namespace Rows

/-- THE TIED CARD OF 'cloisterlaw1.WireSums'. -/
def wireSumsCard : Claim7 := { stood := { row := wireSumsRow, standIns := [], harness := (true, "d60ca488aabc57de2d0c3b219088ab38f583816525433bcca856a713ea8283a0"), looks := false }, kinds := [], alts := [], laidByText := true, laidKinds := [.data], laidTests := true, laidLooks := .later }
def WireSumsCardSaid : Prop := Claim7.holds Tryd.pinned (.plain (OpenSpec.ofChange wireSumsSpec)) wireSumsCard

/-- THE TIED CARD OF 'cloisterlaw1.WireBursts'. -/
def wireBurstsCard : Claim7 := { stood := { row := wireBurstsRow, standIns := [], harness := (true, "d60ca488aabc57de2d0c3b219088ab38f583816525433bcca856a713ea8283a0"), looks := false }, kinds := [], alts := [], laidByText := true, laidKinds := [.data], laidTests := true, laidLooks := .later }
def WireBurstsCardSaid : Prop := Claim7.holds Tryd.pinned (.plain (OpenSpec.ofChange wireBurstsSpec)) wireBurstsCard

/-- THE TIED CARD OF 'cloisterlaw1.WireWrites'. -/
def wireWritesCard : Claim7 := { stood := { row := wireWritesRow, standIns := [], harness := (true, "d60ca488aabc57de2d0c3b219088ab38f583816525433bcca856a713ea8283a0"), looks := false }, kinds := [], alts := [], laidByText := true, laidKinds := [.data], laidTests := true, laidLooks := .later }
def WireWritesCardSaid : Prop := Claim7.holds Tryd.pinned (.plain (OpenSpec.ofChange wireWritesSpec)) wireWritesCard

/-- THE TIED CARD OF 'cloisterlaw1.WireReads'. -/
def wireReadsCard : Claim7 := { stood := { row := wireReadsRow, standIns := [], harness := (true, "d60ca488aabc57de2d0c3b219088ab38f583816525433bcca856a713ea8283a0"), looks := false }, kinds := [], alts := [], laidByText := true, laidKinds := [.data], laidTests := true, laidLooks := .later }
def WireReadsCardSaid : Prop := Claim7.holds Tryd.pinned (.plain (OpenSpec.ofChange wireReadsSpec)) wireReadsCard

/-- THE TIED CARD OF 'cloisterlaw1.WireStays'. -/
def wireStaysCard : Claim7 := { stood := { row := wireStaysRow, standIns := [], harness := (true, "d60ca488aabc57de2d0c3b219088ab38f583816525433bcca856a713ea8283a0"), looks := false }, kinds := [], alts := [], laidByText := true, laidKinds := [.data], laidTests := true, laidLooks := .later }
def WireStaysCardSaid : Prop := Claim7.holds Tryd.pinned (.plain (OpenSpec.ofChange wireStaysSpec)) wireStaysCard

/-- THE TIED CARD OF 'cloisterlaw1.WireBack'. -/
def wireBackCard : Claim7 := { stood := { row := wireBackRow, standIns := [], harness := (true, "d60ca488aabc57de2d0c3b219088ab38f583816525433bcca856a713ea8283a0"), looks := false }, kinds := [], alts := [], laidByText := true, laidKinds := [.data], laidTests := true, laidLooks := .later }
def WireBackCardSaid : Prop := Claim7.holds Tryd.pinned (.plain (OpenSpec.ofChange wireBackSpec)) wireBackCard

/-- THE TIED CARD OF 'cloisterlaw1.WireTurns'. -/
def wireTurnsCard : Claim7 := { stood := { row := wireTurnsRow, standIns := [], harness := (true, "d60ca488aabc57de2d0c3b219088ab38f583816525433bcca856a713ea8283a0"), looks := false }, kinds := [], alts := [], laidByText := true, laidKinds := [.data], laidTests := true, laidLooks := .later }
def WireTurnsCardSaid : Prop := Claim7.holds Tryd.pinned (.plain (OpenSpec.ofChange wireTurnsSpec)) wireTurnsCard

/-- THE SECOND FORM's CARD OF 'cloisterlaw1.WireSums'. -/
def wireSumsUptoCard : Claim7 := { stood := { row := wireSumsUptoRow, standIns := [], harness := (true, "d60ca488aabc57de2d0c3b219088ab38f583816525433bcca856a713ea8283a0"), looks := false }, kinds := [], alts := [], laidByText := true, laidKinds := [.data], laidTests := true, laidLooks := .later }
def WireSumsUptoCardSaid : Prop := Claim7.holds Tryd.pinned (.plain (OpenSpec.upto wireSumsSpec)) wireSumsUptoCard

/-- THE SECOND FORM's CARD OF 'cloisterlaw1.WireBursts'. -/
def wireBurstsUptoCard : Claim7 := { stood := { row := wireBurstsUptoRow, standIns := [], harness := (true, "d60ca488aabc57de2d0c3b219088ab38f583816525433bcca856a713ea8283a0"), looks := false }, kinds := [], alts := [], laidByText := true, laidKinds := [.data], laidTests := true, laidLooks := .later }
def WireBurstsUptoCardSaid : Prop := Claim7.holds Tryd.pinned (.plain (OpenSpec.upto wireBurstsSpec)) wireBurstsUptoCard

/-- THE SECOND FORM's CARD OF 'cloisterlaw1.WireWrites'. -/
def wireWritesUptoCard : Claim7 := { stood := { row := wireWritesUptoRow, standIns := [], harness := (true, "d60ca488aabc57de2d0c3b219088ab38f583816525433bcca856a713ea8283a0"), looks := false }, kinds := [], alts := [], laidByText := true, laidKinds := [.data], laidTests := true, laidLooks := .later }
def WireWritesUptoCardSaid : Prop := Claim7.holds Tryd.pinned (.plain (OpenSpec.upto wireWritesSpec)) wireWritesUptoCard

/-- THE SECOND FORM's CARD OF 'cloisterlaw1.WireReads'. -/
def wireReadsUptoCard : Claim7 := { stood := { row := wireReadsUptoRow, standIns := [], harness := (true, "d60ca488aabc57de2d0c3b219088ab38f583816525433bcca856a713ea8283a0"), looks := false }, kinds := [], alts := [], laidByText := true, laidKinds := [.data], laidTests := true, laidLooks := .later }
def WireReadsUptoCardSaid : Prop := Claim7.holds Tryd.pinned (.plain (OpenSpec.upto wireReadsSpec)) wireReadsUptoCard

/-- THE SECOND FORM's CARD OF 'cloisterlaw1.WireStays'. -/
def wireStaysUptoCard : Claim7 := { stood := { row := wireStaysUptoRow, standIns := [], harness := (true, "d60ca488aabc57de2d0c3b219088ab38f583816525433bcca856a713ea8283a0"), looks := false }, kinds := [], alts := [], laidByText := true, laidKinds := [.data], laidTests := true, laidLooks := .later }
def WireStaysUptoCardSaid : Prop := Claim7.holds Tryd.pinned (.plain (OpenSpec.upto wireStaysSpec)) wireStaysUptoCard

/-- THE SECOND FORM's CARD OF 'cloisterlaw1.WireBack'. -/
def wireBackUptoCard : Claim7 := { stood := { row := wireBackUptoRow, standIns := [], harness := (true, "d60ca488aabc57de2d0c3b219088ab38f583816525433bcca856a713ea8283a0"), looks := false }, kinds := [], alts := [], laidByText := true, laidKinds := [.data], laidTests := true, laidLooks := .later }
def WireBackUptoCardSaid : Prop := Claim7.holds Tryd.pinned (.plain (OpenSpec.upto wireBackSpec)) wireBackUptoCard

/-- THE SECOND FORM's CARD OF 'cloisterlaw1.WireTurns'. -/
def wireTurnsUptoCard : Claim7 := { stood := { row := wireTurnsUptoRow, standIns := [], harness := (true, "d60ca488aabc57de2d0c3b219088ab38f583816525433bcca856a713ea8283a0"), looks := false }, kinds := [], alts := [], laidByText := true, laidKinds := [.data], laidTests := true, laidLooks := .later }
def WireTurnsUptoCardSaid : Prop := Claim7.holds Tryd.pinned (.plain (OpenSpec.upto wireTurnsSpec)) wireTurnsUptoCard
end Rows
end Go.Proofs.YtfihpiommicdbaaDoor
