/-
  DERIVED. GIVEN WITH THE SEED: THE CARDS: each row of YtgmieehheoknbaaDoorRows.lean that lists a variable, with what it lists TIED to the program's text (the seventh form; the later family's looks); each row that meets fmt, with fmt's text TOLD by the authors' own Lean function (tested against real Go, not proved from fmt's source: count such statements apart). THE CARD IS WHAT COUNTS. Prove the row's statement (the work); the ties are given (YtgmieehheoknbaaDoorTie.lean); close each card by the builder's one call (the guide's Derived/Test/ToyasCard.lean, 'card_holds'). Laid BY PROGRAM, IN A SANDBOX (cutbox-door.mjs). By AI agents, Wed Nov 11 2026. No macro, syntax, notation, axiom, sorry.
-/
import Derived.Test.YtgmieehheoknbaaDoorRows
import GoSem.ClaimSeven
namespace Go.Proofs.YtgmieehheoknbaaDoor
namespace Rows

/-- THE TIED CARD OF 'troupelaw09.CodeRound'. -/
def codeRoundCard : Claim7 := { stood := { row := codeRoundRow, standIns := [], harness := (true, "9d0670ba0381e6acfcde0dd4eccac8e4bd52528c28dbb8ecca04d8cf32bea17c"), looks := true }, kinds := [], alts := [], laidByText := true, laidKinds := [.handle], laidTests := true, laidLooks := .later }
def CodeRoundCardSaid : Prop := Claim7.holds Tryd.pinned (.plain (OpenSpec.ofChange codeRoundSpec)) codeRoundCard

/-- THE TIED CARD OF 'troupelaw09.CodeCuts'. -/
def codeCutsCard : Claim7 := { stood := { row := codeCutsRow, standIns := [], harness := (true, "9d0670ba0381e6acfcde0dd4eccac8e4bd52528c28dbb8ecca04d8cf32bea17c"), looks := true }, kinds := [], alts := [], laidByText := true, laidKinds := [.handle], laidTests := true, laidLooks := .later }
def CodeCutsCardSaid : Prop := Claim7.holds Tryd.pinned (.plain (OpenSpec.ofChange codeCutsSpec)) codeCutsCard

/-- THE TIED CARD OF 'troupelaw09.CodeNumbers'. -/
def codeNumbersCard : Claim7 := { stood := { row := codeNumbersRow, standIns := [], harness := (true, "9d0670ba0381e6acfcde0dd4eccac8e4bd52528c28dbb8ecca04d8cf32bea17c"), looks := true }, kinds := [], alts := [], laidByText := true, laidKinds := [.handle], laidTests := true, laidLooks := .later }
def CodeNumbersCardSaid : Prop := Claim7.holds Tryd.pinned (.plain (OpenSpec.ofChange codeNumbersSpec)) codeNumbersCard

/-- THE TIED CARD OF 'troupelaw09.CodeFlips'. -/
def codeFlipsCard : Claim7 := { stood := { row := codeFlipsRow, standIns := [], harness := (true, "9d0670ba0381e6acfcde0dd4eccac8e4bd52528c28dbb8ecca04d8cf32bea17c"), looks := true }, kinds := [], alts := [], laidByText := true, laidKinds := [.handle], laidTests := true, laidLooks := .later }
def CodeFlipsCardSaid : Prop := Claim7.holds Tryd.pinned (.plain (OpenSpec.ofChange codeFlipsSpec)) codeFlipsCard

/-- THE TIED CARD OF 'troupelaw09.CodeDeep'. -/
def codeDeepCard : Claim7 := { stood := { row := codeDeepRow, standIns := [], harness := (true, "9d0670ba0381e6acfcde0dd4eccac8e4bd52528c28dbb8ecca04d8cf32bea17c"), looks := true }, kinds := [], alts := [], laidByText := true, laidKinds := [.handle], laidTests := true, laidLooks := .later }
def CodeDeepCardSaid : Prop := Claim7.holds Tryd.pinned (.plain (OpenSpec.ofChange codeDeepSpec)) codeDeepCard

/-- THE SECOND FORM's CARD OF 'troupelaw09.CodeRound'. -/
def codeRoundUptoCard : Claim7 := { stood := { row := codeRoundUptoRow, standIns := [], harness := (true, "9d0670ba0381e6acfcde0dd4eccac8e4bd52528c28dbb8ecca04d8cf32bea17c"), looks := true }, kinds := [], alts := [], laidByText := true, laidKinds := [.handle], laidTests := true, laidLooks := .later }
def CodeRoundUptoCardSaid : Prop := Claim7.holds Tryd.pinned (.plain (OpenSpec.upto codeRoundSpec)) codeRoundUptoCard

/-- THE SECOND FORM's CARD OF 'troupelaw09.CodeCuts'. -/
def codeCutsUptoCard : Claim7 := { stood := { row := codeCutsUptoRow, standIns := [], harness := (true, "9d0670ba0381e6acfcde0dd4eccac8e4bd52528c28dbb8ecca04d8cf32bea17c"), looks := true }, kinds := [], alts := [], laidByText := true, laidKinds := [.handle], laidTests := true, laidLooks := .later }
def CodeCutsUptoCardSaid : Prop := Claim7.holds Tryd.pinned (.plain (OpenSpec.upto codeCutsSpec)) codeCutsUptoCard

/-- THE SECOND FORM's CARD OF 'troupelaw09.CodeNumbers'. -/
def codeNumbersUptoCard : Claim7 := { stood := { row := codeNumbersUptoRow, standIns := [], harness := (true, "9d0670ba0381e6acfcde0dd4eccac8e4bd52528c28dbb8ecca04d8cf32bea17c"), looks := true }, kinds := [], alts := [], laidByText := true, laidKinds := [.handle], laidTests := true, laidLooks := .later }
def CodeNumbersUptoCardSaid : Prop := Claim7.holds Tryd.pinned (.plain (OpenSpec.upto codeNumbersSpec)) codeNumbersUptoCard

/-- THE SECOND FORM's CARD OF 'troupelaw09.CodeFlips'. -/
def codeFlipsUptoCard : Claim7 := { stood := { row := codeFlipsUptoRow, standIns := [], harness := (true, "9d0670ba0381e6acfcde0dd4eccac8e4bd52528c28dbb8ecca04d8cf32bea17c"), looks := true }, kinds := [], alts := [], laidByText := true, laidKinds := [.handle], laidTests := true, laidLooks := .later }
def CodeFlipsUptoCardSaid : Prop := Claim7.holds Tryd.pinned (.plain (OpenSpec.upto codeFlipsSpec)) codeFlipsUptoCard

/-- THE SECOND FORM's CARD OF 'troupelaw09.CodeDeep'. -/
def codeDeepUptoCard : Claim7 := { stood := { row := codeDeepUptoRow, standIns := [], harness := (true, "9d0670ba0381e6acfcde0dd4eccac8e4bd52528c28dbb8ecca04d8cf32bea17c"), looks := true }, kinds := [], alts := [], laidByText := true, laidKinds := [.handle], laidTests := true, laidLooks := .later }
def CodeDeepUptoCardSaid : Prop := Claim7.holds Tryd.pinned (.plain (OpenSpec.upto codeDeepSpec)) codeDeepUptoCard
end Rows
end Go.Proofs.YtgmieehheoknbaaDoor
