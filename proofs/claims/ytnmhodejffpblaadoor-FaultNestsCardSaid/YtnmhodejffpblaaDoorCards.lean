/-
  DERIVED. GIVEN WITH THE SEED: THE CARDS: each row of YtnmhodejffpblaaDoorRows.lean that lists a variable, with what it lists TIED to the program's text (the seventh form; the later family's looks); each row that meets fmt, with fmt's text TOLD by the authors' own Lean function (tested against real Go, not proved from fmt's source: count such statements apart). THE CARD IS WHAT COUNTS. Prove the row's statement (the work); the ties are given (YtnmhodejffpblaaDoorTie.lean); close each card by the builder's one call (the guide's Derived/Test/ToyasCard.lean, 'card_holds'). Laid BY PROGRAM, IN A SANDBOX (cutbox-door.mjs). By AI agents, Wed Nov 11 2026. No macro, syntax, notation, axiom, sorry.
-/
import Derived.Test.YtnmhodejffpblaaDoorRows
import GoSem.ClaimSeven
namespace Go.Proofs.YtnmhodejffpblaaDoor
namespace Rows

/-- THE TIED CARD OF 'troupelaw01.FaultClasses'. -/
def faultClassesCard : Claim7 := { stood := { row := faultClassesRow, standIns := [], harness := (true, "7cec0bd666e3c7cb142b35b05b7ebfc7346b45bbcc60fab01aeb5c6317c94376"), looks := true }, kinds := [], alts := [], laidByText := true, laidKinds := [.handle], laidTests := true, laidLooks := .later }
def FaultClassesCardSaid : Prop := Claim7.holds Tryd.pinned (.plain (OpenSpec.ofChange faultClassesSpec)) faultClassesCard

/-- THE TIED CARD OF 'troupelaw01.FaultApart'. -/
def faultApartCard : Claim7 := { stood := { row := faultApartRow, standIns := [], harness := (true, "7cec0bd666e3c7cb142b35b05b7ebfc7346b45bbcc60fab01aeb5c6317c94376"), looks := true }, kinds := [], alts := [], laidByText := true, laidKinds := [.handle], laidTests := true, laidLooks := .later }
def FaultApartCardSaid : Prop := Claim7.holds Tryd.pinned (.plain (OpenSpec.ofChange faultApartSpec)) faultApartCard

/-- THE TIED CARD OF 'troupelaw01.FaultNests'. -/
def faultNestsCard : Claim7 := { stood := { row := faultNestsRow, standIns := [], harness := (true, "7cec0bd666e3c7cb142b35b05b7ebfc7346b45bbcc60fab01aeb5c6317c94376"), looks := true }, kinds := [], alts := [], laidByText := true, laidKinds := [.handle], laidTests := true, laidLooks := .later }
def FaultNestsCardSaid : Prop := Claim7.holds Tryd.pinned (.plain (OpenSpec.ofChange faultNestsSpec)) faultNestsCard

/-- THE SECOND FORM's CARD OF 'troupelaw01.FaultClasses'. -/
def faultClassesUptoCard : Claim7 := { stood := { row := faultClassesUptoRow, standIns := [], harness := (true, "7cec0bd666e3c7cb142b35b05b7ebfc7346b45bbcc60fab01aeb5c6317c94376"), looks := true }, kinds := [], alts := [], laidByText := true, laidKinds := [.handle], laidTests := true, laidLooks := .later }
def FaultClassesUptoCardSaid : Prop := Claim7.holds Tryd.pinned (.plain (OpenSpec.upto faultClassesSpec)) faultClassesUptoCard

/-- THE SECOND FORM's CARD OF 'troupelaw01.FaultApart'. -/
def faultApartUptoCard : Claim7 := { stood := { row := faultApartUptoRow, standIns := [], harness := (true, "7cec0bd666e3c7cb142b35b05b7ebfc7346b45bbcc60fab01aeb5c6317c94376"), looks := true }, kinds := [], alts := [], laidByText := true, laidKinds := [.handle], laidTests := true, laidLooks := .later }
def FaultApartUptoCardSaid : Prop := Claim7.holds Tryd.pinned (.plain (OpenSpec.upto faultApartSpec)) faultApartUptoCard

/-- THE SECOND FORM's CARD OF 'troupelaw01.FaultNests'. -/
def faultNestsUptoCard : Claim7 := { stood := { row := faultNestsUptoRow, standIns := [], harness := (true, "7cec0bd666e3c7cb142b35b05b7ebfc7346b45bbcc60fab01aeb5c6317c94376"), looks := true }, kinds := [], alts := [], laidByText := true, laidKinds := [.handle], laidTests := true, laidLooks := .later }
def FaultNestsUptoCardSaid : Prop := Claim7.holds Tryd.pinned (.plain (OpenSpec.upto faultNestsSpec)) faultNestsUptoCard
end Rows
end Go.Proofs.YtnmhodejffpblaaDoor
