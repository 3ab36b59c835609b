/-
  DERIVED. GIVEN WITH THE SEED: THE CARDS: each row of YtmcdfikkokbffaaDoorRows.lean that lists a variable, with what it lists TIED to the program's text (the seventh form; the later family's looks); each row that meets fmt, with fmt's text TOLD by the authors' own Lean function (tested against real Go, not proved from fmt's source: count such statements apart). THE CARD IS WHAT COUNTS. Prove the row's statement (the work); the ties are given (YtmcdfikkokbffaaDoorTie.lean); close each card by the builder's one call (the guide's Derived/Test/ToyasCard.lean, 'card_holds'). Laid BY PROGRAM, IN A SANDBOX (cutbox-door.mjs). By AI agents, Wed Nov 11 2026. No macro, syntax, notation, axiom, sorry.
-/
import Derived.Test.YtmcdfikkokbffaaDoorRows
import GoSem.ClaimSeven
namespace Go.Proofs.YtmcdfikkokbffaaDoor
namespace Rows

/-- THE TIED CARD OF 'towlinelaw05.PathOrder'. -/
def pathOrderCard : Claim7 := { stood := { row := pathOrderRow, standIns := [], harness := (true, "7c1ee5e1c6ccda2e9b4c78142af4d684ae46f295fff636ed6ce1032cfa010afb"), looks := false }, kinds := [], alts := [], laidByText := true, laidKinds := [.data, .pinned], laidTests := true, laidLooks := .later }
def PathOrderCardSaid : Prop := Claim7.holds Tryd.pinned (.plain (OpenSpec.ofChange pathOrderSpec)) pathOrderCard

/-- THE TIED CARD OF 'towlinelaw05.PathSorted'. -/
def pathSortedCard : Claim7 := { stood := { row := pathSortedRow, standIns := [], harness := (true, "7c1ee5e1c6ccda2e9b4c78142af4d684ae46f295fff636ed6ce1032cfa010afb"), looks := false }, kinds := [], alts := [], laidByText := true, laidKinds := [.data, .pinned], laidTests := true, laidLooks := .later }
def PathSortedCardSaid : Prop := Claim7.holds Tryd.pinned (.plain (OpenSpec.ofChange pathSortedSpec)) pathSortedCard

/-- THE TIED CARD OF 'towlinelaw05.PathLooks'. -/
def pathLooksCard : Claim7 := { stood := { row := pathLooksRow, standIns := [], harness := (true, "7c1ee5e1c6ccda2e9b4c78142af4d684ae46f295fff636ed6ce1032cfa010afb"), looks := false }, kinds := [], alts := [], laidByText := true, laidKinds := [.data, .pinned], laidTests := true, laidLooks := .later }
def PathLooksCardSaid : Prop := Claim7.holds Tryd.pinned (.plain (OpenSpec.ofChange pathLooksSpec)) pathLooksCard

/-- THE TIED CARD OF 'towlinelaw05.PathParts'. -/
def pathPartsCard : Claim7 := { stood := { row := pathPartsRow, standIns := [], harness := (true, "7c1ee5e1c6ccda2e9b4c78142af4d684ae46f295fff636ed6ce1032cfa010afb"), looks := false }, kinds := [], alts := [], laidByText := true, laidKinds := [.data, .pinned], laidTests := true, laidLooks := .later }
def PathPartsCardSaid : Prop := Claim7.holds Tryd.pinned (.plain (OpenSpec.ofChange pathPartsSpec)) pathPartsCard

/-- THE TIED CARD OF 'towlinelaw05.PathLists'. -/
def pathListsCard : Claim7 := { stood := { row := pathListsRow, standIns := [], harness := (true, "7c1ee5e1c6ccda2e9b4c78142af4d684ae46f295fff636ed6ce1032cfa010afb"), looks := false }, kinds := [], alts := [], laidByText := true, laidKinds := [.data, .pinned], laidTests := true, laidLooks := .later }
def PathListsCardSaid : Prop := Claim7.holds Tryd.pinned (.plain (OpenSpec.ofChange pathListsSpec)) pathListsCard

/-- THE TIED CARD OF 'towlinelaw05.PathClash'. -/
def pathClashCard : Claim7 := { stood := { row := pathClashRow, standIns := [], harness := (true, "7c1ee5e1c6ccda2e9b4c78142af4d684ae46f295fff636ed6ce1032cfa010afb"), looks := false }, kinds := [], alts := [], laidByText := true, laidKinds := [.data, .pinned], laidTests := true, laidLooks := .later }
def PathClashCardSaid : Prop := Claim7.holds Tryd.pinned (.plain (OpenSpec.ofChange pathClashSpec)) pathClashCard

/-- THE SECOND FORM's CARD OF 'towlinelaw05.PathOrder'. -/
def pathOrderUptoCard : Claim7 := { stood := { row := pathOrderUptoRow, standIns := [], harness := (true, "7c1ee5e1c6ccda2e9b4c78142af4d684ae46f295fff636ed6ce1032cfa010afb"), looks := false }, kinds := [], alts := [], laidByText := true, laidKinds := [.data, .pinned], laidTests := true, laidLooks := .later }
def PathOrderUptoCardSaid : Prop := Claim7.holds Tryd.pinned (.plain (OpenSpec.upto pathOrderSpec)) pathOrderUptoCard

/-- THE SECOND FORM's CARD OF 'towlinelaw05.PathSorted'. -/
def pathSortedUptoCard : Claim7 := { stood := { row := pathSortedUptoRow, standIns := [], harness := (true, "7c1ee5e1c6ccda2e9b4c78142af4d684ae46f295fff636ed6ce1032cfa010afb"), looks := false }, kinds := [], alts := [], laidByText := true, laidKinds := [.data, .pinned], laidTests := true, laidLooks := .later }
def PathSortedUptoCardSaid : Prop := Claim7.holds Tryd.pinned (.plain (OpenSpec.upto pathSortedSpec)) pathSortedUptoCard

/-- THE SECOND FORM's CARD OF 'towlinelaw05.PathLooks'. -/
def pathLooksUptoCard : Claim7 := { stood := { row := pathLooksUptoRow, standIns := [], harness := (true, "7c1ee5e1c6ccda2e9b4c78142af4d684ae46f295fff636ed6ce1032cfa010afb"), looks := false }, kinds := [], alts := [], laidByText := true, laidKinds := [.data, .pinned], laidTests := true, laidLooks := .later }
def PathLooksUptoCardSaid : Prop := Claim7.holds Tryd.pinned (.plain (OpenSpec.upto pathLooksSpec)) pathLooksUptoCard

/-- THE SECOND FORM's CARD OF 'towlinelaw05.PathParts'. -/
def pathPartsUptoCard : Claim7 := { stood := { row := pathPartsUptoRow, standIns := [], harness := (true, "7c1ee5e1c6ccda2e9b4c78142af4d684ae46f295fff636ed6ce1032cfa010afb"), looks := false }, kinds := [], alts := [], laidByText := true, laidKinds := [.data, .pinned], laidTests := true, laidLooks := .later }
def PathPartsUptoCardSaid : Prop := Claim7.holds Tryd.pinned (.plain (OpenSpec.upto pathPartsSpec)) pathPartsUptoCard

/-- THE SECOND FORM's CARD OF 'towlinelaw05.PathLists'. -/
def pathListsUptoCard : Claim7 := { stood := { row := pathListsUptoRow, standIns := [], harness := (true, "7c1ee5e1c6ccda2e9b4c78142af4d684ae46f295fff636ed6ce1032cfa010afb"), looks := false }, kinds := [], alts := [], laidByText := true, laidKinds := [.data, .pinned], laidTests := true, laidLooks := .later }
def PathListsUptoCardSaid : Prop := Claim7.holds Tryd.pinned (.plain (OpenSpec.upto pathListsSpec)) pathListsUptoCard

/-- THE SECOND FORM's CARD OF 'towlinelaw05.PathClash'. -/
def pathClashUptoCard : Claim7 := { stood := { row := pathClashUptoRow, standIns := [], harness := (true, "7c1ee5e1c6ccda2e9b4c78142af4d684ae46f295fff636ed6ce1032cfa010afb"), looks := false }, kinds := [], alts := [], laidByText := true, laidKinds := [.data, .pinned], laidTests := true, laidLooks := .later }
def PathClashUptoCardSaid : Prop := Claim7.holds Tryd.pinned (.plain (OpenSpec.upto pathClashSpec)) pathClashUptoCard
end Rows
end Go.Proofs.YtmcdfikkokbffaaDoor
