/-
  DERIVED. GIVEN WITH THE SEED: THE CARDS: each row of YtlnifigbnpdemaaDoorRows.lean that lists a variable, with what it lists TIED to the program's text (the seventh form; the later family's looks); each row that meets fmt, with fmt's text TOLD by the authors' own Lean function (tested against real Go, not proved from fmt's source: count such statements apart). THE CARD IS WHAT COUNTS. Prove the row's statement (the work); the ties are given (YtlnifigbnpdemaaDoorTie.lean); close each card by the builder's one call (the guide's Derived/Test/ToyasCard.lean, 'card_holds'). Laid BY PROGRAM, IN A SANDBOX (cutbox-door.mjs). By AI agents, Wed Nov 11 2026. No macro, syntax, notation, axiom, sorry.
-/
import Derived.Test.YtlnifigbnpdemaaDoorRows
import GoSem.ClaimSeven
namespace Go.Proofs.YtlnifigbnpdemaaDoor
namespace Rows

/-- THE TIED CARD OF 'towlinelaw12.ScoreAlike'. -/
def scoreAlikeCard : Claim7 := { stood := { row := scoreAlikeRow, standIns := [], harness := (true, "6d2d3c1c4005a8a1b3d098e7157f5bc282cd4c7d744208458bc9d2660502fd2f"), looks := false }, kinds := [], alts := [], laidByText := true, laidKinds := [.data, .pinned], laidTests := true, laidLooks := .later }
def ScoreAlikeCardSaid : Prop := Claim7.holds Tryd.pinned (.plain (OpenSpec.ofChange scoreAlikeSpec)) scoreAlikeCard

/-- THE TIED CARD OF 'towlinelaw12.ScoreMoves'. -/
def scoreMovesCard : Claim7 := { stood := { row := scoreMovesRow, standIns := [], harness := (true, "6d2d3c1c4005a8a1b3d098e7157f5bc282cd4c7d744208458bc9d2660502fd2f"), looks := false }, kinds := [], alts := [], laidByText := true, laidKinds := [.data, .pinned], laidTests := true, laidLooks := .later }
def ScoreMovesCardSaid : Prop := Claim7.holds Tryd.pinned (.plain (OpenSpec.ofChange scoreMovesSpec)) scoreMovesCard

/-- THE TIED CARD OF 'towlinelaw12.ScoreOnce'. -/
def scoreOnceCard : Claim7 := { stood := { row := scoreOnceRow, standIns := [], harness := (true, "6d2d3c1c4005a8a1b3d098e7157f5bc282cd4c7d744208458bc9d2660502fd2f"), looks := false }, kinds := [], alts := [], laidByText := true, laidKinds := [.data, .pinned], laidTests := true, laidLooks := .later }
def ScoreOnceCardSaid : Prop := Claim7.holds Tryd.pinned (.plain (OpenSpec.ofChange scoreOnceSpec)) scoreOnceCard

/-- THE TIED CARD OF 'towlinelaw12.ScoreRange'. -/
def scoreRangeCard : Claim7 := { stood := { row := scoreRangeRow, standIns := [], harness := (true, "6d2d3c1c4005a8a1b3d098e7157f5bc282cd4c7d744208458bc9d2660502fd2f"), looks := false }, kinds := [], alts := [], laidByText := true, laidKinds := [.data, .pinned], laidTests := true, laidLooks := .later }
def ScoreRangeCardSaid : Prop := Claim7.holds Tryd.pinned (.plain (OpenSpec.ofChange scoreRangeSpec)) scoreRangeCard

/-- THE TIED CARD OF 'towlinelaw12.ScoreMiddle'. -/
def scoreMiddleCard : Claim7 := { stood := { row := scoreMiddleRow, standIns := [], harness := (true, "6d2d3c1c4005a8a1b3d098e7157f5bc282cd4c7d744208458bc9d2660502fd2f"), looks := false }, kinds := [], alts := [], laidByText := true, laidKinds := [.data, .pinned], laidTests := true, laidLooks := .later }
def ScoreMiddleCardSaid : Prop := Claim7.holds Tryd.pinned (.plain (OpenSpec.ofChange scoreMiddleSpec)) scoreMiddleCard

/-- THE SECOND FORM's CARD OF 'towlinelaw12.ScoreAlike'. -/
def scoreAlikeUptoCard : Claim7 := { stood := { row := scoreAlikeUptoRow, standIns := [], harness := (true, "6d2d3c1c4005a8a1b3d098e7157f5bc282cd4c7d744208458bc9d2660502fd2f"), looks := false }, kinds := [], alts := [], laidByText := true, laidKinds := [.data, .pinned], laidTests := true, laidLooks := .later }
def ScoreAlikeUptoCardSaid : Prop := Claim7.holds Tryd.pinned (.plain (OpenSpec.upto scoreAlikeSpec)) scoreAlikeUptoCard

/-- THE SECOND FORM's CARD OF 'towlinelaw12.ScoreMoves'. -/
def scoreMovesUptoCard : Claim7 := { stood := { row := scoreMovesUptoRow, standIns := [], harness := (true, "6d2d3c1c4005a8a1b3d098e7157f5bc282cd4c7d744208458bc9d2660502fd2f"), looks := false }, kinds := [], alts := [], laidByText := true, laidKinds := [.data, .pinned], laidTests := true, laidLooks := .later }
def ScoreMovesUptoCardSaid : Prop := Claim7.holds Tryd.pinned (.plain (OpenSpec.upto scoreMovesSpec)) scoreMovesUptoCard

/-- THE SECOND FORM's CARD OF 'towlinelaw12.ScoreOnce'. -/
def scoreOnceUptoCard : Claim7 := { stood := { row := scoreOnceUptoRow, standIns := [], harness := (true, "6d2d3c1c4005a8a1b3d098e7157f5bc282cd4c7d744208458bc9d2660502fd2f"), looks := false }, kinds := [], alts := [], laidByText := true, laidKinds := [.data, .pinned], laidTests := true, laidLooks := .later }
def ScoreOnceUptoCardSaid : Prop := Claim7.holds Tryd.pinned (.plain (OpenSpec.upto scoreOnceSpec)) scoreOnceUptoCard

/-- THE SECOND FORM's CARD OF 'towlinelaw12.ScoreRange'. -/
def scoreRangeUptoCard : Claim7 := { stood := { row := scoreRangeUptoRow, standIns := [], harness := (true, "6d2d3c1c4005a8a1b3d098e7157f5bc282cd4c7d744208458bc9d2660502fd2f"), looks := false }, kinds := [], alts := [], laidByText := true, laidKinds := [.data, .pinned], laidTests := true, laidLooks := .later }
def ScoreRangeUptoCardSaid : Prop := Claim7.holds Tryd.pinned (.plain (OpenSpec.upto scoreRangeSpec)) scoreRangeUptoCard

/-- THE SECOND FORM's CARD OF 'towlinelaw12.ScoreMiddle'. -/
def scoreMiddleUptoCard : Claim7 := { stood := { row := scoreMiddleUptoRow, standIns := [], harness := (true, "6d2d3c1c4005a8a1b3d098e7157f5bc282cd4c7d744208458bc9d2660502fd2f"), looks := false }, kinds := [], alts := [], laidByText := true, laidKinds := [.data, .pinned], laidTests := true, laidLooks := .later }
def ScoreMiddleUptoCardSaid : Prop := Claim7.holds Tryd.pinned (.plain (OpenSpec.upto scoreMiddleSpec)) scoreMiddleUptoCard
end Rows
end Go.Proofs.YtlnifigbnpdemaaDoor
