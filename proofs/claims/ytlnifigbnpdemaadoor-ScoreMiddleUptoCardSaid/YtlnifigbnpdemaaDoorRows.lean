/-
  NARROWER THAN 'FOR EVERY INPUT', by the rows' own cells (each row's printed sentence says how): ScoreAlike: laid · ScoreMoves: laid · ScoreOnce: laid · ScoreRange: laid · ScoreMiddle: laid.
  DERIVED. THE GIVEN ROWS OF THIS SEAT. 5 by the template 'for every input the law returns true; each argument reads behind the call as it read before'; 0 by the template 'total and deterministic' (their statements: YtlnifigbnpdemaaDoorTotals.lean).
  GIVEN WITH THE SEED: the statements are not yours to turn. If you find one false, say at which input.
  Laid BY PROGRAM, IN A SANDBOX (cutbox-rows.mjs): the forced cells as the released guide's own fill.sh prints them over the translation 3a147fb314da36d2… (all of the seat's roots in one cut). By AI agents, Wed Nov 11 2026. No macro, syntax, notation, axiom, sorry.
-/
import Derived.Test.YtlnifigbnpdemaaDoorChecked
import GoSem.PinnedTables
import GoSem.Claim
import GoSem.ClaimJoined
import GoSem.ClaimMapViews
import Derived.JoinedTies
import Derived.KernelRfl
namespace Go.Proofs.YtlnifigbnpdemaaDoor
/- THE CELL 'sum', in the pinned program and in every row, IS THE sha256 OF THE DUMP (.gsa) THAT YtlnifigbnpdemaaDoorProg.lean LOADS. Nothing in Lean hashes anything: it is a label: what it is worth is what the hold of that sum in a sandbox is worth. -/
noncomputable def Tryd.pinned : Pinned := { name := "ytlnifigbnpdemaadoor", sum := "3a147fb314da36d26a141a1b593121a8bc66bd182ec44c4f45f4e7690727f621", checked := Tryd.checked }
namespace Rows
def none {H : Type} : Left H := { results := [], args := [] }

/- WHAT THE LISTED PACKAGE-LEVEL VARIABLES READ AS WHEN THE CALL BEGINS. Each datum BY PROGRAM (the guide's laid-datum.mjs) off the statement by which the dump's own 'gosem.cut.vars' lays the variable. In a bare row this is a premise. The card (YtlnifigbnpdemaaDoorCards.lean) ties it to the program's text. -/
def laid_unicode_utf8_acceptRanges {H : Type} : DataW H := .agg [.agg [.lit (.int .u8 128), .lit (.int .u8 191)], .agg [.lit (.int .u8 160), .lit (.int .u8 191)], .agg [.lit (.int .u8 128), .lit (.int .u8 159)], .agg [.lit (.int .u8 144), .lit (.int .u8 191)], .agg [.lit (.int .u8 128), .lit (.int .u8 143)], .agg [.lit (.int .u8 0), .lit (.int .u8 0)], .agg [.lit (.int .u8 0), .lit (.int .u8 0)], .agg [.lit (.int .u8 0), .lit (.int .u8 0)], .agg [.lit (.int .u8 0), .lit (.int .u8 0)], .agg [.lit (.int .u8 0), .lit (.int .u8 0)], .agg [.lit (.int .u8 0), .lit (.int .u8 0)], .agg [.lit (.int .u8 0), .lit (.int .u8 0)], .agg [.lit (.int .u8 0), .lit (.int .u8 0)], .agg [.lit (.int .u8 0), .lit (.int .u8 0)], .agg [.lit (.int .u8 0), .lit (.int .u8 0)], .agg [.lit (.int .u8 0), .lit (.int .u8 0)]]
/-- One of Go's own tables, pinned by name: the form's constant. -/
def laid_unicode_utf8_first : DataW Unit := Go.Pinned.utf8First

/-- 'towlinelaw12.ScoreAlike': WHATEVER THE INPUT: true; the input reads as it did. -/
def scoreAlikeSpec : ChangeSpec := { name := "scoreAlike", fn := fun _ => fun
  | [d1, d2] => { results := [.lit (.bool true)], args := [d1, d2] }
  | _ => none }
def scoreAlikeRow : OpenClaim := { program := "ytlnifigbnpdemaadoor", sum := "3a147fb314da36d26a141a1b593121a8bc66bd182ec44c4f45f4e7690727f621", func := "towline/towlinelaw12.ScoreAlike", spec := "scoreAlike", inPlace := ["math.Float64frombits", "math.Float64bits", "internal/bytealg.CountString", "internal/bytealg.IndexByteString", "internal/bytealg.IndexString"], unfollowed := true, recurses := true, named := ["unicode/utf8.first", "unicode/utf8.acceptRanges", "internal/bytealg.MaxLen"], apart := false, laid := [("unicode/utf8.acceptRanges", laid_unicode_utf8_acceptRanges), ("unicode/utf8.first", laid_unicode_utf8_first)] }
def ScoreAlikeSaid : Prop := scoreAlikeRow.holds Tryd.pinned (OpenSpec.ofChange scoreAlikeSpec)

/-- ITS FALSE NEIGHBOUR: 'it returns false'. Refute it at one input. -/
def scoreAlikeWrong : ChangeSpec := { name := "scoreAlike", fn := fun _ => fun
  | [d1, d2] => { results := [.lit (.bool false)], args := [d1, d2] }
  | _ => none }
def ScoreAlikeWrongFalsely : Prop := scoreAlikeRow.holds Tryd.pinned (OpenSpec.ofChange scoreAlikeWrong)

/-- 'towlinelaw12.ScoreMoves': WHATEVER THE INPUT: true; the input reads as it did. -/
def scoreMovesSpec : ChangeSpec := { name := "scoreMoves", fn := fun _ => fun
  | [d1, d2, d3] => { results := [.lit (.bool true)], args := [d1, d2, d3] }
  | _ => none }
def scoreMovesRow : OpenClaim := { program := "ytlnifigbnpdemaadoor", sum := "3a147fb314da36d26a141a1b593121a8bc66bd182ec44c4f45f4e7690727f621", func := "towline/towlinelaw12.ScoreMoves", spec := "scoreMoves", inPlace := ["math.Float64frombits", "math.Float64bits", "internal/bytealg.CountString", "internal/bytealg.IndexByteString", "internal/bytealg.IndexString"], unfollowed := true, recurses := true, named := ["unicode/utf8.first", "unicode/utf8.acceptRanges", "internal/bytealg.MaxLen"], apart := false, laid := [("unicode/utf8.acceptRanges", laid_unicode_utf8_acceptRanges), ("unicode/utf8.first", laid_unicode_utf8_first)] }
def ScoreMovesSaid : Prop := scoreMovesRow.holds Tryd.pinned (OpenSpec.ofChange scoreMovesSpec)

/-- ITS FALSE NEIGHBOUR: 'it returns false'. Refute it at one input. -/
def scoreMovesWrong : ChangeSpec := { name := "scoreMoves", fn := fun _ => fun
  | [d1, d2, d3] => { results := [.lit (.bool false)], args := [d1, d2, d3] }
  | _ => none }
def ScoreMovesWrongFalsely : Prop := scoreMovesRow.holds Tryd.pinned (OpenSpec.ofChange scoreMovesWrong)

/-- 'towlinelaw12.ScoreOnce': WHATEVER THE INPUT: true; the input reads as it did. -/
def scoreOnceSpec : ChangeSpec := { name := "scoreOnce", fn := fun _ => fun
  | [d1, d2, d3] => { results := [.lit (.bool true)], args := [d1, d2, d3] }
  | _ => none }
def scoreOnceRow : OpenClaim := { program := "ytlnifigbnpdemaadoor", sum := "3a147fb314da36d26a141a1b593121a8bc66bd182ec44c4f45f4e7690727f621", func := "towline/towlinelaw12.ScoreOnce", spec := "scoreOnce", inPlace := ["math.Float64frombits", "math.Float64bits", "internal/bytealg.CountString", "internal/bytealg.IndexByteString", "internal/bytealg.IndexString"], unfollowed := true, recurses := true, named := ["unicode/utf8.first", "unicode/utf8.acceptRanges", "internal/bytealg.MaxLen"], apart := false, laid := [("unicode/utf8.acceptRanges", laid_unicode_utf8_acceptRanges), ("unicode/utf8.first", laid_unicode_utf8_first)] }
def ScoreOnceSaid : Prop := scoreOnceRow.holds Tryd.pinned (OpenSpec.ofChange scoreOnceSpec)

/-- ITS FALSE NEIGHBOUR: 'it returns false'. Refute it at one input. -/
def scoreOnceWrong : ChangeSpec := { name := "scoreOnce", fn := fun _ => fun
  | [d1, d2, d3] => { results := [.lit (.bool false)], args := [d1, d2, d3] }
  | _ => none }
def ScoreOnceWrongFalsely : Prop := scoreOnceRow.holds Tryd.pinned (OpenSpec.ofChange scoreOnceWrong)

/-- 'towlinelaw12.ScoreRange': WHATEVER THE INPUT: true; the input reads as it did. -/
def scoreRangeSpec : ChangeSpec := { name := "scoreRange", fn := fun _ => fun
  | [d1, d2] => { results := [.lit (.bool true)], args := [d1, d2] }
  | _ => none }
def scoreRangeRow : OpenClaim := { program := "ytlnifigbnpdemaadoor", sum := "3a147fb314da36d26a141a1b593121a8bc66bd182ec44c4f45f4e7690727f621", func := "towline/towlinelaw12.ScoreRange", spec := "scoreRange", inPlace := ["math.Float64frombits", "math.Float64bits", "internal/bytealg.CountString", "internal/bytealg.IndexByteString", "internal/bytealg.IndexString"], unfollowed := true, recurses := true, named := ["unicode/utf8.first", "unicode/utf8.acceptRanges", "internal/bytealg.MaxLen"], apart := false, laid := [("unicode/utf8.acceptRanges", laid_unicode_utf8_acceptRanges), ("unicode/utf8.first", laid_unicode_utf8_first)] }
def ScoreRangeSaid : Prop := scoreRangeRow.holds Tryd.pinned (OpenSpec.ofChange scoreRangeSpec)

/-- ITS FALSE NEIGHBOUR: 'it returns false'. Refute it at one input. -/
def scoreRangeWrong : ChangeSpec := { name := "scoreRange", fn := fun _ => fun
  | [d1, d2] => { results := [.lit (.bool false)], args := [d1, d2] }
  | _ => none }
def ScoreRangeWrongFalsely : Prop := scoreRangeRow.holds Tryd.pinned (OpenSpec.ofChange scoreRangeWrong)

/-- 'towlinelaw12.ScoreMiddle': WHATEVER THE INPUT: true; the input reads as it did. -/
def scoreMiddleSpec : ChangeSpec := { name := "scoreMiddle", fn := fun _ => fun
  | [d1, d2] => { results := [.lit (.bool true)], args := [d1, d2] }
  | _ => none }
def scoreMiddleRow : OpenClaim := { program := "ytlnifigbnpdemaadoor", sum := "3a147fb314da36d26a141a1b593121a8bc66bd182ec44c4f45f4e7690727f621", func := "towline/towlinelaw12.ScoreMiddle", spec := "scoreMiddle", inPlace := ["math.Float64frombits", "math.Float64bits", "internal/bytealg.CountString", "internal/bytealg.IndexByteString", "internal/bytealg.IndexString"], unfollowed := true, recurses := true, named := ["unicode/utf8.first", "unicode/utf8.acceptRanges", "internal/bytealg.MaxLen"], apart := false, laid := [("unicode/utf8.acceptRanges", laid_unicode_utf8_acceptRanges), ("unicode/utf8.first", laid_unicode_utf8_first)] }
def ScoreMiddleSaid : Prop := scoreMiddleRow.holds Tryd.pinned (OpenSpec.ofChange scoreMiddleSpec)

/-- ITS FALSE NEIGHBOUR: 'it returns false'. Refute it at one input. -/
def scoreMiddleWrong : ChangeSpec := { name := "scoreMiddle", fn := fun _ => fun
  | [d1, d2] => { results := [.lit (.bool false)], args := [d1, d2] }
  | _ => none }
def ScoreMiddleWrongFalsely : Prop := scoreMiddleRow.holds Tryd.pinned (OpenSpec.ofChange scoreMiddleWrong)

/- THE SECOND FORM. 'bulk': how many values and letters a reading holds, each counted each time it is reached (what is shared counts as often as it is met; a slice's spare places count too). A statement '..UptoSaid' is the law's where the arguments, and the package variables that the reading takes, are together of bulk at most 1048576: NARROWER than '..Said'. Prove '..Said' where nothing that the law and all that it calls make is longer than what came in: it says more and counts as full. Else prove '..UptoSaid'. A law counts once. -/
mutual
def uptoBulk {H : Type} : DataW H → Nat
  | .lit (.string bytes) => bytes.length + 1
  | .lit _ => 1
  | .nil => 1
  | .ptr d => uptoBulk d + 1
  | .slice elems spare => uptoBulkAll elems + uptoBulkAll spare + 1
  | .agg parts => uptoBulkAll parts + 1
  | .iface _ d => uptoBulk d + 1
  | .map entries => uptoBulkEntries entries + 1
  | .held _ => 1
def uptoBulkAll {H : Type} : List (DataW H) → Nat
  | [] => 0
  | d :: r => uptoBulk d + uptoBulkAll r
def uptoBulkEntries {H : Type} : List (Lit × DataW H) → Nat
  | [] => 0
  | x :: r => uptoBulkEntry x + uptoBulkEntries r
def uptoBulkEntry {H : Type} : Lit × DataW H → Nat
  | (.string bytes, d) => bytes.length + uptoBulk d + 1
  | (_, d) => uptoBulk d + 1
 end
def uptoSmall : (H : Type) → List (DataW H) → Bool := fun _ ds => decide (uptoBulkAll ds ≤ 1048576)
def OpenSpec.upto (s : _root_.Go.ChangeSpec) : _root_.Go.OpenSpec := { _root_.Go.OpenSpec.ofChange s with cond := some uptoSmall }

/-- 'towlinelaw12.ScoreAlike', WHERE WHAT IT READS IS OF BULK AT MOST 1048576: true; the input reads as it did. -/
def scoreAlikeUptoRow : OpenClaim := { program := "ytlnifigbnpdemaadoor", sum := "3a147fb314da36d26a141a1b593121a8bc66bd182ec44c4f45f4e7690727f621", func := "towline/towlinelaw12.ScoreAlike", spec := "scoreAlike", inPlace := ["math.Float64frombits", "math.Float64bits", "internal/bytealg.CountString", "internal/bytealg.IndexByteString", "internal/bytealg.IndexString"], unfollowed := true, recurses := true, named := ["unicode/utf8.first", "unicode/utf8.acceptRanges", "internal/bytealg.MaxLen"], apart := false, laid := [("unicode/utf8.acceptRanges", laid_unicode_utf8_acceptRanges), ("unicode/utf8.first", laid_unicode_utf8_first)], narrowed := true }
def ScoreAlikeUptoSaid : Prop := scoreAlikeUptoRow.holds Tryd.pinned (OpenSpec.upto scoreAlikeSpec)

/-- 'towlinelaw12.ScoreMoves', WHERE WHAT IT READS IS OF BULK AT MOST 1048576: true; the input reads as it did. -/
def scoreMovesUptoRow : OpenClaim := { program := "ytlnifigbnpdemaadoor", sum := "3a147fb314da36d26a141a1b593121a8bc66bd182ec44c4f45f4e7690727f621", func := "towline/towlinelaw12.ScoreMoves", spec := "scoreMoves", inPlace := ["math.Float64frombits", "math.Float64bits", "internal/bytealg.CountString", "internal/bytealg.IndexByteString", "internal/bytealg.IndexString"], unfollowed := true, recurses := true, named := ["unicode/utf8.first", "unicode/utf8.acceptRanges", "internal/bytealg.MaxLen"], apart := false, laid := [("unicode/utf8.acceptRanges", laid_unicode_utf8_acceptRanges), ("unicode/utf8.first", laid_unicode_utf8_first)], narrowed := true }
def ScoreMovesUptoSaid : Prop := scoreMovesUptoRow.holds Tryd.pinned (OpenSpec.upto scoreMovesSpec)

/-- 'towlinelaw12.ScoreOnce', WHERE WHAT IT READS IS OF BULK AT MOST 1048576: true; the input reads as it did. -/
def scoreOnceUptoRow : OpenClaim := { program := "ytlnifigbnpdemaadoor", sum := "3a147fb314da36d26a141a1b593121a8bc66bd182ec44c4f45f4e7690727f621", func := "towline/towlinelaw12.ScoreOnce", spec := "scoreOnce", inPlace := ["math.Float64frombits", "math.Float64bits", "internal/bytealg.CountString", "internal/bytealg.IndexByteString", "internal/bytealg.IndexString"], unfollowed := true, recurses := true, named := ["unicode/utf8.first", "unicode/utf8.acceptRanges", "internal/bytealg.MaxLen"], apart := false, laid := [("unicode/utf8.acceptRanges", laid_unicode_utf8_acceptRanges), ("unicode/utf8.first", laid_unicode_utf8_first)], narrowed := true }
def ScoreOnceUptoSaid : Prop := scoreOnceUptoRow.holds Tryd.pinned (OpenSpec.upto scoreOnceSpec)

/-- 'towlinelaw12.ScoreRange', WHERE WHAT IT READS IS OF BULK AT MOST 1048576: true; the input reads as it did. -/
def scoreRangeUptoRow : OpenClaim := { program := "ytlnifigbnpdemaadoor", sum := "3a147fb314da36d26a141a1b593121a8bc66bd182ec44c4f45f4e7690727f621", func := "towline/towlinelaw12.ScoreRange", spec := "scoreRange", inPlace := ["math.Float64frombits", "math.Float64bits", "internal/bytealg.CountString", "internal/bytealg.IndexByteString", "internal/bytealg.IndexString"], unfollowed := true, recurses := true, named := ["unicode/utf8.first", "unicode/utf8.acceptRanges", "internal/bytealg.MaxLen"], apart := false, laid := [("unicode/utf8.acceptRanges", laid_unicode_utf8_acceptRanges), ("unicode/utf8.first", laid_unicode_utf8_first)], narrowed := true }
def ScoreRangeUptoSaid : Prop := scoreRangeUptoRow.holds Tryd.pinned (OpenSpec.upto scoreRangeSpec)

/-- 'towlinelaw12.ScoreMiddle', WHERE WHAT IT READS IS OF BULK AT MOST 1048576: true; the input reads as it did. -/
def scoreMiddleUptoRow : OpenClaim := { program := "ytlnifigbnpdemaadoor", sum := "3a147fb314da36d26a141a1b593121a8bc66bd182ec44c4f45f4e7690727f621", func := "towline/towlinelaw12.ScoreMiddle", spec := "scoreMiddle", inPlace := ["math.Float64frombits", "math.Float64bits", "internal/bytealg.CountString", "internal/bytealg.IndexByteString", "internal/bytealg.IndexString"], unfollowed := true, recurses := true, named := ["unicode/utf8.first", "unicode/utf8.acceptRanges", "internal/bytealg.MaxLen"], apart := false, laid := [("unicode/utf8.acceptRanges", laid_unicode_utf8_acceptRanges), ("unicode/utf8.first", laid_unicode_utf8_first)], narrowed := true }
def ScoreMiddleUptoSaid : Prop := scoreMiddleUptoRow.holds Tryd.pinned (OpenSpec.upto scoreMiddleSpec)

end Rows
end Go.Proofs.YtlnifigbnpdemaaDoor
