/-
  No cell of these rows narrows 'for every input' (looked for: loops, veiled, ifaces, maps, wideKeys, modest, calm, conditions, laid).
  DERIVED. THE GIVEN ROWS OF THIS SEAT. 6 by the template 'for every input the law returns true; each argument reads behind the call as it read before'; 0 by the template 'total and deterministic' (their statements: YtoeoablmcelohaaTotals.lean).
  GIVEN WITH THE SEED: the statements are not yours to turn. If you find one false, say at which input.
  Laid BY PROGRAM, IN A SANDBOX (cutbox-rows.mjs): the forced cells as the released guide's own fill.sh prints them over the translation 04fd55232be1dd87… (all of the seat's roots in one cut). By AI agents, Wed Nov 11 2026. No macro, syntax, notation, axiom, sorry.
-/
import Derived.Test.YtoeoablmcelohaaChecked
import GoSem.Claim
import GoSem.ClaimJoined
import GoSem.ClaimMapViews
import Derived.JoinedTies
import Derived.KernelRfl
namespace Go.Proofs.Ytoeoablmcelohaa
/- THE CELL 'sum', in the pinned program and in every row, IS THE sha256 OF THE DUMP (.gsa) THAT YtoeoablmcelohaaProg.lean LOADS. Nothing in Lean hashes anything: it is a label: what it is worth is what the hold of that sum in a sandbox is worth. -/
noncomputable def Try.pinned : Pinned := { name := "ytoeoablmcelohaa", sum := "04fd55232be1dd871f8867988388260c043aefd56531df503d5f46c592904ac9", checked := Try.checked }
namespace Rows
def none {H : Type} : Left H := { results := [], args := [] }

/-- 'towlinelaw10.DagOrder': WHATEVER THE INPUT: true; the input reads as it did. -/
def dagOrderSpec : ChangeSpec := { name := "dagOrder", fn := fun _ => fun
  | [d1, d2] => { results := [.lit (.bool true)], args := [d1, d2] }
  | _ => none }
def dagOrderRow : OpenClaim := { program := "ytoeoablmcelohaa", sum := "04fd55232be1dd871f8867988388260c043aefd56531df503d5f46c592904ac9", func := "towline/towlinelaw10.DagOrder", spec := "dagOrder", unfollowed := true, recurses := true, apart := false }
def DagOrderSaid : Prop := dagOrderRow.holds Try.pinned (OpenSpec.ofChange dagOrderSpec)

/-- ITS FALSE NEIGHBOUR: 'it returns false'. Refute it at one input. -/
def dagOrderWrong : ChangeSpec := { name := "dagOrder", fn := fun _ => fun
  | [d1, d2] => { results := [.lit (.bool false)], args := [d1, d2] }
  | _ => none }
def DagOrderWrongFalsely : Prop := dagOrderRow.holds Try.pinned (OpenSpec.ofChange dagOrderWrong)

/-- 'towlinelaw10.DagBases': WHATEVER THE INPUT: true; the input reads as it did. -/
def dagBasesSpec : ChangeSpec := { name := "dagBases", fn := fun _ => fun
  | [d1, d2, d3] => { results := [.lit (.bool true)], args := [d1, d2, d3] }
  | _ => none }
def dagBasesRow : OpenClaim := { program := "ytoeoablmcelohaa", sum := "04fd55232be1dd871f8867988388260c043aefd56531df503d5f46c592904ac9", func := "towline/towlinelaw10.DagBases", spec := "dagBases", unfollowed := true, recurses := true, apart := false }
def DagBasesSaid : Prop := dagBasesRow.holds Try.pinned (OpenSpec.ofChange dagBasesSpec)

/-- ITS FALSE NEIGHBOUR: 'it returns false'. Refute it at one input. -/
def dagBasesWrong : ChangeSpec := { name := "dagBases", fn := fun _ => fun
  | [d1, d2, d3] => { results := [.lit (.bool false)], args := [d1, d2, d3] }
  | _ => none }
def DagBasesWrongFalsely : Prop := dagBasesRow.holds Try.pinned (OpenSpec.ofChange dagBasesWrong)

/-- 'towlinelaw10.DagMissing': WHATEVER THE INPUT: true; the input reads as it did. -/
def dagMissingSpec : ChangeSpec := { name := "dagMissing", fn := fun _ => fun
  | [d1, d2, d3] => { results := [.lit (.bool true)], args := [d1, d2, d3] }
  | _ => none }
def dagMissingRow : OpenClaim := { program := "ytoeoablmcelohaa", sum := "04fd55232be1dd871f8867988388260c043aefd56531df503d5f46c592904ac9", func := "towline/towlinelaw10.DagMissing", spec := "dagMissing", unfollowed := true, recurses := true, apart := false }
def DagMissingSaid : Prop := dagMissingRow.holds Try.pinned (OpenSpec.ofChange dagMissingSpec)

/-- ITS FALSE NEIGHBOUR: 'it returns false'. Refute it at one input. -/
def dagMissingWrong : ChangeSpec := { name := "dagMissing", fn := fun _ => fun
  | [d1, d2, d3] => { results := [.lit (.bool false)], args := [d1, d2, d3] }
  | _ => none }
def DagMissingWrongFalsely : Prop := dagMissingRow.holds Try.pinned (OpenSpec.ofChange dagMissingWrong)

/-- 'towlinelaw10.DagTips': WHATEVER THE INPUT: true; the input reads as it did. -/
def dagTipsSpec : ChangeSpec := { name := "dagTips", fn := fun _ => fun
  | [d1, d2] => { results := [.lit (.bool true)], args := [d1, d2] }
  | _ => none }
def dagTipsRow : OpenClaim := { program := "ytoeoablmcelohaa", sum := "04fd55232be1dd871f8867988388260c043aefd56531df503d5f46c592904ac9", func := "towline/towlinelaw10.DagTips", spec := "dagTips", unfollowed := true, recurses := true, apart := false }
def DagTipsSaid : Prop := dagTipsRow.holds Try.pinned (OpenSpec.ofChange dagTipsSpec)

/-- ITS FALSE NEIGHBOUR: 'it returns false'. Refute it at one input. -/
def dagTipsWrong : ChangeSpec := { name := "dagTips", fn := fun _ => fun
  | [d1, d2] => { results := [.lit (.bool false)], args := [d1, d2] }
  | _ => none }
def DagTipsWrongFalsely : Prop := dagTipsRow.holds Try.pinned (OpenSpec.ofChange dagTipsWrong)

/-- 'towlinelaw10.DagGrows': WHATEVER THE INPUT: true; the input reads as it did. -/
def dagGrowsSpec : ChangeSpec := { name := "dagGrows", fn := fun _ => fun
  | [d1, d2, d3] => { results := [.lit (.bool true)], args := [d1, d2, d3] }
  | _ => none }
def dagGrowsRow : OpenClaim := { program := "ytoeoablmcelohaa", sum := "04fd55232be1dd871f8867988388260c043aefd56531df503d5f46c592904ac9", func := "towline/towlinelaw10.DagGrows", spec := "dagGrows", unfollowed := true, recurses := true, apart := false }
def DagGrowsSaid : Prop := dagGrowsRow.holds Try.pinned (OpenSpec.ofChange dagGrowsSpec)

/-- ITS FALSE NEIGHBOUR: 'it returns false'. Refute it at one input. -/
def dagGrowsWrong : ChangeSpec := { name := "dagGrows", fn := fun _ => fun
  | [d1, d2, d3] => { results := [.lit (.bool false)], args := [d1, d2, d3] }
  | _ => none }
def DagGrowsWrongFalsely : Prop := dagGrowsRow.holds Try.pinned (OpenSpec.ofChange dagGrowsWrong)

/-- 'towlinelaw10.DagAnswers': WHATEVER THE INPUT: true; the input reads as it did. -/
def dagAnswersSpec : ChangeSpec := { name := "dagAnswers", fn := fun _ => fun
  | [d1, d2] => { results := [.lit (.bool true)], args := [d1, d2] }
  | _ => none }
def dagAnswersRow : OpenClaim := { program := "ytoeoablmcelohaa", sum := "04fd55232be1dd871f8867988388260c043aefd56531df503d5f46c592904ac9", func := "towline/towlinelaw10.DagAnswers", spec := "dagAnswers", unfollowed := true, recurses := true, apart := false }
def DagAnswersSaid : Prop := dagAnswersRow.holds Try.pinned (OpenSpec.ofChange dagAnswersSpec)

/-- ITS FALSE NEIGHBOUR: 'it returns false'. Refute it at one input. -/
def dagAnswersWrong : ChangeSpec := { name := "dagAnswers", fn := fun _ => fun
  | [d1, d2] => { results := [.lit (.bool false)], args := [d1, d2] }
  | _ => none }
def DagAnswersWrongFalsely : Prop := dagAnswersRow.holds Try.pinned (OpenSpec.ofChange dagAnswersWrong)

/- THE SECOND FORM. 'bulk': how many values and letters a reading holds, each counted each time it is reached (what is shared counts as often as it is met; a slice's spare places count too). A statement '..UptoSaid' is the law's where the arguments, and the package variables that the reading takes, are together of bulk at most 1048576: NARROWER than '..Said'. Prove '..Said' where nothing that the law and all that it calls make is longer than what came in: it says more and counts as full. Else prove '..UptoSaid'. A law counts once. -/
mutual
def uptoBulk {H : Type} : DataW H → Nat
  | .lit (.string bytes) => bytes.length + 1
  | .lit _ => 1
  | .nil => 1
  | .ptr d => uptoBulk d + 1
  | .slice elems spare => uptoBulkAll elems + uptoBulkAll spare + 1
  | .agg parts => uptoBulkAll parts + 1
  | .iface _ d => uptoBulk d + 1
  | .map entries => uptoBulkEntries entries + 1
  | .held _ => 1
def uptoBulkAll {H : Type} : List (DataW H) → Nat
  | [] => 0
  | d :: r => uptoBulk d + uptoBulkAll r
def uptoBulkEntries {H : Type} : List (Lit × DataW H) → Nat
  | [] => 0
  | x :: r => uptoBulkEntry x + uptoBulkEntries r
def uptoBulkEntry {H : Type} : Lit × DataW H → Nat
  | (.string bytes, d) => bytes.length + uptoBulk d + 1
  | (_, d) => uptoBulk d + 1
 end
def uptoSmall : (H : Type) → List (DataW H) → Bool := fun _ ds => decide (uptoBulkAll ds ≤ 1048576)
def OpenSpec.upto (s : _root_.Go.ChangeSpec) : _root_.Go.OpenSpec := { _root_.Go.OpenSpec.ofChange s with cond := some uptoSmall }

/-- 'towlinelaw10.DagOrder', WHERE WHAT IT READS IS OF BULK AT MOST 1048576: true; the input reads as it did. -/
def dagOrderUptoRow : OpenClaim := { program := "ytoeoablmcelohaa", sum := "04fd55232be1dd871f8867988388260c043aefd56531df503d5f46c592904ac9", func := "towline/towlinelaw10.DagOrder", spec := "dagOrder", unfollowed := true, recurses := true, apart := false, narrowed := true }
def DagOrderUptoSaid : Prop := dagOrderUptoRow.holds Try.pinned (OpenSpec.upto dagOrderSpec)

/-- 'towlinelaw10.DagBases', WHERE WHAT IT READS IS OF BULK AT MOST 1048576: true; the input reads as it did. -/
def dagBasesUptoRow : OpenClaim := { program := "ytoeoablmcelohaa", sum := "04fd55232be1dd871f8867988388260c043aefd56531df503d5f46c592904ac9", func := "towline/towlinelaw10.DagBases", spec := "dagBases", unfollowed := true, recurses := true, apart := false, narrowed := true }
def DagBasesUptoSaid : Prop := dagBasesUptoRow.holds Try.pinned (OpenSpec.upto dagBasesSpec)

/-- 'towlinelaw10.DagMissing', WHERE WHAT IT READS IS OF BULK AT MOST 1048576: true; the input reads as it did. -/
def dagMissingUptoRow : OpenClaim := { program := "ytoeoablmcelohaa", sum := "04fd55232be1dd871f8867988388260c043aefd56531df503d5f46c592904ac9", func := "towline/towlinelaw10.DagMissing", spec := "dagMissing", unfollowed := true, recurses := true, apart := false, narrowed := true }
def DagMissingUptoSaid : Prop := dagMissingUptoRow.holds Try.pinned (OpenSpec.upto dagMissingSpec)

/-- 'towlinelaw10.DagTips', WHERE WHAT IT READS IS OF BULK AT MOST 1048576: true; the input reads as it did. -/
def dagTipsUptoRow : OpenClaim := { program := "ytoeoablmcelohaa", sum := "04fd55232be1dd871f8867988388260c043aefd56531df503d5f46c592904ac9", func := "towline/towlinelaw10.DagTips", spec := "dagTips", unfollowed := true, recurses := true, apart := false, narrowed := true }
def DagTipsUptoSaid : Prop := dagTipsUptoRow.holds Try.pinned (OpenSpec.upto dagTipsSpec)

/-- 'towlinelaw10.DagGrows', WHERE WHAT IT READS IS OF BULK AT MOST 1048576: true; the input reads as it did. -/
def dagGrowsUptoRow : OpenClaim := { program := "ytoeoablmcelohaa", sum := "04fd55232be1dd871f8867988388260c043aefd56531df503d5f46c592904ac9", func := "towline/towlinelaw10.DagGrows", spec := "dagGrows", unfollowed := true, recurses := true, apart := false, narrowed := true }
def DagGrowsUptoSaid : Prop := dagGrowsUptoRow.holds Try.pinned (OpenSpec.upto dagGrowsSpec)

/-- 'towlinelaw10.DagAnswers', WHERE WHAT IT READS IS OF BULK AT MOST 1048576: true; the input reads as it did. -/
def dagAnswersUptoRow : OpenClaim := { program := "ytoeoablmcelohaa", sum := "04fd55232be1dd871f8867988388260c043aefd56531df503d5f46c592904ac9", func := "towline/towlinelaw10.DagAnswers", spec := "dagAnswers", unfollowed := true, recurses := true, apart := false, narrowed := true }
def DagAnswersUptoSaid : Prop := dagAnswersUptoRow.holds Try.pinned (OpenSpec.upto dagAnswersSpec)

end Rows
end Go.Proofs.Ytoeoablmcelohaa
