/-
  NARROWER THAN 'FOR EVERY INPUT', by the rows' own cells (each row's printed sentence says how): PackPlays: laid · PackScans: laid · PackOnce: laid · PackOrder: laid · VfsRename: laid · VfsRoom: laid · VfsPlays: laid · VfsStops: laid · VfsSure: laid · VfsForks: laid.
  DERIVED. THE GIVEN ROWS OF THIS SEAT. 10 by the template 'for every input the law returns true; each argument reads behind the call as it read before'; 0 by the template 'total and deterministic' (their statements: YtfoamcobpfflbaaDoorTotals.lean).
  GIVEN WITH THE SEED: the statements are not yours to turn. If you find one false, say at which input.
  Laid BY PROGRAM, IN A SANDBOX (cutbox-rows.mjs): the forced cells as the released guide's own fill.sh prints them over the translation babbcd647a70ff7b… (all of the seat's roots in one cut). By AI agents, Wed Nov 11 2026. No macro, syntax, notation, axiom, sorry.
-/
import Derived.Test.YtfoamcobpfflbaaDoorChecked
import GoSem.PinnedTables
import GoSem.Claim
import GoSem.ClaimJoined
import GoSem.ClaimMapViews
import Derived.JoinedTies
import Derived.KernelRfl
namespace Go.Proofs.YtfoamcobpfflbaaDoor
/- THE CELL 'sum', in the pinned program and in every row, IS THE sha256 OF THE DUMP (.gsa) THAT YtfoamcobpfflbaaDoorProg.lean LOADS. Nothing in Lean hashes anything: it is a label: what it is worth is what the hold of that sum in a sandbox is worth. -/
noncomputable def Tryd.pinned : Pinned := { name := "ytfoamcobpfflbaadoor", sum := "babbcd647a70ff7b76dad2ed7107266a670ba4cc3718dd0916c9a6831e867407", checked := Tryd.checked }
namespace Rows
def none {H : Type} : Left H := { results := [], args := [] }

/- WHAT THE LISTED PACKAGE-LEVEL VARIABLES READ AS WHEN THE CALL BEGINS. Each datum BY PROGRAM (the guide's laid-datum.mjs) off the statement by which the dump's own 'gosem.cut.vars' lays the variable. In a bare row this is a premise. The card (YtfoamcobpfflbaaDoorCards.lean) ties it to the program's text. -/
def laid_unicode_utf8_acceptRanges {H : Type} : DataW H := .agg [.agg [.lit (.int .u8 128), .lit (.int .u8 191)], .agg [.lit (.int .u8 160), .lit (.int .u8 191)], .agg [.lit (.int .u8 128), .lit (.int .u8 159)], .agg [.lit (.int .u8 144), .lit (.int .u8 191)], .agg [.lit (.int .u8 128), .lit (.int .u8 143)], .agg [.lit (.int .u8 0), .lit (.int .u8 0)], .agg [.lit (.int .u8 0), .lit (.int .u8 0)], .agg [.lit (.int .u8 0), .lit (.int .u8 0)], .agg [.lit (.int .u8 0), .lit (.int .u8 0)], .agg [.lit (.int .u8 0), .lit (.int .u8 0)], .agg [.lit (.int .u8 0), .lit (.int .u8 0)], .agg [.lit (.int .u8 0), .lit (.int .u8 0)], .agg [.lit (.int .u8 0), .lit (.int .u8 0)], .agg [.lit (.int .u8 0), .lit (.int .u8 0)], .agg [.lit (.int .u8 0), .lit (.int .u8 0)], .agg [.lit (.int .u8 0), .lit (.int .u8 0)]]
/-- One of Go's own tables, pinned by name: the form's constant. -/
def laid_unicode_utf8_first : DataW Unit := Go.Pinned.utf8First

/-- 'towlinelaw15.PackPlays': WHATEVER THE INPUT: true; the input reads as it did. -/
def packPlaysSpec : ChangeSpec := { name := "packPlays", fn := fun _ => fun
  | [d1, d2] => { results := [.lit (.bool true)], args := [d1, d2] }
  | _ => none }
def packPlaysRow : OpenClaim := { program := "ytfoamcobpfflbaadoor", sum := "babbcd647a70ff7b76dad2ed7107266a670ba4cc3718dd0916c9a6831e867407", func := "towline/towlinelaw15.PackPlays", spec := "packPlays", inPlace := ["internal/bytealg.CountString", "internal/bytealg.IndexByteString", "internal/bytealg.IndexString"], unfollowed := true, recurses := true, named := ["unicode/utf8.first", "unicode/utf8.acceptRanges", "internal/bytealg.MaxLen"], plainKeys := false, apart := false, laid := [("unicode/utf8.acceptRanges", laid_unicode_utf8_acceptRanges), ("unicode/utf8.first", laid_unicode_utf8_first)] }
def PackPlaysSaid : Prop := packPlaysRow.holds Tryd.pinned (OpenSpec.ofChange packPlaysSpec)

/-- ITS FALSE NEIGHBOUR: 'it returns false'. Refute it at one input. -/
def packPlaysWrong : ChangeSpec := { name := "packPlays", fn := fun _ => fun
  | [d1, d2] => { results := [.lit (.bool false)], args := [d1, d2] }
  | _ => none }
def PackPlaysWrongFalsely : Prop := packPlaysRow.holds Tryd.pinned (OpenSpec.ofChange packPlaysWrong)

/-- 'towlinelaw15.PackScans': WHATEVER THE INPUT: true; the input reads as it did. -/
def packScansSpec : ChangeSpec := { name := "packScans", fn := fun _ => fun
  | [d] => { results := [.lit (.bool true)], args := [d] }
  | _ => none }
def packScansRow : OpenClaim := { program := "ytfoamcobpfflbaadoor", sum := "babbcd647a70ff7b76dad2ed7107266a670ba4cc3718dd0916c9a6831e867407", func := "towline/towlinelaw15.PackScans", spec := "packScans", inPlace := ["internal/bytealg.CountString", "internal/bytealg.IndexByteString", "internal/bytealg.IndexString"], unfollowed := true, recurses := true, named := ["unicode/utf8.first", "unicode/utf8.acceptRanges", "internal/bytealg.MaxLen"], plainKeys := false, apart := false, laid := [("unicode/utf8.acceptRanges", laid_unicode_utf8_acceptRanges), ("unicode/utf8.first", laid_unicode_utf8_first)] }
def PackScansSaid : Prop := packScansRow.holds Tryd.pinned (OpenSpec.ofChange packScansSpec)

/-- ITS FALSE NEIGHBOUR: 'it returns false'. Refute it at one input. -/
def packScansWrong : ChangeSpec := { name := "packScans", fn := fun _ => fun
  | [d] => { results := [.lit (.bool false)], args := [d] }
  | _ => none }
def PackScansWrongFalsely : Prop := packScansRow.holds Tryd.pinned (OpenSpec.ofChange packScansWrong)

/-- 'towlinelaw15.PackOnce': WHATEVER THE INPUT: true; the input reads as it did. -/
def packOnceSpec : ChangeSpec := { name := "packOnce", fn := fun _ => fun
  | [d1, d2] => { results := [.lit (.bool true)], args := [d1, d2] }
  | _ => none }
def packOnceRow : OpenClaim := { program := "ytfoamcobpfflbaadoor", sum := "babbcd647a70ff7b76dad2ed7107266a670ba4cc3718dd0916c9a6831e867407", func := "towline/towlinelaw15.PackOnce", spec := "packOnce", inPlace := ["internal/bytealg.CountString", "internal/bytealg.IndexByteString", "internal/bytealg.IndexString"], unfollowed := true, recurses := true, named := ["unicode/utf8.first", "unicode/utf8.acceptRanges", "internal/bytealg.MaxLen"], plainKeys := false, apart := false, laid := [("unicode/utf8.acceptRanges", laid_unicode_utf8_acceptRanges), ("unicode/utf8.first", laid_unicode_utf8_first)] }
def PackOnceSaid : Prop := packOnceRow.holds Tryd.pinned (OpenSpec.ofChange packOnceSpec)

/-- ITS FALSE NEIGHBOUR: 'it returns false'. Refute it at one input. -/
def packOnceWrong : ChangeSpec := { name := "packOnce", fn := fun _ => fun
  | [d1, d2] => { results := [.lit (.bool false)], args := [d1, d2] }
  | _ => none }
def PackOnceWrongFalsely : Prop := packOnceRow.holds Tryd.pinned (OpenSpec.ofChange packOnceWrong)

/-- 'towlinelaw15.PackOrder': WHATEVER THE INPUT: true; the input reads as it did. -/
def packOrderSpec : ChangeSpec := { name := "packOrder", fn := fun _ => fun
  | [d1, d2] => { results := [.lit (.bool true)], args := [d1, d2] }
  | _ => none }
def packOrderRow : OpenClaim := { program := "ytfoamcobpfflbaadoor", sum := "babbcd647a70ff7b76dad2ed7107266a670ba4cc3718dd0916c9a6831e867407", func := "towline/towlinelaw15.PackOrder", spec := "packOrder", inPlace := ["internal/bytealg.CountString", "internal/bytealg.IndexByteString", "internal/bytealg.IndexString"], unfollowed := true, recurses := true, named := ["unicode/utf8.first", "unicode/utf8.acceptRanges", "internal/bytealg.MaxLen"], plainKeys := false, apart := false, laid := [("unicode/utf8.acceptRanges", laid_unicode_utf8_acceptRanges), ("unicode/utf8.first", laid_unicode_utf8_first)] }
def PackOrderSaid : Prop := packOrderRow.holds Tryd.pinned (OpenSpec.ofChange packOrderSpec)

/-- ITS FALSE NEIGHBOUR: 'it returns false'. Refute it at one input. -/
def packOrderWrong : ChangeSpec := { name := "packOrder", fn := fun _ => fun
  | [d1, d2] => { results := [.lit (.bool false)], args := [d1, d2] }
  | _ => none }
def PackOrderWrongFalsely : Prop := packOrderRow.holds Tryd.pinned (OpenSpec.ofChange packOrderWrong)

/-- 'towlinelaw14.VfsRename': WHATEVER THE INPUT: true; the input reads as it did. -/
def vfsRenameSpec : ChangeSpec := { name := "vfsRename", fn := fun _ => fun
  | [d1, d2, d3] => { results := [.lit (.bool true)], args := [d1, d2, d3] }
  | _ => none }
def vfsRenameRow : OpenClaim := { program := "ytfoamcobpfflbaadoor", sum := "babbcd647a70ff7b76dad2ed7107266a670ba4cc3718dd0916c9a6831e867407", func := "towline/towlinelaw14.VfsRename", spec := "vfsRename", inPlace := ["internal/bytealg.CountString", "internal/bytealg.IndexByteString", "internal/bytealg.IndexString"], unfollowed := true, recurses := true, named := ["unicode/utf8.first", "unicode/utf8.acceptRanges", "internal/bytealg.MaxLen"], plainKeys := false, apart := false, laid := [("unicode/utf8.acceptRanges", laid_unicode_utf8_acceptRanges), ("unicode/utf8.first", laid_unicode_utf8_first)] }
def VfsRenameSaid : Prop := vfsRenameRow.holds Tryd.pinned (OpenSpec.ofChange vfsRenameSpec)

/-- ITS FALSE NEIGHBOUR: 'it returns false'. Refute it at one input. -/
def vfsRenameWrong : ChangeSpec := { name := "vfsRename", fn := fun _ => fun
  | [d1, d2, d3] => { results := [.lit (.bool false)], args := [d1, d2, d3] }
  | _ => none }
def VfsRenameWrongFalsely : Prop := vfsRenameRow.holds Tryd.pinned (OpenSpec.ofChange vfsRenameWrong)

/-- 'towlinelaw14.VfsRoom': WHATEVER THE INPUT: true; the input reads as it did. -/
def vfsRoomSpec : ChangeSpec := { name := "vfsRoom", fn := fun _ => fun
  | [d1, d2] => { results := [.lit (.bool true)], args := [d1, d2] }
  | _ => none }
def vfsRoomRow : OpenClaim := { program := "ytfoamcobpfflbaadoor", sum := "babbcd647a70ff7b76dad2ed7107266a670ba4cc3718dd0916c9a6831e867407", func := "towline/towlinelaw14.VfsRoom", spec := "vfsRoom", inPlace := ["internal/bytealg.CountString", "internal/bytealg.IndexByteString", "internal/bytealg.IndexString"], unfollowed := true, recurses := true, named := ["unicode/utf8.first", "unicode/utf8.acceptRanges", "internal/bytealg.MaxLen"], plainKeys := false, apart := false, laid := [("unicode/utf8.acceptRanges", laid_unicode_utf8_acceptRanges), ("unicode/utf8.first", laid_unicode_utf8_first)] }
def VfsRoomSaid : Prop := vfsRoomRow.holds Tryd.pinned (OpenSpec.ofChange vfsRoomSpec)

/-- ITS FALSE NEIGHBOUR: 'it returns false'. Refute it at one input. -/
def vfsRoomWrong : ChangeSpec := { name := "vfsRoom", fn := fun _ => fun
  | [d1, d2] => { results := [.lit (.bool false)], args := [d1, d2] }
  | _ => none }
def VfsRoomWrongFalsely : Prop := vfsRoomRow.holds Tryd.pinned (OpenSpec.ofChange vfsRoomWrong)

/-- 'towlinelaw14.VfsPlays': WHATEVER THE INPUT: true; the input reads as it did. -/
def vfsPlaysSpec : ChangeSpec := { name := "vfsPlays", fn := fun _ => fun
  | [d1, d2] => { results := [.lit (.bool true)], args := [d1, d2] }
  | _ => none }
def vfsPlaysRow : OpenClaim := { program := "ytfoamcobpfflbaadoor", sum := "babbcd647a70ff7b76dad2ed7107266a670ba4cc3718dd0916c9a6831e867407", func := "towline/towlinelaw14.VfsPlays", spec := "vfsPlays", inPlace := ["internal/bytealg.CountString", "internal/bytealg.IndexByteString", "internal/bytealg.IndexString"], unfollowed := true, recurses := true, named := ["unicode/utf8.first", "unicode/utf8.acceptRanges", "internal/bytealg.MaxLen"], plainKeys := false, apart := false, laid := [("unicode/utf8.acceptRanges", laid_unicode_utf8_acceptRanges), ("unicode/utf8.first", laid_unicode_utf8_first)] }
def VfsPlaysSaid : Prop := vfsPlaysRow.holds Tryd.pinned (OpenSpec.ofChange vfsPlaysSpec)

/-- ITS FALSE NEIGHBOUR: 'it returns false'. Refute it at one input. -/
def vfsPlaysWrong : ChangeSpec := { name := "vfsPlays", fn := fun _ => fun
  | [d1, d2] => { results := [.lit (.bool false)], args := [d1, d2] }
  | _ => none }
def VfsPlaysWrongFalsely : Prop := vfsPlaysRow.holds Tryd.pinned (OpenSpec.ofChange vfsPlaysWrong)

/-- 'towlinelaw14.VfsStops': WHATEVER THE INPUT: true; the input reads as it did. -/
def vfsStopsSpec : ChangeSpec := { name := "vfsStops", fn := fun _ => fun
  | [d1, d2] => { results := [.lit (.bool true)], args := [d1, d2] }
  | _ => none }
def vfsStopsRow : OpenClaim := { program := "ytfoamcobpfflbaadoor", sum := "babbcd647a70ff7b76dad2ed7107266a670ba4cc3718dd0916c9a6831e867407", func := "towline/towlinelaw14.VfsStops", spec := "vfsStops", inPlace := ["internal/bytealg.CountString", "internal/bytealg.IndexByteString", "internal/bytealg.IndexString"], unfollowed := true, recurses := true, named := ["unicode/utf8.first", "unicode/utf8.acceptRanges", "internal/bytealg.MaxLen"], plainKeys := false, apart := false, laid := [("unicode/utf8.acceptRanges", laid_unicode_utf8_acceptRanges), ("unicode/utf8.first", laid_unicode_utf8_first)] }
def VfsStopsSaid : Prop := vfsStopsRow.holds Tryd.pinned (OpenSpec.ofChange vfsStopsSpec)

/-- ITS FALSE NEIGHBOUR: 'it returns false'. Refute it at one input. -/
def vfsStopsWrong : ChangeSpec := { name := "vfsStops", fn := fun _ => fun
  | [d1, d2] => { results := [.lit (.bool false)], args := [d1, d2] }
  | _ => none }
def VfsStopsWrongFalsely : Prop := vfsStopsRow.holds Tryd.pinned (OpenSpec.ofChange vfsStopsWrong)

/-- 'towlinelaw14.VfsSure': WHATEVER THE INPUT: true; the input reads as it did. -/
def vfsSureSpec : ChangeSpec := { name := "vfsSure", fn := fun _ => fun
  | [d1, d2, d3] => { results := [.lit (.bool true)], args := [d1, d2, d3] }
  | _ => none }
def vfsSureRow : OpenClaim := { program := "ytfoamcobpfflbaadoor", sum := "babbcd647a70ff7b76dad2ed7107266a670ba4cc3718dd0916c9a6831e867407", func := "towline/towlinelaw14.VfsSure", spec := "vfsSure", inPlace := ["internal/bytealg.CountString", "internal/bytealg.IndexByteString", "internal/bytealg.IndexString"], unfollowed := true, recurses := true, named := ["unicode/utf8.first", "unicode/utf8.acceptRanges", "internal/bytealg.MaxLen"], plainKeys := false, apart := false, laid := [("unicode/utf8.acceptRanges", laid_unicode_utf8_acceptRanges), ("unicode/utf8.first", laid_unicode_utf8_first)] }
def VfsSureSaid : Prop := vfsSureRow.holds Tryd.pinned (OpenSpec.ofChange vfsSureSpec)

/-- ITS FALSE NEIGHBOUR: 'it returns false'. Refute it at one input. -/
def vfsSureWrong : ChangeSpec := { name := "vfsSure", fn := fun _ => fun
  | [d1, d2, d3] => { results := [.lit (.bool false)], args := [d1, d2, d3] }
  | _ => none }
def VfsSureWrongFalsely : Prop := vfsSureRow.holds Tryd.pinned (OpenSpec.ofChange vfsSureWrong)

/-- 'towlinelaw14.VfsForks': WHATEVER THE INPUT: true; the input reads as it did. -/
def vfsForksSpec : ChangeSpec := { name := "vfsForks", fn := fun _ => fun
  | [d1, d2] => { results := [.lit (.bool true)], args := [d1, d2] }
  | _ => none }
def vfsForksRow : OpenClaim := { program := "ytfoamcobpfflbaadoor", sum := "babbcd647a70ff7b76dad2ed7107266a670ba4cc3718dd0916c9a6831e867407", func := "towline/towlinelaw14.VfsForks", spec := "vfsForks", inPlace := ["internal/bytealg.CountString", "internal/bytealg.IndexByteString", "internal/bytealg.IndexString"], unfollowed := true, recurses := true, named := ["unicode/utf8.first", "unicode/utf8.acceptRanges", "internal/bytealg.MaxLen"], plainKeys := false, apart := false, laid := [("unicode/utf8.acceptRanges", laid_unicode_utf8_acceptRanges), ("unicode/utf8.first", laid_unicode_utf8_first)] }
def VfsForksSaid : Prop := vfsForksRow.holds Tryd.pinned (OpenSpec.ofChange vfsForksSpec)

/-- ITS FALSE NEIGHBOUR: 'it returns false'. Refute it at one input. -/
def vfsForksWrong : ChangeSpec := { name := "vfsForks", fn := fun _ => fun
  | [d1, d2] => { results := [.lit (.bool false)], args := [d1, d2] }
  | _ => none }
def VfsForksWrongFalsely : Prop := vfsForksRow.holds Tryd.pinned (OpenSpec.ofChange vfsForksWrong)

/- THE SECOND FORM. 'bulk': how many values and letters a reading holds, each counted each time it is reached (what is shared counts as often as it is met; a slice's spare places count too). A statement '..UptoSaid' is the law's where the arguments, and the package variables that the reading takes, are together of bulk at most 1048576: NARROWER than '..Said'. Prove '..Said' where nothing that the law and all that it calls make is longer than what came in: it says more and counts as full. Else prove '..UptoSaid'. A law counts once. -/
mutual
def uptoBulk {H : Type} : DataW H → Nat
  | .lit (.string bytes) => bytes.length + 1
  | .lit _ => 1
  | .nil => 1
  | .ptr d => uptoBulk d + 1
  | .slice elems spare => uptoBulkAll elems + uptoBulkAll spare + 1
  | .agg parts => uptoBulkAll parts + 1
  | .iface _ d => uptoBulk d + 1
  | .map entries => uptoBulkEntries entries + 1
  | .held _ => 1
def uptoBulkAll {H : Type} : List (DataW H) → Nat
  | [] => 0
  | d :: r => uptoBulk d + uptoBulkAll r
def uptoBulkEntries {H : Type} : List (Lit × DataW H) → Nat
  | [] => 0
  | x :: r => uptoBulkEntry x + uptoBulkEntries r
def uptoBulkEntry {H : Type} : Lit × DataW H → Nat
  | (.string bytes, d) => bytes.length + uptoBulk d + 1
  | (_, d) => uptoBulk d + 1
 end
def uptoSmall : (H : Type) → List (DataW H) → Bool := fun _ ds => decide (uptoBulkAll ds ≤ 1048576)
def OpenSpec.upto (s : _root_.Go.ChangeSpec) : _root_.Go.OpenSpec := { _root_.Go.OpenSpec.ofChange s with cond := some uptoSmall }

/-- 'towlinelaw15.PackPlays', WHERE WHAT IT READS IS OF BULK AT MOST 1048576: true; the input reads as it did. -/
def packPlaysUptoRow : OpenClaim := { program := "ytfoamcobpfflbaadoor", sum := "babbcd647a70ff7b76dad2ed7107266a670ba4cc3718dd0916c9a6831e867407", func := "towline/towlinelaw15.PackPlays", spec := "packPlays", inPlace := ["internal/bytealg.CountString", "internal/bytealg.IndexByteString", "internal/bytealg.IndexString"], unfollowed := true, recurses := true, named := ["unicode/utf8.first", "unicode/utf8.acceptRanges", "internal/bytealg.MaxLen"], plainKeys := false, apart := false, laid := [("unicode/utf8.acceptRanges", laid_unicode_utf8_acceptRanges), ("unicode/utf8.first", laid_unicode_utf8_first)], narrowed := true }
def PackPlaysUptoSaid : Prop := packPlaysUptoRow.holds Tryd.pinned (OpenSpec.upto packPlaysSpec)

/-- 'towlinelaw15.PackScans', WHERE WHAT IT READS IS OF BULK AT MOST 1048576: true; the input reads as it did. -/
def packScansUptoRow : OpenClaim := { program := "ytfoamcobpfflbaadoor", sum := "babbcd647a70ff7b76dad2ed7107266a670ba4cc3718dd0916c9a6831e867407", func := "towline/towlinelaw15.PackScans", spec := "packScans", inPlace := ["internal/bytealg.CountString", "internal/bytealg.IndexByteString", "internal/bytealg.IndexString"], unfollowed := true, recurses := true, named := ["unicode/utf8.first", "unicode/utf8.acceptRanges", "internal/bytealg.MaxLen"], plainKeys := false, apart := false, laid := [("unicode/utf8.acceptRanges", laid_unicode_utf8_acceptRanges), ("unicode/utf8.first", laid_unicode_utf8_first)], narrowed := true }
def PackScansUptoSaid : Prop := packScansUptoRow.holds Tryd.pinned (OpenSpec.upto packScansSpec)

/-- 'towlinelaw15.PackOnce', WHERE WHAT IT READS IS OF BULK AT MOST 1048576: true; the input reads as it did. -/
def packOnceUptoRow : OpenClaim := { program := "ytfoamcobpfflbaadoor", sum := "babbcd647a70ff7b76dad2ed7107266a670ba4cc3718dd0916c9a6831e867407", func := "towline/towlinelaw15.PackOnce", spec := "packOnce", inPlace := ["internal/bytealg.CountString", "internal/bytealg.IndexByteString", "internal/bytealg.IndexString"], unfollowed := true, recurses := true, named := ["unicode/utf8.first", "unicode/utf8.acceptRanges", "internal/bytealg.MaxLen"], plainKeys := false, apart := false, laid := [("unicode/utf8.acceptRanges", laid_unicode_utf8_acceptRanges), ("unicode/utf8.first", laid_unicode_utf8_first)], narrowed := true }
def PackOnceUptoSaid : Prop := packOnceUptoRow.holds Tryd.pinned (OpenSpec.upto packOnceSpec)

/-- 'towlinelaw15.PackOrder', WHERE WHAT IT READS IS OF BULK AT MOST 1048576: true; the input reads as it did. -/
def packOrderUptoRow : OpenClaim := { program := "ytfoamcobpfflbaadoor", sum := "babbcd647a70ff7b76dad2ed7107266a670ba4cc3718dd0916c9a6831e867407", func := "towline/towlinelaw15.PackOrder", spec := "packOrder", inPlace := ["internal/bytealg.CountString", "internal/bytealg.IndexByteString", "internal/bytealg.IndexString"], unfollowed := true, recurses := true, named := ["unicode/utf8.first", "unicode/utf8.acceptRanges", "internal/bytealg.MaxLen"], plainKeys := false, apart := false, laid := [("unicode/utf8.acceptRanges", laid_unicode_utf8_acceptRanges), ("unicode/utf8.first", laid_unicode_utf8_first)], narrowed := true }
def PackOrderUptoSaid : Prop := packOrderUptoRow.holds Tryd.pinned (OpenSpec.upto packOrderSpec)

/-- 'towlinelaw14.VfsRename', WHERE WHAT IT READS IS OF BULK AT MOST 1048576: true; the input reads as it did. -/
def vfsRenameUptoRow : OpenClaim := { program := "ytfoamcobpfflbaadoor", sum := "babbcd647a70ff7b76dad2ed7107266a670ba4cc3718dd0916c9a6831e867407", func := "towline/towlinelaw14.VfsRename", spec := "vfsRename", inPlace := ["internal/bytealg.CountString", "internal/bytealg.IndexByteString", "internal/bytealg.IndexString"], unfollowed := true, recurses := true, named := ["unicode/utf8.first", "unicode/utf8.acceptRanges", "internal/bytealg.MaxLen"], plainKeys := false, apart := false, laid := [("unicode/utf8.acceptRanges", laid_unicode_utf8_acceptRanges), ("unicode/utf8.first", laid_unicode_utf8_first)], narrowed := true }
def VfsRenameUptoSaid : Prop := vfsRenameUptoRow.holds Tryd.pinned (OpenSpec.upto vfsRenameSpec)

/-- 'towlinelaw14.VfsRoom', WHERE WHAT IT READS IS OF BULK AT MOST 1048576: true; the input reads as it did. -/
def vfsRoomUptoRow : OpenClaim := { program := "ytfoamcobpfflbaadoor", sum := "babbcd647a70ff7b76dad2ed7107266a670ba4cc3718dd0916c9a6831e867407", func := "towline/towlinelaw14.VfsRoom", spec := "vfsRoom", inPlace := ["internal/bytealg.CountString", "internal/bytealg.IndexByteString", "internal/bytealg.IndexString"], unfollowed := true, recurses := true, named := ["unicode/utf8.first", "unicode/utf8.acceptRanges", "internal/bytealg.MaxLen"], plainKeys := false, apart := false, laid := [("unicode/utf8.acceptRanges", laid_unicode_utf8_acceptRanges), ("unicode/utf8.first", laid_unicode_utf8_first)], narrowed := true }
def VfsRoomUptoSaid : Prop := vfsRoomUptoRow.holds Tryd.pinned (OpenSpec.upto vfsRoomSpec)

/-- 'towlinelaw14.VfsPlays', WHERE WHAT IT READS IS OF BULK AT MOST 1048576: true; the input reads as it did. -/
def vfsPlaysUptoRow : OpenClaim := { program := "ytfoamcobpfflbaadoor", sum := "babbcd647a70ff7b76dad2ed7107266a670ba4cc3718dd0916c9a6831e867407", func := "towline/towlinelaw14.VfsPlays", spec := "vfsPlays", inPlace := ["internal/bytealg.CountString", "internal/bytealg.IndexByteString", "internal/bytealg.IndexString"], unfollowed := true, recurses := true, named := ["unicode/utf8.first", "unicode/utf8.acceptRanges", "internal/bytealg.MaxLen"], plainKeys := false, apart := false, laid := [("unicode/utf8.acceptRanges", laid_unicode_utf8_acceptRanges), ("unicode/utf8.first", laid_unicode_utf8_first)], narrowed := true }
def VfsPlaysUptoSaid : Prop := vfsPlaysUptoRow.holds Tryd.pinned (OpenSpec.upto vfsPlaysSpec)

/-- 'towlinelaw14.VfsStops', WHERE WHAT IT READS IS OF BULK AT MOST 1048576: true; the input reads as it did. -/
def vfsStopsUptoRow : OpenClaim := { program := "ytfoamcobpfflbaadoor", sum := "babbcd647a70ff7b76dad2ed7107266a670ba4cc3718dd0916c9a6831e867407", func := "towline/towlinelaw14.VfsStops", spec := "vfsStops", inPlace := ["internal/bytealg.CountString", "internal/bytealg.IndexByteString", "internal/bytealg.IndexString"], unfollowed := true, recurses := true, named := ["unicode/utf8.first", "unicode/utf8.acceptRanges", "internal/bytealg.MaxLen"], plainKeys := false, apart := false, laid := [("unicode/utf8.acceptRanges", laid_unicode_utf8_acceptRanges), ("unicode/utf8.first", laid_unicode_utf8_first)], narrowed := true }
def VfsStopsUptoSaid : Prop := vfsStopsUptoRow.holds Tryd.pinned (OpenSpec.upto vfsStopsSpec)

/-- 'towlinelaw14.VfsSure', WHERE WHAT IT READS IS OF BULK AT MOST 1048576: true; the input reads as it did. -/
def vfsSureUptoRow : OpenClaim := { program := "ytfoamcobpfflbaadoor", sum := "babbcd647a70ff7b76dad2ed7107266a670ba4cc3718dd0916c9a6831e867407", func := "towline/towlinelaw14.VfsSure", spec := "vfsSure", inPlace := ["internal/bytealg.CountString", "internal/bytealg.IndexByteString", "internal/bytealg.IndexString"], unfollowed := true, recurses := true, named := ["unicode/utf8.first", "unicode/utf8.acceptRanges", "internal/bytealg.MaxLen"], plainKeys := false, apart := false, laid := [("unicode/utf8.acceptRanges", laid_unicode_utf8_acceptRanges), ("unicode/utf8.first", laid_unicode_utf8_first)], narrowed := true }
def VfsSureUptoSaid : Prop := vfsSureUptoRow.holds Tryd.pinned (OpenSpec.upto vfsSureSpec)

/-- 'towlinelaw14.VfsForks', WHERE WHAT IT READS IS OF BULK AT MOST 1048576: true; the input reads as it did. -/
def vfsForksUptoRow : OpenClaim := { program := "ytfoamcobpfflbaadoor", sum := "babbcd647a70ff7b76dad2ed7107266a670ba4cc3718dd0916c9a6831e867407", func := "towline/towlinelaw14.VfsForks", spec := "vfsForks", inPlace := ["internal/bytealg.CountString", "internal/bytealg.IndexByteString", "internal/bytealg.IndexString"], unfollowed := true, recurses := true, named := ["unicode/utf8.first", "unicode/utf8.acceptRanges", "internal/bytealg.MaxLen"], plainKeys := false, apart := false, laid := [("unicode/utf8.acceptRanges", laid_unicode_utf8_acceptRanges), ("unicode/utf8.first", laid_unicode_utf8_first)], narrowed := true }
def VfsForksUptoSaid : Prop := vfsForksUptoRow.holds Tryd.pinned (OpenSpec.upto vfsForksSpec)

end Rows
end Go.Proofs.YtfoamcobpfflbaaDoor
