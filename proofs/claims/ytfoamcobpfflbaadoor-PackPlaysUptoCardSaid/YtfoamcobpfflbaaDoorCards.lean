/-
  DERIVED. GIVEN WITH THE SEED: THE CARDS: each row of YtfoamcobpfflbaaDoorRows.lean that lists a variable, with what it lists TIED to the program's text (the seventh form; the later family's looks); each row that meets fmt, with fmt's text TOLD by the authors' own Lean function (tested against real Go, not proved from fmt's source: count such statements apart). THE CARD IS WHAT COUNTS. Prove the row's statement (the work); the ties are given (YtfoamcobpfflbaaDoorTie.lean); close each card by the builder's one call (the guide's Derived/Test/ToyasCard.lean, 'card_holds'). Laid BY PROGRAM, IN A SANDBOX (cutbox-door.mjs). By AI agents, Wed Nov 11 2026. No macro, syntax, notation, axiom, sorry.
-/
import Derived.Test.YtfoamcobpfflbaaDoorRows
import GoSem.ClaimSeven
namespace Go.Proofs.YtfoamcobpfflbaaDoor
namespace Rows

/-- THE TIED CARD OF 'towlinelaw15.PackPlays'. -/
def packPlaysCard : Claim7 := { stood := { row := packPlaysRow, standIns := [], harness := (true, "66986799b58518c460e17b8536a349d0bd4ed76ac0fdcbfae1ad18a55c9e0eee"), looks := false }, kinds := [], alts := [], laidByText := true, laidKinds := [.data, .pinned], laidTests := true, laidLooks := .later }
def PackPlaysCardSaid : Prop := Claim7.holds Tryd.pinned (.plain (OpenSpec.ofChange packPlaysSpec)) packPlaysCard

/-- THE TIED CARD OF 'towlinelaw15.PackScans'. -/
def packScansCard : Claim7 := { stood := { row := packScansRow, standIns := [], harness := (true, "66986799b58518c460e17b8536a349d0bd4ed76ac0fdcbfae1ad18a55c9e0eee"), looks := false }, kinds := [], alts := [], laidByText := true, laidKinds := [.data, .pinned], laidTests := true, laidLooks := .later }
def PackScansCardSaid : Prop := Claim7.holds Tryd.pinned (.plain (OpenSpec.ofChange packScansSpec)) packScansCard

/-- THE TIED CARD OF 'towlinelaw15.PackOnce'. -/
def packOnceCard : Claim7 := { stood := { row := packOnceRow, standIns := [], harness := (true, "66986799b58518c460e17b8536a349d0bd4ed76ac0fdcbfae1ad18a55c9e0eee"), looks := false }, kinds := [], alts := [], laidByText := true, laidKinds := [.data, .pinned], laidTests := true, laidLooks := .later }
def PackOnceCardSaid : Prop := Claim7.holds Tryd.pinned (.plain (OpenSpec.ofChange packOnceSpec)) packOnceCard

/-- THE TIED CARD OF 'towlinelaw15.PackOrder'. -/
def packOrderCard : Claim7 := { stood := { row := packOrderRow, standIns := [], harness := (true, "66986799b58518c460e17b8536a349d0bd4ed76ac0fdcbfae1ad18a55c9e0eee"), looks := false }, kinds := [], alts := [], laidByText := true, laidKinds := [.data, .pinned], laidTests := true, laidLooks := .later }
def PackOrderCardSaid : Prop := Claim7.holds Tryd.pinned (.plain (OpenSpec.ofChange packOrderSpec)) packOrderCard

/-- THE TIED CARD OF 'towlinelaw14.VfsRename'. -/
def vfsRenameCard : Claim7 := { stood := { row := vfsRenameRow, standIns := [], harness := (true, "66986799b58518c460e17b8536a349d0bd4ed76ac0fdcbfae1ad18a55c9e0eee"), looks := false }, kinds := [], alts := [], laidByText := true, laidKinds := [.data, .pinned], laidTests := true, laidLooks := .later }
def VfsRenameCardSaid : Prop := Claim7.holds Tryd.pinned (.plain (OpenSpec.ofChange vfsRenameSpec)) vfsRenameCard

/-- THE TIED CARD OF 'towlinelaw14.VfsRoom'. -/
def vfsRoomCard : Claim7 := { stood := { row := vfsRoomRow, standIns := [], harness := (true, "66986799b58518c460e17b8536a349d0bd4ed76ac0fdcbfae1ad18a55c9e0eee"), looks := false }, kinds := [], alts := [], laidByText := true, laidKinds := [.data, .pinned], laidTests := true, laidLooks := .later }
def VfsRoomCardSaid : Prop := Claim7.holds Tryd.pinned (.plain (OpenSpec.ofChange vfsRoomSpec)) vfsRoomCard

/-- THE TIED CARD OF 'towlinelaw14.VfsPlays'. -/
def vfsPlaysCard : Claim7 := { stood := { row := vfsPlaysRow, standIns := [], harness := (true, "66986799b58518c460e17b8536a349d0bd4ed76ac0fdcbfae1ad18a55c9e0eee"), looks := false }, kinds := [], alts := [], laidByText := true, laidKinds := [.data, .pinned], laidTests := true, laidLooks := .later }
def VfsPlaysCardSaid : Prop := Claim7.holds Tryd.pinned (.plain (OpenSpec.ofChange vfsPlaysSpec)) vfsPlaysCard

/-- THE TIED CARD OF 'towlinelaw14.VfsStops'. -/
def vfsStopsCard : Claim7 := { stood := { row := vfsStopsRow, standIns := [], harness := (true, "66986799b58518c460e17b8536a349d0bd4ed76ac0fdcbfae1ad18a55c9e0eee"), looks := false }, kinds := [], alts := [], laidByText := true, laidKinds := [.data, .pinned], laidTests := true, laidLooks := .later }
def VfsStopsCardSaid : Prop := Claim7.holds Tryd.pinned (.plain (OpenSpec.ofChange vfsStopsSpec)) vfsStopsCard

/-- THE TIED CARD OF 'towlinelaw14.VfsSure'. -/
def vfsSureCard : Claim7 := { stood := { row := vfsSureRow, standIns := [], harness := (true, "66986799b58518c460e17b8536a349d0bd4ed76ac0fdcbfae1ad18a55c9e0eee"), looks := false }, kinds := [], alts := [], laidByText := true, laidKinds := [.data, .pinned], laidTests := true, laidLooks := .later }
def VfsSureCardSaid : Prop := Claim7.holds Tryd.pinned (.plain (OpenSpec.ofChange vfsSureSpec)) vfsSureCard

/-- THE TIED CARD OF 'towlinelaw14.VfsForks'. -/
def vfsForksCard : Claim7 := { stood := { row := vfsForksRow, standIns := [], harness := (true, "66986799b58518c460e17b8536a349d0bd4ed76ac0fdcbfae1ad18a55c9e0eee"), looks := false }, kinds := [], alts := [], laidByText := true, laidKinds := [.data, .pinned], laidTests := true, laidLooks := .later }
def VfsForksCardSaid : Prop := Claim7.holds Tryd.pinned (.plain (OpenSpec.ofChange vfsForksSpec)) vfsForksCard

/-- THE SECOND FORM's CARD OF 'towlinelaw15.PackPlays'. -/
def packPlaysUptoCard : Claim7 := { stood := { row := packPlaysUptoRow, standIns := [], harness := (true, "66986799b58518c460e17b8536a349d0bd4ed76ac0fdcbfae1ad18a55c9e0eee"), looks := false }, kinds := [], alts := [], laidByText := true, laidKinds := [.data, .pinned], laidTests := true, laidLooks := .later }
def PackPlaysUptoCardSaid : Prop := Claim7.holds Tryd.pinned (.plain (OpenSpec.upto packPlaysSpec)) packPlaysUptoCard

/-- THE SECOND FORM's CARD OF 'towlinelaw15.PackScans'. -/
def packScansUptoCard : Claim7 := { stood := { row := packScansUptoRow, standIns := [], harness := (true, "66986799b58518c460e17b8536a349d0bd4ed76ac0fdcbfae1ad18a55c9e0eee"), looks := false }, kinds := [], alts := [], laidByText := true, laidKinds := [.data, .pinned], laidTests := true, laidLooks := .later }
def PackScansUptoCardSaid : Prop := Claim7.holds Tryd.pinned (.plain (OpenSpec.upto packScansSpec)) packScansUptoCard

/-- THE SECOND FORM's CARD OF 'towlinelaw15.PackOnce'. -/
def packOnceUptoCard : Claim7 := { stood := { row := packOnceUptoRow, standIns := [], harness := (true, "66986799b58518c460e17b8536a349d0bd4ed76ac0fdcbfae1ad18a55c9e0eee"), looks := false }, kinds := [], alts := [], laidByText := true, laidKinds := [.data, .pinned], laidTests := true, laidLooks := .later }
def PackOnceUptoCardSaid : Prop := Claim7.holds Tryd.pinned (.plain (OpenSpec.upto packOnceSpec)) packOnceUptoCard

/-- THE SECOND FORM's CARD OF 'towlinelaw15.PackOrder'. -/
def packOrderUptoCard : Claim7 := { stood := { row := packOrderUptoRow, standIns := [], harness := (true, "66986799b58518c460e17b8536a349d0bd4ed76ac0fdcbfae1ad18a55c9e0eee"), looks := false }, kinds := [], alts := [], laidByText := true, laidKinds := [.data, .pinned], laidTests := true, laidLooks := .later }
def PackOrderUptoCardSaid : Prop := Claim7.holds Tryd.pinned (.plain (OpenSpec.upto packOrderSpec)) packOrderUptoCard

/-- THE SECOND FORM's CARD OF 'towlinelaw14.VfsRename'. -/
def vfsRenameUptoCard : Claim7 := { stood := { row := vfsRenameUptoRow, standIns := [], harness := (true, "66986799b58518c460e17b8536a349d0bd4ed76ac0fdcbfae1ad18a55c9e0eee"), looks := false }, kinds := [], alts := [], laidByText := true, laidKinds := [.data, .pinned], laidTests := true, laidLooks := .later }
def VfsRenameUptoCardSaid : Prop := Claim7.holds Tryd.pinned (.plain (OpenSpec.upto vfsRenameSpec)) vfsRenameUptoCard

/-- THE SECOND FORM's CARD OF 'towlinelaw14.VfsRoom'. -/
def vfsRoomUptoCard : Claim7 := { stood := { row := vfsRoomUptoRow, standIns := [], harness := (true, "66986799b58518c460e17b8536a349d0bd4ed76ac0fdcbfae1ad18a55c9e0eee"), looks := false }, kinds := [], alts := [], laidByText := true, laidKinds := [.data, .pinned], laidTests := true, laidLooks := .later }
def VfsRoomUptoCardSaid : Prop := Claim7.holds Tryd.pinned (.plain (OpenSpec.upto vfsRoomSpec)) vfsRoomUptoCard

/-- THE SECOND FORM's CARD OF 'towlinelaw14.VfsPlays'. -/
def vfsPlaysUptoCard : Claim7 := { stood := { row := vfsPlaysUptoRow, standIns := [], harness := (true, "66986799b58518c460e17b8536a349d0bd4ed76ac0fdcbfae1ad18a55c9e0eee"), looks := false }, kinds := [], alts := [], laidByText := true, laidKinds := [.data, .pinned], laidTests := true, laidLooks := .later }
def VfsPlaysUptoCardSaid : Prop := Claim7.holds Tryd.pinned (.plain (OpenSpec.upto vfsPlaysSpec)) vfsPlaysUptoCard

/-- THE SECOND FORM's CARD OF 'towlinelaw14.VfsStops'. -/
def vfsStopsUptoCard : Claim7 := { stood := { row := vfsStopsUptoRow, standIns := [], harness := (true, "66986799b58518c460e17b8536a349d0bd4ed76ac0fdcbfae1ad18a55c9e0eee"), looks := false }, kinds := [], alts := [], laidByText := true, laidKinds := [.data, .pinned], laidTests := true, laidLooks := .later }
def VfsStopsUptoCardSaid : Prop := Claim7.holds Tryd.pinned (.plain (OpenSpec.upto vfsStopsSpec)) vfsStopsUptoCard

/-- THE SECOND FORM's CARD OF 'towlinelaw14.VfsSure'. -/
def vfsSureUptoCard : Claim7 := { stood := { row := vfsSureUptoRow, standIns := [], harness := (true, "66986799b58518c460e17b8536a349d0bd4ed76ac0fdcbfae1ad18a55c9e0eee"), looks := false }, kinds := [], alts := [], laidByText := true, laidKinds := [.data, .pinned], laidTests := true, laidLooks := .later }
def VfsSureUptoCardSaid : Prop := Claim7.holds Tryd.pinned (.plain (OpenSpec.upto vfsSureSpec)) vfsSureUptoCard

/-- THE SECOND FORM's CARD OF 'towlinelaw14.VfsForks'. -/
def vfsForksUptoCard : Claim7 := { stood := { row := vfsForksUptoRow, standIns := [], harness := (true, "66986799b58518c460e17b8536a349d0bd4ed76ac0fdcbfae1ad18a55c9e0eee"), looks := false }, kinds := [], alts := [], laidByText := true, laidKinds := [.data, .pinned], laidTests := true, laidLooks := .later }
def VfsForksUptoCardSaid : Prop := Claim7.holds Tryd.pinned (.plain (OpenSpec.upto vfsForksSpec)) vfsForksUptoCard
end Rows
end Go.Proofs.YtfoamcobpfflbaaDoor
