/-
  DERIVED. GIVEN WITH THE SEED: THE CARDS: each row of YtgdlpgakhhebeaaGreatDoorRows.lean that lists a variable, with what it lists TIED to the program's text (the seventh form; the later family's looks); each row that meets fmt, with fmt's text TOLD by the authors' own Lean function (tested against real Go, not proved from fmt's source: count such statements apart). THE CARD IS WHAT COUNTS. Prove the row's statement (the work); the ties are given (YtgdlpgakhhebeaaGreatDoorTie.lean); close each card by the builder's one call (the guide's Derived/Test/ToyasCard.lean, 'card_holds'). Laid BY PROGRAM, IN A SANDBOX (cutbox-door.mjs). By AI agents, Wed Nov 11 2026. No macro, syntax, notation, axiom, sorry.
-/
import Derived.Test.YtgdlpgakhhebeaaGreatDoorRows
import GoSem.ClaimSeven
namespace Go.Proofs.YtgdlpgakhhebeaaGreatDoor
namespace Rows

/-- THE TIED CARD OF 'cuneiformtop.TopChunks'. -/
def topChunksCard : Claim7 := { stood := { row := topChunksRow, standIns := [], harness := (true, "32107ffe686e6a2387bb74a8d894d867dfc0772e7f19b080bf001885585f78cd"), looks := true }, kinds := [], alts := [], laidByText := true, laidKinds := [.data, .data, .data, .data, .sentinel, .sentinel, .pinned], laidTests := true, laidLooks := .later }
def TopChunksCardSaid : Prop := Claim7.holds Tryz.pinned (.plain (OpenSpec.ofChange topChunksSpec)) topChunksCard

/-- THE TIED CARD OF 'cuneiformtop.TopOnce'. -/
def topOnceCard : Claim7 := { stood := { row := topOnceRow, standIns := [], harness := (true, "32107ffe686e6a2387bb74a8d894d867dfc0772e7f19b080bf001885585f78cd"), looks := true }, kinds := [], alts := [], laidByText := true, laidKinds := [.data, .data, .data, .data, .sentinel, .sentinel, .pinned], laidTests := true, laidLooks := .later }
def TopOnceCardSaid : Prop := Claim7.holds Tryz.pinned (.plain (OpenSpec.ofChange topOnceSpec)) topOnceCard

/-- THE TIED CARD OF 'cuneiformtop.TopClean'. -/
def topCleanCard : Claim7 := { stood := { row := topCleanRow, standIns := [], harness := (true, "32107ffe686e6a2387bb74a8d894d867dfc0772e7f19b080bf001885585f78cd"), looks := true }, kinds := [], alts := [], laidByText := true, laidKinds := [.data, .data, .data, .data, .sentinel, .sentinel, .pinned], laidTests := true, laidLooks := .later }
def TopCleanCardSaid : Prop := Claim7.holds Tryz.pinned (.plain (OpenSpec.ofChange topCleanSpec)) topCleanCard

/-- THE TIED CARD OF 'cuneiformtop.TopWire'. -/
def topWireCard : Claim7 := { stood := { row := topWireRow, standIns := [], harness := (true, "32107ffe686e6a2387bb74a8d894d867dfc0772e7f19b080bf001885585f78cd"), looks := true }, kinds := [], alts := [], laidByText := true, laidKinds := [.data, .data, .data, .data, .sentinel, .sentinel, .pinned], laidTests := true, laidLooks := .later }
def TopWireCardSaid : Prop := Claim7.holds Tryz.pinned (.plain (OpenSpec.ofChange topWireSpec)) topWireCard

/-- THE SECOND FORM's CARD OF 'cuneiformtop.TopChunks'. -/
def topChunksUptoCard : Claim7 := { stood := { row := topChunksUptoRow, standIns := [], harness := (true, "32107ffe686e6a2387bb74a8d894d867dfc0772e7f19b080bf001885585f78cd"), looks := true }, kinds := [], alts := [], laidByText := true, laidKinds := [.data, .data, .data, .data, .sentinel, .sentinel, .pinned], laidTests := true, laidLooks := .later }
def TopChunksUptoCardSaid : Prop := Claim7.holds Tryz.pinned (.plain (OpenSpec.upto topChunksSpec)) topChunksUptoCard

/-- THE SECOND FORM's CARD OF 'cuneiformtop.TopOnce'. -/
def topOnceUptoCard : Claim7 := { stood := { row := topOnceUptoRow, standIns := [], harness := (true, "32107ffe686e6a2387bb74a8d894d867dfc0772e7f19b080bf001885585f78cd"), looks := true }, kinds := [], alts := [], laidByText := true, laidKinds := [.data, .data, .data, .data, .sentinel, .sentinel, .pinned], laidTests := true, laidLooks := .later }
def TopOnceUptoCardSaid : Prop := Claim7.holds Tryz.pinned (.plain (OpenSpec.upto topOnceSpec)) topOnceUptoCard

/-- THE SECOND FORM's CARD OF 'cuneiformtop.TopClean'. -/
def topCleanUptoCard : Claim7 := { stood := { row := topCleanUptoRow, standIns := [], harness := (true, "32107ffe686e6a2387bb74a8d894d867dfc0772e7f19b080bf001885585f78cd"), looks := true }, kinds := [], alts := [], laidByText := true, laidKinds := [.data, .data, .data, .data, .sentinel, .sentinel, .pinned], laidTests := true, laidLooks := .later }
def TopCleanUptoCardSaid : Prop := Claim7.holds Tryz.pinned (.plain (OpenSpec.upto topCleanSpec)) topCleanUptoCard

/-- THE SECOND FORM's CARD OF 'cuneiformtop.TopWire'. -/
def topWireUptoCard : Claim7 := { stood := { row := topWireUptoRow, standIns := [], harness := (true, "32107ffe686e6a2387bb74a8d894d867dfc0772e7f19b080bf001885585f78cd"), looks := true }, kinds := [], alts := [], laidByText := true, laidKinds := [.data, .data, .data, .data, .sentinel, .sentinel, .pinned], laidTests := true, laidLooks := .later }
def TopWireUptoCardSaid : Prop := Claim7.holds Tryz.pinned (.plain (OpenSpec.upto topWireSpec)) topWireUptoCard
end Rows
end Go.Proofs.YtgdlpgakhhebeaaGreatDoor
