/-
  DERIVED. GIVEN WITH THE SEED: THE CARDS: each row of YtdfnaphkppphkaaGreatDoorRows.lean that lists a variable, with what it lists TIED to the program's text (the seventh form; the later family's looks); each row that meets fmt, with fmt's text TOLD by the authors' own Lean function (tested against real Go, not proved from fmt's source: count such statements apart). THE CARD IS WHAT COUNTS. Prove the row's statement (the work); the ties are given (YtdfnaphkppphkaaGreatDoorTie.lean); close each card by the builder's one call (the guide's Derived/Test/ToyasCard.lean, 'card_holds'). Laid BY PROGRAM, IN A SANDBOX (cutbox-door.mjs). By AI agents, Wed Nov 11 2026. No macro, syntax, notation, axiom, sorry.
-/
import Derived.Test.YtdfnaphkppphkaaGreatDoorRows
import GoSem.ClaimSeven
namespace Go.Proofs.YtdfnaphkppphkaaGreatDoor
namespace Rows

/-- THE TIED CARD OF 'turnstilelaw09.SegmentCuts'. -/
def segmentCutsCard : Claim7 := { stood := { row := segmentCutsRow, standIns := [], harness := (true, "334f8c0e05f4d4a54b872920a021541a1c0d11edf781e523be56f08b08fc76ed"), looks := true }, kinds := [], alts := [], laidByText := true, laidKinds := [.data, .data, .data, .data, .data, .sentinel, .sentinel, .sentinel, .sentinel, .sentinel, .sentinel, .sentinel, .sentinel, .sentinel, .sentinel, .sentinel, .pinned], laidTests := true, laidLooks := .later }
def SegmentCutsCardSaid : Prop := Claim7.holds Tryz.pinned (.plain (OpenSpec.ofChange segmentCutsSpec)) segmentCutsCard

/-- THE TIED CARD OF 'turnstilelaw09.SegmentSick'. -/
def segmentSickCard : Claim7 := { stood := { row := segmentSickRow, standIns := [], harness := (true, "334f8c0e05f4d4a54b872920a021541a1c0d11edf781e523be56f08b08fc76ed"), looks := true }, kinds := [], alts := [], laidByText := true, laidKinds := [.data, .data, .data, .data, .data, .sentinel, .sentinel, .sentinel, .sentinel, .sentinel, .sentinel, .sentinel, .sentinel, .sentinel, .sentinel, .sentinel, .pinned], laidTests := true, laidLooks := .later }
def SegmentSickCardSaid : Prop := Claim7.holds Tryz.pinned (.plain (OpenSpec.ofChange segmentSickSpec)) segmentSickCard

/-- THE SECOND FORM's CARD OF 'turnstilelaw09.SegmentCuts'. -/
def segmentCutsUptoCard : Claim7 := { stood := { row := segmentCutsUptoRow, standIns := [], harness := (true, "334f8c0e05f4d4a54b872920a021541a1c0d11edf781e523be56f08b08fc76ed"), looks := true }, kinds := [], alts := [], laidByText := true, laidKinds := [.data, .data, .data, .data, .data, .sentinel, .sentinel, .sentinel, .sentinel, .sentinel, .sentinel, .sentinel, .sentinel, .sentinel, .sentinel, .sentinel, .pinned], laidTests := true, laidLooks := .later }
def SegmentCutsUptoCardSaid : Prop := Claim7.holds Tryz.pinned (.plain (OpenSpec.upto segmentCutsSpec)) segmentCutsUptoCard

/-- THE SECOND FORM's CARD OF 'turnstilelaw09.SegmentSick'. -/
def segmentSickUptoCard : Claim7 := { stood := { row := segmentSickUptoRow, standIns := [], harness := (true, "334f8c0e05f4d4a54b872920a021541a1c0d11edf781e523be56f08b08fc76ed"), looks := true }, kinds := [], alts := [], laidByText := true, laidKinds := [.data, .data, .data, .data, .data, .sentinel, .sentinel, .sentinel, .sentinel, .sentinel, .sentinel, .sentinel, .sentinel, .sentinel, .sentinel, .sentinel, .pinned], laidTests := true, laidLooks := .later }
def SegmentSickUptoCardSaid : Prop := Claim7.holds Tryz.pinned (.plain (OpenSpec.upto segmentSickSpec)) segmentSickUptoCard
end Rows
end Go.Proofs.YtdfnaphkppphkaaGreatDoor
