/-
  DERIVED. GIVEN WITH THE SEED: THE CARDS: each row of YtabfcciejhbajaaGreatDoorRows.lean that lists a variable, with what it lists TIED to the program's text (the seventh form; the later family's looks); each row that meets fmt, with fmt's text TOLD by the authors' own Lean function (tested against real Go, not proved from fmt's source: count such statements apart). THE CARD IS WHAT COUNTS. Prove the row's statement (the work); the ties are given (YtabfcciejhbajaaGreatDoorTie.lean); close each card by the builder's one call (the guide's Derived/Test/ToyasCard.lean, 'card_holds'). Laid BY PROGRAM, IN A SANDBOX (cutbox-door.mjs). By AI agents, Wed Nov 11 2026. No macro, syntax, notation, axiom, sorry.
-/
import Derived.Test.YtabfcciejhbajaaGreatDoorRows
import GoSem.ClaimSeven
namespace Go.Proofs.YtabfcciejhbajaaGreatDoor
namespace Rows

/-- THE TIED CARD OF 'turnstilelaw09.SegmentNames'. -/
def segmentNamesCard : Claim7 := { stood := { row := segmentNamesRow, standIns := [], harness := (true, "24db0e34ba58c9b09c79ec398b32f8ab99622003aaff8eb8811afabbe7719fec"), looks := true }, kinds := [], alts := [], laidByText := true, laidKinds := [.data, .data, .data, .data, .data, .sentinel, .sentinel, .sentinel, .sentinel, .sentinel, .sentinel, .sentinel, .sentinel, .sentinel, .sentinel, .sentinel, .sentinel, .sentinel, .pinned], laidTests := true, laidLooks := .later }
def SegmentNamesCardSaid : Prop := Claim7.holds Tryz.pinned (.plain (OpenSpec.ofChange segmentNamesSpec)) segmentNamesCard

/-- THE SECOND FORM's CARD OF 'turnstilelaw09.SegmentNames'. -/
def segmentNamesUptoCard : Claim7 := { stood := { row := segmentNamesUptoRow, standIns := [], harness := (true, "24db0e34ba58c9b09c79ec398b32f8ab99622003aaff8eb8811afabbe7719fec"), looks := true }, kinds := [], alts := [], laidByText := true, laidKinds := [.data, .data, .data, .data, .data, .sentinel, .sentinel, .sentinel, .sentinel, .sentinel, .sentinel, .sentinel, .sentinel, .sentinel, .sentinel, .sentinel, .sentinel, .sentinel, .pinned], laidTests := true, laidLooks := .later }
def SegmentNamesUptoCardSaid : Prop := Claim7.holds Tryz.pinned (.plain (OpenSpec.upto segmentNamesSpec)) segmentNamesUptoCard
end Rows
end Go.Proofs.YtabfcciejhbajaaGreatDoor
