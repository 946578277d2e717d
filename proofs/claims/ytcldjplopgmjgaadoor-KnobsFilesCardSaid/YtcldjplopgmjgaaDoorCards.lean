/-
  DERIVED. GIVEN WITH THE SEED: THE CARDS: each row of YtcldjplopgmjgaaDoorRows.lean that lists a variable, with what it lists TIED to the program's text (the seventh form; the later family's looks); each row that meets fmt, with fmt's text TOLD by the authors' own Lean function (tested against real Go, not proved from fmt's source: count such statements apart). THE CARD IS WHAT COUNTS. Prove the row's statement (the work); the ties are given (YtcldjplopgmjgaaDoorTie.lean); close each card by the builder's one call (the guide's Derived/Test/ToyasCard.lean, 'card_holds'). Laid BY PROGRAM, IN A SANDBOX (cutbox-door.mjs). By AI agents, Wed Nov 11 2026. No macro, syntax, notation, axiom, sorry.
-/
import Derived.Test.YtcldjplopgmjgaaDoorRows
import GoSem.ClaimSeven
namespace Go.Proofs.YtcldjplopgmjgaaDoor
namespace Rows

/-- THE TIED CARD OF 'berthinglaw06.KnobsRise'. -/
def knobsRiseCard : Claim7 := { stood := { row := knobsRiseRow, standIns := [], harness := (true, "4182127a6d1dea480267d4c5d79425d3154adbac44af595358c516656580ca37"), looks := false }, kinds := [], alts := [], laidByText := true, laidKinds := [.data, .data, .data], laidTests := true, laidLooks := .later }
def KnobsRiseCardSaid : Prop := Claim7.holds Tryd.pinned (.plain (OpenSpec.ofChange knobsRiseSpec)) knobsRiseCard

/-- THE TIED CARD OF 'berthinglaw06.KnobsFiles'. -/
def knobsFilesCard : Claim7 := { stood := { row := knobsFilesRow, standIns := [], harness := (true, "4182127a6d1dea480267d4c5d79425d3154adbac44af595358c516656580ca37"), looks := false }, kinds := [], alts := [], laidByText := true, laidKinds := [.data, .data, .data], laidTests := true, laidLooks := .later }
def KnobsFilesCardSaid : Prop := Claim7.holds Tryd.pinned (.plain (OpenSpec.ofChange knobsFilesSpec)) knobsFilesCard

/-- THE SECOND FORM's CARD OF 'berthinglaw06.KnobsRise'. -/
def knobsRiseUptoCard : Claim7 := { stood := { row := knobsRiseUptoRow, standIns := [], harness := (true, "4182127a6d1dea480267d4c5d79425d3154adbac44af595358c516656580ca37"), looks := false }, kinds := [], alts := [], laidByText := true, laidKinds := [.data, .data, .data], laidTests := true, laidLooks := .later }
def KnobsRiseUptoCardSaid : Prop := Claim7.holds Tryd.pinned (.plain (OpenSpec.upto knobsRiseSpec)) knobsRiseUptoCard

/-- THE SECOND FORM's CARD OF 'berthinglaw06.KnobsFiles'. -/
def knobsFilesUptoCard : Claim7 := { stood := { row := knobsFilesUptoRow, standIns := [], harness := (true, "4182127a6d1dea480267d4c5d79425d3154adbac44af595358c516656580ca37"), looks := false }, kinds := [], alts := [], laidByText := true, laidKinds := [.data, .data, .data], laidTests := true, laidLooks := .later }
def KnobsFilesUptoCardSaid : Prop := Claim7.holds Tryd.pinned (.plain (OpenSpec.upto knobsFilesSpec)) knobsFilesUptoCard
end Rows
end Go.Proofs.YtcldjplopgmjgaaDoor
