/-
  DERIVED. GIVEN WITH THE SEED: THE CARDS: each row of YtnejkfccdnadcaaDoorRows.lean that lists a variable, with what it lists TIED to the program's text (the seventh form; the later family's looks); each row that meets fmt, with fmt's text TOLD by the authors' own Lean function (tested against real Go, not proved from fmt's source: count such statements apart). THE CARD IS WHAT COUNTS. Prove the row's statement (the work); the ties are given (YtnejkfccdnadcaaDoorTie.lean); close each card by the builder's one call (the guide's Derived/Test/ToyasCard.lean, 'card_holds'). Laid BY PROGRAM, IN A SANDBOX (cutbox-door.mjs). By AI agents, Wed Nov 11 2026. No macro, syntax, notation, axiom, sorry.
-/
import Derived.Test.YtnejkfccdnadcaaDoorRows
import GoSem.ClaimSeven
namespace Go.Proofs.YtnejkfccdnadcaaDoor
namespace Rows

/-- THE TIED CARD OF 'ostinatolaw23.RunBack'. -/
def runBackCard : Claim7 := { stood := { row := runBackRow, standIns := [], harness := (true, "9fde96d03ceea24702fdd5fb9ce893e06aaf2f780a7baa519f604e635054997a"), looks := false }, kinds := [], alts := [], laidByText := true, laidKinds := [.data, .data, .data, .data, .pinned], laidTests := true, laidLooks := .later }
def RunBackCardSaid : Prop := Claim7.holds Tryd.pinned (.plain (OpenSpec.ofChange runBackSpec)) runBackCard

/-- THE TIED CARD OF 'ostinatolaw23.RunReads'. -/
def runReadsCard : Claim7 := { stood := { row := runReadsRow, standIns := [], harness := (true, "9fde96d03ceea24702fdd5fb9ce893e06aaf2f780a7baa519f604e635054997a"), looks := false }, kinds := [], alts := [], laidByText := true, laidKinds := [.data, .data, .data, .data, .pinned], laidTests := true, laidLooks := .later }
def RunReadsCardSaid : Prop := Claim7.holds Tryd.pinned (.plain (OpenSpec.ofChange runReadsSpec)) runReadsCard

/-- THE SECOND FORM's CARD OF 'ostinatolaw23.RunBack'. -/
def runBackUptoCard : Claim7 := { stood := { row := runBackUptoRow, standIns := [], harness := (true, "9fde96d03ceea24702fdd5fb9ce893e06aaf2f780a7baa519f604e635054997a"), looks := false }, kinds := [], alts := [], laidByText := true, laidKinds := [.data, .data, .data, .data, .pinned], laidTests := true, laidLooks := .later }
def RunBackUptoCardSaid : Prop := Claim7.holds Tryd.pinned (.plain (OpenSpec.upto runBackSpec)) runBackUptoCard

/-- THE SECOND FORM's CARD OF 'ostinatolaw23.RunReads'. -/
def runReadsUptoCard : Claim7 := { stood := { row := runReadsUptoRow, standIns := [], harness := (true, "9fde96d03ceea24702fdd5fb9ce893e06aaf2f780a7baa519f604e635054997a"), looks := false }, kinds := [], alts := [], laidByText := true, laidKinds := [.data, .data, .data, .data, .pinned], laidTests := true, laidLooks := .later }
def RunReadsUptoCardSaid : Prop := Claim7.holds Tryd.pinned (.plain (OpenSpec.upto runReadsSpec)) runReadsUptoCard
end Rows
end Go.Proofs.YtnejkfccdnadcaaDoor
