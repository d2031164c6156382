/-
  DERIVED. GIVEN WITH THE SEED: THE CARDS: each row of YtgnaaokhfpfglaaGreatDoorRows.lean that lists a variable, with what it lists TIED to the program's text (the seventh form; the later family's looks); each row that meets fmt, with fmt's text TOLD by the authors' own Lean function (tested against real Go, not proved from fmt's source: count such statements apart). THE CARD IS WHAT COUNTS. Prove the row's statement (the work); the ties are given (YtgnaaokhfpfglaaGreatDoorTie.lean); close each card by the builder's one call (the guide's Derived/Test/ToyasCard.lean, 'card_holds'). Laid BY PROGRAM, IN A SANDBOX (cutbox-door.mjs). By AI agents, Wed Nov 11 2026. No macro, syntax, notation, axiom, sorry.
-/
import Derived.Test.YtgnaaokhfpfglaaGreatDoorRows
import GoSem.ClaimSeven
namespace Go.Proofs.YtgnaaokhfpfglaaGreatDoor
namespace Rows

/-- THE TIED CARD OF 'ostinatolaw21.CertReads'. -/
def certReadsCard : Claim7 := { stood := { row := certReadsRow, standIns := [], harness := (true, "58007f78947b73b8bed490f880eceb9d337f73cd09e67f6097a324b5499614f7"), looks := true }, kinds := [], alts := [], laidByText := true, laidKinds := [.data, .data, .data, .data, .pinned], laidTests := true, laidLooks := .later }
def CertReadsCardSaid : Prop := Claim7.holds Tryz.pinned (.plain (OpenSpec.ofChange certReadsSpec)) certReadsCard

/-- THE TIED CARD OF 'ostinatolaw21.CertBack'. -/
def certBackCard : Claim7 := { stood := { row := certBackRow, standIns := [], harness := (true, "58007f78947b73b8bed490f880eceb9d337f73cd09e67f6097a324b5499614f7"), looks := true }, kinds := [], alts := [], laidByText := true, laidKinds := [.data, .data, .data, .data, .pinned], laidTests := true, laidLooks := .later }
def CertBackCardSaid : Prop := Claim7.holds Tryz.pinned (.plain (OpenSpec.ofChange certBackSpec)) certBackCard

/-- THE TIED CARD OF 'ostinatolaw21.CertRight'. -/
def certRightCard : Claim7 := { stood := { row := certRightRow, standIns := [], harness := (true, "58007f78947b73b8bed490f880eceb9d337f73cd09e67f6097a324b5499614f7"), looks := true }, kinds := [], alts := [], laidByText := true, laidKinds := [.data, .data, .data, .data, .pinned], laidTests := true, laidLooks := .later }
def CertRightCardSaid : Prop := Claim7.holds Tryz.pinned (.plain (OpenSpec.ofChange certRightSpec)) certRightCard

/-- THE SECOND FORM's CARD OF 'ostinatolaw21.CertReads'. -/
def certReadsUptoCard : Claim7 := { stood := { row := certReadsUptoRow, standIns := [], harness := (true, "58007f78947b73b8bed490f880eceb9d337f73cd09e67f6097a324b5499614f7"), looks := true }, kinds := [], alts := [], laidByText := true, laidKinds := [.data, .data, .data, .data, .pinned], laidTests := true, laidLooks := .later }
def CertReadsUptoCardSaid : Prop := Claim7.holds Tryz.pinned (.plain (OpenSpec.upto certReadsSpec)) certReadsUptoCard

/-- THE SECOND FORM's CARD OF 'ostinatolaw21.CertBack'. -/
def certBackUptoCard : Claim7 := { stood := { row := certBackUptoRow, standIns := [], harness := (true, "58007f78947b73b8bed490f880eceb9d337f73cd09e67f6097a324b5499614f7"), looks := true }, kinds := [], alts := [], laidByText := true, laidKinds := [.data, .data, .data, .data, .pinned], laidTests := true, laidLooks := .later }
def CertBackUptoCardSaid : Prop := Claim7.holds Tryz.pinned (.plain (OpenSpec.upto certBackSpec)) certBackUptoCard

/-- THE SECOND FORM's CARD OF 'ostinatolaw21.CertRight'. -/
def certRightUptoCard : Claim7 := { stood := { row := certRightUptoRow, standIns := [], harness := (true, "58007f78947b73b8bed490f880eceb9d337f73cd09e67f6097a324b5499614f7"), looks := true }, kinds := [], alts := [], laidByText := true, laidKinds := [.data, .data, .data, .data, .pinned], laidTests := true, laidLooks := .later }
def CertRightUptoCardSaid : Prop := Claim7.holds Tryz.pinned (.plain (OpenSpec.upto certRightSpec)) certRightUptoCard
end Rows
end Go.Proofs.YtgnaaokhfpfglaaGreatDoor
