/-
  DERIVED. GIVEN WITH THE SEED: THE CARDS: each row of YtcfknijdhmildaaDoorRows.lean that lists a variable, with what it lists TIED to the program's text (the seventh form; the later family's looks); each row that meets fmt, with fmt's text TOLD by the authors' own Lean function (tested against real Go, not proved from fmt's source: count such statements apart). THE CARD IS WHAT COUNTS. Prove the row's statement (the work); the ties are given (YtcfknijdhmildaaDoorTie.lean); close each card by the builder's one call (the guide's Derived/Test/ToyasCard.lean, 'card_holds'). Laid BY PROGRAM, IN A SANDBOX (cutbox-door.mjs). By AI agents, Wed Nov 11 2026. No macro, syntax, notation, axiom, sorry.
-/
import Derived.Test.YtcfknijdhmildaaDoorRows
import GoSem.ClaimSeven
namespace Go.Proofs.YtcfknijdhmildaaDoor
namespace Rows

/-- THE TIED CARD OF 'ostinatolaw07.ParseReads'. -/
def parseReadsCard : Claim7 := { stood := { row := parseReadsRow, standIns := [], harness := (true, "c00eea09c45ae5de37a0b1949cd3add6bf22a8d180f2a4851fbff2bdeaa30bf8"), looks := true }, kinds := [], alts := [], laidByText := true, laidKinds := [.data, .pinned], laidTests := true, laidLooks := .later }
def ParseReadsCardSaid : Prop := Claim7.holds Tryd.pinned (.plain (OpenSpec.ofChange parseReadsSpec)) parseReadsCard

/-- THE TIED CARD OF 'ostinatolaw07.ParseBack'. -/
def parseBackCard : Claim7 := { stood := { row := parseBackRow, standIns := [], harness := (true, "c00eea09c45ae5de37a0b1949cd3add6bf22a8d180f2a4851fbff2bdeaa30bf8"), looks := true }, kinds := [], alts := [], laidByText := true, laidKinds := [.data, .data, .data, .data, .pinned], laidTests := true, laidLooks := .later }
def ParseBackCardSaid : Prop := Claim7.holds Tryd.pinned (.plain (OpenSpec.ofChange parseBackSpec)) parseBackCard

/-- THE TIED CARD OF 'ostinatolaw07.ParseRight'. -/
def parseRightCard : Claim7 := { stood := { row := parseRightRow, standIns := [], harness := (true, "c00eea09c45ae5de37a0b1949cd3add6bf22a8d180f2a4851fbff2bdeaa30bf8"), looks := true }, kinds := [], alts := [], laidByText := true, laidKinds := [.data, .data, .data, .data, .pinned], laidTests := true, laidLooks := .later }
def ParseRightCardSaid : Prop := Claim7.holds Tryd.pinned (.plain (OpenSpec.ofChange parseRightSpec)) parseRightCard

/-- THE TIED CARD OF 'ostinatolaw07.ParseFirst'. -/
def parseFirstCard : Claim7 := { stood := { row := parseFirstRow, standIns := [], harness := (true, "c00eea09c45ae5de37a0b1949cd3add6bf22a8d180f2a4851fbff2bdeaa30bf8"), looks := true }, kinds := [], alts := [], laidByText := true, laidKinds := [.data, .data, .data, .data, .pinned], laidTests := true, laidLooks := .later }
def ParseFirstCardSaid : Prop := Claim7.holds Tryd.pinned (.plain (OpenSpec.ofChange parseFirstSpec)) parseFirstCard

/-- THE TIED CARD OF 'ostinatolaw07.ParseCuts'. -/
def parseCutsCard : Claim7 := { stood := { row := parseCutsRow, standIns := [], harness := (true, "c00eea09c45ae5de37a0b1949cd3add6bf22a8d180f2a4851fbff2bdeaa30bf8"), looks := true }, kinds := [], alts := [], laidByText := true, laidKinds := [.data, .data, .data, .data, .pinned], laidTests := true, laidLooks := .later }
def ParseCutsCardSaid : Prop := Claim7.holds Tryd.pinned (.plain (OpenSpec.ofChange parseCutsSpec)) parseCutsCard

/-- THE SECOND FORM's CARD OF 'ostinatolaw07.ParseReads'. -/
def parseReadsUptoCard : Claim7 := { stood := { row := parseReadsUptoRow, standIns := [], harness := (true, "c00eea09c45ae5de37a0b1949cd3add6bf22a8d180f2a4851fbff2bdeaa30bf8"), looks := true }, kinds := [], alts := [], laidByText := true, laidKinds := [.data, .pinned], laidTests := true, laidLooks := .later }
def ParseReadsUptoCardSaid : Prop := Claim7.holds Tryd.pinned (.plain (OpenSpec.upto parseReadsSpec)) parseReadsUptoCard

/-- THE SECOND FORM's CARD OF 'ostinatolaw07.ParseBack'. -/
def parseBackUptoCard : Claim7 := { stood := { row := parseBackUptoRow, standIns := [], harness := (true, "c00eea09c45ae5de37a0b1949cd3add6bf22a8d180f2a4851fbff2bdeaa30bf8"), looks := true }, kinds := [], alts := [], laidByText := true, laidKinds := [.data, .data, .data, .data, .pinned], laidTests := true, laidLooks := .later }
def ParseBackUptoCardSaid : Prop := Claim7.holds Tryd.pinned (.plain (OpenSpec.upto parseBackSpec)) parseBackUptoCard

/-- THE SECOND FORM's CARD OF 'ostinatolaw07.ParseRight'. -/
def parseRightUptoCard : Claim7 := { stood := { row := parseRightUptoRow, standIns := [], harness := (true, "c00eea09c45ae5de37a0b1949cd3add6bf22a8d180f2a4851fbff2bdeaa30bf8"), looks := true }, kinds := [], alts := [], laidByText := true, laidKinds := [.data, .data, .data, .data, .pinned], laidTests := true, laidLooks := .later }
def ParseRightUptoCardSaid : Prop := Claim7.holds Tryd.pinned (.plain (OpenSpec.upto parseRightSpec)) parseRightUptoCard

/-- THE SECOND FORM's CARD OF 'ostinatolaw07.ParseFirst'. -/
def parseFirstUptoCard : Claim7 := { stood := { row := parseFirstUptoRow, standIns := [], harness := (true, "c00eea09c45ae5de37a0b1949cd3add6bf22a8d180f2a4851fbff2bdeaa30bf8"), looks := true }, kinds := [], alts := [], laidByText := true, laidKinds := [.data, .data, .data, .data, .pinned], laidTests := true, laidLooks := .later }
def ParseFirstUptoCardSaid : Prop := Claim7.holds Tryd.pinned (.plain (OpenSpec.upto parseFirstSpec)) parseFirstUptoCard

/-- THE SECOND FORM's CARD OF 'ostinatolaw07.ParseCuts'. -/
def parseCutsUptoCard : Claim7 := { stood := { row := parseCutsUptoRow, standIns := [], harness := (true, "c00eea09c45ae5de37a0b1949cd3add6bf22a8d180f2a4851fbff2bdeaa30bf8"), looks := true }, kinds := [], alts := [], laidByText := true, laidKinds := [.data, .data, .data, .data, .pinned], laidTests := true, laidLooks := .later }
def ParseCutsUptoCardSaid : Prop := Claim7.holds Tryd.pinned (.plain (OpenSpec.upto parseCutsSpec)) parseCutsUptoCard
end Rows
end Go.Proofs.YtcfknijdhmildaaDoor
