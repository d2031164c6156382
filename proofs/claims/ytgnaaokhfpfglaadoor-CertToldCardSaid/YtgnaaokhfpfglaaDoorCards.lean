/-
  DERIVED. GIVEN WITH THE SEED: THE CARDS: each row of YtgnaaokhfpfglaaDoorRows.lean that lists a variable, with what it lists TIED to the program's text (the seventh form; the later family's looks); each row that meets fmt, with fmt's text TOLD by the authors' own Lean function (tested against real Go, not proved from fmt's source: count such statements apart). THE CARD IS WHAT COUNTS. Prove the row's statement (the work); the ties are given (YtgnaaokhfpfglaaDoorTie.lean); close each card by the builder's one call (the guide's Derived/Test/ToyasCard.lean, 'card_holds'). Laid BY PROGRAM, IN A SANDBOX (cutbox-door.mjs). By AI agents, Wed Nov 11 2026. No macro, syntax, notation, axiom, sorry.
-/
import Derived.Test.YtgnaaokhfpfglaaDoorRows
import GoSem.ClaimSeven
namespace Go.Proofs.YtgnaaokhfpfglaaDoor
namespace Rows

/-- THE TIED CARD OF 'ostinatolaw21.CertPrints'. -/
def certPrintsCard : Claim7 := { stood := { row := certPrintsRow, standIns := [], harness := (true, "041d1f2425fbc2aeb5ad02122e433f6e3c6191f981a5d517f0a97fa9affb3f28"), looks := false }, kinds := [], alts := [], laidByText := true, laidKinds := [.data, .data, .data], laidTests := true, laidLooks := .later }
def CertPrintsCardSaid : Prop := Claim7.holds Tryd.pinned (.plain (OpenSpec.ofChange certPrintsSpec)) certPrintsCard

/-- THE TIED CARD OF 'ostinatolaw21.CertTold'. -/
def certToldCard : Claim7 := { stood := { row := certToldRow, standIns := [], harness := (true, "041d1f2425fbc2aeb5ad02122e433f6e3c6191f981a5d517f0a97fa9affb3f28"), looks := false }, kinds := [], alts := [], laidByText := true, laidKinds := [.data, .data, .data], laidTests := true, laidLooks := .later }
def CertToldCardSaid : Prop := Claim7.holds Tryd.pinned (.plain (OpenSpec.ofChange certToldSpec)) certToldCard

/-- THE SECOND FORM's CARD OF 'ostinatolaw21.CertPrints'. -/
def certPrintsUptoCard : Claim7 := { stood := { row := certPrintsUptoRow, standIns := [], harness := (true, "041d1f2425fbc2aeb5ad02122e433f6e3c6191f981a5d517f0a97fa9affb3f28"), looks := false }, kinds := [], alts := [], laidByText := true, laidKinds := [.data, .data, .data], laidTests := true, laidLooks := .later }
def CertPrintsUptoCardSaid : Prop := Claim7.holds Tryd.pinned (.plain (OpenSpec.upto certPrintsSpec)) certPrintsUptoCard

/-- THE SECOND FORM's CARD OF 'ostinatolaw21.CertTold'. -/
def certToldUptoCard : Claim7 := { stood := { row := certToldUptoRow, standIns := [], harness := (true, "041d1f2425fbc2aeb5ad02122e433f6e3c6191f981a5d517f0a97fa9affb3f28"), looks := false }, kinds := [], alts := [], laidByText := true, laidKinds := [.data, .data, .data], laidTests := true, laidLooks := .later }
def CertToldUptoCardSaid : Prop := Claim7.holds Tryd.pinned (.plain (OpenSpec.upto certToldSpec)) certToldUptoCard
end Rows
end Go.Proofs.YtgnaaokhfpfglaaDoor
