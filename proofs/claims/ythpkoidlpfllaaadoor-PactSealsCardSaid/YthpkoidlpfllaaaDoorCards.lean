/-
  DERIVED. GIVEN WITH THE SEED: THE CARDS: each row of YthpkoidlpfllaaaDoorRows.lean that lists a variable, with what it lists TIED to the program's text (the seventh form; the later family's looks); each row that meets fmt, with fmt's text TOLD by the authors' own Lean function (tested against real Go, not proved from fmt's source: count such statements apart). THE CARD IS WHAT COUNTS. Prove the row's statement (the work); the ties are given (YthpkoidlpfllaaaDoorTie.lean); close each card by the builder's one call (the guide's Derived/Test/ToyasCard.lean, 'card_holds'). Laid BY PROGRAM, IN A SANDBOX (cutbox-door.mjs). By AI agents, Wed Nov 11 2026. No macro, syntax, notation, axiom, sorry.
-/
import Derived.Test.YthpkoidlpfllaaaDoorRows
import GoSem.ClaimSeven
namespace Go.Proofs.YthpkoidlpfllaaaDoor
namespace Rows

/-- THE TIED CARD OF 'unbentlaw09.PactSeals'. -/
def pactSealsCard : Claim7 := { stood := { row := pactSealsRow, standIns := [], harness := (true, "db81f5324b8bc56b3b4128a106726a302ef634bdf911d461a31f539e4678918d"), looks := false }, kinds := [], alts := [], laidByText := true, laidKinds := [.data, .data, .data, .data], laidTests := true, laidLooks := .later }
def PactSealsCardSaid : Prop := Claim7.holds Tryd.pinned (.plain (OpenSpec.ofChange pactSealsSpec)) pactSealsCard

/-- THE SECOND FORM's CARD OF 'unbentlaw09.PactSeals'. -/
def pactSealsUptoCard : Claim7 := { stood := { row := pactSealsUptoRow, standIns := [], harness := (true, "db81f5324b8bc56b3b4128a106726a302ef634bdf911d461a31f539e4678918d"), looks := false }, kinds := [], alts := [], laidByText := true, laidKinds := [.data, .data, .data, .data], laidTests := true, laidLooks := .later }
def PactSealsUptoCardSaid : Prop := Claim7.holds Tryd.pinned (.plain (OpenSpec.upto pactSealsSpec)) pactSealsUptoCard
end Rows
end Go.Proofs.YthpkoidlpfllaaaDoor
