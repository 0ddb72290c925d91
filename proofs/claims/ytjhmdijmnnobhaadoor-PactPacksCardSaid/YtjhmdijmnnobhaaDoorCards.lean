/-
  DERIVED. GIVEN WITH THE SEED: THE CARDS: each row of YtjhmdijmnnobhaaDoorRows.lean that lists a variable, with what it lists TIED to the program's text (the seventh form; the later family's looks); each row that meets fmt, with fmt's text TOLD by the authors' own Lean function (tested against real Go, not proved from fmt's source: count such statements apart). THE CARD IS WHAT COUNTS. Prove the row's statement (the work); the ties are given (YtjhmdijmnnobhaaDoorTie.lean); close each card by the builder's one call (the guide's Derived/Test/ToyasCard.lean, 'card_holds'). Laid BY PROGRAM, IN A SANDBOX (cutbox-door.mjs). By AI agents, Wed Nov 11 2026. No macro, syntax, notation, axiom, sorry.
-/
import Derived.Test.YtjhmdijmnnobhaaDoorRows
import GoSem.ClaimSeven
namespace Go.Proofs.YtjhmdijmnnobhaaDoor
namespace Rows

/-- THE TIED CARD OF 'unbentlaw09.PactDigest'. -/
def pactDigestCard : Claim7 := { stood := { row := pactDigestRow, standIns := [], harness := (true, "4d965e2d18a4d4989dc38930aa1b04f9b0bbd088e36c5692c8e718ed7ed1fb91"), looks := false }, kinds := [], alts := [], laidByText := true, laidKinds := [.data], laidTests := true, laidLooks := .later }
def PactDigestCardSaid : Prop := Claim7.holds Tryd.pinned (.plain (OpenSpec.ofChange pactDigestSpec)) pactDigestCard

/-- THE TIED CARD OF 'unbentlaw09.PactPacks'. -/
def pactPacksCard : Claim7 := { stood := { row := pactPacksRow, standIns := [], harness := (true, "4d965e2d18a4d4989dc38930aa1b04f9b0bbd088e36c5692c8e718ed7ed1fb91"), looks := false }, kinds := [], alts := [], laidByText := true, laidKinds := [.data], laidTests := true, laidLooks := .later }
def PactPacksCardSaid : Prop := Claim7.holds Tryd.pinned (.plain (OpenSpec.ofChange pactPacksSpec)) pactPacksCard

/-- THE SECOND FORM's CARD OF 'unbentlaw09.PactDigest'. -/
def pactDigestUptoCard : Claim7 := { stood := { row := pactDigestUptoRow, standIns := [], harness := (true, "4d965e2d18a4d4989dc38930aa1b04f9b0bbd088e36c5692c8e718ed7ed1fb91"), looks := false }, kinds := [], alts := [], laidByText := true, laidKinds := [.data], laidTests := true, laidLooks := .later }
def PactDigestUptoCardSaid : Prop := Claim7.holds Tryd.pinned (.plain (OpenSpec.upto pactDigestSpec)) pactDigestUptoCard

/-- THE SECOND FORM's CARD OF 'unbentlaw09.PactPacks'. -/
def pactPacksUptoCard : Claim7 := { stood := { row := pactPacksUptoRow, standIns := [], harness := (true, "4d965e2d18a4d4989dc38930aa1b04f9b0bbd088e36c5692c8e718ed7ed1fb91"), looks := false }, kinds := [], alts := [], laidByText := true, laidKinds := [.data], laidTests := true, laidLooks := .later }
def PactPacksUptoCardSaid : Prop := Claim7.holds Tryd.pinned (.plain (OpenSpec.upto pactPacksSpec)) pactPacksUptoCard
end Rows
end Go.Proofs.YtjhmdijmnnobhaaDoor
