/-
  DERIVED. GIVEN WITH THE SEED: THE CARDS: each row of YtdjgbkmakjhdgaaDoorRows.lean that lists a variable, with what it lists TIED to the program's text (the seventh form; the later family's looks); each row that meets fmt, with fmt's text TOLD by the authors' own Lean function (tested against real Go, not proved from fmt's source: count such statements apart). THE CARD IS WHAT COUNTS. Prove the row's statement (the work); the ties are given (YtdjgbkmakjhdgaaDoorTie.lean); close each card by the builder's one call (the guide's Derived/Test/ToyasCard.lean, 'card_holds'). Laid BY PROGRAM, IN A SANDBOX (cutbox-door.mjs). By AI agents, Wed Nov 11 2026. No macro, syntax, notation, axiom, sorry.
-/
import Derived.Test.YtdjgbkmakjhdgaaDoorRows
import GoSem.ClaimSeven
namespace Go.Proofs.YtdjgbkmakjhdgaaDoor
namespace Rows

/-- THE TIED CARD OF 'starlinglaw15.SpaceForms'. -/
def spaceFormsCard : Claim7 := { stood := { row := spaceFormsRow, standIns := [], harness := (true, "111ce9e2a14d08bc4d6316273c24ffce4e616321a09e8e23234d9fe319c81ec1"), looks := false }, kinds := [], alts := [], laidByText := true, laidKinds := [.data, .data, .data], laidTests := true, laidLooks := .later }
def SpaceFormsCardSaid : Prop := Claim7.holds Tryd.pinned (.plain (OpenSpec.ofChange spaceFormsSpec)) spaceFormsCard

/-- THE SECOND FORM's CARD OF 'starlinglaw15.SpaceForms'. -/
def spaceFormsUptoCard : Claim7 := { stood := { row := spaceFormsUptoRow, standIns := [], harness := (true, "111ce9e2a14d08bc4d6316273c24ffce4e616321a09e8e23234d9fe319c81ec1"), looks := false }, kinds := [], alts := [], laidByText := true, laidKinds := [.data, .data, .data], laidTests := true, laidLooks := .later }
def SpaceFormsUptoCardSaid : Prop := Claim7.holds Tryd.pinned (.plain (OpenSpec.upto spaceFormsSpec)) spaceFormsUptoCard
end Rows
end Go.Proofs.YtdjgbkmakjhdgaaDoor
