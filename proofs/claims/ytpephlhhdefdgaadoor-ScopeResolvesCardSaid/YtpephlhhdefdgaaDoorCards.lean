/-
  DERIVED. GIVEN WITH THE SEED: THE CARDS: each row of YtpephlhhdefdgaaDoorRows.lean that lists a variable, with what it lists TIED to the program's text (the seventh form; the later family's looks); each row that meets fmt, with fmt's text TOLD by the authors' own Lean function (tested against real Go, not proved from fmt's source: count such statements apart). THE CARD IS WHAT COUNTS. Prove the row's statement (the work); the ties are given (YtpephlhhdefdgaaDoorTie.lean); close each card by the builder's one call (the guide's Derived/Test/ToyasCard.lean, 'card_holds'). Laid BY PROGRAM, IN A SANDBOX (cutbox-door.mjs). By AI agents, Wed Nov 11 2026. No macro, syntax, notation, axiom, sorry.
-/
import Derived.Test.YtpephlhhdefdgaaDoorRows
import GoSem.ClaimSeven
namespace Go.Proofs.YtpephlhhdefdgaaDoor
namespace Rows

/-- THE TIED CARD OF 'euclidlaw27.ScopeResolves'. -/
def scopeResolvesCard : Claim7 := { stood := { row := scopeResolvesRow, standIns := [], harness := (true, "7502a233006465ac3819551b4f264f6812c3e5d4889223cafad4986d7a2aca4e"), looks := false }, kinds := [], alts := [], laidByText := true, laidKinds := [.data, .pinned], laidTests := true, laidLooks := .later }
def ScopeResolvesCardSaid : Prop := Claim7.holds Tryd.pinned (.plain (OpenSpec.ofChange scopeResolvesSpec)) scopeResolvesCard

/-- THE SECOND FORM's CARD OF 'euclidlaw27.ScopeResolves'. -/
def scopeResolvesUptoCard : Claim7 := { stood := { row := scopeResolvesUptoRow, standIns := [], harness := (true, "7502a233006465ac3819551b4f264f6812c3e5d4889223cafad4986d7a2aca4e"), looks := false }, kinds := [], alts := [], laidByText := true, laidKinds := [.data, .pinned], laidTests := true, laidLooks := .later }
def ScopeResolvesUptoCardSaid : Prop := Claim7.holds Tryd.pinned (.plain (OpenSpec.upto scopeResolvesSpec)) scopeResolvesUptoCard
end Rows
end Go.Proofs.YtpephlhhdefdgaaDoor
