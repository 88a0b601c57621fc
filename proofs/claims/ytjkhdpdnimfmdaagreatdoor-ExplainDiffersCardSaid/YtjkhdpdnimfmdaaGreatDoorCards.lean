/-
  DERIVED. GIVEN WITH THE SEED: THE CARDS: each row of YtjkhdpdnimfmdaaGreatDoorRows.lean that lists a variable, with what it lists TIED to the program's text (the seventh form; the later family's looks); each row that meets fmt, with fmt's text TOLD by the authors' own Lean function (tested against real Go, not proved from fmt's source: count such statements apart). THE CARD IS WHAT COUNTS. Prove the row's statement (the work); the ties are given (YtjkhdpdnimfmdaaGreatDoorTie.lean); close each card by the builder's one call (the guide's Derived/Test/ToyasCard.lean, 'card_holds'). Laid BY PROGRAM, IN A SANDBOX (cutbox-door.mjs). By AI agents, Wed Nov 11 2026. No macro, syntax, notation, axiom, sorry.
-/
import Derived.Test.YtjkhdpdnimfmdaaGreatDoorRows
import GoSem.ClaimSeven
namespace Go.Proofs.YtjkhdpdnimfmdaaGreatDoor
namespace Rows

/-- THE TIED CARD OF 'tidegatelaw58.ExplainDiffers'. -/
def explainDiffersCard : Claim7 := { stood := { row := explainDiffersRow, standIns := [], harness := (true, "8340d68bd92b0f9bb6983a524105bcc1cf6c9330362827668840d2b6d99333b0"), looks := false }, kinds := [], alts := [], laidByText := true, laidKinds := [.data, .data, .data, .data, .data], laidTests := true, laidLooks := .later }
def ExplainDiffersCardSaid : Prop := Claim7.holds Tryz.pinned (.plain (OpenSpec.ofChange explainDiffersSpec)) explainDiffersCard

/-- THE SECOND FORM's CARD OF 'tidegatelaw58.ExplainDiffers'. -/
def explainDiffersUptoCard : Claim7 := { stood := { row := explainDiffersUptoRow, standIns := [], harness := (true, "8340d68bd92b0f9bb6983a524105bcc1cf6c9330362827668840d2b6d99333b0"), looks := false }, kinds := [], alts := [], laidByText := true, laidKinds := [.data, .data, .data, .data, .data], laidTests := true, laidLooks := .later }
def ExplainDiffersUptoCardSaid : Prop := Claim7.holds Tryz.pinned (.plain (OpenSpec.upto explainDiffersSpec)) explainDiffersUptoCard
end Rows
end Go.Proofs.YtjkhdpdnimfmdaaGreatDoor
