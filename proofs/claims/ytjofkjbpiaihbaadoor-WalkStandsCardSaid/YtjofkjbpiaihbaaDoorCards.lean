/-
  DERIVED. GIVEN WITH THE SEED: THE CARDS: each row of YtjofkjbpiaihbaaDoorRows.lean that lists a variable, with what it lists TIED to the program's text (the seventh form; the later family's looks); each row that meets fmt, with fmt's text TOLD by the authors' own Lean function (tested against real Go, not proved from fmt's source: count such statements apart). THE CARD IS WHAT COUNTS. Prove the row's statement (the work); the ties are given (YtjofkjbpiaihbaaDoorTie.lean); close each card by the builder's one call (the guide's Derived/Test/ToyasCard.lean, 'card_holds'). Laid BY PROGRAM, IN A SANDBOX (cutbox-door.mjs). By AI agents, Wed Nov 11 2026. No macro, syntax, notation, axiom, sorry.
-/
import Derived.Test.YtjofkjbpiaihbaaDoorRows
import GoSem.ClaimSeven
namespace Go.Proofs.YtjofkjbpiaihbaaDoor
namespace Rows

/-- THE TIED CARD OF 'tandemlaw14.WalkStands'. -/
def walkStandsCard : Claim7 := { stood := { row := walkStandsRow, standIns := [], harness := (true, "505c421a5a04c04688ed08db493a85ab79c98e3ff07b55cfe7e01a77b37eea10"), looks := false }, kinds := [], alts := [], laidByText := true, laidKinds := [.data], laidTests := true, laidLooks := .later }
def WalkStandsCardSaid : Prop := Claim7.holds Tryd.pinned (.plain (OpenSpec.ofChange walkStandsSpec)) walkStandsCard

/-- THE SECOND FORM's CARD OF 'tandemlaw14.WalkStands'. -/
def walkStandsUptoCard : Claim7 := { stood := { row := walkStandsUptoRow, standIns := [], harness := (true, "505c421a5a04c04688ed08db493a85ab79c98e3ff07b55cfe7e01a77b37eea10"), looks := false }, kinds := [], alts := [], laidByText := true, laidKinds := [.data], laidTests := true, laidLooks := .later }
def WalkStandsUptoCardSaid : Prop := Claim7.holds Tryd.pinned (.plain (OpenSpec.upto walkStandsSpec)) walkStandsUptoCard
end Rows
end Go.Proofs.YtjofkjbpiaihbaaDoor
