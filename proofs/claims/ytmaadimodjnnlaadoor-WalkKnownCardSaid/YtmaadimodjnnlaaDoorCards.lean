/-
  DERIVED. GIVEN WITH THE SEED: THE CARDS: each row of YtmaadimodjnnlaaDoorRows.lean that lists a variable, with what it lists TIED to the program's text (the seventh form; the later family's looks); each row that meets fmt, with fmt's text TOLD by the authors' own Lean function (tested against real Go, not proved from fmt's source: count such statements apart). THE CARD IS WHAT COUNTS. Prove the row's statement (the work); the ties are given (YtmaadimodjnnlaaDoorTie.lean); close each card by the builder's one call (the guide's Derived/Test/ToyasCard.lean, 'card_holds'). Laid BY PROGRAM, IN A SANDBOX (cutbox-door.mjs). By AI agents, Wed Nov 11 2026. No macro, syntax, notation, axiom, sorry.
-/
import Derived.Test.YtmaadimodjnnlaaDoorRows
import GoSem.ClaimSeven
namespace Go.Proofs.YtmaadimodjnnlaaDoor
namespace Rows

/-- THE TIED CARD OF 'vistalaw14.WalkLinks'. -/
def walkLinksCard : Claim7 := { stood := { row := walkLinksRow, standIns := [], harness := (true, "8268a0a1f4f590eb8c033a5527be56b8ae0de5d3a44f78d4a6df4e36c3342ef1"), looks := false }, kinds := [], alts := [], laidByText := true, laidKinds := [.data, .pinned], laidTests := true, laidLooks := .later }
def WalkLinksCardSaid : Prop := Claim7.holds Tryd.pinned (.plain (OpenSpec.ofChange walkLinksSpec)) walkLinksCard

/-- THE TIED CARD OF 'vistalaw14.WalkKnown'. -/
def walkKnownCard : Claim7 := { stood := { row := walkKnownRow, standIns := [], harness := (true, "8268a0a1f4f590eb8c033a5527be56b8ae0de5d3a44f78d4a6df4e36c3342ef1"), looks := false }, kinds := [], alts := [], laidByText := true, laidKinds := [.data, .pinned], laidTests := true, laidLooks := .later }
def WalkKnownCardSaid : Prop := Claim7.holds Tryd.pinned (.plain (OpenSpec.ofChange walkKnownSpec)) walkKnownCard

/-- THE SECOND FORM's CARD OF 'vistalaw14.WalkLinks'. -/
def walkLinksUptoCard : Claim7 := { stood := { row := walkLinksUptoRow, standIns := [], harness := (true, "8268a0a1f4f590eb8c033a5527be56b8ae0de5d3a44f78d4a6df4e36c3342ef1"), looks := false }, kinds := [], alts := [], laidByText := true, laidKinds := [.data, .pinned], laidTests := true, laidLooks := .later }
def WalkLinksUptoCardSaid : Prop := Claim7.holds Tryd.pinned (.plain (OpenSpec.upto walkLinksSpec)) walkLinksUptoCard

/-- THE SECOND FORM's CARD OF 'vistalaw14.WalkKnown'. -/
def walkKnownUptoCard : Claim7 := { stood := { row := walkKnownUptoRow, standIns := [], harness := (true, "8268a0a1f4f590eb8c033a5527be56b8ae0de5d3a44f78d4a6df4e36c3342ef1"), looks := false }, kinds := [], alts := [], laidByText := true, laidKinds := [.data, .pinned], laidTests := true, laidLooks := .later }
def WalkKnownUptoCardSaid : Prop := Claim7.holds Tryd.pinned (.plain (OpenSpec.upto walkKnownSpec)) walkKnownUptoCard
end Rows
end Go.Proofs.YtmaadimodjnnlaaDoor
