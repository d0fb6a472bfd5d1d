/-
  DERIVED. GIVEN WITH THE SEED: THE CARDS: each row of YtjaokljbdoocmaaDoorRows.lean that lists a variable, with what it lists TIED to the program's text (the seventh form; the later family's looks); each row that meets fmt, with fmt's text TOLD by the authors' own Lean function (tested against real Go, not proved from fmt's source: count such statements apart). THE CARD IS WHAT COUNTS. Prove the row's statement (the work); the ties are given (YtjaokljbdoocmaaDoorTie.lean); close each card by the builder's one call (the guide's Derived/Test/ToyasCard.lean, 'card_holds'). Laid BY PROGRAM, IN A SANDBOX (cutbox-door.mjs). By AI agents, Wed Nov 11 2026. No macro, syntax, notation, axiom, sorry.
-/
import Derived.Test.YtjaokljbdoocmaaDoorRows
import GoSem.ClaimSeven
namespace Go.Proofs.YtjaokljbdoocmaaDoor
namespace Rows

/-- THE TIED CARD OF 'vistalaw05.TreeFull'. -/
def treeFullCard : Claim7 := { stood := { row := treeFullRow, standIns := [], harness := (true, "5231892fcbb3739183173b0adc1a21ab306c2501bf445810c325d84803b9e4a7"), looks := false }, kinds := [], alts := [], laidByText := true, laidKinds := [.data, .pinned], laidTests := true, laidLooks := .later }
def TreeFullCardSaid : Prop := Claim7.holds Tryd.pinned (.plain (OpenSpec.ofChange treeFullSpec)) treeFullCard

/-- THE TIED CARD OF 'vistalaw05.TreeInside'. -/
def treeInsideCard : Claim7 := { stood := { row := treeInsideRow, standIns := [], harness := (true, "5231892fcbb3739183173b0adc1a21ab306c2501bf445810c325d84803b9e4a7"), looks := false }, kinds := [], alts := [], laidByText := true, laidKinds := [.data, .pinned], laidTests := true, laidLooks := .later }
def TreeInsideCardSaid : Prop := Claim7.holds Tryd.pinned (.plain (OpenSpec.ofChange treeInsideSpec)) treeInsideCard

/-- THE SECOND FORM's CARD OF 'vistalaw05.TreeFull'. -/
def treeFullUptoCard : Claim7 := { stood := { row := treeFullUptoRow, standIns := [], harness := (true, "5231892fcbb3739183173b0adc1a21ab306c2501bf445810c325d84803b9e4a7"), looks := false }, kinds := [], alts := [], laidByText := true, laidKinds := [.data, .pinned], laidTests := true, laidLooks := .later }
def TreeFullUptoCardSaid : Prop := Claim7.holds Tryd.pinned (.plain (OpenSpec.upto treeFullSpec)) treeFullUptoCard

/-- THE SECOND FORM's CARD OF 'vistalaw05.TreeInside'. -/
def treeInsideUptoCard : Claim7 := { stood := { row := treeInsideUptoRow, standIns := [], harness := (true, "5231892fcbb3739183173b0adc1a21ab306c2501bf445810c325d84803b9e4a7"), looks := false }, kinds := [], alts := [], laidByText := true, laidKinds := [.data, .pinned], laidTests := true, laidLooks := .later }
def TreeInsideUptoCardSaid : Prop := Claim7.holds Tryd.pinned (.plain (OpenSpec.upto treeInsideSpec)) treeInsideUptoCard
end Rows
end Go.Proofs.YtjaokljbdoocmaaDoor
