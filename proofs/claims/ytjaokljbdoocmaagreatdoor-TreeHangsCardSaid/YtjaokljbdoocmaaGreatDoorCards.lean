/-
  DERIVED. GIVEN WITH THE SEED: THE CARDS: each row of YtjaokljbdoocmaaGreatDoorRows.lean that lists a variable, with what it lists TIED to the program's text (the seventh form; the later family's looks); each row that meets fmt, with fmt's text TOLD by the authors' own Lean function (tested against real Go, not proved from fmt's source: count such statements apart). THE CARD IS WHAT COUNTS. Prove the row's statement (the work); the ties are given (YtjaokljbdoocmaaGreatDoorTie.lean); close each card by the builder's one call (the guide's Derived/Test/ToyasCard.lean, 'card_holds'). Laid BY PROGRAM, IN A SANDBOX (cutbox-door.mjs). By AI agents, Wed Nov 11 2026. No macro, syntax, notation, axiom, sorry.
-/
import Derived.Test.YtjaokljbdoocmaaGreatDoorRows
import GoSem.ClaimSeven
namespace Go.Proofs.YtjaokljbdoocmaaGreatDoor
namespace Rows

/-- THE TIED CARD OF 'vistalaw14.WalkKept'. -/
def walkKeptCard : Claim7 := { stood := { row := walkKeptRow, standIns := [], harness := (true, "ced2926aa4e8b6e70f1f23a4d228901a9beabdb58b2524902a603379f979b335"), looks := true }, kinds := [], alts := [], laidByText := true, laidKinds := [.data, .pinned], laidTests := true, laidLooks := .later }
def WalkKeptCardSaid : Prop := Claim7.holds Tryz.pinned (.plain (OpenSpec.ofChange walkKeptSpec)) walkKeptCard

/-- THE TIED CARD OF 'vistalaw05.TreeMoves'. -/
def treeMovesCard : Claim7 := { stood := { row := treeMovesRow, standIns := [], harness := (true, "ced2926aa4e8b6e70f1f23a4d228901a9beabdb58b2524902a603379f979b335"), looks := true }, kinds := [], alts := [], laidByText := true, laidKinds := [.data, .pinned], laidTests := true, laidLooks := .later }
def TreeMovesCardSaid : Prop := Claim7.holds Tryz.pinned (.plain (OpenSpec.ofChange treeMovesSpec)) treeMovesCard

/-- THE TIED CARD OF 'vistalaw05.TreeIds'. -/
def treeIdsCard : Claim7 := { stood := { row := treeIdsRow, standIns := [], harness := (true, "ced2926aa4e8b6e70f1f23a4d228901a9beabdb58b2524902a603379f979b335"), looks := true }, kinds := [], alts := [], laidByText := true, laidKinds := [.data, .pinned], laidTests := true, laidLooks := .later }
def TreeIdsCardSaid : Prop := Claim7.holds Tryz.pinned (.plain (OpenSpec.ofChange treeIdsSpec)) treeIdsCard

/-- THE TIED CARD OF 'vistalaw05.TreeNames'. -/
def treeNamesCard : Claim7 := { stood := { row := treeNamesRow, standIns := [], harness := (true, "ced2926aa4e8b6e70f1f23a4d228901a9beabdb58b2524902a603379f979b335"), looks := true }, kinds := [], alts := [], laidByText := true, laidKinds := [.data, .pinned], laidTests := true, laidLooks := .later }
def TreeNamesCardSaid : Prop := Claim7.holds Tryz.pinned (.plain (OpenSpec.ofChange treeNamesSpec)) treeNamesCard

/-- THE TIED CARD OF 'vistalaw05.TreeUndone'. -/
def treeUndoneCard : Claim7 := { stood := { row := treeUndoneRow, standIns := [], harness := (true, "ced2926aa4e8b6e70f1f23a4d228901a9beabdb58b2524902a603379f979b335"), looks := true }, kinds := [], alts := [], laidByText := true, laidKinds := [.data, .pinned], laidTests := true, laidLooks := .later }
def TreeUndoneCardSaid : Prop := Claim7.holds Tryz.pinned (.plain (OpenSpec.ofChange treeUndoneSpec)) treeUndoneCard

/-- THE TIED CARD OF 'vistalaw05.TreeCopies'. -/
def treeCopiesCard : Claim7 := { stood := { row := treeCopiesRow, standIns := [], harness := (true, "ced2926aa4e8b6e70f1f23a4d228901a9beabdb58b2524902a603379f979b335"), looks := true }, kinds := [], alts := [], laidByText := true, laidKinds := [.data, .pinned], laidTests := true, laidLooks := .later }
def TreeCopiesCardSaid : Prop := Claim7.holds Tryz.pinned (.plain (OpenSpec.ofChange treeCopiesSpec)) treeCopiesCard

/-- THE TIED CARD OF 'vistalaw05.TreeLooks'. -/
def treeLooksCard : Claim7 := { stood := { row := treeLooksRow, standIns := [], harness := (true, "ced2926aa4e8b6e70f1f23a4d228901a9beabdb58b2524902a603379f979b335"), looks := true }, kinds := [], alts := [], laidByText := true, laidKinds := [.data, .pinned], laidTests := true, laidLooks := .later }
def TreeLooksCardSaid : Prop := Claim7.holds Tryz.pinned (.plain (OpenSpec.ofChange treeLooksSpec)) treeLooksCard

/-- THE TIED CARD OF 'vistalaw05.TreeHangs'. -/
def treeHangsCard : Claim7 := { stood := { row := treeHangsRow, standIns := [], harness := (true, "ced2926aa4e8b6e70f1f23a4d228901a9beabdb58b2524902a603379f979b335"), looks := true }, kinds := [], alts := [], laidByText := true, laidKinds := [.data, .pinned], laidTests := true, laidLooks := .later }
def TreeHangsCardSaid : Prop := Claim7.holds Tryz.pinned (.plain (OpenSpec.ofChange treeHangsSpec)) treeHangsCard

/-- THE TIED CARD OF 'vistalaw05.TreeBack'. -/
def treeBackCard : Claim7 := { stood := { row := treeBackRow, standIns := [], harness := (true, "ced2926aa4e8b6e70f1f23a4d228901a9beabdb58b2524902a603379f979b335"), looks := true }, kinds := [], alts := [], laidByText := true, laidKinds := [.data, .pinned], laidTests := true, laidLooks := .later }
def TreeBackCardSaid : Prop := Claim7.holds Tryz.pinned (.plain (OpenSpec.ofChange treeBackSpec)) treeBackCard

/-- THE TIED CARD OF 'vistalaw05.TreeKept'. -/
def treeKeptCard : Claim7 := { stood := { row := treeKeptRow, standIns := [], harness := (true, "ced2926aa4e8b6e70f1f23a4d228901a9beabdb58b2524902a603379f979b335"), looks := true }, kinds := [], alts := [], laidByText := true, laidKinds := [.data, .pinned], laidTests := true, laidLooks := .later }
def TreeKeptCardSaid : Prop := Claim7.holds Tryz.pinned (.plain (OpenSpec.ofChange treeKeptSpec)) treeKeptCard

/-- THE SECOND FORM's CARD OF 'vistalaw14.WalkKept'. -/
def walkKeptUptoCard : Claim7 := { stood := { row := walkKeptUptoRow, standIns := [], harness := (true, "ced2926aa4e8b6e70f1f23a4d228901a9beabdb58b2524902a603379f979b335"), looks := true }, kinds := [], alts := [], laidByText := true, laidKinds := [.data, .pinned], laidTests := true, laidLooks := .later }
def WalkKeptUptoCardSaid : Prop := Claim7.holds Tryz.pinned (.plain (OpenSpec.upto walkKeptSpec)) walkKeptUptoCard

/-- THE SECOND FORM's CARD OF 'vistalaw05.TreeMoves'. -/
def treeMovesUptoCard : Claim7 := { stood := { row := treeMovesUptoRow, standIns := [], harness := (true, "ced2926aa4e8b6e70f1f23a4d228901a9beabdb58b2524902a603379f979b335"), looks := true }, kinds := [], alts := [], laidByText := true, laidKinds := [.data, .pinned], laidTests := true, laidLooks := .later }
def TreeMovesUptoCardSaid : Prop := Claim7.holds Tryz.pinned (.plain (OpenSpec.upto treeMovesSpec)) treeMovesUptoCard

/-- THE SECOND FORM's CARD OF 'vistalaw05.TreeIds'. -/
def treeIdsUptoCard : Claim7 := { stood := { row := treeIdsUptoRow, standIns := [], harness := (true, "ced2926aa4e8b6e70f1f23a4d228901a9beabdb58b2524902a603379f979b335"), looks := true }, kinds := [], alts := [], laidByText := true, laidKinds := [.data, .pinned], laidTests := true, laidLooks := .later }
def TreeIdsUptoCardSaid : Prop := Claim7.holds Tryz.pinned (.plain (OpenSpec.upto treeIdsSpec)) treeIdsUptoCard

/-- THE SECOND FORM's CARD OF 'vistalaw05.TreeNames'. -/
def treeNamesUptoCard : Claim7 := { stood := { row := treeNamesUptoRow, standIns := [], harness := (true, "ced2926aa4e8b6e70f1f23a4d228901a9beabdb58b2524902a603379f979b335"), looks := true }, kinds := [], alts := [], laidByText := true, laidKinds := [.data, .pinned], laidTests := true, laidLooks := .later }
def TreeNamesUptoCardSaid : Prop := Claim7.holds Tryz.pinned (.plain (OpenSpec.upto treeNamesSpec)) treeNamesUptoCard

/-- THE SECOND FORM's CARD OF 'vistalaw05.TreeUndone'. -/
def treeUndoneUptoCard : Claim7 := { stood := { row := treeUndoneUptoRow, standIns := [], harness := (true, "ced2926aa4e8b6e70f1f23a4d228901a9beabdb58b2524902a603379f979b335"), looks := true }, kinds := [], alts := [], laidByText := true, laidKinds := [.data, .pinned], laidTests := true, laidLooks := .later }
def TreeUndoneUptoCardSaid : Prop := Claim7.holds Tryz.pinned (.plain (OpenSpec.upto treeUndoneSpec)) treeUndoneUptoCard

/-- THE SECOND FORM's CARD OF 'vistalaw05.TreeCopies'. -/
def treeCopiesUptoCard : Claim7 := { stood := { row := treeCopiesUptoRow, standIns := [], harness := (true, "ced2926aa4e8b6e70f1f23a4d228901a9beabdb58b2524902a603379f979b335"), looks := true }, kinds := [], alts := [], laidByText := true, laidKinds := [.data, .pinned], laidTests := true, laidLooks := .later }
def TreeCopiesUptoCardSaid : Prop := Claim7.holds Tryz.pinned (.plain (OpenSpec.upto treeCopiesSpec)) treeCopiesUptoCard

/-- THE SECOND FORM's CARD OF 'vistalaw05.TreeLooks'. -/
def treeLooksUptoCard : Claim7 := { stood := { row := treeLooksUptoRow, standIns := [], harness := (true, "ced2926aa4e8b6e70f1f23a4d228901a9beabdb58b2524902a603379f979b335"), looks := true }, kinds := [], alts := [], laidByText := true, laidKinds := [.data, .pinned], laidTests := true, laidLooks := .later }
def TreeLooksUptoCardSaid : Prop := Claim7.holds Tryz.pinned (.plain (OpenSpec.upto treeLooksSpec)) treeLooksUptoCard

/-- THE SECOND FORM's CARD OF 'vistalaw05.TreeHangs'. -/
def treeHangsUptoCard : Claim7 := { stood := { row := treeHangsUptoRow, standIns := [], harness := (true, "ced2926aa4e8b6e70f1f23a4d228901a9beabdb58b2524902a603379f979b335"), looks := true }, kinds := [], alts := [], laidByText := true, laidKinds := [.data, .pinned], laidTests := true, laidLooks := .later }
def TreeHangsUptoCardSaid : Prop := Claim7.holds Tryz.pinned (.plain (OpenSpec.upto treeHangsSpec)) treeHangsUptoCard

/-- THE SECOND FORM's CARD OF 'vistalaw05.TreeBack'. -/
def treeBackUptoCard : Claim7 := { stood := { row := treeBackUptoRow, standIns := [], harness := (true, "ced2926aa4e8b6e70f1f23a4d228901a9beabdb58b2524902a603379f979b335"), looks := true }, kinds := [], alts := [], laidByText := true, laidKinds := [.data, .pinned], laidTests := true, laidLooks := .later }
def TreeBackUptoCardSaid : Prop := Claim7.holds Tryz.pinned (.plain (OpenSpec.upto treeBackSpec)) treeBackUptoCard

/-- THE SECOND FORM's CARD OF 'vistalaw05.TreeKept'. -/
def treeKeptUptoCard : Claim7 := { stood := { row := treeKeptUptoRow, standIns := [], harness := (true, "ced2926aa4e8b6e70f1f23a4d228901a9beabdb58b2524902a603379f979b335"), looks := true }, kinds := [], alts := [], laidByText := true, laidKinds := [.data, .pinned], laidTests := true, laidLooks := .later }
def TreeKeptUptoCardSaid : Prop := Claim7.holds Tryz.pinned (.plain (OpenSpec.upto treeKeptSpec)) treeKeptUptoCard
end Rows
end Go.Proofs.YtjaokljbdoocmaaGreatDoor
