/-
  DERIVED. GIVEN WITH THE SEED: THE CARDS: each row of YtoacobcbloljkaaGreatDoorRows.lean that lists a variable, with what it lists TIED to the program's text (the seventh form; the later family's looks); each row that meets fmt, with fmt's text TOLD by the authors' own Lean function (tested against real Go, not proved from fmt's source: count such statements apart). THE CARD IS WHAT COUNTS. Prove the row's statement (the work); the ties are given (YtoacobcbloljkaaGreatDoorTie.lean); close each card by the builder's one call (the guide's Derived/Test/ToyasCard.lean, 'card_holds'). Laid BY PROGRAM, IN A SANDBOX (cutbox-door.mjs). By AI agents, Wed Nov 11 2026. No macro, syntax, notation, axiom, sorry.
-/
import Derived.Test.YtoacobcbloljkaaGreatDoorRows
import GoSem.ClaimSeven
namespace Go.Proofs.YtoacobcbloljkaaGreatDoor
namespace Rows

/-- THE TIED CARD OF 'vistalaw14.WalkKept'. -/
def walkKeptCard : Claim7 := { stood := { row := walkKeptRow, standIns := [], harness := (true, "611305b45ce0333ba03f0f92c2e23817ced4e10e605370ca52957a8d0f8c4b56"), looks := false }, kinds := [], alts := [], laidByText := true, laidKinds := [.data, .pinned], laidTests := true, laidLooks := .later }
def WalkKeptCardSaid : Prop := Claim7.holds Tryz.pinned (.plain (OpenSpec.ofChange walkKeptSpec)) walkKeptCard

/-- THE TIED CARD OF 'vistalaw14.WalkHome'. -/
def walkHomeCard : Claim7 := { stood := { row := walkHomeRow, standIns := [], harness := (true, "611305b45ce0333ba03f0f92c2e23817ced4e10e605370ca52957a8d0f8c4b56"), looks := false }, kinds := [], alts := [], laidByText := true, laidKinds := [.data, .pinned], laidTests := true, laidLooks := .later }
def WalkHomeCardSaid : Prop := Claim7.holds Tryz.pinned (.plain (OpenSpec.ofChange walkHomeSpec)) walkHomeCard

/-- THE TIED CARD OF 'vistalaw14.WalkWants'. -/
def walkWantsCard : Claim7 := { stood := { row := walkWantsRow, standIns := [], harness := (true, "611305b45ce0333ba03f0f92c2e23817ced4e10e605370ca52957a8d0f8c4b56"), looks := false }, kinds := [], alts := [], laidByText := true, laidKinds := [.data, .pinned], laidTests := true, laidLooks := .later }
def WalkWantsCardSaid : Prop := Claim7.holds Tryz.pinned (.plain (OpenSpec.ofChange walkWantsSpec)) walkWantsCard

/-- THE TIED CARD OF 'vistalaw14.WalkDots'. -/
def walkDotsCard : Claim7 := { stood := { row := walkDotsRow, standIns := [], harness := (true, "611305b45ce0333ba03f0f92c2e23817ced4e10e605370ca52957a8d0f8c4b56"), looks := false }, kinds := [], alts := [], laidByText := true, laidKinds := [.data, .pinned], laidTests := true, laidLooks := .later }
def WalkDotsCardSaid : Prop := Claim7.holds Tryz.pinned (.plain (OpenSpec.ofChange walkDotsSpec)) walkDotsCard

/-- THE TIED CARD OF 'vistalaw14.WalkFresh'. -/
def walkFreshCard : Claim7 := { stood := { row := walkFreshRow, standIns := [], harness := (true, "611305b45ce0333ba03f0f92c2e23817ced4e10e605370ca52957a8d0f8c4b56"), looks := false }, kinds := [], alts := [], laidByText := true, laidKinds := [.data, .pinned], laidTests := true, laidLooks := .later }
def WalkFreshCardSaid : Prop := Claim7.holds Tryz.pinned (.plain (OpenSpec.ofChange walkFreshSpec)) walkFreshCard

/-- THE TIED CARD OF 'vistalaw14.WalkSplices'. -/
def walkSplicesCard : Claim7 := { stood := { row := walkSplicesRow, standIns := [], harness := (true, "611305b45ce0333ba03f0f92c2e23817ced4e10e605370ca52957a8d0f8c4b56"), looks := false }, kinds := [], alts := [], laidByText := true, laidKinds := [.data, .pinned], laidTests := true, laidLooks := .later }
def WalkSplicesCardSaid : Prop := Claim7.holds Tryz.pinned (.plain (OpenSpec.ofChange walkSplicesSpec)) walkSplicesCard

/-- THE TIED CARD OF 'vistalaw14.WalkUps'. -/
def walkUpsCard : Claim7 := { stood := { row := walkUpsRow, standIns := [], harness := (true, "611305b45ce0333ba03f0f92c2e23817ced4e10e605370ca52957a8d0f8c4b56"), looks := false }, kinds := [], alts := [], laidByText := true, laidKinds := [.data, .pinned], laidTests := true, laidLooks := .later }
def WalkUpsCardSaid : Prop := Claim7.holds Tryz.pinned (.plain (OpenSpec.ofChange walkUpsSpec)) walkUpsCard

/-- THE TIED CARD OF 'vistalaw05.TreeLooks'. -/
def treeLooksCard : Claim7 := { stood := { row := treeLooksRow, standIns := [], harness := (true, "611305b45ce0333ba03f0f92c2e23817ced4e10e605370ca52957a8d0f8c4b56"), looks := false }, kinds := [], alts := [], laidByText := true, laidKinds := [.data, .pinned], laidTests := true, laidLooks := .later }
def TreeLooksCardSaid : Prop := Claim7.holds Tryz.pinned (.plain (OpenSpec.ofChange treeLooksSpec)) treeLooksCard

/-- THE TIED CARD OF 'vistalaw05.TreeBack'. -/
def treeBackCard : Claim7 := { stood := { row := treeBackRow, standIns := [], harness := (true, "611305b45ce0333ba03f0f92c2e23817ced4e10e605370ca52957a8d0f8c4b56"), looks := false }, kinds := [], alts := [], laidByText := true, laidKinds := [.data, .pinned], laidTests := true, laidLooks := .later }
def TreeBackCardSaid : Prop := Claim7.holds Tryz.pinned (.plain (OpenSpec.ofChange treeBackSpec)) treeBackCard

/-- THE TIED CARD OF 'vistalaw05.TreeKept'. -/
def treeKeptCard : Claim7 := { stood := { row := treeKeptRow, standIns := [], harness := (true, "611305b45ce0333ba03f0f92c2e23817ced4e10e605370ca52957a8d0f8c4b56"), looks := false }, kinds := [], alts := [], laidByText := true, laidKinds := [.data, .pinned], laidTests := true, laidLooks := .later }
def TreeKeptCardSaid : Prop := Claim7.holds Tryz.pinned (.plain (OpenSpec.ofChange treeKeptSpec)) treeKeptCard

/-- THE SECOND FORM's CARD OF 'vistalaw14.WalkKept'. -/
def walkKeptUptoCard : Claim7 := { stood := { row := walkKeptUptoRow, standIns := [], harness := (true, "611305b45ce0333ba03f0f92c2e23817ced4e10e605370ca52957a8d0f8c4b56"), looks := false }, kinds := [], alts := [], laidByText := true, laidKinds := [.data, .pinned], laidTests := true, laidLooks := .later }
def WalkKeptUptoCardSaid : Prop := Claim7.holds Tryz.pinned (.plain (OpenSpec.upto walkKeptSpec)) walkKeptUptoCard

/-- THE SECOND FORM's CARD OF 'vistalaw14.WalkHome'. -/
def walkHomeUptoCard : Claim7 := { stood := { row := walkHomeUptoRow, standIns := [], harness := (true, "611305b45ce0333ba03f0f92c2e23817ced4e10e605370ca52957a8d0f8c4b56"), looks := false }, kinds := [], alts := [], laidByText := true, laidKinds := [.data, .pinned], laidTests := true, laidLooks := .later }
def WalkHomeUptoCardSaid : Prop := Claim7.holds Tryz.pinned (.plain (OpenSpec.upto walkHomeSpec)) walkHomeUptoCard

/-- THE SECOND FORM's CARD OF 'vistalaw14.WalkWants'. -/
def walkWantsUptoCard : Claim7 := { stood := { row := walkWantsUptoRow, standIns := [], harness := (true, "611305b45ce0333ba03f0f92c2e23817ced4e10e605370ca52957a8d0f8c4b56"), looks := false }, kinds := [], alts := [], laidByText := true, laidKinds := [.data, .pinned], laidTests := true, laidLooks := .later }
def WalkWantsUptoCardSaid : Prop := Claim7.holds Tryz.pinned (.plain (OpenSpec.upto walkWantsSpec)) walkWantsUptoCard

/-- THE SECOND FORM's CARD OF 'vistalaw14.WalkDots'. -/
def walkDotsUptoCard : Claim7 := { stood := { row := walkDotsUptoRow, standIns := [], harness := (true, "611305b45ce0333ba03f0f92c2e23817ced4e10e605370ca52957a8d0f8c4b56"), looks := false }, kinds := [], alts := [], laidByText := true, laidKinds := [.data, .pinned], laidTests := true, laidLooks := .later }
def WalkDotsUptoCardSaid : Prop := Claim7.holds Tryz.pinned (.plain (OpenSpec.upto walkDotsSpec)) walkDotsUptoCard

/-- THE SECOND FORM's CARD OF 'vistalaw14.WalkFresh'. -/
def walkFreshUptoCard : Claim7 := { stood := { row := walkFreshUptoRow, standIns := [], harness := (true, "611305b45ce0333ba03f0f92c2e23817ced4e10e605370ca52957a8d0f8c4b56"), looks := false }, kinds := [], alts := [], laidByText := true, laidKinds := [.data, .pinned], laidTests := true, laidLooks := .later }
def WalkFreshUptoCardSaid : Prop := Claim7.holds Tryz.pinned (.plain (OpenSpec.upto walkFreshSpec)) walkFreshUptoCard

/-- THE SECOND FORM's CARD OF 'vistalaw14.WalkSplices'. -/
def walkSplicesUptoCard : Claim7 := { stood := { row := walkSplicesUptoRow, standIns := [], harness := (true, "611305b45ce0333ba03f0f92c2e23817ced4e10e605370ca52957a8d0f8c4b56"), looks := false }, kinds := [], alts := [], laidByText := true, laidKinds := [.data, .pinned], laidTests := true, laidLooks := .later }
def WalkSplicesUptoCardSaid : Prop := Claim7.holds Tryz.pinned (.plain (OpenSpec.upto walkSplicesSpec)) walkSplicesUptoCard

/-- THE SECOND FORM's CARD OF 'vistalaw14.WalkUps'. -/
def walkUpsUptoCard : Claim7 := { stood := { row := walkUpsUptoRow, standIns := [], harness := (true, "611305b45ce0333ba03f0f92c2e23817ced4e10e605370ca52957a8d0f8c4b56"), looks := false }, kinds := [], alts := [], laidByText := true, laidKinds := [.data, .pinned], laidTests := true, laidLooks := .later }
def WalkUpsUptoCardSaid : Prop := Claim7.holds Tryz.pinned (.plain (OpenSpec.upto walkUpsSpec)) walkUpsUptoCard

/-- THE SECOND FORM's CARD OF 'vistalaw05.TreeLooks'. -/
def treeLooksUptoCard : Claim7 := { stood := { row := treeLooksUptoRow, standIns := [], harness := (true, "611305b45ce0333ba03f0f92c2e23817ced4e10e605370ca52957a8d0f8c4b56"), looks := false }, kinds := [], alts := [], laidByText := true, laidKinds := [.data, .pinned], laidTests := true, laidLooks := .later }
def TreeLooksUptoCardSaid : Prop := Claim7.holds Tryz.pinned (.plain (OpenSpec.upto treeLooksSpec)) treeLooksUptoCard

/-- THE SECOND FORM's CARD OF 'vistalaw05.TreeBack'. -/
def treeBackUptoCard : Claim7 := { stood := { row := treeBackUptoRow, standIns := [], harness := (true, "611305b45ce0333ba03f0f92c2e23817ced4e10e605370ca52957a8d0f8c4b56"), looks := false }, kinds := [], alts := [], laidByText := true, laidKinds := [.data, .pinned], laidTests := true, laidLooks := .later }
def TreeBackUptoCardSaid : Prop := Claim7.holds Tryz.pinned (.plain (OpenSpec.upto treeBackSpec)) treeBackUptoCard

/-- THE SECOND FORM's CARD OF 'vistalaw05.TreeKept'. -/
def treeKeptUptoCard : Claim7 := { stood := { row := treeKeptUptoRow, standIns := [], harness := (true, "611305b45ce0333ba03f0f92c2e23817ced4e10e605370ca52957a8d0f8c4b56"), looks := false }, kinds := [], alts := [], laidByText := true, laidKinds := [.data, .pinned], laidTests := true, laidLooks := .later }
def TreeKeptUptoCardSaid : Prop := Claim7.holds Tryz.pinned (.plain (OpenSpec.upto treeKeptSpec)) treeKeptUptoCard
end Rows
end Go.Proofs.YtoacobcbloljkaaGreatDoor
