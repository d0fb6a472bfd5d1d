/-
  DERIVED. GIVEN WITH THE SEED: THE CARDS: each row of YtojmibidfoncnaaDoorRows.lean that lists a variable, with what it lists TIED to the program's text (the seventh form; the later family's looks); each row that meets fmt, with fmt's text TOLD by the authors' own Lean function (tested against real Go, not proved from fmt's source: count such statements apart). THE CARD IS WHAT COUNTS. Prove the row's statement (the work); the ties are given (YtojmibidfoncnaaDoorTie.lean); close each card by the builder's one call (the guide's Derived/Test/ToyasCard.lean, 'card_holds'). Laid BY PROGRAM, IN A SANDBOX (cutbox-door.mjs). By AI agents, Wed Nov 11 2026. No macro, syntax, notation, axiom, sorry.
-/
import Derived.Test.YtojmibidfoncnaaDoorRows
import GoSem.ClaimSeven
namespace Go.Proofs.YtojmibidfoncnaaDoor
namespace Rows

/-- THE TIED CARD OF 'vistalaw02.NameChecks'. -/
def nameChecksCard : Claim7 := { stood := { row := nameChecksRow, standIns := [], harness := (true, "73a59fc9e5bf6fae68668e9b5e0eced2dc4c2e5455b210f37295c383d43e18fb"), looks := false }, kinds := [], alts := [], laidByText := true, laidKinds := [.data, .pinned], laidTests := true, laidLooks := .later }
def NameChecksCardSaid : Prop := Claim7.holds Tryd.pinned (.plain (OpenSpec.ofChange nameChecksSpec)) nameChecksCard

/-- THE TIED CARD OF 'vistalaw02.NameSplits'. -/
def nameSplitsCard : Claim7 := { stood := { row := nameSplitsRow, standIns := [], harness := (true, "73a59fc9e5bf6fae68668e9b5e0eced2dc4c2e5455b210f37295c383d43e18fb"), looks := false }, kinds := [], alts := [], laidByText := true, laidKinds := [.data, .pinned], laidTests := true, laidLooks := .later }
def NameSplitsCardSaid : Prop := Claim7.holds Tryd.pinned (.plain (OpenSpec.ofChange nameSplitsSpec)) nameSplitsCard

/-- THE TIED CARD OF 'vistalaw02.NameSlashes'. -/
def nameSlashesCard : Claim7 := { stood := { row := nameSlashesRow, standIns := [], harness := (true, "73a59fc9e5bf6fae68668e9b5e0eced2dc4c2e5455b210f37295c383d43e18fb"), looks := false }, kinds := [], alts := [], laidByText := true, laidKinds := [.data, .pinned], laidTests := true, laidLooks := .later }
def NameSlashesCardSaid : Prop := Claim7.holds Tryd.pinned (.plain (OpenSpec.ofChange nameSlashesSpec)) nameSlashesCard

/-- THE TIED CARD OF 'vistalaw02.NameParents'. -/
def nameParentsCard : Claim7 := { stood := { row := nameParentsRow, standIns := [], harness := (true, "73a59fc9e5bf6fae68668e9b5e0eced2dc4c2e5455b210f37295c383d43e18fb"), looks := false }, kinds := [], alts := [], laidByText := true, laidKinds := [.data, .pinned], laidTests := true, laidLooks := .later }
def NameParentsCardSaid : Prop := Claim7.holds Tryd.pinned (.plain (OpenSpec.ofChange nameParentsSpec)) nameParentsCard

/-- THE TIED CARD OF 'vistalaw02.NameEnds'. -/
def nameEndsCard : Claim7 := { stood := { row := nameEndsRow, standIns := [], harness := (true, "73a59fc9e5bf6fae68668e9b5e0eced2dc4c2e5455b210f37295c383d43e18fb"), looks := false }, kinds := [], alts := [], laidByText := true, laidKinds := [.data, .pinned], laidTests := true, laidLooks := .later }
def NameEndsCardSaid : Prop := Claim7.holds Tryd.pinned (.plain (OpenSpec.ofChange nameEndsSpec)) nameEndsCard

/-- THE TIED CARD OF 'vistalaw02.NameTargets'. -/
def nameTargetsCard : Claim7 := { stood := { row := nameTargetsRow, standIns := [], harness := (true, "73a59fc9e5bf6fae68668e9b5e0eced2dc4c2e5455b210f37295c383d43e18fb"), looks := false }, kinds := [], alts := [], laidByText := true, laidKinds := [.data, .pinned], laidTests := true, laidLooks := .later }
def NameTargetsCardSaid : Prop := Claim7.holds Tryd.pinned (.plain (OpenSpec.ofChange nameTargetsSpec)) nameTargetsCard

/-- THE TIED CARD OF 'vistalaw02.NameLimits'. -/
def nameLimitsCard : Claim7 := { stood := { row := nameLimitsRow, standIns := [], harness := (true, "73a59fc9e5bf6fae68668e9b5e0eced2dc4c2e5455b210f37295c383d43e18fb"), looks := false }, kinds := [], alts := [], laidByText := true, laidKinds := [.data, .pinned], laidTests := true, laidLooks := .later }
def NameLimitsCardSaid : Prop := Claim7.holds Tryd.pinned (.plain (OpenSpec.ofChange nameLimitsSpec)) nameLimitsCard

/-- THE TIED CARD OF 'vistalaw02.NameTwo'. -/
def nameTwoCard : Claim7 := { stood := { row := nameTwoRow, standIns := [], harness := (true, "73a59fc9e5bf6fae68668e9b5e0eced2dc4c2e5455b210f37295c383d43e18fb"), looks := false }, kinds := [], alts := [], laidByText := true, laidKinds := [.data, .pinned], laidTests := true, laidLooks := .later }
def NameTwoCardSaid : Prop := Claim7.holds Tryd.pinned (.plain (OpenSpec.ofChange nameTwoSpec)) nameTwoCard

/-- THE TIED CARD OF 'vistalaw02.NameJoins'. -/
def nameJoinsCard : Claim7 := { stood := { row := nameJoinsRow, standIns := [], harness := (true, "73a59fc9e5bf6fae68668e9b5e0eced2dc4c2e5455b210f37295c383d43e18fb"), looks := false }, kinds := [], alts := [], laidByText := true, laidKinds := [.data, .pinned], laidTests := true, laidLooks := .later }
def NameJoinsCardSaid : Prop := Claim7.holds Tryd.pinned (.plain (OpenSpec.ofChange nameJoinsSpec)) nameJoinsCard

/-- THE TIED CARD OF 'vistalaw02.NameKept'. -/
def nameKeptCard : Claim7 := { stood := { row := nameKeptRow, standIns := [], harness := (true, "73a59fc9e5bf6fae68668e9b5e0eced2dc4c2e5455b210f37295c383d43e18fb"), looks := false }, kinds := [], alts := [], laidByText := true, laidKinds := [.data, .pinned], laidTests := true, laidLooks := .later }
def NameKeptCardSaid : Prop := Claim7.holds Tryd.pinned (.plain (OpenSpec.ofChange nameKeptSpec)) nameKeptCard

/-- THE SECOND FORM's CARD OF 'vistalaw02.NameChecks'. -/
def nameChecksUptoCard : Claim7 := { stood := { row := nameChecksUptoRow, standIns := [], harness := (true, "73a59fc9e5bf6fae68668e9b5e0eced2dc4c2e5455b210f37295c383d43e18fb"), looks := false }, kinds := [], alts := [], laidByText := true, laidKinds := [.data, .pinned], laidTests := true, laidLooks := .later }
def NameChecksUptoCardSaid : Prop := Claim7.holds Tryd.pinned (.plain (OpenSpec.upto nameChecksSpec)) nameChecksUptoCard

/-- THE SECOND FORM's CARD OF 'vistalaw02.NameSplits'. -/
def nameSplitsUptoCard : Claim7 := { stood := { row := nameSplitsUptoRow, standIns := [], harness := (true, "73a59fc9e5bf6fae68668e9b5e0eced2dc4c2e5455b210f37295c383d43e18fb"), looks := false }, kinds := [], alts := [], laidByText := true, laidKinds := [.data, .pinned], laidTests := true, laidLooks := .later }
def NameSplitsUptoCardSaid : Prop := Claim7.holds Tryd.pinned (.plain (OpenSpec.upto nameSplitsSpec)) nameSplitsUptoCard

/-- THE SECOND FORM's CARD OF 'vistalaw02.NameSlashes'. -/
def nameSlashesUptoCard : Claim7 := { stood := { row := nameSlashesUptoRow, standIns := [], harness := (true, "73a59fc9e5bf6fae68668e9b5e0eced2dc4c2e5455b210f37295c383d43e18fb"), looks := false }, kinds := [], alts := [], laidByText := true, laidKinds := [.data, .pinned], laidTests := true, laidLooks := .later }
def NameSlashesUptoCardSaid : Prop := Claim7.holds Tryd.pinned (.plain (OpenSpec.upto nameSlashesSpec)) nameSlashesUptoCard

/-- THE SECOND FORM's CARD OF 'vistalaw02.NameParents'. -/
def nameParentsUptoCard : Claim7 := { stood := { row := nameParentsUptoRow, standIns := [], harness := (true, "73a59fc9e5bf6fae68668e9b5e0eced2dc4c2e5455b210f37295c383d43e18fb"), looks := false }, kinds := [], alts := [], laidByText := true, laidKinds := [.data, .pinned], laidTests := true, laidLooks := .later }
def NameParentsUptoCardSaid : Prop := Claim7.holds Tryd.pinned (.plain (OpenSpec.upto nameParentsSpec)) nameParentsUptoCard

/-- THE SECOND FORM's CARD OF 'vistalaw02.NameEnds'. -/
def nameEndsUptoCard : Claim7 := { stood := { row := nameEndsUptoRow, standIns := [], harness := (true, "73a59fc9e5bf6fae68668e9b5e0eced2dc4c2e5455b210f37295c383d43e18fb"), looks := false }, kinds := [], alts := [], laidByText := true, laidKinds := [.data, .pinned], laidTests := true, laidLooks := .later }
def NameEndsUptoCardSaid : Prop := Claim7.holds Tryd.pinned (.plain (OpenSpec.upto nameEndsSpec)) nameEndsUptoCard

/-- THE SECOND FORM's CARD OF 'vistalaw02.NameTargets'. -/
def nameTargetsUptoCard : Claim7 := { stood := { row := nameTargetsUptoRow, standIns := [], harness := (true, "73a59fc9e5bf6fae68668e9b5e0eced2dc4c2e5455b210f37295c383d43e18fb"), looks := false }, kinds := [], alts := [], laidByText := true, laidKinds := [.data, .pinned], laidTests := true, laidLooks := .later }
def NameTargetsUptoCardSaid : Prop := Claim7.holds Tryd.pinned (.plain (OpenSpec.upto nameTargetsSpec)) nameTargetsUptoCard

/-- THE SECOND FORM's CARD OF 'vistalaw02.NameLimits'. -/
def nameLimitsUptoCard : Claim7 := { stood := { row := nameLimitsUptoRow, standIns := [], harness := (true, "73a59fc9e5bf6fae68668e9b5e0eced2dc4c2e5455b210f37295c383d43e18fb"), looks := false }, kinds := [], alts := [], laidByText := true, laidKinds := [.data, .pinned], laidTests := true, laidLooks := .later }
def NameLimitsUptoCardSaid : Prop := Claim7.holds Tryd.pinned (.plain (OpenSpec.upto nameLimitsSpec)) nameLimitsUptoCard

/-- THE SECOND FORM's CARD OF 'vistalaw02.NameTwo'. -/
def nameTwoUptoCard : Claim7 := { stood := { row := nameTwoUptoRow, standIns := [], harness := (true, "73a59fc9e5bf6fae68668e9b5e0eced2dc4c2e5455b210f37295c383d43e18fb"), looks := false }, kinds := [], alts := [], laidByText := true, laidKinds := [.data, .pinned], laidTests := true, laidLooks := .later }
def NameTwoUptoCardSaid : Prop := Claim7.holds Tryd.pinned (.plain (OpenSpec.upto nameTwoSpec)) nameTwoUptoCard

/-- THE SECOND FORM's CARD OF 'vistalaw02.NameJoins'. -/
def nameJoinsUptoCard : Claim7 := { stood := { row := nameJoinsUptoRow, standIns := [], harness := (true, "73a59fc9e5bf6fae68668e9b5e0eced2dc4c2e5455b210f37295c383d43e18fb"), looks := false }, kinds := [], alts := [], laidByText := true, laidKinds := [.data, .pinned], laidTests := true, laidLooks := .later }
def NameJoinsUptoCardSaid : Prop := Claim7.holds Tryd.pinned (.plain (OpenSpec.upto nameJoinsSpec)) nameJoinsUptoCard

/-- THE SECOND FORM's CARD OF 'vistalaw02.NameKept'. -/
def nameKeptUptoCard : Claim7 := { stood := { row := nameKeptUptoRow, standIns := [], harness := (true, "73a59fc9e5bf6fae68668e9b5e0eced2dc4c2e5455b210f37295c383d43e18fb"), looks := false }, kinds := [], alts := [], laidByText := true, laidKinds := [.data, .pinned], laidTests := true, laidLooks := .later }
def NameKeptUptoCardSaid : Prop := Claim7.holds Tryd.pinned (.plain (OpenSpec.upto nameKeptSpec)) nameKeptUptoCard
end Rows
end Go.Proofs.YtojmibidfoncnaaDoor
