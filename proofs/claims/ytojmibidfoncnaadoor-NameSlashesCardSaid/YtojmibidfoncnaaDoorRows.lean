/-
  NARROWER THAN 'FOR EVERY INPUT', by the rows' own cells (each row's printed sentence says how): NameChecks: laid · NameSplits: laid · NameSlashes: laid · NameParents: laid · NameEnds: laid · NameTargets: laid · NameLimits: laid · NameTwo: laid · NameJoins: laid · NameKept: laid.
  DERIVED. THE GIVEN ROWS OF THIS SEAT. 10 by the template 'for every input the law returns true; each argument reads behind the call as it read before'; 0 by the template 'total and deterministic' (their statements: YtojmibidfoncnaaDoorTotals.lean).
  GIVEN WITH THE SEED: the statements are not yours to turn. If you find one false, say at which input.
  Laid BY PROGRAM, IN A SANDBOX (cutbox-rows.mjs): the forced cells as the released guide's own fill.sh prints them over the translation fe78467e0f301904… (all of the seat's roots in one cut). By AI agents, Wed Nov 11 2026. No macro, syntax, notation, axiom, sorry.
-/
import Derived.Test.YtojmibidfoncnaaDoorChecked
import GoSem.PinnedTables
import GoSem.Claim
import GoSem.ClaimJoined
import GoSem.ClaimMapViews
import Derived.JoinedTies
import Derived.KernelRfl
namespace Go.Proofs.YtojmibidfoncnaaDoor
/- THE CELL 'sum', in the pinned program and in every row, IS THE sha256 OF THE DUMP (.gsa) THAT YtojmibidfoncnaaDoorProg.lean LOADS. Nothing in Lean hashes anything: it is a label: what it is worth is what the hold of that sum in a sandbox is worth. -/
noncomputable def Tryd.pinned : Pinned := { name := "ytojmibidfoncnaadoor", sum := "fe78467e0f3019045008e255340f8fe7e6f0a44558d704d82182b586433f6261", checked := Tryd.checked }
namespace Rows
def none {H : Type} : Left H := { results := [], args := [] }

/- WHAT THE LISTED PACKAGE-LEVEL VARIABLES READ AS WHEN THE CALL BEGINS. Each datum BY PROGRAM (the guide's laid-datum.mjs) off the statement by which the dump's own 'gosem.cut.vars' lays the variable. In a bare row this is a premise. The card (YtojmibidfoncnaaDoorCards.lean) ties it to the program's text. -/
def laid_unicode_utf8_acceptRanges {H : Type} : DataW H := .agg [.agg [.lit (.int .u8 128), .lit (.int .u8 191)], .agg [.lit (.int .u8 160), .lit (.int .u8 191)], .agg [.lit (.int .u8 128), .lit (.int .u8 159)], .agg [.lit (.int .u8 144), .lit (.int .u8 191)], .agg [.lit (.int .u8 128), .lit (.int .u8 143)], .agg [.lit (.int .u8 0), .lit (.int .u8 0)], .agg [.lit (.int .u8 0), .lit (.int .u8 0)], .agg [.lit (.int .u8 0), .lit (.int .u8 0)], .agg [.lit (.int .u8 0), .lit (.int .u8 0)], .agg [.lit (.int .u8 0), .lit (.int .u8 0)], .agg [.lit (.int .u8 0), .lit (.int .u8 0)], .agg [.lit (.int .u8 0), .lit (.int .u8 0)], .agg [.lit (.int .u8 0), .lit (.int .u8 0)], .agg [.lit (.int .u8 0), .lit (.int .u8 0)], .agg [.lit (.int .u8 0), .lit (.int .u8 0)], .agg [.lit (.int .u8 0), .lit (.int .u8 0)]]
/-- One of Go's own tables, pinned by name: the form's constant. -/
def laid_unicode_utf8_first : DataW Unit := Go.Pinned.utf8First

/-- 'vistalaw02.NameChecks': WHATEVER THE INPUT: true; the input reads as it did. -/
def nameChecksSpec : ChangeSpec := { name := "nameChecks", fn := fun _ => fun
  | [d] => { results := [.lit (.bool true)], args := [d] }
  | _ => none }
def nameChecksRow : OpenClaim := { program := "ytojmibidfoncnaadoor", sum := "fe78467e0f3019045008e255340f8fe7e6f0a44558d704d82182b586433f6261", func := "vista/vistalaw02.NameChecks", spec := "nameChecks", inPlace := ["internal/bytealg.CountString", "internal/bytealg.IndexByteString", "internal/bytealg.IndexString"], named := ["unicode/utf8.first", "unicode/utf8.acceptRanges", "internal/bytealg.MaxLen"], apart := false, laid := [("unicode/utf8.acceptRanges", laid_unicode_utf8_acceptRanges), ("unicode/utf8.first", laid_unicode_utf8_first)] }
def NameChecksSaid : Prop := nameChecksRow.holds Tryd.pinned (OpenSpec.ofChange nameChecksSpec)

/-- ITS FALSE NEIGHBOUR: 'it returns false'. Refute it at one input. -/
def nameChecksWrong : ChangeSpec := { name := "nameChecks", fn := fun _ => fun
  | [d] => { results := [.lit (.bool false)], args := [d] }
  | _ => none }
def NameChecksWrongFalsely : Prop := nameChecksRow.holds Tryd.pinned (OpenSpec.ofChange nameChecksWrong)

/-- 'vistalaw02.NameSplits': WHATEVER THE INPUT: true; the input reads as it did. -/
def nameSplitsSpec : ChangeSpec := { name := "nameSplits", fn := fun _ => fun
  | [d] => { results := [.lit (.bool true)], args := [d] }
  | _ => none }
def nameSplitsRow : OpenClaim := { program := "ytojmibidfoncnaadoor", sum := "fe78467e0f3019045008e255340f8fe7e6f0a44558d704d82182b586433f6261", func := "vista/vistalaw02.NameSplits", spec := "nameSplits", inPlace := ["internal/bytealg.CountString", "internal/bytealg.IndexByteString", "internal/bytealg.IndexString"], named := ["unicode/utf8.first", "unicode/utf8.acceptRanges", "internal/bytealg.MaxLen"], apart := false, laid := [("unicode/utf8.acceptRanges", laid_unicode_utf8_acceptRanges), ("unicode/utf8.first", laid_unicode_utf8_first)] }
def NameSplitsSaid : Prop := nameSplitsRow.holds Tryd.pinned (OpenSpec.ofChange nameSplitsSpec)

/-- ITS FALSE NEIGHBOUR: 'it returns false'. Refute it at one input. -/
def nameSplitsWrong : ChangeSpec := { name := "nameSplits", fn := fun _ => fun
  | [d] => { results := [.lit (.bool false)], args := [d] }
  | _ => none }
def NameSplitsWrongFalsely : Prop := nameSplitsRow.holds Tryd.pinned (OpenSpec.ofChange nameSplitsWrong)

/-- 'vistalaw02.NameSlashes': WHATEVER THE INPUT: true; the input reads as it did. -/
def nameSlashesSpec : ChangeSpec := { name := "nameSlashes", fn := fun _ => fun
  | [d1, d2] => { results := [.lit (.bool true)], args := [d1, d2] }
  | _ => none }
def nameSlashesRow : OpenClaim := { program := "ytojmibidfoncnaadoor", sum := "fe78467e0f3019045008e255340f8fe7e6f0a44558d704d82182b586433f6261", func := "vista/vistalaw02.NameSlashes", spec := "nameSlashes", inPlace := ["internal/bytealg.CountString", "internal/bytealg.IndexByteString", "internal/bytealg.IndexString"], named := ["unicode/utf8.first", "unicode/utf8.acceptRanges", "internal/bytealg.MaxLen"], apart := false, laid := [("unicode/utf8.acceptRanges", laid_unicode_utf8_acceptRanges), ("unicode/utf8.first", laid_unicode_utf8_first)] }
def NameSlashesSaid : Prop := nameSlashesRow.holds Tryd.pinned (OpenSpec.ofChange nameSlashesSpec)

/-- ITS FALSE NEIGHBOUR: 'it returns false'. Refute it at one input. -/
def nameSlashesWrong : ChangeSpec := { name := "nameSlashes", fn := fun _ => fun
  | [d1, d2] => { results := [.lit (.bool false)], args := [d1, d2] }
  | _ => none }
def NameSlashesWrongFalsely : Prop := nameSlashesRow.holds Tryd.pinned (OpenSpec.ofChange nameSlashesWrong)

/-- 'vistalaw02.NameParents': WHATEVER THE INPUT: true; the input reads as it did. -/
def nameParentsSpec : ChangeSpec := { name := "nameParents", fn := fun _ => fun
  | [d] => { results := [.lit (.bool true)], args := [d] }
  | _ => none }
def nameParentsRow : OpenClaim := { program := "ytojmibidfoncnaadoor", sum := "fe78467e0f3019045008e255340f8fe7e6f0a44558d704d82182b586433f6261", func := "vista/vistalaw02.NameParents", spec := "nameParents", inPlace := ["internal/bytealg.CountString", "internal/bytealg.IndexByteString", "internal/bytealg.IndexString"], named := ["unicode/utf8.first", "unicode/utf8.acceptRanges", "internal/bytealg.MaxLen"], apart := false, laid := [("unicode/utf8.acceptRanges", laid_unicode_utf8_acceptRanges), ("unicode/utf8.first", laid_unicode_utf8_first)] }
def NameParentsSaid : Prop := nameParentsRow.holds Tryd.pinned (OpenSpec.ofChange nameParentsSpec)

/-- ITS FALSE NEIGHBOUR: 'it returns false'. Refute it at one input. -/
def nameParentsWrong : ChangeSpec := { name := "nameParents", fn := fun _ => fun
  | [d] => { results := [.lit (.bool false)], args := [d] }
  | _ => none }
def NameParentsWrongFalsely : Prop := nameParentsRow.holds Tryd.pinned (OpenSpec.ofChange nameParentsWrong)

/-- 'vistalaw02.NameEnds': WHATEVER THE INPUT: true; the input reads as it did. -/
def nameEndsSpec : ChangeSpec := { name := "nameEnds", fn := fun _ => fun
  | [d] => { results := [.lit (.bool true)], args := [d] }
  | _ => none }
def nameEndsRow : OpenClaim := { program := "ytojmibidfoncnaadoor", sum := "fe78467e0f3019045008e255340f8fe7e6f0a44558d704d82182b586433f6261", func := "vista/vistalaw02.NameEnds", spec := "nameEnds", inPlace := ["internal/bytealg.CountString", "internal/bytealg.IndexByteString", "internal/bytealg.IndexString"], named := ["unicode/utf8.first", "unicode/utf8.acceptRanges", "internal/bytealg.MaxLen"], apart := false, laid := [("unicode/utf8.acceptRanges", laid_unicode_utf8_acceptRanges), ("unicode/utf8.first", laid_unicode_utf8_first)] }
def NameEndsSaid : Prop := nameEndsRow.holds Tryd.pinned (OpenSpec.ofChange nameEndsSpec)

/-- ITS FALSE NEIGHBOUR: 'it returns false'. Refute it at one input. -/
def nameEndsWrong : ChangeSpec := { name := "nameEnds", fn := fun _ => fun
  | [d] => { results := [.lit (.bool false)], args := [d] }
  | _ => none }
def NameEndsWrongFalsely : Prop := nameEndsRow.holds Tryd.pinned (OpenSpec.ofChange nameEndsWrong)

/-- 'vistalaw02.NameTargets': WHATEVER THE INPUT: true; the input reads as it did. -/
def nameTargetsSpec : ChangeSpec := { name := "nameTargets", fn := fun _ => fun
  | [d] => { results := [.lit (.bool true)], args := [d] }
  | _ => none }
def nameTargetsRow : OpenClaim := { program := "ytojmibidfoncnaadoor", sum := "fe78467e0f3019045008e255340f8fe7e6f0a44558d704d82182b586433f6261", func := "vista/vistalaw02.NameTargets", spec := "nameTargets", inPlace := ["internal/bytealg.CountString", "internal/bytealg.IndexByteString", "internal/bytealg.IndexString"], named := ["unicode/utf8.first", "unicode/utf8.acceptRanges", "internal/bytealg.MaxLen"], apart := false, laid := [("unicode/utf8.acceptRanges", laid_unicode_utf8_acceptRanges), ("unicode/utf8.first", laid_unicode_utf8_first)] }
def NameTargetsSaid : Prop := nameTargetsRow.holds Tryd.pinned (OpenSpec.ofChange nameTargetsSpec)

/-- ITS FALSE NEIGHBOUR: 'it returns false'. Refute it at one input. -/
def nameTargetsWrong : ChangeSpec := { name := "nameTargets", fn := fun _ => fun
  | [d] => { results := [.lit (.bool false)], args := [d] }
  | _ => none }
def NameTargetsWrongFalsely : Prop := nameTargetsRow.holds Tryd.pinned (OpenSpec.ofChange nameTargetsWrong)

/-- 'vistalaw02.NameLimits': WHATEVER THE INPUT: true; the input reads as it did. -/
def nameLimitsSpec : ChangeSpec := { name := "nameLimits", fn := fun _ => fun
  | [d1, d2] => { results := [.lit (.bool true)], args := [d1, d2] }
  | _ => none }
def nameLimitsRow : OpenClaim := { program := "ytojmibidfoncnaadoor", sum := "fe78467e0f3019045008e255340f8fe7e6f0a44558d704d82182b586433f6261", func := "vista/vistalaw02.NameLimits", spec := "nameLimits", inPlace := ["internal/bytealg.CountString", "internal/bytealg.IndexByteString", "internal/bytealg.IndexString"], named := ["unicode/utf8.first", "unicode/utf8.acceptRanges", "internal/bytealg.MaxLen"], apart := false, laid := [("unicode/utf8.acceptRanges", laid_unicode_utf8_acceptRanges), ("unicode/utf8.first", laid_unicode_utf8_first)] }
def NameLimitsSaid : Prop := nameLimitsRow.holds Tryd.pinned (OpenSpec.ofChange nameLimitsSpec)

/-- ITS FALSE NEIGHBOUR: 'it returns false'. Refute it at one input. -/
def nameLimitsWrong : ChangeSpec := { name := "nameLimits", fn := fun _ => fun
  | [d1, d2] => { results := [.lit (.bool false)], args := [d1, d2] }
  | _ => none }
def NameLimitsWrongFalsely : Prop := nameLimitsRow.holds Tryd.pinned (OpenSpec.ofChange nameLimitsWrong)

/-- 'vistalaw02.NameTwo': WHATEVER THE INPUT: true; the input reads as it did. -/
def nameTwoSpec : ChangeSpec := { name := "nameTwo", fn := fun _ => fun
  | [d] => { results := [.lit (.bool true)], args := [d] }
  | _ => none }
def nameTwoRow : OpenClaim := { program := "ytojmibidfoncnaadoor", sum := "fe78467e0f3019045008e255340f8fe7e6f0a44558d704d82182b586433f6261", func := "vista/vistalaw02.NameTwo", spec := "nameTwo", inPlace := ["internal/bytealg.CountString", "internal/bytealg.IndexByteString", "internal/bytealg.IndexString"], named := ["unicode/utf8.first", "unicode/utf8.acceptRanges", "internal/bytealg.MaxLen"], apart := false, laid := [("unicode/utf8.acceptRanges", laid_unicode_utf8_acceptRanges), ("unicode/utf8.first", laid_unicode_utf8_first)] }
def NameTwoSaid : Prop := nameTwoRow.holds Tryd.pinned (OpenSpec.ofChange nameTwoSpec)

/-- ITS FALSE NEIGHBOUR: 'it returns false'. Refute it at one input. -/
def nameTwoWrong : ChangeSpec := { name := "nameTwo", fn := fun _ => fun
  | [d] => { results := [.lit (.bool false)], args := [d] }
  | _ => none }
def NameTwoWrongFalsely : Prop := nameTwoRow.holds Tryd.pinned (OpenSpec.ofChange nameTwoWrong)

/-- 'vistalaw02.NameJoins': WHATEVER THE INPUT: true; the input reads as it did. -/
def nameJoinsSpec : ChangeSpec := { name := "nameJoins", fn := fun _ => fun
  | [d] => { results := [.lit (.bool true)], args := [d] }
  | _ => none }
def nameJoinsRow : OpenClaim := { program := "ytojmibidfoncnaadoor", sum := "fe78467e0f3019045008e255340f8fe7e6f0a44558d704d82182b586433f6261", func := "vista/vistalaw02.NameJoins", spec := "nameJoins", inPlace := ["internal/bytealg.CountString", "internal/bytealg.IndexByteString", "internal/bytealg.IndexString"], named := ["unicode/utf8.first", "unicode/utf8.acceptRanges", "internal/bytealg.MaxLen"], apart := false, laid := [("unicode/utf8.acceptRanges", laid_unicode_utf8_acceptRanges), ("unicode/utf8.first", laid_unicode_utf8_first)] }
def NameJoinsSaid : Prop := nameJoinsRow.holds Tryd.pinned (OpenSpec.ofChange nameJoinsSpec)

/-- ITS FALSE NEIGHBOUR: 'it returns false'. Refute it at one input. -/
def nameJoinsWrong : ChangeSpec := { name := "nameJoins", fn := fun _ => fun
  | [d] => { results := [.lit (.bool false)], args := [d] }
  | _ => none }
def NameJoinsWrongFalsely : Prop := nameJoinsRow.holds Tryd.pinned (OpenSpec.ofChange nameJoinsWrong)

/-- 'vistalaw02.NameKept': WHATEVER THE INPUT: true; the input reads as it did. -/
def nameKeptSpec : ChangeSpec := { name := "nameKept", fn := fun _ => fun
  | [d] => { results := [.lit (.bool true)], args := [d] }
  | _ => none }
def nameKeptRow : OpenClaim := { program := "ytojmibidfoncnaadoor", sum := "fe78467e0f3019045008e255340f8fe7e6f0a44558d704d82182b586433f6261", func := "vista/vistalaw02.NameKept", spec := "nameKept", inPlace := ["internal/bytealg.CountString", "internal/bytealg.IndexByteString", "internal/bytealg.IndexString"], named := ["unicode/utf8.first", "unicode/utf8.acceptRanges", "internal/bytealg.MaxLen"], apart := false, laid := [("unicode/utf8.acceptRanges", laid_unicode_utf8_acceptRanges), ("unicode/utf8.first", laid_unicode_utf8_first)] }
def NameKeptSaid : Prop := nameKeptRow.holds Tryd.pinned (OpenSpec.ofChange nameKeptSpec)

/-- ITS FALSE NEIGHBOUR: 'it returns false'. Refute it at one input. -/
def nameKeptWrong : ChangeSpec := { name := "nameKept", fn := fun _ => fun
  | [d] => { results := [.lit (.bool false)], args := [d] }
  | _ => none }
def NameKeptWrongFalsely : Prop := nameKeptRow.holds Tryd.pinned (OpenSpec.ofChange nameKeptWrong)

/- THE SECOND FORM. 'bulk': how many values and letters a reading holds, each counted each time it is reached (what is shared counts as often as it is met; a slice's spare places count too). A statement '..UptoSaid' is the law's where the arguments, and the package variables that the reading takes, are together of bulk at most 1048576: NARROWER than '..Said'. Prove '..Said' where nothing that the law and all that it calls make is longer than what came in: it says more and counts as full. Else prove '..UptoSaid'. A law counts once. -/
mutual
def uptoBulk {H : Type} : DataW H → Nat
  | .lit (.string bytes) => bytes.length + 1
  | .lit _ => 1
  | .nil => 1
  | .ptr d => uptoBulk d + 1
  | .slice elems spare => uptoBulkAll elems + uptoBulkAll spare + 1
  | .agg parts => uptoBulkAll parts + 1
  | .iface _ d => uptoBulk d + 1
  | .map entries => uptoBulkEntries entries + 1
  | .held _ => 1
def uptoBulkAll {H : Type} : List (DataW H) → Nat
  | [] => 0
  | d :: r => uptoBulk d + uptoBulkAll r
def uptoBulkEntries {H : Type} : List (Lit × DataW H) → Nat
  | [] => 0
  | x :: r => uptoBulkEntry x + uptoBulkEntries r
def uptoBulkEntry {H : Type} : Lit × DataW H → Nat
  | (.string bytes, d) => bytes.length + uptoBulk d + 1
  | (_, d) => uptoBulk d + 1
 end
def uptoSmall : (H : Type) → List (DataW H) → Bool := fun _ ds => decide (uptoBulkAll ds ≤ 1048576)
def OpenSpec.upto (s : _root_.Go.ChangeSpec) : _root_.Go.OpenSpec := { _root_.Go.OpenSpec.ofChange s with cond := some uptoSmall }

/-- 'vistalaw02.NameChecks', WHERE WHAT IT READS IS OF BULK AT MOST 1048576: true; the input reads as it did. -/
def nameChecksUptoRow : OpenClaim := { program := "ytojmibidfoncnaadoor", sum := "fe78467e0f3019045008e255340f8fe7e6f0a44558d704d82182b586433f6261", func := "vista/vistalaw02.NameChecks", spec := "nameChecks", inPlace := ["internal/bytealg.CountString", "internal/bytealg.IndexByteString", "internal/bytealg.IndexString"], named := ["unicode/utf8.first", "unicode/utf8.acceptRanges", "internal/bytealg.MaxLen"], apart := false, laid := [("unicode/utf8.acceptRanges", laid_unicode_utf8_acceptRanges), ("unicode/utf8.first", laid_unicode_utf8_first)], narrowed := true }
def NameChecksUptoSaid : Prop := nameChecksUptoRow.holds Tryd.pinned (OpenSpec.upto nameChecksSpec)

/-- 'vistalaw02.NameSplits', WHERE WHAT IT READS IS OF BULK AT MOST 1048576: true; the input reads as it did. -/
def nameSplitsUptoRow : OpenClaim := { program := "ytojmibidfoncnaadoor", sum := "fe78467e0f3019045008e255340f8fe7e6f0a44558d704d82182b586433f6261", func := "vista/vistalaw02.NameSplits", spec := "nameSplits", inPlace := ["internal/bytealg.CountString", "internal/bytealg.IndexByteString", "internal/bytealg.IndexString"], named := ["unicode/utf8.first", "unicode/utf8.acceptRanges", "internal/bytealg.MaxLen"], apart := false, laid := [("unicode/utf8.acceptRanges", laid_unicode_utf8_acceptRanges), ("unicode/utf8.first", laid_unicode_utf8_first)], narrowed := true }
def NameSplitsUptoSaid : Prop := nameSplitsUptoRow.holds Tryd.pinned (OpenSpec.upto nameSplitsSpec)

/-- 'vistalaw02.NameSlashes', WHERE WHAT IT READS IS OF BULK AT MOST 1048576: true; the input reads as it did. -/
def nameSlashesUptoRow : OpenClaim := { program := "ytojmibidfoncnaadoor", sum := "fe78467e0f3019045008e255340f8fe7e6f0a44558d704d82182b586433f6261", func := "vista/vistalaw02.NameSlashes", spec := "nameSlashes", inPlace := ["internal/bytealg.CountString", "internal/bytealg.IndexByteString", "internal/bytealg.IndexString"], named := ["unicode/utf8.first", "unicode/utf8.acceptRanges", "internal/bytealg.MaxLen"], apart := false, laid := [("unicode/utf8.acceptRanges", laid_unicode_utf8_acceptRanges), ("unicode/utf8.first", laid_unicode_utf8_first)], narrowed := true }
def NameSlashesUptoSaid : Prop := nameSlashesUptoRow.holds Tryd.pinned (OpenSpec.upto nameSlashesSpec)

/-- 'vistalaw02.NameParents', WHERE WHAT IT READS IS OF BULK AT MOST 1048576: true; the input reads as it did. -/
def nameParentsUptoRow : OpenClaim := { program := "ytojmibidfoncnaadoor", sum := "fe78467e0f3019045008e255340f8fe7e6f0a44558d704d82182b586433f6261", func := "vista/vistalaw02.NameParents", spec := "nameParents", inPlace := ["internal/bytealg.CountString", "internal/bytealg.IndexByteString", "internal/bytealg.IndexString"], named := ["unicode/utf8.first", "unicode/utf8.acceptRanges", "internal/bytealg.MaxLen"], apart := false, laid := [("unicode/utf8.acceptRanges", laid_unicode_utf8_acceptRanges), ("unicode/utf8.first", laid_unicode_utf8_first)], narrowed := true }
def NameParentsUptoSaid : Prop := nameParentsUptoRow.holds Tryd.pinned (OpenSpec.upto nameParentsSpec)

/-- 'vistalaw02.NameEnds', WHERE WHAT IT READS IS OF BULK AT MOST 1048576: true; the input reads as it did. -/
def nameEndsUptoRow : OpenClaim := { program := "ytojmibidfoncnaadoor", sum := "fe78467e0f3019045008e255340f8fe7e6f0a44558d704d82182b586433f6261", func := "vista/vistalaw02.NameEnds", spec := "nameEnds", inPlace := ["internal/bytealg.CountString", "internal/bytealg.IndexByteString", "internal/bytealg.IndexString"], named := ["unicode/utf8.first", "unicode/utf8.acceptRanges", "internal/bytealg.MaxLen"], apart := false, laid := [("unicode/utf8.acceptRanges", laid_unicode_utf8_acceptRanges), ("unicode/utf8.first", laid_unicode_utf8_first)], narrowed := true }
def NameEndsUptoSaid : Prop := nameEndsUptoRow.holds Tryd.pinned (OpenSpec.upto nameEndsSpec)

/-- 'vistalaw02.NameTargets', WHERE WHAT IT READS IS OF BULK AT MOST 1048576: true; the input reads as it did. -/
def nameTargetsUptoRow : OpenClaim := { program := "ytojmibidfoncnaadoor", sum := "fe78467e0f3019045008e255340f8fe7e6f0a44558d704d82182b586433f6261", func := "vista/vistalaw02.NameTargets", spec := "nameTargets", inPlace := ["internal/bytealg.CountString", "internal/bytealg.IndexByteString", "internal/bytealg.IndexString"], named := ["unicode/utf8.first", "unicode/utf8.acceptRanges", "internal/bytealg.MaxLen"], apart := false, laid := [("unicode/utf8.acceptRanges", laid_unicode_utf8_acceptRanges), ("unicode/utf8.first", laid_unicode_utf8_first)], narrowed := true }
def NameTargetsUptoSaid : Prop := nameTargetsUptoRow.holds Tryd.pinned (OpenSpec.upto nameTargetsSpec)

/-- 'vistalaw02.NameLimits', WHERE WHAT IT READS IS OF BULK AT MOST 1048576: true; the input reads as it did. -/
def nameLimitsUptoRow : OpenClaim := { program := "ytojmibidfoncnaadoor", sum := "fe78467e0f3019045008e255340f8fe7e6f0a44558d704d82182b586433f6261", func := "vista/vistalaw02.NameLimits", spec := "nameLimits", inPlace := ["internal/bytealg.CountString", "internal/bytealg.IndexByteString", "internal/bytealg.IndexString"], named := ["unicode/utf8.first", "unicode/utf8.acceptRanges", "internal/bytealg.MaxLen"], apart := false, laid := [("unicode/utf8.acceptRanges", laid_unicode_utf8_acceptRanges), ("unicode/utf8.first", laid_unicode_utf8_first)], narrowed := true }
def NameLimitsUptoSaid : Prop := nameLimitsUptoRow.holds Tryd.pinned (OpenSpec.upto nameLimitsSpec)

/-- 'vistalaw02.NameTwo', WHERE WHAT IT READS IS OF BULK AT MOST 1048576: true; the input reads as it did. -/
def nameTwoUptoRow : OpenClaim := { program := "ytojmibidfoncnaadoor", sum := "fe78467e0f3019045008e255340f8fe7e6f0a44558d704d82182b586433f6261", func := "vista/vistalaw02.NameTwo", spec := "nameTwo", inPlace := ["internal/bytealg.CountString", "internal/bytealg.IndexByteString", "internal/bytealg.IndexString"], named := ["unicode/utf8.first", "unicode/utf8.acceptRanges", "internal/bytealg.MaxLen"], apart := false, laid := [("unicode/utf8.acceptRanges", laid_unicode_utf8_acceptRanges), ("unicode/utf8.first", laid_unicode_utf8_first)], narrowed := true }
def NameTwoUptoSaid : Prop := nameTwoUptoRow.holds Tryd.pinned (OpenSpec.upto nameTwoSpec)

/-- 'vistalaw02.NameJoins', WHERE WHAT IT READS IS OF BULK AT MOST 1048576: true; the input reads as it did. -/
def nameJoinsUptoRow : OpenClaim := { program := "ytojmibidfoncnaadoor", sum := "fe78467e0f3019045008e255340f8fe7e6f0a44558d704d82182b586433f6261", func := "vista/vistalaw02.NameJoins", spec := "nameJoins", inPlace := ["internal/bytealg.CountString", "internal/bytealg.IndexByteString", "internal/bytealg.IndexString"], named := ["unicode/utf8.first", "unicode/utf8.acceptRanges", "internal/bytealg.MaxLen"], apart := false, laid := [("unicode/utf8.acceptRanges", laid_unicode_utf8_acceptRanges), ("unicode/utf8.first", laid_unicode_utf8_first)], narrowed := true }
def NameJoinsUptoSaid : Prop := nameJoinsUptoRow.holds Tryd.pinned (OpenSpec.upto nameJoinsSpec)

/-- 'vistalaw02.NameKept', WHERE WHAT IT READS IS OF BULK AT MOST 1048576: true; the input reads as it did. -/
def nameKeptUptoRow : OpenClaim := { program := "ytojmibidfoncnaadoor", sum := "fe78467e0f3019045008e255340f8fe7e6f0a44558d704d82182b586433f6261", func := "vista/vistalaw02.NameKept", spec := "nameKept", inPlace := ["internal/bytealg.CountString", "internal/bytealg.IndexByteString", "internal/bytealg.IndexString"], named := ["unicode/utf8.first", "unicode/utf8.acceptRanges", "internal/bytealg.MaxLen"], apart := false, laid := [("unicode/utf8.acceptRanges", laid_unicode_utf8_acceptRanges), ("unicode/utf8.first", laid_unicode_utf8_first)], narrowed := true }
def NameKeptUptoSaid : Prop := nameKeptUptoRow.holds Tryd.pinned (OpenSpec.upto nameKeptSpec)

end Rows
end Go.Proofs.YtojmibidfoncnaaDoor
