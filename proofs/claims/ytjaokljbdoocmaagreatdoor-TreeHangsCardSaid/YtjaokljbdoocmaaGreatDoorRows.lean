/-
  NARROWER THAN 'FOR EVERY INPUT', by the rows' own cells (each row's printed sentence says how): WalkKept: laid · TreeMoves: laid · TreeIds: laid · TreeNames: laid · TreeUndone: laid · TreeCopies: laid · TreeLooks: laid · TreeHangs: laid · TreeBack: laid · TreeKept: laid.
  DERIVED. THE GIVEN ROWS OF THIS SEAT. 10 by the template 'for every input the law returns true; each argument reads behind the call as it read before'; 0 by the template 'total and deterministic' (their statements: YtjaokljbdoocmaaGreatDoorTotals.lean).
  GIVEN WITH THE SEED: the statements are not yours to turn. If you find one false, say at which input.
  Laid BY PROGRAM, IN A SANDBOX (cutbox-rows.mjs): the forced cells as the released guide's own fill.sh prints them over the translation 6113702d0e47eb5b… (all of the seat's roots in one cut). By AI agents, Wed Nov 11 2026. No macro, syntax, notation, axiom, sorry.
-/
import Derived.Test.YtjaokljbdoocmaaGreatDoorChecked
import GoSem.PinnedTables
import GoSem.Claim
import GoSem.ClaimJoined
import GoSem.ClaimMapViews
import Derived.JoinedTies
import Derived.KernelRfl
namespace Go.Proofs.YtjaokljbdoocmaaGreatDoor
/- THE CELL 'sum', in the pinned program and in every row, IS THE sha256 OF THE DUMP (.gsa) THAT YtjaokljbdoocmaaGreatDoorProg.lean LOADS. Nothing in Lean hashes anything: it is a label: what it is worth is what the hold of that sum in a sandbox is worth. -/
noncomputable def Tryz.pinned : Pinned := { name := "ytjaokljbdoocmaagreatdoor", sum := "6113702d0e47eb5baa00f55fe6eb5ce9e3d7ff253dc619bfbe42cf5b3cc2daaf", checked := Tryz.checked }
namespace Rows
def none {H : Type} : Left H := { results := [], args := [] }

/- WHAT THE LISTED PACKAGE-LEVEL VARIABLES READ AS WHEN THE CALL BEGINS. Each datum BY PROGRAM (the guide's laid-datum.mjs) off the statement by which the dump's own 'gosem.cut.vars' lays the variable. In a bare row this is a premise. The card (YtjaokljbdoocmaaGreatDoorCards.lean) ties it to the program's text. -/
def laid_unicode_utf8_acceptRanges {H : Type} : DataW H := .agg [.agg [.lit (.int .u8 128), .lit (.int .u8 191)], .agg [.lit (.int .u8 160), .lit (.int .u8 191)], .agg [.lit (.int .u8 128), .lit (.int .u8 159)], .agg [.lit (.int .u8 144), .lit (.int .u8 191)], .agg [.lit (.int .u8 128), .lit (.int .u8 143)], .agg [.lit (.int .u8 0), .lit (.int .u8 0)], .agg [.lit (.int .u8 0), .lit (.int .u8 0)], .agg [.lit (.int .u8 0), .lit (.int .u8 0)], .agg [.lit (.int .u8 0), .lit (.int .u8 0)], .agg [.lit (.int .u8 0), .lit (.int .u8 0)], .agg [.lit (.int .u8 0), .lit (.int .u8 0)], .agg [.lit (.int .u8 0), .lit (.int .u8 0)], .agg [.lit (.int .u8 0), .lit (.int .u8 0)], .agg [.lit (.int .u8 0), .lit (.int .u8 0)], .agg [.lit (.int .u8 0), .lit (.int .u8 0)], .agg [.lit (.int .u8 0), .lit (.int .u8 0)]]
/-- One of Go's own tables, pinned by name: the form's constant. -/
def laid_unicode_utf8_first : DataW Unit := Go.Pinned.utf8First

/-- 'vistalaw14.WalkKept': WHATEVER THE INPUT: true; the input reads as it did. -/
def walkKeptSpec : ChangeSpec := { name := "walkKept", fn := fun _ => fun
  | [d1, d2, d3, d4] => { results := [.lit (.bool true)], args := [d1, d2, d3, d4] }
  | _ => none }
def walkKeptRow : OpenClaim := { program := "ytjaokljbdoocmaagreatdoor", sum := "6113702d0e47eb5baa00f55fe6eb5ce9e3d7ff253dc619bfbe42cf5b3cc2daaf", func := "vista/vistalaw14.WalkKept", spec := "walkKept", inPlace := ["internal/bytealg.CountString", "internal/bytealg.IndexByteString", "internal/bytealg.IndexString"], unfollowed := true, recurses := true, named := ["unicode/utf8.first", "unicode/utf8.acceptRanges", "internal/bytealg.MaxLen"], plainKeys := false, apart := false, laid := [("unicode/utf8.acceptRanges", laid_unicode_utf8_acceptRanges), ("unicode/utf8.first", laid_unicode_utf8_first)] }
def WalkKeptSaid : Prop := walkKeptRow.holds Tryz.pinned (OpenSpec.ofChange walkKeptSpec)

/-- ITS FALSE NEIGHBOUR: 'it returns false'. Refute it at one input. -/
def walkKeptWrong : ChangeSpec := { name := "walkKept", fn := fun _ => fun
  | [d1, d2, d3, d4] => { results := [.lit (.bool false)], args := [d1, d2, d3, d4] }
  | _ => none }
def WalkKeptWrongFalsely : Prop := walkKeptRow.holds Tryz.pinned (OpenSpec.ofChange walkKeptWrong)

/-- 'vistalaw05.TreeMoves': WHATEVER THE INPUT: true; the input reads as it did. -/
def treeMovesSpec : ChangeSpec := { name := "treeMoves", fn := fun _ => fun
  | [d1, d2] => { results := [.lit (.bool true)], args := [d1, d2] }
  | _ => none }
def treeMovesRow : OpenClaim := { program := "ytjaokljbdoocmaagreatdoor", sum := "6113702d0e47eb5baa00f55fe6eb5ce9e3d7ff253dc619bfbe42cf5b3cc2daaf", func := "vista/vistalaw05.TreeMoves", spec := "treeMoves", inPlace := ["internal/bytealg.CountString", "internal/bytealg.IndexByteString", "internal/bytealg.IndexString"], unfollowed := true, recurses := true, named := ["unicode/utf8.first", "unicode/utf8.acceptRanges", "internal/bytealg.MaxLen"], plainKeys := false, apart := false, laid := [("unicode/utf8.acceptRanges", laid_unicode_utf8_acceptRanges), ("unicode/utf8.first", laid_unicode_utf8_first)] }
def TreeMovesSaid : Prop := treeMovesRow.holds Tryz.pinned (OpenSpec.ofChange treeMovesSpec)

/-- ITS FALSE NEIGHBOUR: 'it returns false'. Refute it at one input. -/
def treeMovesWrong : ChangeSpec := { name := "treeMoves", fn := fun _ => fun
  | [d1, d2] => { results := [.lit (.bool false)], args := [d1, d2] }
  | _ => none }
def TreeMovesWrongFalsely : Prop := treeMovesRow.holds Tryz.pinned (OpenSpec.ofChange treeMovesWrong)

/-- 'vistalaw05.TreeIds': WHATEVER THE INPUT: true; the input reads as it did. -/
def treeIdsSpec : ChangeSpec := { name := "treeIds", fn := fun _ => fun
  | [d] => { results := [.lit (.bool true)], args := [d] }
  | _ => none }
def treeIdsRow : OpenClaim := { program := "ytjaokljbdoocmaagreatdoor", sum := "6113702d0e47eb5baa00f55fe6eb5ce9e3d7ff253dc619bfbe42cf5b3cc2daaf", func := "vista/vistalaw05.TreeIds", spec := "treeIds", inPlace := ["internal/bytealg.CountString", "internal/bytealg.IndexByteString", "internal/bytealg.IndexString"], unfollowed := true, recurses := true, named := ["unicode/utf8.first", "unicode/utf8.acceptRanges", "internal/bytealg.MaxLen"], plainKeys := false, apart := false, laid := [("unicode/utf8.acceptRanges", laid_unicode_utf8_acceptRanges), ("unicode/utf8.first", laid_unicode_utf8_first)] }
def TreeIdsSaid : Prop := treeIdsRow.holds Tryz.pinned (OpenSpec.ofChange treeIdsSpec)

/-- ITS FALSE NEIGHBOUR: 'it returns false'. Refute it at one input. -/
def treeIdsWrong : ChangeSpec := { name := "treeIds", fn := fun _ => fun
  | [d] => { results := [.lit (.bool false)], args := [d] }
  | _ => none }
def TreeIdsWrongFalsely : Prop := treeIdsRow.holds Tryz.pinned (OpenSpec.ofChange treeIdsWrong)

/-- 'vistalaw05.TreeNames': WHATEVER THE INPUT: true; the input reads as it did. -/
def treeNamesSpec : ChangeSpec := { name := "treeNames", fn := fun _ => fun
  | [d1, d2, d3, d4] => { results := [.lit (.bool true)], args := [d1, d2, d3, d4] }
  | _ => none }
def treeNamesRow : OpenClaim := { program := "ytjaokljbdoocmaagreatdoor", sum := "6113702d0e47eb5baa00f55fe6eb5ce9e3d7ff253dc619bfbe42cf5b3cc2daaf", func := "vista/vistalaw05.TreeNames", spec := "treeNames", inPlace := ["internal/bytealg.CountString", "internal/bytealg.IndexByteString", "internal/bytealg.IndexString"], unfollowed := true, recurses := true, named := ["unicode/utf8.first", "unicode/utf8.acceptRanges", "internal/bytealg.MaxLen"], plainKeys := false, apart := false, laid := [("unicode/utf8.acceptRanges", laid_unicode_utf8_acceptRanges), ("unicode/utf8.first", laid_unicode_utf8_first)] }
def TreeNamesSaid : Prop := treeNamesRow.holds Tryz.pinned (OpenSpec.ofChange treeNamesSpec)

/-- ITS FALSE NEIGHBOUR: 'it returns false'. Refute it at one input. -/
def treeNamesWrong : ChangeSpec := { name := "treeNames", fn := fun _ => fun
  | [d1, d2, d3, d4] => { results := [.lit (.bool false)], args := [d1, d2, d3, d4] }
  | _ => none }
def TreeNamesWrongFalsely : Prop := treeNamesRow.holds Tryz.pinned (OpenSpec.ofChange treeNamesWrong)

/-- 'vistalaw05.TreeUndone': WHATEVER THE INPUT: true; the input reads as it did. -/
def treeUndoneSpec : ChangeSpec := { name := "treeUndone", fn := fun _ => fun
  | [d1, d2] => { results := [.lit (.bool true)], args := [d1, d2] }
  | _ => none }
def treeUndoneRow : OpenClaim := { program := "ytjaokljbdoocmaagreatdoor", sum := "6113702d0e47eb5baa00f55fe6eb5ce9e3d7ff253dc619bfbe42cf5b3cc2daaf", func := "vista/vistalaw05.TreeUndone", spec := "treeUndone", inPlace := ["internal/bytealg.CountString", "internal/bytealg.IndexByteString", "internal/bytealg.IndexString"], unfollowed := true, recurses := true, named := ["unicode/utf8.first", "unicode/utf8.acceptRanges", "internal/bytealg.MaxLen"], plainKeys := false, apart := false, laid := [("unicode/utf8.acceptRanges", laid_unicode_utf8_acceptRanges), ("unicode/utf8.first", laid_unicode_utf8_first)] }
def TreeUndoneSaid : Prop := treeUndoneRow.holds Tryz.pinned (OpenSpec.ofChange treeUndoneSpec)

/-- ITS FALSE NEIGHBOUR: 'it returns false'. Refute it at one input. -/
def treeUndoneWrong : ChangeSpec := { name := "treeUndone", fn := fun _ => fun
  | [d1, d2] => { results := [.lit (.bool false)], args := [d1, d2] }
  | _ => none }
def TreeUndoneWrongFalsely : Prop := treeUndoneRow.holds Tryz.pinned (OpenSpec.ofChange treeUndoneWrong)

/-- 'vistalaw05.TreeCopies': WHATEVER THE INPUT: true; the input reads as it did. -/
def treeCopiesSpec : ChangeSpec := { name := "treeCopies", fn := fun _ => fun
  | [d1, d2, d3] => { results := [.lit (.bool true)], args := [d1, d2, d3] }
  | _ => none }
def treeCopiesRow : OpenClaim := { program := "ytjaokljbdoocmaagreatdoor", sum := "6113702d0e47eb5baa00f55fe6eb5ce9e3d7ff253dc619bfbe42cf5b3cc2daaf", func := "vista/vistalaw05.TreeCopies", spec := "treeCopies", inPlace := ["internal/bytealg.CountString", "internal/bytealg.IndexByteString", "internal/bytealg.IndexString", "maps.clone"], unfollowed := true, recurses := true, named := ["unicode/utf8.first", "unicode/utf8.acceptRanges", "internal/bytealg.MaxLen"], plainKeys := false, apart := false, laid := [("unicode/utf8.acceptRanges", laid_unicode_utf8_acceptRanges), ("unicode/utf8.first", laid_unicode_utf8_first)] }
def TreeCopiesSaid : Prop := treeCopiesRow.holds Tryz.pinned (OpenSpec.ofChange treeCopiesSpec)

/-- ITS FALSE NEIGHBOUR: 'it returns false'. Refute it at one input. -/
def treeCopiesWrong : ChangeSpec := { name := "treeCopies", fn := fun _ => fun
  | [d1, d2, d3] => { results := [.lit (.bool false)], args := [d1, d2, d3] }
  | _ => none }
def TreeCopiesWrongFalsely : Prop := treeCopiesRow.holds Tryz.pinned (OpenSpec.ofChange treeCopiesWrong)

/-- 'vistalaw05.TreeLooks': WHATEVER THE INPUT: true; the input reads as it did. -/
def treeLooksSpec : ChangeSpec := { name := "treeLooks", fn := fun _ => fun
  | [d1, d2, d3] => { results := [.lit (.bool true)], args := [d1, d2, d3] }
  | _ => none }
def treeLooksRow : OpenClaim := { program := "ytjaokljbdoocmaagreatdoor", sum := "6113702d0e47eb5baa00f55fe6eb5ce9e3d7ff253dc619bfbe42cf5b3cc2daaf", func := "vista/vistalaw05.TreeLooks", spec := "treeLooks", inPlace := ["internal/bytealg.CountString", "internal/bytealg.IndexByteString", "internal/bytealg.IndexString"], unfollowed := true, recurses := true, named := ["unicode/utf8.first", "unicode/utf8.acceptRanges", "internal/bytealg.MaxLen"], plainKeys := false, apart := false, laid := [("unicode/utf8.acceptRanges", laid_unicode_utf8_acceptRanges), ("unicode/utf8.first", laid_unicode_utf8_first)] }
def TreeLooksSaid : Prop := treeLooksRow.holds Tryz.pinned (OpenSpec.ofChange treeLooksSpec)

/-- ITS FALSE NEIGHBOUR: 'it returns false'. Refute it at one input. -/
def treeLooksWrong : ChangeSpec := { name := "treeLooks", fn := fun _ => fun
  | [d1, d2, d3] => { results := [.lit (.bool false)], args := [d1, d2, d3] }
  | _ => none }
def TreeLooksWrongFalsely : Prop := treeLooksRow.holds Tryz.pinned (OpenSpec.ofChange treeLooksWrong)

/-- 'vistalaw05.TreeHangs': WHATEVER THE INPUT: true; the input reads as it did. -/
def treeHangsSpec : ChangeSpec := { name := "treeHangs", fn := fun _ => fun
  | [d] => { results := [.lit (.bool true)], args := [d] }
  | _ => none }
def treeHangsRow : OpenClaim := { program := "ytjaokljbdoocmaagreatdoor", sum := "6113702d0e47eb5baa00f55fe6eb5ce9e3d7ff253dc619bfbe42cf5b3cc2daaf", func := "vista/vistalaw05.TreeHangs", spec := "treeHangs", inPlace := ["internal/bytealg.CountString", "internal/bytealg.IndexByteString", "internal/bytealg.IndexString"], unfollowed := true, recurses := true, named := ["unicode/utf8.first", "unicode/utf8.acceptRanges", "internal/bytealg.MaxLen"], plainKeys := false, apart := false, laid := [("unicode/utf8.acceptRanges", laid_unicode_utf8_acceptRanges), ("unicode/utf8.first", laid_unicode_utf8_first)] }
def TreeHangsSaid : Prop := treeHangsRow.holds Tryz.pinned (OpenSpec.ofChange treeHangsSpec)

/-- ITS FALSE NEIGHBOUR: 'it returns false'. Refute it at one input. -/
def treeHangsWrong : ChangeSpec := { name := "treeHangs", fn := fun _ => fun
  | [d] => { results := [.lit (.bool false)], args := [d] }
  | _ => none }
def TreeHangsWrongFalsely : Prop := treeHangsRow.holds Tryz.pinned (OpenSpec.ofChange treeHangsWrong)

/-- 'vistalaw05.TreeBack': WHATEVER THE INPUT: true; the input reads as it did. -/
def treeBackSpec : ChangeSpec := { name := "treeBack", fn := fun _ => fun
  | [d1, d2] => { results := [.lit (.bool true)], args := [d1, d2] }
  | _ => none }
def treeBackRow : OpenClaim := { program := "ytjaokljbdoocmaagreatdoor", sum := "6113702d0e47eb5baa00f55fe6eb5ce9e3d7ff253dc619bfbe42cf5b3cc2daaf", func := "vista/vistalaw05.TreeBack", spec := "treeBack", inPlace := ["internal/bytealg.CountString", "internal/bytealg.IndexByteString", "internal/bytealg.IndexString"], unfollowed := true, recurses := true, named := ["unicode/utf8.first", "unicode/utf8.acceptRanges", "internal/bytealg.MaxLen"], plainKeys := false, apart := false, laid := [("unicode/utf8.acceptRanges", laid_unicode_utf8_acceptRanges), ("unicode/utf8.first", laid_unicode_utf8_first)] }
def TreeBackSaid : Prop := treeBackRow.holds Tryz.pinned (OpenSpec.ofChange treeBackSpec)

/-- ITS FALSE NEIGHBOUR: 'it returns false'. Refute it at one input. -/
def treeBackWrong : ChangeSpec := { name := "treeBack", fn := fun _ => fun
  | [d1, d2] => { results := [.lit (.bool false)], args := [d1, d2] }
  | _ => none }
def TreeBackWrongFalsely : Prop := treeBackRow.holds Tryz.pinned (OpenSpec.ofChange treeBackWrong)

/-- 'vistalaw05.TreeKept': WHATEVER THE INPUT: true; the input reads as it did. -/
def treeKeptSpec : ChangeSpec := { name := "treeKept", fn := fun _ => fun
  | [d] => { results := [.lit (.bool true)], args := [d] }
  | _ => none }
def treeKeptRow : OpenClaim := { program := "ytjaokljbdoocmaagreatdoor", sum := "6113702d0e47eb5baa00f55fe6eb5ce9e3d7ff253dc619bfbe42cf5b3cc2daaf", func := "vista/vistalaw05.TreeKept", spec := "treeKept", inPlace := ["internal/bytealg.CountString", "internal/bytealg.IndexByteString", "internal/bytealg.IndexString"], unfollowed := true, recurses := true, named := ["unicode/utf8.first", "unicode/utf8.acceptRanges", "internal/bytealg.MaxLen"], plainKeys := false, apart := false, laid := [("unicode/utf8.acceptRanges", laid_unicode_utf8_acceptRanges), ("unicode/utf8.first", laid_unicode_utf8_first)] }
def TreeKeptSaid : Prop := treeKeptRow.holds Tryz.pinned (OpenSpec.ofChange treeKeptSpec)

/-- ITS FALSE NEIGHBOUR: 'it returns false'. Refute it at one input. -/
def treeKeptWrong : ChangeSpec := { name := "treeKept", fn := fun _ => fun
  | [d] => { results := [.lit (.bool false)], args := [d] }
  | _ => none }
def TreeKeptWrongFalsely : Prop := treeKeptRow.holds Tryz.pinned (OpenSpec.ofChange treeKeptWrong)

/- THE SECOND FORM. 'bulk': how many values and letters a reading holds, each counted each time it is reached (what is shared counts as often as it is met; a slice's spare places count too). A statement '..UptoSaid' is the law's where the arguments, and the package variables that the reading takes, are together of bulk at most 1048576: NARROWER than '..Said'. Prove '..Said' where nothing that the law and all that it calls make is longer than what came in: it says more and counts as full. Else prove '..UptoSaid'. A law counts once. -/
mutual
def uptoBulk {H : Type} : DataW H → Nat
  | .lit (.string bytes) => bytes.length + 1
  | .lit _ => 1
  | .nil => 1
  | .ptr d => uptoBulk d + 1
  | .slice elems spare => uptoBulkAll elems + uptoBulkAll spare + 1
  | .agg parts => uptoBulkAll parts + 1
  | .iface _ d => uptoBulk d + 1
  | .map entries => uptoBulkEntries entries + 1
  | .held _ => 1
def uptoBulkAll {H : Type} : List (DataW H) → Nat
  | [] => 0
  | d :: r => uptoBulk d + uptoBulkAll r
def uptoBulkEntries {H : Type} : List (Lit × DataW H) → Nat
  | [] => 0
  | x :: r => uptoBulkEntry x + uptoBulkEntries r
def uptoBulkEntry {H : Type} : Lit × DataW H → Nat
  | (.string bytes, d) => bytes.length + uptoBulk d + 1
  | (_, d) => uptoBulk d + 1
 end
def uptoSmall : (H : Type) → List (DataW H) → Bool := fun _ ds => decide (uptoBulkAll ds ≤ 1048576)
def OpenSpec.upto (s : _root_.Go.ChangeSpec) : _root_.Go.OpenSpec := { _root_.Go.OpenSpec.ofChange s with cond := some uptoSmall }

/-- 'vistalaw14.WalkKept', WHERE WHAT IT READS IS OF BULK AT MOST 1048576: true; the input reads as it did. -/
def walkKeptUptoRow : OpenClaim := { program := "ytjaokljbdoocmaagreatdoor", sum := "6113702d0e47eb5baa00f55fe6eb5ce9e3d7ff253dc619bfbe42cf5b3cc2daaf", func := "vista/vistalaw14.WalkKept", spec := "walkKept", inPlace := ["internal/bytealg.CountString", "internal/bytealg.IndexByteString", "internal/bytealg.IndexString"], unfollowed := true, recurses := true, named := ["unicode/utf8.first", "unicode/utf8.acceptRanges", "internal/bytealg.MaxLen"], plainKeys := false, apart := false, laid := [("unicode/utf8.acceptRanges", laid_unicode_utf8_acceptRanges), ("unicode/utf8.first", laid_unicode_utf8_first)], narrowed := true }
def WalkKeptUptoSaid : Prop := walkKeptUptoRow.holds Tryz.pinned (OpenSpec.upto walkKeptSpec)

/-- 'vistalaw05.TreeMoves', WHERE WHAT IT READS IS OF BULK AT MOST 1048576: true; the input reads as it did. -/
def treeMovesUptoRow : OpenClaim := { program := "ytjaokljbdoocmaagreatdoor", sum := "6113702d0e47eb5baa00f55fe6eb5ce9e3d7ff253dc619bfbe42cf5b3cc2daaf", func := "vista/vistalaw05.TreeMoves", spec := "treeMoves", inPlace := ["internal/bytealg.CountString", "internal/bytealg.IndexByteString", "internal/bytealg.IndexString"], unfollowed := true, recurses := true, named := ["unicode/utf8.first", "unicode/utf8.acceptRanges", "internal/bytealg.MaxLen"], plainKeys := false, apart := false, laid := [("unicode/utf8.acceptRanges", laid_unicode_utf8_acceptRanges), ("unicode/utf8.first", laid_unicode_utf8_first)], narrowed := true }
def TreeMovesUptoSaid : Prop := treeMovesUptoRow.holds Tryz.pinned (OpenSpec.upto treeMovesSpec)

/-- 'vistalaw05.TreeIds', WHERE WHAT IT READS IS OF BULK AT MOST 1048576: true; the input reads as it did. -/
def treeIdsUptoRow : OpenClaim := { program := "ytjaokljbdoocmaagreatdoor", sum := "6113702d0e47eb5baa00f55fe6eb5ce9e3d7ff253dc619bfbe42cf5b3cc2daaf", func := "vista/vistalaw05.TreeIds", spec := "treeIds", inPlace := ["internal/bytealg.CountString", "internal/bytealg.IndexByteString", "internal/bytealg.IndexString"], unfollowed := true, recurses := true, named := ["unicode/utf8.first", "unicode/utf8.acceptRanges", "internal/bytealg.MaxLen"], plainKeys := false, apart := false, laid := [("unicode/utf8.acceptRanges", laid_unicode_utf8_acceptRanges), ("unicode/utf8.first", laid_unicode_utf8_first)], narrowed := true }
def TreeIdsUptoSaid : Prop := treeIdsUptoRow.holds Tryz.pinned (OpenSpec.upto treeIdsSpec)

/-- 'vistalaw05.TreeNames', WHERE WHAT IT READS IS OF BULK AT MOST 1048576: true; the input reads as it did. -/
def treeNamesUptoRow : OpenClaim := { program := "ytjaokljbdoocmaagreatdoor", sum := "6113702d0e47eb5baa00f55fe6eb5ce9e3d7ff253dc619bfbe42cf5b3cc2daaf", func := "vista/vistalaw05.TreeNames", spec := "treeNames", inPlace := ["internal/bytealg.CountString", "internal/bytealg.IndexByteString", "internal/bytealg.IndexString"], unfollowed := true, recurses := true, named := ["unicode/utf8.first", "unicode/utf8.acceptRanges", "internal/bytealg.MaxLen"], plainKeys := false, apart := false, laid := [("unicode/utf8.acceptRanges", laid_unicode_utf8_acceptRanges), ("unicode/utf8.first", laid_unicode_utf8_first)], narrowed := true }
def TreeNamesUptoSaid : Prop := treeNamesUptoRow.holds Tryz.pinned (OpenSpec.upto treeNamesSpec)

/-- 'vistalaw05.TreeUndone', WHERE WHAT IT READS IS OF BULK AT MOST 1048576: true; the input reads as it did. -/
def treeUndoneUptoRow : OpenClaim := { program := "ytjaokljbdoocmaagreatdoor", sum := "6113702d0e47eb5baa00f55fe6eb5ce9e3d7ff253dc619bfbe42cf5b3cc2daaf", func := "vista/vistalaw05.TreeUndone", spec := "treeUndone", inPlace := ["internal/bytealg.CountString", "internal/bytealg.IndexByteString", "internal/bytealg.IndexString"], unfollowed := true, recurses := true, named := ["unicode/utf8.first", "unicode/utf8.acceptRanges", "internal/bytealg.MaxLen"], plainKeys := false, apart := false, laid := [("unicode/utf8.acceptRanges", laid_unicode_utf8_acceptRanges), ("unicode/utf8.first", laid_unicode_utf8_first)], narrowed := true }
def TreeUndoneUptoSaid : Prop := treeUndoneUptoRow.holds Tryz.pinned (OpenSpec.upto treeUndoneSpec)

/-- 'vistalaw05.TreeCopies', WHERE WHAT IT READS IS OF BULK AT MOST 1048576: true; the input reads as it did. -/
def treeCopiesUptoRow : OpenClaim := { program := "ytjaokljbdoocmaagreatdoor", sum := "6113702d0e47eb5baa00f55fe6eb5ce9e3d7ff253dc619bfbe42cf5b3cc2daaf", func := "vista/vistalaw05.TreeCopies", spec := "treeCopies", inPlace := ["internal/bytealg.CountString", "internal/bytealg.IndexByteString", "internal/bytealg.IndexString", "maps.clone"], unfollowed := true, recurses := true, named := ["unicode/utf8.first", "unicode/utf8.acceptRanges", "internal/bytealg.MaxLen"], plainKeys := false, apart := false, laid := [("unicode/utf8.acceptRanges", laid_unicode_utf8_acceptRanges), ("unicode/utf8.first", laid_unicode_utf8_first)], narrowed := true }
def TreeCopiesUptoSaid : Prop := treeCopiesUptoRow.holds Tryz.pinned (OpenSpec.upto treeCopiesSpec)

/-- 'vistalaw05.TreeLooks', WHERE WHAT IT READS IS OF BULK AT MOST 1048576: true; the input reads as it did. -/
def treeLooksUptoRow : OpenClaim := { program := "ytjaokljbdoocmaagreatdoor", sum := "6113702d0e47eb5baa00f55fe6eb5ce9e3d7ff253dc619bfbe42cf5b3cc2daaf", func := "vista/vistalaw05.TreeLooks", spec := "treeLooks", inPlace := ["internal/bytealg.CountString", "internal/bytealg.IndexByteString", "internal/bytealg.IndexString"], unfollowed := true, recurses := true, named := ["unicode/utf8.first", "unicode/utf8.acceptRanges", "internal/bytealg.MaxLen"], plainKeys := false, apart := false, laid := [("unicode/utf8.acceptRanges", laid_unicode_utf8_acceptRanges), ("unicode/utf8.first", laid_unicode_utf8_first)], narrowed := true }
def TreeLooksUptoSaid : Prop := treeLooksUptoRow.holds Tryz.pinned (OpenSpec.upto treeLooksSpec)

/-- 'vistalaw05.TreeHangs', WHERE WHAT IT READS IS OF BULK AT MOST 1048576: true; the input reads as it did. -/
def treeHangsUptoRow : OpenClaim := { program := "ytjaokljbdoocmaagreatdoor", sum := "6113702d0e47eb5baa00f55fe6eb5ce9e3d7ff253dc619bfbe42cf5b3cc2daaf", func := "vista/vistalaw05.TreeHangs", spec := "treeHangs", inPlace := ["internal/bytealg.CountString", "internal/bytealg.IndexByteString", "internal/bytealg.IndexString"], unfollowed := true, recurses := true, named := ["unicode/utf8.first", "unicode/utf8.acceptRanges", "internal/bytealg.MaxLen"], plainKeys := false, apart := false, laid := [("unicode/utf8.acceptRanges", laid_unicode_utf8_acceptRanges), ("unicode/utf8.first", laid_unicode_utf8_first)], narrowed := true }
def TreeHangsUptoSaid : Prop := treeHangsUptoRow.holds Tryz.pinned (OpenSpec.upto treeHangsSpec)

/-- 'vistalaw05.TreeBack', WHERE WHAT IT READS IS OF BULK AT MOST 1048576: true; the input reads as it did. -/
def treeBackUptoRow : OpenClaim := { program := "ytjaokljbdoocmaagreatdoor", sum := "6113702d0e47eb5baa00f55fe6eb5ce9e3d7ff253dc619bfbe42cf5b3cc2daaf", func := "vista/vistalaw05.TreeBack", spec := "treeBack", inPlace := ["internal/bytealg.CountString", "internal/bytealg.IndexByteString", "internal/bytealg.IndexString"], unfollowed := true, recurses := true, named := ["unicode/utf8.first", "unicode/utf8.acceptRanges", "internal/bytealg.MaxLen"], plainKeys := false, apart := false, laid := [("unicode/utf8.acceptRanges", laid_unicode_utf8_acceptRanges), ("unicode/utf8.first", laid_unicode_utf8_first)], narrowed := true }
def TreeBackUptoSaid : Prop := treeBackUptoRow.holds Tryz.pinned (OpenSpec.upto treeBackSpec)

/-- 'vistalaw05.TreeKept', WHERE WHAT IT READS IS OF BULK AT MOST 1048576: true; the input reads as it did. -/
def treeKeptUptoRow : OpenClaim := { program := "ytjaokljbdoocmaagreatdoor", sum := "6113702d0e47eb5baa00f55fe6eb5ce9e3d7ff253dc619bfbe42cf5b3cc2daaf", func := "vista/vistalaw05.TreeKept", spec := "treeKept", inPlace := ["internal/bytealg.CountString", "internal/bytealg.IndexByteString", "internal/bytealg.IndexString"], unfollowed := true, recurses := true, named := ["unicode/utf8.first", "unicode/utf8.acceptRanges", "internal/bytealg.MaxLen"], plainKeys := false, apart := false, laid := [("unicode/utf8.acceptRanges", laid_unicode_utf8_acceptRanges), ("unicode/utf8.first", laid_unicode_utf8_first)], narrowed := true }
def TreeKeptUptoSaid : Prop := treeKeptUptoRow.holds Tryz.pinned (OpenSpec.upto treeKeptSpec)

end Rows
end Go.Proofs.YtjaokljbdoocmaaGreatDoor
