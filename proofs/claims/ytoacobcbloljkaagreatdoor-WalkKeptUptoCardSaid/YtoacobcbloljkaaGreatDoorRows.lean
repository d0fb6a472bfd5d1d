/-
  NARROWER THAN 'FOR EVERY INPUT', by the rows' own cells (each row's printed sentence says how): WalkKept: laid · WalkHome: laid · WalkWants: laid · WalkDots: laid · WalkFresh: laid · WalkSplices: laid · WalkUps: laid · TreeLooks: laid · TreeBack: laid · TreeKept: laid.
  DERIVED. THE GIVEN ROWS OF THIS SEAT. 10 by the template 'for every input the law returns true; each argument reads behind the call as it read before'; 0 by the template 'total and deterministic' (their statements: YtoacobcbloljkaaGreatDoorTotals.lean).
  GIVEN WITH THE SEED: the statements are not yours to turn. If you find one false, say at which input.
  Laid BY PROGRAM, IN A SANDBOX (cutbox-rows.mjs): the forced cells as the released guide's own fill.sh prints them over the translation af5e5b63635a277b… (all of the seat's roots in one cut). By AI agents, Wed Nov 11 2026. No macro, syntax, notation, axiom, sorry.
-/
import Derived.Test.YtoacobcbloljkaaGreatDoorChecked
import GoSem.PinnedTables
import GoSem.Claim
import GoSem.ClaimJoined
import GoSem.ClaimMapViews
import Derived.JoinedTies
import Derived.KernelRfl
namespace Go.Proofs.YtoacobcbloljkaaGreatDoor
/- THE CELL 'sum', in the pinned program and in every row, IS THE sha256 OF THE DUMP (.gsa) THAT YtoacobcbloljkaaGreatDoorProg.lean LOADS. Nothing in Lean hashes anything: it is a label: what it is worth is what the hold of that sum in a sandbox is worth. -/
noncomputable def Tryz.pinned : Pinned := { name := "ytoacobcbloljkaagreatdoor", sum := "af5e5b63635a277bfb59ede6b9cded59f9f747b8e1719743f3be435711156148", checked := Tryz.checked }
namespace Rows
def none {H : Type} : Left H := { results := [], args := [] }

/- WHAT THE LISTED PACKAGE-LEVEL VARIABLES READ AS WHEN THE CALL BEGINS. Each datum BY PROGRAM (the guide's laid-datum.mjs) off the statement by which the dump's own 'gosem.cut.vars' lays the variable. In a bare row this is a premise. The card (YtoacobcbloljkaaGreatDoorCards.lean) ties it to the program's text. -/
def laid_unicode_utf8_acceptRanges {H : Type} : DataW H := .agg [.agg [.lit (.int .u8 128), .lit (.int .u8 191)], .agg [.lit (.int .u8 160), .lit (.int .u8 191)], .agg [.lit (.int .u8 128), .lit (.int .u8 159)], .agg [.lit (.int .u8 144), .lit (.int .u8 191)], .agg [.lit (.int .u8 128), .lit (.int .u8 143)], .agg [.lit (.int .u8 0), .lit (.int .u8 0)], .agg [.lit (.int .u8 0), .lit (.int .u8 0)], .agg [.lit (.int .u8 0), .lit (.int .u8 0)], .agg [.lit (.int .u8 0), .lit (.int .u8 0)], .agg [.lit (.int .u8 0), .lit (.int .u8 0)], .agg [.lit (.int .u8 0), .lit (.int .u8 0)], .agg [.lit (.int .u8 0), .lit (.int .u8 0)], .agg [.lit (.int .u8 0), .lit (.int .u8 0)], .agg [.lit (.int .u8 0), .lit (.int .u8 0)], .agg [.lit (.int .u8 0), .lit (.int .u8 0)], .agg [.lit (.int .u8 0), .lit (.int .u8 0)]]
/-- One of Go's own tables, pinned by name: the form's constant. -/
def laid_unicode_utf8_first : DataW Unit := Go.Pinned.utf8First

/-- 'vistalaw14.WalkKept': WHATEVER THE INPUT: true; the input reads as it did. -/
def walkKeptSpec : ChangeSpec := { name := "walkKept", fn := fun _ => fun
  | [d1, d2, d3, d4] => { results := [.lit (.bool true)], args := [d1, d2, d3, d4] }
  | _ => none }
def walkKeptRow : OpenClaim := { program := "ytoacobcbloljkaagreatdoor", sum := "af5e5b63635a277bfb59ede6b9cded59f9f747b8e1719743f3be435711156148", func := "vista/vistalaw14.WalkKept", spec := "walkKept", inPlace := ["internal/bytealg.CountString", "internal/bytealg.IndexByteString", "internal/bytealg.IndexString"], unfollowed := true, recurses := true, named := ["unicode/utf8.first", "unicode/utf8.acceptRanges", "internal/bytealg.MaxLen"], plainKeys := false, apart := false, laid := [("unicode/utf8.acceptRanges", laid_unicode_utf8_acceptRanges), ("unicode/utf8.first", laid_unicode_utf8_first)] }
def WalkKeptSaid : Prop := walkKeptRow.holds Tryz.pinned (OpenSpec.ofChange walkKeptSpec)

/-- ITS FALSE NEIGHBOUR: 'it returns false'. Refute it at one input. -/
def walkKeptWrong : ChangeSpec := { name := "walkKept", fn := fun _ => fun
  | [d1, d2, d3, d4] => { results := [.lit (.bool false)], args := [d1, d2, d3, d4] }
  | _ => none }
def WalkKeptWrongFalsely : Prop := walkKeptRow.holds Tryz.pinned (OpenSpec.ofChange walkKeptWrong)

/-- 'vistalaw14.WalkHome': WHATEVER THE INPUT: true; the input reads as it did. -/
def walkHomeSpec : ChangeSpec := { name := "walkHome", fn := fun _ => fun
  | [d1, d2, d3, d4] => { results := [.lit (.bool true)], args := [d1, d2, d3, d4] }
  | _ => none }
def walkHomeRow : OpenClaim := { program := "ytoacobcbloljkaagreatdoor", sum := "af5e5b63635a277bfb59ede6b9cded59f9f747b8e1719743f3be435711156148", func := "vista/vistalaw14.WalkHome", spec := "walkHome", inPlace := ["internal/bytealg.CountString", "internal/bytealg.IndexByteString", "internal/bytealg.IndexString"], unfollowed := true, recurses := true, named := ["unicode/utf8.first", "unicode/utf8.acceptRanges", "internal/bytealg.MaxLen"], plainKeys := false, apart := false, laid := [("unicode/utf8.acceptRanges", laid_unicode_utf8_acceptRanges), ("unicode/utf8.first", laid_unicode_utf8_first)] }
def WalkHomeSaid : Prop := walkHomeRow.holds Tryz.pinned (OpenSpec.ofChange walkHomeSpec)

/-- ITS FALSE NEIGHBOUR: 'it returns false'. Refute it at one input. -/
def walkHomeWrong : ChangeSpec := { name := "walkHome", fn := fun _ => fun
  | [d1, d2, d3, d4] => { results := [.lit (.bool false)], args := [d1, d2, d3, d4] }
  | _ => none }
def WalkHomeWrongFalsely : Prop := walkHomeRow.holds Tryz.pinned (OpenSpec.ofChange walkHomeWrong)

/-- 'vistalaw14.WalkWants': WHATEVER THE INPUT: true; the input reads as it did. -/
def walkWantsSpec : ChangeSpec := { name := "walkWants", fn := fun _ => fun
  | [d1, d2, d3, d4] => { results := [.lit (.bool true)], args := [d1, d2, d3, d4] }
  | _ => none }
def walkWantsRow : OpenClaim := { program := "ytoacobcbloljkaagreatdoor", sum := "af5e5b63635a277bfb59ede6b9cded59f9f747b8e1719743f3be435711156148", func := "vista/vistalaw14.WalkWants", spec := "walkWants", inPlace := ["internal/bytealg.CountString", "internal/bytealg.IndexByteString", "internal/bytealg.IndexString"], unfollowed := true, recurses := true, named := ["unicode/utf8.first", "unicode/utf8.acceptRanges", "internal/bytealg.MaxLen"], plainKeys := false, apart := false, laid := [("unicode/utf8.acceptRanges", laid_unicode_utf8_acceptRanges), ("unicode/utf8.first", laid_unicode_utf8_first)] }
def WalkWantsSaid : Prop := walkWantsRow.holds Tryz.pinned (OpenSpec.ofChange walkWantsSpec)

/-- ITS FALSE NEIGHBOUR: 'it returns false'. Refute it at one input. -/
def walkWantsWrong : ChangeSpec := { name := "walkWants", fn := fun _ => fun
  | [d1, d2, d3, d4] => { results := [.lit (.bool false)], args := [d1, d2, d3, d4] }
  | _ => none }
def WalkWantsWrongFalsely : Prop := walkWantsRow.holds Tryz.pinned (OpenSpec.ofChange walkWantsWrong)

/-- 'vistalaw14.WalkDots': WHATEVER THE INPUT: true; the input reads as it did. -/
def walkDotsSpec : ChangeSpec := { name := "walkDots", fn := fun _ => fun
  | [d1, d2, d3, d4, d5] => { results := [.lit (.bool true)], args := [d1, d2, d3, d4, d5] }
  | _ => none }
def walkDotsRow : OpenClaim := { program := "ytoacobcbloljkaagreatdoor", sum := "af5e5b63635a277bfb59ede6b9cded59f9f747b8e1719743f3be435711156148", func := "vista/vistalaw14.WalkDots", spec := "walkDots", inPlace := ["internal/bytealg.CountString", "internal/bytealg.IndexByteString", "internal/bytealg.IndexString"], unfollowed := true, recurses := true, named := ["unicode/utf8.first", "unicode/utf8.acceptRanges", "internal/bytealg.MaxLen"], plainKeys := false, apart := false, laid := [("unicode/utf8.acceptRanges", laid_unicode_utf8_acceptRanges), ("unicode/utf8.first", laid_unicode_utf8_first)] }
def WalkDotsSaid : Prop := walkDotsRow.holds Tryz.pinned (OpenSpec.ofChange walkDotsSpec)

/-- ITS FALSE NEIGHBOUR: 'it returns false'. Refute it at one input. -/
def walkDotsWrong : ChangeSpec := { name := "walkDots", fn := fun _ => fun
  | [d1, d2, d3, d4, d5] => { results := [.lit (.bool false)], args := [d1, d2, d3, d4, d5] }
  | _ => none }
def WalkDotsWrongFalsely : Prop := walkDotsRow.holds Tryz.pinned (OpenSpec.ofChange walkDotsWrong)

/-- 'vistalaw14.WalkFresh': WHATEVER THE INPUT: true; the input reads as it did. -/
def walkFreshSpec : ChangeSpec := { name := "walkFresh", fn := fun _ => fun
  | [d1, d2, d3, d4] => { results := [.lit (.bool true)], args := [d1, d2, d3, d4] }
  | _ => none }
def walkFreshRow : OpenClaim := { program := "ytoacobcbloljkaagreatdoor", sum := "af5e5b63635a277bfb59ede6b9cded59f9f747b8e1719743f3be435711156148", func := "vista/vistalaw14.WalkFresh", spec := "walkFresh", inPlace := ["internal/bytealg.CountString", "internal/bytealg.IndexByteString", "internal/bytealg.IndexString"], unfollowed := true, recurses := true, named := ["unicode/utf8.first", "unicode/utf8.acceptRanges", "internal/bytealg.MaxLen"], plainKeys := false, apart := false, laid := [("unicode/utf8.acceptRanges", laid_unicode_utf8_acceptRanges), ("unicode/utf8.first", laid_unicode_utf8_first)] }
def WalkFreshSaid : Prop := walkFreshRow.holds Tryz.pinned (OpenSpec.ofChange walkFreshSpec)

/-- ITS FALSE NEIGHBOUR: 'it returns false'. Refute it at one input. -/
def walkFreshWrong : ChangeSpec := { name := "walkFresh", fn := fun _ => fun
  | [d1, d2, d3, d4] => { results := [.lit (.bool false)], args := [d1, d2, d3, d4] }
  | _ => none }
def WalkFreshWrongFalsely : Prop := walkFreshRow.holds Tryz.pinned (OpenSpec.ofChange walkFreshWrong)

/-- 'vistalaw14.WalkSplices': WHATEVER THE INPUT: true; the input reads as it did. -/
def walkSplicesSpec : ChangeSpec := { name := "walkSplices", fn := fun _ => fun
  | [d1, d2, d3] => { results := [.lit (.bool true)], args := [d1, d2, d3] }
  | _ => none }
def walkSplicesRow : OpenClaim := { program := "ytoacobcbloljkaagreatdoor", sum := "af5e5b63635a277bfb59ede6b9cded59f9f747b8e1719743f3be435711156148", func := "vista/vistalaw14.WalkSplices", spec := "walkSplices", inPlace := ["internal/bytealg.CountString", "internal/bytealg.IndexByteString", "internal/bytealg.IndexString"], unfollowed := true, recurses := true, named := ["unicode/utf8.first", "unicode/utf8.acceptRanges", "internal/bytealg.MaxLen"], plainKeys := false, apart := false, laid := [("unicode/utf8.acceptRanges", laid_unicode_utf8_acceptRanges), ("unicode/utf8.first", laid_unicode_utf8_first)] }
def WalkSplicesSaid : Prop := walkSplicesRow.holds Tryz.pinned (OpenSpec.ofChange walkSplicesSpec)

/-- ITS FALSE NEIGHBOUR: 'it returns false'. Refute it at one input. -/
def walkSplicesWrong : ChangeSpec := { name := "walkSplices", fn := fun _ => fun
  | [d1, d2, d3] => { results := [.lit (.bool false)], args := [d1, d2, d3] }
  | _ => none }
def WalkSplicesWrongFalsely : Prop := walkSplicesRow.holds Tryz.pinned (OpenSpec.ofChange walkSplicesWrong)

/-- 'vistalaw14.WalkUps': WHATEVER THE INPUT: true; the input reads as it did. -/
def walkUpsSpec : ChangeSpec := { name := "walkUps", fn := fun _ => fun
  | [d1, d2, d3] => { results := [.lit (.bool true)], args := [d1, d2, d3] }
  | _ => none }
def walkUpsRow : OpenClaim := { program := "ytoacobcbloljkaagreatdoor", sum := "af5e5b63635a277bfb59ede6b9cded59f9f747b8e1719743f3be435711156148", func := "vista/vistalaw14.WalkUps", spec := "walkUps", inPlace := ["internal/bytealg.CountString", "internal/bytealg.IndexByteString", "internal/bytealg.IndexString"], unfollowed := true, recurses := true, named := ["unicode/utf8.first", "unicode/utf8.acceptRanges", "internal/bytealg.MaxLen"], plainKeys := false, apart := false, laid := [("unicode/utf8.acceptRanges", laid_unicode_utf8_acceptRanges), ("unicode/utf8.first", laid_unicode_utf8_first)] }
def WalkUpsSaid : Prop := walkUpsRow.holds Tryz.pinned (OpenSpec.ofChange walkUpsSpec)

/-- ITS FALSE NEIGHBOUR: 'it returns false'. Refute it at one input. -/
def walkUpsWrong : ChangeSpec := { name := "walkUps", fn := fun _ => fun
  | [d1, d2, d3] => { results := [.lit (.bool false)], args := [d1, d2, d3] }
  | _ => none }
def WalkUpsWrongFalsely : Prop := walkUpsRow.holds Tryz.pinned (OpenSpec.ofChange walkUpsWrong)

/-- 'vistalaw05.TreeLooks': WHATEVER THE INPUT: true; the input reads as it did. -/
def treeLooksSpec : ChangeSpec := { name := "treeLooks", fn := fun _ => fun
  | [d1, d2, d3] => { results := [.lit (.bool true)], args := [d1, d2, d3] }
  | _ => none }
def treeLooksRow : OpenClaim := { program := "ytoacobcbloljkaagreatdoor", sum := "af5e5b63635a277bfb59ede6b9cded59f9f747b8e1719743f3be435711156148", func := "vista/vistalaw05.TreeLooks", spec := "treeLooks", inPlace := ["internal/bytealg.CountString", "internal/bytealg.IndexByteString", "internal/bytealg.IndexString"], unfollowed := true, recurses := true, named := ["unicode/utf8.first", "unicode/utf8.acceptRanges", "internal/bytealg.MaxLen"], plainKeys := false, apart := false, laid := [("unicode/utf8.acceptRanges", laid_unicode_utf8_acceptRanges), ("unicode/utf8.first", laid_unicode_utf8_first)] }
def TreeLooksSaid : Prop := treeLooksRow.holds Tryz.pinned (OpenSpec.ofChange treeLooksSpec)

/-- ITS FALSE NEIGHBOUR: 'it returns false'. Refute it at one input. -/
def treeLooksWrong : ChangeSpec := { name := "treeLooks", fn := fun _ => fun
  | [d1, d2, d3] => { results := [.lit (.bool false)], args := [d1, d2, d3] }
  | _ => none }
def TreeLooksWrongFalsely : Prop := treeLooksRow.holds Tryz.pinned (OpenSpec.ofChange treeLooksWrong)

/-- 'vistalaw05.TreeBack': WHATEVER THE INPUT: true; the input reads as it did. -/
def treeBackSpec : ChangeSpec := { name := "treeBack", fn := fun _ => fun
  | [d1, d2] => { results := [.lit (.bool true)], args := [d1, d2] }
  | _ => none }
def treeBackRow : OpenClaim := { program := "ytoacobcbloljkaagreatdoor", sum := "af5e5b63635a277bfb59ede6b9cded59f9f747b8e1719743f3be435711156148", func := "vista/vistalaw05.TreeBack", spec := "treeBack", inPlace := ["internal/bytealg.CountString", "internal/bytealg.IndexByteString", "internal/bytealg.IndexString"], unfollowed := true, recurses := true, named := ["unicode/utf8.first", "unicode/utf8.acceptRanges", "internal/bytealg.MaxLen"], plainKeys := false, apart := false, laid := [("unicode/utf8.acceptRanges", laid_unicode_utf8_acceptRanges), ("unicode/utf8.first", laid_unicode_utf8_first)] }
def TreeBackSaid : Prop := treeBackRow.holds Tryz.pinned (OpenSpec.ofChange treeBackSpec)

/-- ITS FALSE NEIGHBOUR: 'it returns false'. Refute it at one input. -/
def treeBackWrong : ChangeSpec := { name := "treeBack", fn := fun _ => fun
  | [d1, d2] => { results := [.lit (.bool false)], args := [d1, d2] }
  | _ => none }
def TreeBackWrongFalsely : Prop := treeBackRow.holds Tryz.pinned (OpenSpec.ofChange treeBackWrong)

/-- 'vistalaw05.TreeKept': WHATEVER THE INPUT: true; the input reads as it did. -/
def treeKeptSpec : ChangeSpec := { name := "treeKept", fn := fun _ => fun
  | [d] => { results := [.lit (.bool true)], args := [d] }
  | _ => none }
def treeKeptRow : OpenClaim := { program := "ytoacobcbloljkaagreatdoor", sum := "af5e5b63635a277bfb59ede6b9cded59f9f747b8e1719743f3be435711156148", func := "vista/vistalaw05.TreeKept", spec := "treeKept", inPlace := ["internal/bytealg.CountString", "internal/bytealg.IndexByteString", "internal/bytealg.IndexString"], unfollowed := true, recurses := true, named := ["unicode/utf8.first", "unicode/utf8.acceptRanges", "internal/bytealg.MaxLen"], plainKeys := false, apart := false, laid := [("unicode/utf8.acceptRanges", laid_unicode_utf8_acceptRanges), ("unicode/utf8.first", laid_unicode_utf8_first)] }
def TreeKeptSaid : Prop := treeKeptRow.holds Tryz.pinned (OpenSpec.ofChange treeKeptSpec)

/-- ITS FALSE NEIGHBOUR: 'it returns false'. Refute it at one input. -/
def treeKeptWrong : ChangeSpec := { name := "treeKept", fn := fun _ => fun
  | [d] => { results := [.lit (.bool false)], args := [d] }
  | _ => none }
def TreeKeptWrongFalsely : Prop := treeKeptRow.holds Tryz.pinned (OpenSpec.ofChange treeKeptWrong)

/- THE SECOND FORM. 'bulk': how many values and letters a reading holds, each counted each time it is reached (what is shared counts as often as it is met; a slice's spare places count too). A statement '..UptoSaid' is the law's where the arguments, and the package variables that the reading takes, are together of bulk at most 1048576: NARROWER than '..Said'. Prove '..Said' where nothing that the law and all that it calls make is longer than what came in: it says more and counts as full. Else prove '..UptoSaid'. A law counts once. -/
mutual
def uptoBulk {H : Type} : DataW H → Nat
  | .lit (.string bytes) => bytes.length + 1
  | .lit _ => 1
  | .nil => 1
  | .ptr d => uptoBulk d + 1
  | .slice elems spare => uptoBulkAll elems + uptoBulkAll spare + 1
  | .agg parts => uptoBulkAll parts + 1
  | .iface _ d => uptoBulk d + 1
  | .map entries => uptoBulkEntries entries + 1
  | .held _ => 1
def uptoBulkAll {H : Type} : List (DataW H) → Nat
  | [] => 0
  | d :: r => uptoBulk d + uptoBulkAll r
def uptoBulkEntries {H : Type} : List (Lit × DataW H) → Nat
  | [] => 0
  | x :: r => uptoBulkEntry x + uptoBulkEntries r
def uptoBulkEntry {H : Type} : Lit × DataW H → Nat
  | (.string bytes, d) => bytes.length + uptoBulk d + 1
  | (_, d) => uptoBulk d + 1
 end
def uptoSmall : (H : Type) → List (DataW H) → Bool := fun _ ds => decide (uptoBulkAll ds ≤ 1048576)
def OpenSpec.upto (s : _root_.Go.ChangeSpec) : _root_.Go.OpenSpec := { _root_.Go.OpenSpec.ofChange s with cond := some uptoSmall }

/-- 'vistalaw14.WalkKept', WHERE WHAT IT READS IS OF BULK AT MOST 1048576: true; the input reads as it did. -/
def walkKeptUptoRow : OpenClaim := { program := "ytoacobcbloljkaagreatdoor", sum := "af5e5b63635a277bfb59ede6b9cded59f9f747b8e1719743f3be435711156148", func := "vista/vistalaw14.WalkKept", spec := "walkKept", inPlace := ["internal/bytealg.CountString", "internal/bytealg.IndexByteString", "internal/bytealg.IndexString"], unfollowed := true, recurses := true, named := ["unicode/utf8.first", "unicode/utf8.acceptRanges", "internal/bytealg.MaxLen"], plainKeys := false, apart := false, laid := [("unicode/utf8.acceptRanges", laid_unicode_utf8_acceptRanges), ("unicode/utf8.first", laid_unicode_utf8_first)], narrowed := true }
def WalkKeptUptoSaid : Prop := walkKeptUptoRow.holds Tryz.pinned (OpenSpec.upto walkKeptSpec)

/-- 'vistalaw14.WalkHome', WHERE WHAT IT READS IS OF BULK AT MOST 1048576: true; the input reads as it did. -/
def walkHomeUptoRow : OpenClaim := { program := "ytoacobcbloljkaagreatdoor", sum := "af5e5b63635a277bfb59ede6b9cded59f9f747b8e1719743f3be435711156148", func := "vista/vistalaw14.WalkHome", spec := "walkHome", inPlace := ["internal/bytealg.CountString", "internal/bytealg.IndexByteString", "internal/bytealg.IndexString"], unfollowed := true, recurses := true, named := ["unicode/utf8.first", "unicode/utf8.acceptRanges", "internal/bytealg.MaxLen"], plainKeys := false, apart := false, laid := [("unicode/utf8.acceptRanges", laid_unicode_utf8_acceptRanges), ("unicode/utf8.first", laid_unicode_utf8_first)], narrowed := true }
def WalkHomeUptoSaid : Prop := walkHomeUptoRow.holds Tryz.pinned (OpenSpec.upto walkHomeSpec)

/-- 'vistalaw14.WalkWants', WHERE WHAT IT READS IS OF BULK AT MOST 1048576: true; the input reads as it did. -/
def walkWantsUptoRow : OpenClaim := { program := "ytoacobcbloljkaagreatdoor", sum := "af5e5b63635a277bfb59ede6b9cded59f9f747b8e1719743f3be435711156148", func := "vista/vistalaw14.WalkWants", spec := "walkWants", inPlace := ["internal/bytealg.CountString", "internal/bytealg.IndexByteString", "internal/bytealg.IndexString"], unfollowed := true, recurses := true, named := ["unicode/utf8.first", "unicode/utf8.acceptRanges", "internal/bytealg.MaxLen"], plainKeys := false, apart := false, laid := [("unicode/utf8.acceptRanges", laid_unicode_utf8_acceptRanges), ("unicode/utf8.first", laid_unicode_utf8_first)], narrowed := true }
def WalkWantsUptoSaid : Prop := walkWantsUptoRow.holds Tryz.pinned (OpenSpec.upto walkWantsSpec)

/-- 'vistalaw14.WalkDots', WHERE WHAT IT READS IS OF BULK AT MOST 1048576: true; the input reads as it did. -/
def walkDotsUptoRow : OpenClaim := { program := "ytoacobcbloljkaagreatdoor", sum := "af5e5b63635a277bfb59ede6b9cded59f9f747b8e1719743f3be435711156148", func := "vista/vistalaw14.WalkDots", spec := "walkDots", inPlace := ["internal/bytealg.CountString", "internal/bytealg.IndexByteString", "internal/bytealg.IndexString"], unfollowed := true, recurses := true, named := ["unicode/utf8.first", "unicode/utf8.acceptRanges", "internal/bytealg.MaxLen"], plainKeys := false, apart := false, laid := [("unicode/utf8.acceptRanges", laid_unicode_utf8_acceptRanges), ("unicode/utf8.first", laid_unicode_utf8_first)], narrowed := true }
def WalkDotsUptoSaid : Prop := walkDotsUptoRow.holds Tryz.pinned (OpenSpec.upto walkDotsSpec)

/-- 'vistalaw14.WalkFresh', WHERE WHAT IT READS IS OF BULK AT MOST 1048576: true; the input reads as it did. -/
def walkFreshUptoRow : OpenClaim := { program := "ytoacobcbloljkaagreatdoor", sum := "af5e5b63635a277bfb59ede6b9cded59f9f747b8e1719743f3be435711156148", func := "vista/vistalaw14.WalkFresh", spec := "walkFresh", inPlace := ["internal/bytealg.CountString", "internal/bytealg.IndexByteString", "internal/bytealg.IndexString"], unfollowed := true, recurses := true, named := ["unicode/utf8.first", "unicode/utf8.acceptRanges", "internal/bytealg.MaxLen"], plainKeys := false, apart := false, laid := [("unicode/utf8.acceptRanges", laid_unicode_utf8_acceptRanges), ("unicode/utf8.first", laid_unicode_utf8_first)], narrowed := true }
def WalkFreshUptoSaid : Prop := walkFreshUptoRow.holds Tryz.pinned (OpenSpec.upto walkFreshSpec)

/-- 'vistalaw14.WalkSplices', WHERE WHAT IT READS IS OF BULK AT MOST 1048576: true; the input reads as it did. -/
def walkSplicesUptoRow : OpenClaim := { program := "ytoacobcbloljkaagreatdoor", sum := "af5e5b63635a277bfb59ede6b9cded59f9f747b8e1719743f3be435711156148", func := "vista/vistalaw14.WalkSplices", spec := "walkSplices", inPlace := ["internal/bytealg.CountString", "internal/bytealg.IndexByteString", "internal/bytealg.IndexString"], unfollowed := true, recurses := true, named := ["unicode/utf8.first", "unicode/utf8.acceptRanges", "internal/bytealg.MaxLen"], plainKeys := false, apart := false, laid := [("unicode/utf8.acceptRanges", laid_unicode_utf8_acceptRanges), ("unicode/utf8.first", laid_unicode_utf8_first)], narrowed := true }
def WalkSplicesUptoSaid : Prop := walkSplicesUptoRow.holds Tryz.pinned (OpenSpec.upto walkSplicesSpec)

/-- 'vistalaw14.WalkUps', WHERE WHAT IT READS IS OF BULK AT MOST 1048576: true; the input reads as it did. -/
def walkUpsUptoRow : OpenClaim := { program := "ytoacobcbloljkaagreatdoor", sum := "af5e5b63635a277bfb59ede6b9cded59f9f747b8e1719743f3be435711156148", func := "vista/vistalaw14.WalkUps", spec := "walkUps", inPlace := ["internal/bytealg.CountString", "internal/bytealg.IndexByteString", "internal/bytealg.IndexString"], unfollowed := true, recurses := true, named := ["unicode/utf8.first", "unicode/utf8.acceptRanges", "internal/bytealg.MaxLen"], plainKeys := false, apart := false, laid := [("unicode/utf8.acceptRanges", laid_unicode_utf8_acceptRanges), ("unicode/utf8.first", laid_unicode_utf8_first)], narrowed := true }
def WalkUpsUptoSaid : Prop := walkUpsUptoRow.holds Tryz.pinned (OpenSpec.upto walkUpsSpec)

/-- 'vistalaw05.TreeLooks', WHERE WHAT IT READS IS OF BULK AT MOST 1048576: true; the input reads as it did. -/
def treeLooksUptoRow : OpenClaim := { program := "ytoacobcbloljkaagreatdoor", sum := "af5e5b63635a277bfb59ede6b9cded59f9f747b8e1719743f3be435711156148", func := "vista/vistalaw05.TreeLooks", spec := "treeLooks", inPlace := ["internal/bytealg.CountString", "internal/bytealg.IndexByteString", "internal/bytealg.IndexString"], unfollowed := true, recurses := true, named := ["unicode/utf8.first", "unicode/utf8.acceptRanges", "internal/bytealg.MaxLen"], plainKeys := false, apart := false, laid := [("unicode/utf8.acceptRanges", laid_unicode_utf8_acceptRanges), ("unicode/utf8.first", laid_unicode_utf8_first)], narrowed := true }
def TreeLooksUptoSaid : Prop := treeLooksUptoRow.holds Tryz.pinned (OpenSpec.upto treeLooksSpec)

/-- 'vistalaw05.TreeBack', WHERE WHAT IT READS IS OF BULK AT MOST 1048576: true; the input reads as it did. -/
def treeBackUptoRow : OpenClaim := { program := "ytoacobcbloljkaagreatdoor", sum := "af5e5b63635a277bfb59ede6b9cded59f9f747b8e1719743f3be435711156148", func := "vista/vistalaw05.TreeBack", spec := "treeBack", inPlace := ["internal/bytealg.CountString", "internal/bytealg.IndexByteString", "internal/bytealg.IndexString"], unfollowed := true, recurses := true, named := ["unicode/utf8.first", "unicode/utf8.acceptRanges", "internal/bytealg.MaxLen"], plainKeys := false, apart := false, laid := [("unicode/utf8.acceptRanges", laid_unicode_utf8_acceptRanges), ("unicode/utf8.first", laid_unicode_utf8_first)], narrowed := true }
def TreeBackUptoSaid : Prop := treeBackUptoRow.holds Tryz.pinned (OpenSpec.upto treeBackSpec)

/-- 'vistalaw05.TreeKept', WHERE WHAT IT READS IS OF BULK AT MOST 1048576: true; the input reads as it did. -/
def treeKeptUptoRow : OpenClaim := { program := "ytoacobcbloljkaagreatdoor", sum := "af5e5b63635a277bfb59ede6b9cded59f9f747b8e1719743f3be435711156148", func := "vista/vistalaw05.TreeKept", spec := "treeKept", inPlace := ["internal/bytealg.CountString", "internal/bytealg.IndexByteString", "internal/bytealg.IndexString"], unfollowed := true, recurses := true, named := ["unicode/utf8.first", "unicode/utf8.acceptRanges", "internal/bytealg.MaxLen"], plainKeys := false, apart := false, laid := [("unicode/utf8.acceptRanges", laid_unicode_utf8_acceptRanges), ("unicode/utf8.first", laid_unicode_utf8_first)], narrowed := true }
def TreeKeptUptoSaid : Prop := treeKeptUptoRow.holds Tryz.pinned (OpenSpec.upto treeKeptSpec)

end Rows
end Go.Proofs.YtoacobcbloljkaaGreatDoor
