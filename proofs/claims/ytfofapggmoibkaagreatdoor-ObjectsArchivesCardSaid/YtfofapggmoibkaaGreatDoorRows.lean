/-
  NARROWER THAN 'FOR EVERY INPUT', by the rows' own cells (each row's printed sentence says how): ObjectsBytes: laid · ObjectsArchives: laid · ObjectsReturns: laid · ObjectsDrops: laid · ObjectsOrder: laid · ObjectsClosed: laid.
  DERIVED. THE GIVEN ROWS OF THIS SEAT. 6 by the template 'for every input the law returns true; each argument reads behind the call as it read before'; 0 by the template 'total and deterministic' (their statements: YtfofapggmoibkaaGreatDoorTotals.lean).
  GIVEN WITH THE SEED: the statements are not yours to turn. If you find one false, say at which input.
  Laid BY PROGRAM, IN A SANDBOX (cutbox-rows.mjs): the forced cells as the released guide's own fill.sh prints them over the translation 9ba84d3fcc546ecf… (all of the seat's roots in one cut). By AI agents, Wed Nov 11 2026. No macro, syntax, notation, axiom, sorry.
-/
import Derived.Test.YtfofapggmoibkaaGreatDoorChecked
import GoSem.PinnedTables
import GoSem.Claim
import GoSem.ClaimJoined
import GoSem.ClaimMapViews
import Derived.JoinedTies
import Derived.KernelRfl
namespace Go.Proofs.YtfofapggmoibkaaGreatDoor
/- THE CELL 'sum', in the pinned program and in every row, IS THE sha256 OF THE DUMP (.gsa) THAT YtfofapggmoibkaaGreatDoorProg.lean LOADS. Nothing in Lean hashes anything: it is a label: what it is worth is what the hold of that sum in a sandbox is worth. -/
noncomputable def Tryz.pinned : Pinned := { name := "ytfofapggmoibkaagreatdoor", sum := "9ba84d3fcc546ecfd80ab5ed0debf9f21ccbd97999c637b989840db130b01bbb", checked := Tryz.checked }
namespace Rows
def none {H : Type} : Left H := { results := [], args := [] }

/- WHAT THE LISTED PACKAGE-LEVEL VARIABLES READ AS WHEN THE CALL BEGINS. Each datum BY PROGRAM (the guide's laid-datum.mjs) off the statement by which the dump's own 'gosem.cut.vars' lays the variable. In a bare row this is a premise. The card (YtfofapggmoibkaaGreatDoorCards.lean) ties it to the program's text. -/
def laid_unicode_utf8_acceptRanges {H : Type} : DataW H := .agg [.agg [.lit (.int .u8 128), .lit (.int .u8 191)], .agg [.lit (.int .u8 160), .lit (.int .u8 191)], .agg [.lit (.int .u8 128), .lit (.int .u8 159)], .agg [.lit (.int .u8 144), .lit (.int .u8 191)], .agg [.lit (.int .u8 128), .lit (.int .u8 143)], .agg [.lit (.int .u8 0), .lit (.int .u8 0)], .agg [.lit (.int .u8 0), .lit (.int .u8 0)], .agg [.lit (.int .u8 0), .lit (.int .u8 0)], .agg [.lit (.int .u8 0), .lit (.int .u8 0)], .agg [.lit (.int .u8 0), .lit (.int .u8 0)], .agg [.lit (.int .u8 0), .lit (.int .u8 0)], .agg [.lit (.int .u8 0), .lit (.int .u8 0)], .agg [.lit (.int .u8 0), .lit (.int .u8 0)], .agg [.lit (.int .u8 0), .lit (.int .u8 0)], .agg [.lit (.int .u8 0), .lit (.int .u8 0)], .agg [.lit (.int .u8 0), .lit (.int .u8 0)]]
/-- One of Go's own tables, pinned by name: the form's constant. -/
def laid_unicode_utf8_first : DataW Unit := Go.Pinned.utf8First

/-- 'modcertlaw49.ObjectsBytes': WHATEVER THE INPUT: true; the input reads as it did. -/
def objectsBytesSpec : ChangeSpec := { name := "objectsBytes", fn := fun _ => fun
  | [d1, d2] => { results := [.lit (.bool true)], args := [d1, d2] }
  | _ => none }
def objectsBytesRow : OpenClaim := { program := "ytfofapggmoibkaagreatdoor", sum := "9ba84d3fcc546ecfd80ab5ed0debf9f21ccbd97999c637b989840db130b01bbb", func := "modcert/modcertlaw49.ObjectsBytes", spec := "objectsBytes", inPlace := ["internal/abi.NoEscape", "internal/bytealg.MakeNoZero", "internal/bytealg.CountString", "internal/bytealg.IndexByteString", "internal/bytealg.IndexString"], unfollowed := true, recurses := true, named := ["unicode/utf8.first", "unicode/utf8.acceptRanges", "internal/bytealg.MaxLen"], apart := false, laid := [("unicode/utf8.acceptRanges", laid_unicode_utf8_acceptRanges), ("unicode/utf8.first", laid_unicode_utf8_first)] }
def ObjectsBytesSaid : Prop := objectsBytesRow.holds Tryz.pinned (OpenSpec.ofChange objectsBytesSpec)

/-- ITS FALSE NEIGHBOUR: 'it returns false'. Refute it at one input. -/
def objectsBytesWrong : ChangeSpec := { name := "objectsBytes", fn := fun _ => fun
  | [d1, d2] => { results := [.lit (.bool false)], args := [d1, d2] }
  | _ => none }
def ObjectsBytesWrongFalsely : Prop := objectsBytesRow.holds Tryz.pinned (OpenSpec.ofChange objectsBytesWrong)

/-- 'modcertlaw49.ObjectsArchives': WHATEVER THE INPUT: true; the input reads as it did. -/
def objectsArchivesSpec : ChangeSpec := { name := "objectsArchives", fn := fun _ => fun
  | [d1, d2] => { results := [.lit (.bool true)], args := [d1, d2] }
  | _ => none }
def objectsArchivesRow : OpenClaim := { program := "ytfofapggmoibkaagreatdoor", sum := "9ba84d3fcc546ecfd80ab5ed0debf9f21ccbd97999c637b989840db130b01bbb", func := "modcert/modcertlaw49.ObjectsArchives", spec := "objectsArchives", inPlace := ["internal/abi.NoEscape", "internal/bytealg.MakeNoZero", "internal/bytealg.CountString", "internal/bytealg.IndexByteString", "internal/bytealg.IndexString"], unfollowed := true, recurses := true, named := ["unicode/utf8.first", "unicode/utf8.acceptRanges", "internal/bytealg.MaxLen"], apart := false, laid := [("unicode/utf8.acceptRanges", laid_unicode_utf8_acceptRanges), ("unicode/utf8.first", laid_unicode_utf8_first)] }
def ObjectsArchivesSaid : Prop := objectsArchivesRow.holds Tryz.pinned (OpenSpec.ofChange objectsArchivesSpec)

/-- ITS FALSE NEIGHBOUR: 'it returns false'. Refute it at one input. -/
def objectsArchivesWrong : ChangeSpec := { name := "objectsArchives", fn := fun _ => fun
  | [d1, d2] => { results := [.lit (.bool false)], args := [d1, d2] }
  | _ => none }
def ObjectsArchivesWrongFalsely : Prop := objectsArchivesRow.holds Tryz.pinned (OpenSpec.ofChange objectsArchivesWrong)

/-- 'modcertlaw49.ObjectsReturns': WHATEVER THE INPUT: true; the input reads as it did. -/
def objectsReturnsSpec : ChangeSpec := { name := "objectsReturns", fn := fun _ => fun
  | [d1, d2] => { results := [.lit (.bool true)], args := [d1, d2] }
  | _ => none }
def objectsReturnsRow : OpenClaim := { program := "ytfofapggmoibkaagreatdoor", sum := "9ba84d3fcc546ecfd80ab5ed0debf9f21ccbd97999c637b989840db130b01bbb", func := "modcert/modcertlaw49.ObjectsReturns", spec := "objectsReturns", inPlace := ["internal/abi.NoEscape", "internal/bytealg.MakeNoZero", "internal/bytealg.CountString", "internal/bytealg.IndexByteString", "internal/bytealg.IndexString"], unfollowed := true, recurses := true, named := ["unicode/utf8.first", "unicode/utf8.acceptRanges", "internal/bytealg.MaxLen"], apart := false, laid := [("unicode/utf8.acceptRanges", laid_unicode_utf8_acceptRanges), ("unicode/utf8.first", laid_unicode_utf8_first)] }
def ObjectsReturnsSaid : Prop := objectsReturnsRow.holds Tryz.pinned (OpenSpec.ofChange objectsReturnsSpec)

/-- ITS FALSE NEIGHBOUR: 'it returns false'. Refute it at one input. -/
def objectsReturnsWrong : ChangeSpec := { name := "objectsReturns", fn := fun _ => fun
  | [d1, d2] => { results := [.lit (.bool false)], args := [d1, d2] }
  | _ => none }
def ObjectsReturnsWrongFalsely : Prop := objectsReturnsRow.holds Tryz.pinned (OpenSpec.ofChange objectsReturnsWrong)

/-- 'modcertlaw49.ObjectsDrops': WHATEVER THE INPUT: true; the input reads as it did. -/
def objectsDropsSpec : ChangeSpec := { name := "objectsDrops", fn := fun _ => fun
  | [d1, d2, d3, d4] => { results := [.lit (.bool true)], args := [d1, d2, d3, d4] }
  | _ => none }
def objectsDropsRow : OpenClaim := { program := "ytfofapggmoibkaagreatdoor", sum := "9ba84d3fcc546ecfd80ab5ed0debf9f21ccbd97999c637b989840db130b01bbb", func := "modcert/modcertlaw49.ObjectsDrops", spec := "objectsDrops", inPlace := ["internal/abi.NoEscape", "internal/bytealg.MakeNoZero", "internal/bytealg.CountString", "internal/bytealg.IndexByteString", "internal/bytealg.IndexString"], unfollowed := true, recurses := true, named := ["unicode/utf8.first", "unicode/utf8.acceptRanges", "internal/bytealg.MaxLen"], apart := false, laid := [("unicode/utf8.acceptRanges", laid_unicode_utf8_acceptRanges), ("unicode/utf8.first", laid_unicode_utf8_first)] }
def ObjectsDropsSaid : Prop := objectsDropsRow.holds Tryz.pinned (OpenSpec.ofChange objectsDropsSpec)

/-- ITS FALSE NEIGHBOUR: 'it returns false'. Refute it at one input. -/
def objectsDropsWrong : ChangeSpec := { name := "objectsDrops", fn := fun _ => fun
  | [d1, d2, d3, d4] => { results := [.lit (.bool false)], args := [d1, d2, d3, d4] }
  | _ => none }
def ObjectsDropsWrongFalsely : Prop := objectsDropsRow.holds Tryz.pinned (OpenSpec.ofChange objectsDropsWrong)

/-- 'modcertlaw49.ObjectsOrder': WHATEVER THE INPUT: true; the input reads as it did. -/
def objectsOrderSpec : ChangeSpec := { name := "objectsOrder", fn := fun _ => fun
  | [d1, d2] => { results := [.lit (.bool true)], args := [d1, d2] }
  | _ => none }
def objectsOrderRow : OpenClaim := { program := "ytfofapggmoibkaagreatdoor", sum := "9ba84d3fcc546ecfd80ab5ed0debf9f21ccbd97999c637b989840db130b01bbb", func := "modcert/modcertlaw49.ObjectsOrder", spec := "objectsOrder", inPlace := ["internal/abi.NoEscape", "internal/bytealg.MakeNoZero", "internal/bytealg.CountString", "internal/bytealg.IndexByteString", "internal/bytealg.IndexString"], unfollowed := true, recurses := true, named := ["unicode/utf8.first", "unicode/utf8.acceptRanges", "internal/bytealg.MaxLen"], apart := false, laid := [("unicode/utf8.acceptRanges", laid_unicode_utf8_acceptRanges), ("unicode/utf8.first", laid_unicode_utf8_first)] }
def ObjectsOrderSaid : Prop := objectsOrderRow.holds Tryz.pinned (OpenSpec.ofChange objectsOrderSpec)

/-- ITS FALSE NEIGHBOUR: 'it returns false'. Refute it at one input. -/
def objectsOrderWrong : ChangeSpec := { name := "objectsOrder", fn := fun _ => fun
  | [d1, d2] => { results := [.lit (.bool false)], args := [d1, d2] }
  | _ => none }
def ObjectsOrderWrongFalsely : Prop := objectsOrderRow.holds Tryz.pinned (OpenSpec.ofChange objectsOrderWrong)

/-- 'modcertlaw49.ObjectsClosed': WHATEVER THE INPUT: true; the input reads as it did. -/
def objectsClosedSpec : ChangeSpec := { name := "objectsClosed", fn := fun _ => fun
  | [d1, d2, d3, d4] => { results := [.lit (.bool true)], args := [d1, d2, d3, d4] }
  | _ => none }
def objectsClosedRow : OpenClaim := { program := "ytfofapggmoibkaagreatdoor", sum := "9ba84d3fcc546ecfd80ab5ed0debf9f21ccbd97999c637b989840db130b01bbb", func := "modcert/modcertlaw49.ObjectsClosed", spec := "objectsClosed", inPlace := ["internal/abi.NoEscape", "internal/bytealg.MakeNoZero", "internal/bytealg.CountString", "internal/bytealg.IndexByteString", "internal/bytealg.IndexString"], unfollowed := true, recurses := true, named := ["unicode/utf8.first", "unicode/utf8.acceptRanges", "internal/bytealg.MaxLen"], apart := false, laid := [("unicode/utf8.acceptRanges", laid_unicode_utf8_acceptRanges), ("unicode/utf8.first", laid_unicode_utf8_first)] }
def ObjectsClosedSaid : Prop := objectsClosedRow.holds Tryz.pinned (OpenSpec.ofChange objectsClosedSpec)

/-- ITS FALSE NEIGHBOUR: 'it returns false'. Refute it at one input. -/
def objectsClosedWrong : ChangeSpec := { name := "objectsClosed", fn := fun _ => fun
  | [d1, d2, d3, d4] => { results := [.lit (.bool false)], args := [d1, d2, d3, d4] }
  | _ => none }
def ObjectsClosedWrongFalsely : Prop := objectsClosedRow.holds Tryz.pinned (OpenSpec.ofChange objectsClosedWrong)

/- THE SECOND FORM. 'bulk': how many values and letters a reading holds, each counted each time it is reached (what is shared counts as often as it is met; a slice's spare places count too). A statement '..UptoSaid' is the law's where the arguments, and the package variables that the reading takes, are together of bulk at most 1048576: NARROWER than '..Said'. Prove '..Said' where nothing that the law and all that it calls make is longer than what came in: it says more and counts as full. Else prove '..UptoSaid'. A law counts once. -/
mutual
def uptoBulk {H : Type} : DataW H → Nat
  | .lit (.string bytes) => bytes.length + 1
  | .lit _ => 1
  | .nil => 1
  | .ptr d => uptoBulk d + 1
  | .slice elems spare => uptoBulkAll elems + uptoBulkAll spare + 1
  | .agg parts => uptoBulkAll parts + 1
  | .iface _ d => uptoBulk d + 1
  | .map entries => uptoBulkEntries entries + 1
  | .held _ => 1
def uptoBulkAll {H : Type} : List (DataW H) → Nat
  | [] => 0
  | d :: r => uptoBulk d + uptoBulkAll r
def uptoBulkEntries {H : Type} : List (Lit × DataW H) → Nat
  | [] => 0
  | x :: r => uptoBulkEntry x + uptoBulkEntries r
def uptoBulkEntry {H : Type} : Lit × DataW H → Nat
  | (.string bytes, d) => bytes.length + uptoBulk d + 1
  | (_, d) => uptoBulk d + 1
 end
def uptoSmall : (H : Type) → List (DataW H) → Bool := fun _ ds => decide (uptoBulkAll ds ≤ 1048576)
def OpenSpec.upto (s : _root_.Go.ChangeSpec) : _root_.Go.OpenSpec := { _root_.Go.OpenSpec.ofChange s with cond := some uptoSmall }

/-- 'modcertlaw49.ObjectsBytes', WHERE WHAT IT READS IS OF BULK AT MOST 1048576: true; the input reads as it did. -/
def objectsBytesUptoRow : OpenClaim := { program := "ytfofapggmoibkaagreatdoor", sum := "9ba84d3fcc546ecfd80ab5ed0debf9f21ccbd97999c637b989840db130b01bbb", func := "modcert/modcertlaw49.ObjectsBytes", spec := "objectsBytes", inPlace := ["internal/abi.NoEscape", "internal/bytealg.MakeNoZero", "internal/bytealg.CountString", "internal/bytealg.IndexByteString", "internal/bytealg.IndexString"], unfollowed := true, recurses := true, named := ["unicode/utf8.first", "unicode/utf8.acceptRanges", "internal/bytealg.MaxLen"], apart := false, laid := [("unicode/utf8.acceptRanges", laid_unicode_utf8_acceptRanges), ("unicode/utf8.first", laid_unicode_utf8_first)], narrowed := true }
def ObjectsBytesUptoSaid : Prop := objectsBytesUptoRow.holds Tryz.pinned (OpenSpec.upto objectsBytesSpec)

/-- 'modcertlaw49.ObjectsArchives', WHERE WHAT IT READS IS OF BULK AT MOST 1048576: true; the input reads as it did. -/
def objectsArchivesUptoRow : OpenClaim := { program := "ytfofapggmoibkaagreatdoor", sum := "9ba84d3fcc546ecfd80ab5ed0debf9f21ccbd97999c637b989840db130b01bbb", func := "modcert/modcertlaw49.ObjectsArchives", spec := "objectsArchives", inPlace := ["internal/abi.NoEscape", "internal/bytealg.MakeNoZero", "internal/bytealg.CountString", "internal/bytealg.IndexByteString", "internal/bytealg.IndexString"], unfollowed := true, recurses := true, named := ["unicode/utf8.first", "unicode/utf8.acceptRanges", "internal/bytealg.MaxLen"], apart := false, laid := [("unicode/utf8.acceptRanges", laid_unicode_utf8_acceptRanges), ("unicode/utf8.first", laid_unicode_utf8_first)], narrowed := true }
def ObjectsArchivesUptoSaid : Prop := objectsArchivesUptoRow.holds Tryz.pinned (OpenSpec.upto objectsArchivesSpec)

/-- 'modcertlaw49.ObjectsReturns', WHERE WHAT IT READS IS OF BULK AT MOST 1048576: true; the input reads as it did. -/
def objectsReturnsUptoRow : OpenClaim := { program := "ytfofapggmoibkaagreatdoor", sum := "9ba84d3fcc546ecfd80ab5ed0debf9f21ccbd97999c637b989840db130b01bbb", func := "modcert/modcertlaw49.ObjectsReturns", spec := "objectsReturns", inPlace := ["internal/abi.NoEscape", "internal/bytealg.MakeNoZero", "internal/bytealg.CountString", "internal/bytealg.IndexByteString", "internal/bytealg.IndexString"], unfollowed := true, recurses := true, named := ["unicode/utf8.first", "unicode/utf8.acceptRanges", "internal/bytealg.MaxLen"], apart := false, laid := [("unicode/utf8.acceptRanges", laid_unicode_utf8_acceptRanges), ("unicode/utf8.first", laid_unicode_utf8_first)], narrowed := true }
def ObjectsReturnsUptoSaid : Prop := objectsReturnsUptoRow.holds Tryz.pinned (OpenSpec.upto objectsReturnsSpec)

/-- 'modcertlaw49.ObjectsDrops', WHERE WHAT IT READS IS OF BULK AT MOST 1048576: true; the input reads as it did. -/
def objectsDropsUptoRow : OpenClaim := { program := "ytfofapggmoibkaagreatdoor", sum := "9ba84d3fcc546ecfd80ab5ed0debf9f21ccbd97999c637b989840db130b01bbb", func := "modcert/modcertlaw49.ObjectsDrops", spec := "objectsDrops", inPlace := ["internal/abi.NoEscape", "internal/bytealg.MakeNoZero", "internal/bytealg.CountString", "internal/bytealg.IndexByteString", "internal/bytealg.IndexString"], unfollowed := true, recurses := true, named := ["unicode/utf8.first", "unicode/utf8.acceptRanges", "internal/bytealg.MaxLen"], apart := false, laid := [("unicode/utf8.acceptRanges", laid_unicode_utf8_acceptRanges), ("unicode/utf8.first", laid_unicode_utf8_first)], narrowed := true }
def ObjectsDropsUptoSaid : Prop := objectsDropsUptoRow.holds Tryz.pinned (OpenSpec.upto objectsDropsSpec)

/-- 'modcertlaw49.ObjectsOrder', WHERE WHAT IT READS IS OF BULK AT MOST 1048576: true; the input reads as it did. -/
def objectsOrderUptoRow : OpenClaim := { program := "ytfofapggmoibkaagreatdoor", sum := "9ba84d3fcc546ecfd80ab5ed0debf9f21ccbd97999c637b989840db130b01bbb", func := "modcert/modcertlaw49.ObjectsOrder", spec := "objectsOrder", inPlace := ["internal/abi.NoEscape", "internal/bytealg.MakeNoZero", "internal/bytealg.CountString", "internal/bytealg.IndexByteString", "internal/bytealg.IndexString"], unfollowed := true, recurses := true, named := ["unicode/utf8.first", "unicode/utf8.acceptRanges", "internal/bytealg.MaxLen"], apart := false, laid := [("unicode/utf8.acceptRanges", laid_unicode_utf8_acceptRanges), ("unicode/utf8.first", laid_unicode_utf8_first)], narrowed := true }
def ObjectsOrderUptoSaid : Prop := objectsOrderUptoRow.holds Tryz.pinned (OpenSpec.upto objectsOrderSpec)

/-- 'modcertlaw49.ObjectsClosed', WHERE WHAT IT READS IS OF BULK AT MOST 1048576: true; the input reads as it did. -/
def objectsClosedUptoRow : OpenClaim := { program := "ytfofapggmoibkaagreatdoor", sum := "9ba84d3fcc546ecfd80ab5ed0debf9f21ccbd97999c637b989840db130b01bbb", func := "modcert/modcertlaw49.ObjectsClosed", spec := "objectsClosed", inPlace := ["internal/abi.NoEscape", "internal/bytealg.MakeNoZero", "internal/bytealg.CountString", "internal/bytealg.IndexByteString", "internal/bytealg.IndexString"], unfollowed := true, recurses := true, named := ["unicode/utf8.first", "unicode/utf8.acceptRanges", "internal/bytealg.MaxLen"], apart := false, laid := [("unicode/utf8.acceptRanges", laid_unicode_utf8_acceptRanges), ("unicode/utf8.first", laid_unicode_utf8_first)], narrowed := true }
def ObjectsClosedUptoSaid : Prop := objectsClosedUptoRow.holds Tryz.pinned (OpenSpec.upto objectsClosedSpec)

end Rows
end Go.Proofs.YtfofapggmoibkaaGreatDoor
