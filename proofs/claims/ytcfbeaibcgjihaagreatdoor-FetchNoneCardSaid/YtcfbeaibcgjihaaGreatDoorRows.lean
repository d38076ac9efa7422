/-
  NARROWER THAN 'FOR EVERY INPUT', by the rows' own cells (each row's printed sentence says how): HoldTurns: laid · HoldFull: laid · FetchNone: laid · PubTells: laid · FetchPlays: laid · HoldScrubs: laid · HoldAgain: laid.
  DERIVED. THE GIVEN ROWS OF THIS SEAT. 7 by the template 'for every input the law returns true; each argument reads behind the call as it read before'; 0 by the template 'total and deterministic' (their statements: YtcfbeaibcgjihaaGreatDoorTotals.lean).
  GIVEN WITH THE SEED: the statements are not yours to turn. If you find one false, say at which input.
  Laid BY PROGRAM, IN A SANDBOX (cutbox-rows.mjs): the forced cells as the released guide's own fill.sh prints them over the translation a95247a35c2b1a10… (all of the seat's roots in one cut). By AI agents, Wed Nov 11 2026. No macro, syntax, notation, axiom, sorry.
-/
import Derived.Test.YtcfbeaibcgjihaaGreatDoorChecked
import GoSem.Claim
import GoSem.ClaimJoined
import GoSem.ClaimMapViews
import Derived.JoinedTies
import Derived.KernelRfl
namespace Go.Proofs.YtcfbeaibcgjihaaGreatDoor
/- THE CELL 'sum', in the pinned program and in every row, IS THE sha256 OF THE DUMP (.gsa) THAT YtcfbeaibcgjihaaGreatDoorProg.lean LOADS. Nothing in Lean hashes anything: it is a label: what it is worth is what the hold of that sum in a sandbox is worth. -/
noncomputable def Tryz.pinned : Pinned := { name := "ytcfbeaibcgjihaagreatdoor", sum := "a95247a35c2b1a10394bcd63aeb378856f215264144cfb4ffd9f2d2bc1d39bf6", checked := Tryz.checked }
namespace Rows
def none {H : Type} : Left H := { results := [], args := [] }

/- WHAT THE LISTED PACKAGE-LEVEL VARIABLES READ AS WHEN THE CALL BEGINS. Each datum BY PROGRAM (the guide's laid-datum.mjs) off the statement by which the dump's own 'gosem.cut.vars' lays the variable. In a bare row this is a premise. The card (YtcfbeaibcgjihaaGreatDoorCards.lean) ties it to the program's text. -/
def laid_errors_errorType {H : Type} : DataW H := .iface "internal/reflectlite.rtype" (.agg [.ptr (.lit (.string [101, 114, 114, 111, 114]))])

/-- 'ladinglaw16.HoldTurns': WHATEVER THE INPUT: true; the input reads as it did. -/
def holdTurnsSpec : ChangeSpec := { name := "holdTurns", fn := fun _ => fun
  | [d] => { results := [.lit (.bool true)], args := [d] }
  | _ => none }
def holdTurnsRow : OpenClaim := { program := "ytcfbeaibcgjihaagreatdoor", sum := "a95247a35c2b1a10394bcd63aeb378856f215264144cfb4ffd9f2d2bc1d39bf6", func := "lading/ladinglaw16.HoldTurns", spec := "holdTurns", inPlace := ["internal/abi.NoEscape", "internal/bytealg.MakeNoZero", "internal/reflectlite.TypeOf", "internal/reflectlite.ValueOf", "(internal/reflectlite.Value).Type", "(internal/reflectlite.Value).IsNil", "(internal/reflectlite.Value).Elem", "(internal/reflectlite.Value).Set"], unfollowed := true, recurses := true, named := ["errors.errorType"], plainKeys := false, apart := false, laid := [("errors.errorType", laid_errors_errorType)] }
def HoldTurnsSaid : Prop := holdTurnsRow.holds Tryz.pinned (OpenSpec.ofChange holdTurnsSpec)

/-- ITS FALSE NEIGHBOUR: 'it returns false'. Refute it at one input. -/
def holdTurnsWrong : ChangeSpec := { name := "holdTurns", fn := fun _ => fun
  | [d] => { results := [.lit (.bool false)], args := [d] }
  | _ => none }
def HoldTurnsWrongFalsely : Prop := holdTurnsRow.holds Tryz.pinned (OpenSpec.ofChange holdTurnsWrong)

/-- 'ladinglaw16.HoldFull': WHATEVER THE INPUT: true; the input reads as it did. -/
def holdFullSpec : ChangeSpec := { name := "holdFull", fn := fun _ => fun
  | [d1, d2] => { results := [.lit (.bool true)], args := [d1, d2] }
  | _ => none }
def holdFullRow : OpenClaim := { program := "ytcfbeaibcgjihaagreatdoor", sum := "a95247a35c2b1a10394bcd63aeb378856f215264144cfb4ffd9f2d2bc1d39bf6", func := "lading/ladinglaw16.HoldFull", spec := "holdFull", inPlace := ["internal/abi.NoEscape", "internal/bytealg.MakeNoZero", "internal/reflectlite.TypeOf", "internal/reflectlite.ValueOf", "(internal/reflectlite.Value).Type", "(internal/reflectlite.Value).IsNil", "(internal/reflectlite.Value).Elem", "(internal/reflectlite.Value).Set"], unfollowed := true, recurses := true, named := ["errors.errorType"], plainKeys := false, apart := false, laid := [("errors.errorType", laid_errors_errorType)] }
def HoldFullSaid : Prop := holdFullRow.holds Tryz.pinned (OpenSpec.ofChange holdFullSpec)

/-- ITS FALSE NEIGHBOUR: 'it returns false'. Refute it at one input. -/
def holdFullWrong : ChangeSpec := { name := "holdFull", fn := fun _ => fun
  | [d1, d2] => { results := [.lit (.bool false)], args := [d1, d2] }
  | _ => none }
def HoldFullWrongFalsely : Prop := holdFullRow.holds Tryz.pinned (OpenSpec.ofChange holdFullWrong)

/-- 'ladinglaw20.FetchNone': WHATEVER THE INPUT: true; the input reads as it did. -/
def fetchNoneSpec : ChangeSpec := { name := "fetchNone", fn := fun _ => fun
  | [d1, d2] => { results := [.lit (.bool true)], args := [d1, d2] }
  | _ => none }
def fetchNoneRow : OpenClaim := { program := "ytcfbeaibcgjihaagreatdoor", sum := "a95247a35c2b1a10394bcd63aeb378856f215264144cfb4ffd9f2d2bc1d39bf6", func := "lading/ladinglaw20.FetchNone", spec := "fetchNone", inPlace := ["internal/abi.NoEscape", "internal/bytealg.MakeNoZero", "internal/reflectlite.TypeOf", "internal/reflectlite.ValueOf", "(internal/reflectlite.Value).Type", "(internal/reflectlite.Value).IsNil", "(internal/reflectlite.Value).Elem", "(internal/reflectlite.Value).Set"], unfollowed := true, recurses := true, named := ["errors.errorType"], plainKeys := false, apart := false, laid := [("errors.errorType", laid_errors_errorType)] }
def FetchNoneSaid : Prop := fetchNoneRow.holds Tryz.pinned (OpenSpec.ofChange fetchNoneSpec)

/-- ITS FALSE NEIGHBOUR: 'it returns false'. Refute it at one input. -/
def fetchNoneWrong : ChangeSpec := { name := "fetchNone", fn := fun _ => fun
  | [d1, d2] => { results := [.lit (.bool false)], args := [d1, d2] }
  | _ => none }
def FetchNoneWrongFalsely : Prop := fetchNoneRow.holds Tryz.pinned (OpenSpec.ofChange fetchNoneWrong)

/-- 'ladinglaw22.PubTells': WHATEVER THE INPUT: true; the input reads as it did. -/
def pubTellsSpec : ChangeSpec := { name := "pubTells", fn := fun _ => fun
  | [d1, d2, d3] => { results := [.lit (.bool true)], args := [d1, d2, d3] }
  | _ => none }
def pubTellsRow : OpenClaim := { program := "ytcfbeaibcgjihaagreatdoor", sum := "a95247a35c2b1a10394bcd63aeb378856f215264144cfb4ffd9f2d2bc1d39bf6", func := "lading/ladinglaw22.PubTells", spec := "pubTells", inPlace := ["internal/abi.NoEscape", "internal/bytealg.MakeNoZero", "internal/reflectlite.TypeOf", "internal/reflectlite.ValueOf", "(internal/reflectlite.Value).Type", "(internal/reflectlite.Value).IsNil", "(internal/reflectlite.Value).Elem", "(internal/reflectlite.Value).Set"], unfollowed := true, recurses := true, named := ["errors.errorType"], plainKeys := false, apart := false, laid := [("errors.errorType", laid_errors_errorType)] }
def PubTellsSaid : Prop := pubTellsRow.holds Tryz.pinned (OpenSpec.ofChange pubTellsSpec)

/-- ITS FALSE NEIGHBOUR: 'it returns false'. Refute it at one input. -/
def pubTellsWrong : ChangeSpec := { name := "pubTells", fn := fun _ => fun
  | [d1, d2, d3] => { results := [.lit (.bool false)], args := [d1, d2, d3] }
  | _ => none }
def PubTellsWrongFalsely : Prop := pubTellsRow.holds Tryz.pinned (OpenSpec.ofChange pubTellsWrong)

/-- 'ladinglaw20.FetchPlays': WHATEVER THE INPUT: true; the input reads as it did. -/
def fetchPlaysSpec : ChangeSpec := { name := "fetchPlays", fn := fun _ => fun
  | [d1, d2, d3] => { results := [.lit (.bool true)], args := [d1, d2, d3] }
  | _ => none }
def fetchPlaysRow : OpenClaim := { program := "ytcfbeaibcgjihaagreatdoor", sum := "a95247a35c2b1a10394bcd63aeb378856f215264144cfb4ffd9f2d2bc1d39bf6", func := "lading/ladinglaw20.FetchPlays", spec := "fetchPlays", inPlace := ["internal/abi.NoEscape", "internal/bytealg.MakeNoZero", "internal/reflectlite.TypeOf", "internal/reflectlite.ValueOf", "(internal/reflectlite.Value).Type", "(internal/reflectlite.Value).IsNil", "(internal/reflectlite.Value).Elem", "(internal/reflectlite.Value).Set"], unfollowed := true, recurses := true, named := ["errors.errorType"], plainKeys := false, apart := false, laid := [("errors.errorType", laid_errors_errorType)] }
def FetchPlaysSaid : Prop := fetchPlaysRow.holds Tryz.pinned (OpenSpec.ofChange fetchPlaysSpec)

/-- ITS FALSE NEIGHBOUR: 'it returns false'. Refute it at one input. -/
def fetchPlaysWrong : ChangeSpec := { name := "fetchPlays", fn := fun _ => fun
  | [d1, d2, d3] => { results := [.lit (.bool false)], args := [d1, d2, d3] }
  | _ => none }
def FetchPlaysWrongFalsely : Prop := fetchPlaysRow.holds Tryz.pinned (OpenSpec.ofChange fetchPlaysWrong)

/-- 'ladinglaw16.HoldScrubs': WHATEVER THE INPUT: true; the input reads as it did. -/
def holdScrubsSpec : ChangeSpec := { name := "holdScrubs", fn := fun _ => fun
  | [d1, d2] => { results := [.lit (.bool true)], args := [d1, d2] }
  | _ => none }
def holdScrubsRow : OpenClaim := { program := "ytcfbeaibcgjihaagreatdoor", sum := "a95247a35c2b1a10394bcd63aeb378856f215264144cfb4ffd9f2d2bc1d39bf6", func := "lading/ladinglaw16.HoldScrubs", spec := "holdScrubs", inPlace := ["internal/abi.NoEscape", "internal/bytealg.MakeNoZero", "internal/reflectlite.TypeOf", "internal/reflectlite.ValueOf", "(internal/reflectlite.Value).Type", "(internal/reflectlite.Value).IsNil", "(internal/reflectlite.Value).Elem", "(internal/reflectlite.Value).Set"], unfollowed := true, recurses := true, named := ["errors.errorType"], plainKeys := false, apart := false, laid := [("errors.errorType", laid_errors_errorType)] }
def HoldScrubsSaid : Prop := holdScrubsRow.holds Tryz.pinned (OpenSpec.ofChange holdScrubsSpec)

/-- ITS FALSE NEIGHBOUR: 'it returns false'. Refute it at one input. -/
def holdScrubsWrong : ChangeSpec := { name := "holdScrubs", fn := fun _ => fun
  | [d1, d2] => { results := [.lit (.bool false)], args := [d1, d2] }
  | _ => none }
def HoldScrubsWrongFalsely : Prop := holdScrubsRow.holds Tryz.pinned (OpenSpec.ofChange holdScrubsWrong)

/-- 'ladinglaw16.HoldAgain': WHATEVER THE INPUT: true; the input reads as it did. -/
def holdAgainSpec : ChangeSpec := { name := "holdAgain", fn := fun _ => fun
  | [d1, d2] => { results := [.lit (.bool true)], args := [d1, d2] }
  | _ => none }
def holdAgainRow : OpenClaim := { program := "ytcfbeaibcgjihaagreatdoor", sum := "a95247a35c2b1a10394bcd63aeb378856f215264144cfb4ffd9f2d2bc1d39bf6", func := "lading/ladinglaw16.HoldAgain", spec := "holdAgain", inPlace := ["internal/abi.NoEscape", "internal/bytealg.MakeNoZero", "internal/reflectlite.TypeOf", "internal/reflectlite.ValueOf", "(internal/reflectlite.Value).Type", "(internal/reflectlite.Value).IsNil", "(internal/reflectlite.Value).Elem", "(internal/reflectlite.Value).Set"], unfollowed := true, recurses := true, named := ["errors.errorType"], plainKeys := false, apart := false, laid := [("errors.errorType", laid_errors_errorType)] }
def HoldAgainSaid : Prop := holdAgainRow.holds Tryz.pinned (OpenSpec.ofChange holdAgainSpec)

/-- ITS FALSE NEIGHBOUR: 'it returns false'. Refute it at one input. -/
def holdAgainWrong : ChangeSpec := { name := "holdAgain", fn := fun _ => fun
  | [d1, d2] => { results := [.lit (.bool false)], args := [d1, d2] }
  | _ => none }
def HoldAgainWrongFalsely : Prop := holdAgainRow.holds Tryz.pinned (OpenSpec.ofChange holdAgainWrong)

/- THE SECOND FORM. 'bulk': how many values and letters a reading holds, each counted each time it is reached (what is shared counts as often as it is met; a slice's spare places count too). A statement '..UptoSaid' is the law's where the arguments, and the package variables that the reading takes, are together of bulk at most 1048576: NARROWER than '..Said'. Prove '..Said' where nothing that the law and all that it calls make is longer than what came in: it says more and counts as full. Else prove '..UptoSaid'. A law counts once. -/
mutual
def uptoBulk {H : Type} : DataW H → Nat
  | .lit (.string bytes) => bytes.length + 1
  | .lit _ => 1
  | .nil => 1
  | .ptr d => uptoBulk d + 1
  | .slice elems spare => uptoBulkAll elems + uptoBulkAll spare + 1
  | .agg parts => uptoBulkAll parts + 1
  | .iface _ d => uptoBulk d + 1
  | .map entries => uptoBulkEntries entries + 1
  | .held _ => 1
def uptoBulkAll {H : Type} : List (DataW H) → Nat
  | [] => 0
  | d :: r => uptoBulk d + uptoBulkAll r
def uptoBulkEntries {H : Type} : List (Lit × DataW H) → Nat
  | [] => 0
  | x :: r => uptoBulkEntry x + uptoBulkEntries r
def uptoBulkEntry {H : Type} : Lit × DataW H → Nat
  | (.string bytes, d) => bytes.length + uptoBulk d + 1
  | (_, d) => uptoBulk d + 1
 end
def uptoSmall : (H : Type) → List (DataW H) → Bool := fun _ ds => decide (uptoBulkAll ds ≤ 1048576)
def OpenSpec.upto (s : _root_.Go.ChangeSpec) : _root_.Go.OpenSpec := { _root_.Go.OpenSpec.ofChange s with cond := some uptoSmall }

/-- 'ladinglaw16.HoldTurns', WHERE WHAT IT READS IS OF BULK AT MOST 1048576: true; the input reads as it did. -/
def holdTurnsUptoRow : OpenClaim := { program := "ytcfbeaibcgjihaagreatdoor", sum := "a95247a35c2b1a10394bcd63aeb378856f215264144cfb4ffd9f2d2bc1d39bf6", func := "lading/ladinglaw16.HoldTurns", spec := "holdTurns", inPlace := ["internal/abi.NoEscape", "internal/bytealg.MakeNoZero", "internal/reflectlite.TypeOf", "internal/reflectlite.ValueOf", "(internal/reflectlite.Value).Type", "(internal/reflectlite.Value).IsNil", "(internal/reflectlite.Value).Elem", "(internal/reflectlite.Value).Set"], unfollowed := true, recurses := true, named := ["errors.errorType"], plainKeys := false, apart := false, laid := [("errors.errorType", laid_errors_errorType)], narrowed := true }
def HoldTurnsUptoSaid : Prop := holdTurnsUptoRow.holds Tryz.pinned (OpenSpec.upto holdTurnsSpec)

/-- 'ladinglaw16.HoldFull', WHERE WHAT IT READS IS OF BULK AT MOST 1048576: true; the input reads as it did. -/
def holdFullUptoRow : OpenClaim := { program := "ytcfbeaibcgjihaagreatdoor", sum := "a95247a35c2b1a10394bcd63aeb378856f215264144cfb4ffd9f2d2bc1d39bf6", func := "lading/ladinglaw16.HoldFull", spec := "holdFull", inPlace := ["internal/abi.NoEscape", "internal/bytealg.MakeNoZero", "internal/reflectlite.TypeOf", "internal/reflectlite.ValueOf", "(internal/reflectlite.Value).Type", "(internal/reflectlite.Value).IsNil", "(internal/reflectlite.Value).Elem", "(internal/reflectlite.Value).Set"], unfollowed := true, recurses := true, named := ["errors.errorType"], plainKeys := false, apart := false, laid := [("errors.errorType", laid_errors_errorType)], narrowed := true }
def HoldFullUptoSaid : Prop := holdFullUptoRow.holds Tryz.pinned (OpenSpec.upto holdFullSpec)

/-- 'ladinglaw20.FetchNone', WHERE WHAT IT READS IS OF BULK AT MOST 1048576: true; the input reads as it did. -/
def fetchNoneUptoRow : OpenClaim := { program := "ytcfbeaibcgjihaagreatdoor", sum := "a95247a35c2b1a10394bcd63aeb378856f215264144cfb4ffd9f2d2bc1d39bf6", func := "lading/ladinglaw20.FetchNone", spec := "fetchNone", inPlace := ["internal/abi.NoEscape", "internal/bytealg.MakeNoZero", "internal/reflectlite.TypeOf", "internal/reflectlite.ValueOf", "(internal/reflectlite.Value).Type", "(internal/reflectlite.Value).IsNil", "(internal/reflectlite.Value).Elem", "(internal/reflectlite.Value).Set"], unfollowed := true, recurses := true, named := ["errors.errorType"], plainKeys := false, apart := false, laid := [("errors.errorType", laid_errors_errorType)], narrowed := true }
def FetchNoneUptoSaid : Prop := fetchNoneUptoRow.holds Tryz.pinned (OpenSpec.upto fetchNoneSpec)

/-- 'ladinglaw22.PubTells', WHERE WHAT IT READS IS OF BULK AT MOST 1048576: true; the input reads as it did. -/
def pubTellsUptoRow : OpenClaim := { program := "ytcfbeaibcgjihaagreatdoor", sum := "a95247a35c2b1a10394bcd63aeb378856f215264144cfb4ffd9f2d2bc1d39bf6", func := "lading/ladinglaw22.PubTells", spec := "pubTells", inPlace := ["internal/abi.NoEscape", "internal/bytealg.MakeNoZero", "internal/reflectlite.TypeOf", "internal/reflectlite.ValueOf", "(internal/reflectlite.Value).Type", "(internal/reflectlite.Value).IsNil", "(internal/reflectlite.Value).Elem", "(internal/reflectlite.Value).Set"], unfollowed := true, recurses := true, named := ["errors.errorType"], plainKeys := false, apart := false, laid := [("errors.errorType", laid_errors_errorType)], narrowed := true }
def PubTellsUptoSaid : Prop := pubTellsUptoRow.holds Tryz.pinned (OpenSpec.upto pubTellsSpec)

/-- 'ladinglaw20.FetchPlays', WHERE WHAT IT READS IS OF BULK AT MOST 1048576: true; the input reads as it did. -/
def fetchPlaysUptoRow : OpenClaim := { program := "ytcfbeaibcgjihaagreatdoor", sum := "a95247a35c2b1a10394bcd63aeb378856f215264144cfb4ffd9f2d2bc1d39bf6", func := "lading/ladinglaw20.FetchPlays", spec := "fetchPlays", inPlace := ["internal/abi.NoEscape", "internal/bytealg.MakeNoZero", "internal/reflectlite.TypeOf", "internal/reflectlite.ValueOf", "(internal/reflectlite.Value).Type", "(internal/reflectlite.Value).IsNil", "(internal/reflectlite.Value).Elem", "(internal/reflectlite.Value).Set"], unfollowed := true, recurses := true, named := ["errors.errorType"], plainKeys := false, apart := false, laid := [("errors.errorType", laid_errors_errorType)], narrowed := true }
def FetchPlaysUptoSaid : Prop := fetchPlaysUptoRow.holds Tryz.pinned (OpenSpec.upto fetchPlaysSpec)

/-- 'ladinglaw16.HoldScrubs', WHERE WHAT IT READS IS OF BULK AT MOST 1048576: true; the input reads as it did. -/
def holdScrubsUptoRow : OpenClaim := { program := "ytcfbeaibcgjihaagreatdoor", sum := "a95247a35c2b1a10394bcd63aeb378856f215264144cfb4ffd9f2d2bc1d39bf6", func := "lading/ladinglaw16.HoldScrubs", spec := "holdScrubs", inPlace := ["internal/abi.NoEscape", "internal/bytealg.MakeNoZero", "internal/reflectlite.TypeOf", "internal/reflectlite.ValueOf", "(internal/reflectlite.Value).Type", "(internal/reflectlite.Value).IsNil", "(internal/reflectlite.Value).Elem", "(internal/reflectlite.Value).Set"], unfollowed := true, recurses := true, named := ["errors.errorType"], plainKeys := false, apart := false, laid := [("errors.errorType", laid_errors_errorType)], narrowed := true }
def HoldScrubsUptoSaid : Prop := holdScrubsUptoRow.holds Tryz.pinned (OpenSpec.upto holdScrubsSpec)

/-- 'ladinglaw16.HoldAgain', WHERE WHAT IT READS IS OF BULK AT MOST 1048576: true; the input reads as it did. -/
def holdAgainUptoRow : OpenClaim := { program := "ytcfbeaibcgjihaagreatdoor", sum := "a95247a35c2b1a10394bcd63aeb378856f215264144cfb4ffd9f2d2bc1d39bf6", func := "lading/ladinglaw16.HoldAgain", spec := "holdAgain", inPlace := ["internal/abi.NoEscape", "internal/bytealg.MakeNoZero", "internal/reflectlite.TypeOf", "internal/reflectlite.ValueOf", "(internal/reflectlite.Value).Type", "(internal/reflectlite.Value).IsNil", "(internal/reflectlite.Value).Elem", "(internal/reflectlite.Value).Set"], unfollowed := true, recurses := true, named := ["errors.errorType"], plainKeys := false, apart := false, laid := [("errors.errorType", laid_errors_errorType)], narrowed := true }
def HoldAgainUptoSaid : Prop := holdAgainUptoRow.holds Tryz.pinned (OpenSpec.upto holdAgainSpec)

end Rows
end Go.Proofs.YtcfbeaibcgjihaaGreatDoor
