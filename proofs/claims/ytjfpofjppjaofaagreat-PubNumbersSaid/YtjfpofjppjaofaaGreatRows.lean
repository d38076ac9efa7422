/-
  No cell of these rows narrows 'for every input' (looked for: loops, veiled, ifaces, maps, wideKeys, modest, calm, conditions, laid).
  DERIVED. THE GIVEN ROWS OF THIS SEAT. 5 by the template 'for every input the law returns true; each argument reads behind the call as it read before'; 0 by the template 'total and deterministic' (their statements: YtjfpofjppjaofaaGreatTotals.lean).
  GIVEN WITH THE SEED: the statements are not yours to turn. If you find one false, say at which input.
  Laid BY PROGRAM, IN A SANDBOX (cutbox-rows.mjs): the forced cells as the released guide's own fill.sh prints them over the translation a11dc4082920e3cb… (all of the seat's roots in one cut). By AI agents, Wed Nov 11 2026. No macro, syntax, notation, axiom, sorry.
-/
import Derived.Test.YtjfpofjppjaofaaGreatChecked
import GoSem.Claim
import GoSem.ClaimJoined
import GoSem.ClaimMapViews
import Derived.JoinedTies
import Derived.KernelRfl
namespace Go.Proofs.YtjfpofjppjaofaaGreat
/- THE CELL 'sum', in the pinned program and in every row, IS THE sha256 OF THE DUMP (.gsa) THAT YtjfpofjppjaofaaGreatProg.lean LOADS. Nothing in Lean hashes anything: it is a label: what it is worth is what the hold of that sum in a sandbox is worth. -/
noncomputable def Tryz.pinned : Pinned := { name := "ytjfpofjppjaofaagreat", sum := "a11dc4082920e3cb2e006f979c17503f687b98ffc1c97fdd48602f43dd7a855f", checked := Tryz.checked }
namespace Rows
def none {H : Type} : Left H := { results := [], args := [] }

/-- 'ladinglaw22.PubNumbers': WHATEVER THE INPUT: true; the input reads as it did. -/
def pubNumbersSpec : ChangeSpec := { name := "pubNumbers", fn := fun _ => fun
  | [d] => { results := [.lit (.bool true)], args := [d] }
  | _ => none }
def pubNumbersRow : OpenClaim := { program := "ytjfpofjppjaofaagreat", sum := "a11dc4082920e3cb2e006f979c17503f687b98ffc1c97fdd48602f43dd7a855f", func := "lading/ladinglaw22.PubNumbers", spec := "pubNumbers", inPlace := ["internal/abi.NoEscape", "internal/bytealg.MakeNoZero"], unfollowed := true, recurses := true, plainKeys := false, apart := false }
def PubNumbersSaid : Prop := pubNumbersRow.holds Tryz.pinned (OpenSpec.ofChange pubNumbersSpec)

/-- ITS FALSE NEIGHBOUR: 'it returns false'. Refute it at one input. -/
def pubNumbersWrong : ChangeSpec := { name := "pubNumbers", fn := fun _ => fun
  | [d] => { results := [.lit (.bool false)], args := [d] }
  | _ => none }
def PubNumbersWrongFalsely : Prop := pubNumbersRow.holds Tryz.pinned (OpenSpec.ofChange pubNumbersWrong)

/-- 'ladinglaw22.PubRefuses': WHATEVER THE INPUT: true; the input reads as it did. -/
def pubRefusesSpec : ChangeSpec := { name := "pubRefuses", fn := fun _ => fun
  | [d] => { results := [.lit (.bool true)], args := [d] }
  | _ => none }
def pubRefusesRow : OpenClaim := { program := "ytjfpofjppjaofaagreat", sum := "a11dc4082920e3cb2e006f979c17503f687b98ffc1c97fdd48602f43dd7a855f", func := "lading/ladinglaw22.PubRefuses", spec := "pubRefuses", inPlace := ["internal/abi.NoEscape", "internal/bytealg.MakeNoZero"], unfollowed := true, recurses := true, plainKeys := false, apart := false }
def PubRefusesSaid : Prop := pubRefusesRow.holds Tryz.pinned (OpenSpec.ofChange pubRefusesSpec)

/-- ITS FALSE NEIGHBOUR: 'it returns false'. Refute it at one input. -/
def pubRefusesWrong : ChangeSpec := { name := "pubRefuses", fn := fun _ => fun
  | [d] => { results := [.lit (.bool false)], args := [d] }
  | _ => none }
def PubRefusesWrongFalsely : Prop := pubRefusesRow.holds Tryz.pinned (OpenSpec.ofChange pubRefusesWrong)

/-- 'ladinglaw23.ActWaits': WHATEVER THE INPUT: true; the input reads as it did. -/
def actWaitsSpec : ChangeSpec := { name := "actWaits", fn := fun _ => fun
  | [d1, d2, d3] => { results := [.lit (.bool true)], args := [d1, d2, d3] }
  | _ => none }
def actWaitsRow : OpenClaim := { program := "ytjfpofjppjaofaagreat", sum := "a11dc4082920e3cb2e006f979c17503f687b98ffc1c97fdd48602f43dd7a855f", func := "lading/ladinglaw23.ActWaits", spec := "actWaits", inPlace := ["internal/abi.NoEscape", "internal/bytealg.MakeNoZero"], unfollowed := true, recurses := true, plainKeys := false, apart := false }
def ActWaitsSaid : Prop := actWaitsRow.holds Tryz.pinned (OpenSpec.ofChange actWaitsSpec)

/-- ITS FALSE NEIGHBOUR: 'it returns false'. Refute it at one input. -/
def actWaitsWrong : ChangeSpec := { name := "actWaits", fn := fun _ => fun
  | [d1, d2, d3] => { results := [.lit (.bool false)], args := [d1, d2, d3] }
  | _ => none }
def ActWaitsWrongFalsely : Prop := actWaitsRow.holds Tryz.pinned (OpenSpec.ofChange actWaitsWrong)

/-- 'ladinglaw23.ActHello': WHATEVER THE INPUT: true; the input reads as it did. -/
def actHelloSpec : ChangeSpec := { name := "actHello", fn := fun _ => fun
  | [d1, d2] => { results := [.lit (.bool true)], args := [d1, d2] }
  | _ => none }
def actHelloRow : OpenClaim := { program := "ytjfpofjppjaofaagreat", sum := "a11dc4082920e3cb2e006f979c17503f687b98ffc1c97fdd48602f43dd7a855f", func := "lading/ladinglaw23.ActHello", spec := "actHello", inPlace := ["internal/abi.NoEscape", "internal/bytealg.MakeNoZero"], unfollowed := true, recurses := true, plainKeys := false, apart := false }
def ActHelloSaid : Prop := actHelloRow.holds Tryz.pinned (OpenSpec.ofChange actHelloSpec)

/-- ITS FALSE NEIGHBOUR: 'it returns false'. Refute it at one input. -/
def actHelloWrong : ChangeSpec := { name := "actHello", fn := fun _ => fun
  | [d1, d2] => { results := [.lit (.bool false)], args := [d1, d2] }
  | _ => none }
def ActHelloWrongFalsely : Prop := actHelloRow.holds Tryz.pinned (OpenSpec.ofChange actHelloWrong)

/-- 'ladinglaw23.ActSilent': WHATEVER THE INPUT: true; the input reads as it did. -/
def actSilentSpec : ChangeSpec := { name := "actSilent", fn := fun _ => fun
  | [d1, d2, d3] => { results := [.lit (.bool true)], args := [d1, d2, d3] }
  | _ => none }
def actSilentRow : OpenClaim := { program := "ytjfpofjppjaofaagreat", sum := "a11dc4082920e3cb2e006f979c17503f687b98ffc1c97fdd48602f43dd7a855f", func := "lading/ladinglaw23.ActSilent", spec := "actSilent", inPlace := ["internal/abi.NoEscape", "internal/bytealg.MakeNoZero"], unfollowed := true, recurses := true, plainKeys := false, apart := false }
def ActSilentSaid : Prop := actSilentRow.holds Tryz.pinned (OpenSpec.ofChange actSilentSpec)

/-- ITS FALSE NEIGHBOUR: 'it returns false'. Refute it at one input. -/
def actSilentWrong : ChangeSpec := { name := "actSilent", fn := fun _ => fun
  | [d1, d2, d3] => { results := [.lit (.bool false)], args := [d1, d2, d3] }
  | _ => none }
def ActSilentWrongFalsely : Prop := actSilentRow.holds Tryz.pinned (OpenSpec.ofChange actSilentWrong)

/- THE SECOND FORM. 'bulk': how many values and letters a reading holds, each counted each time it is reached (what is shared counts as often as it is met; a slice's spare places count too). A statement '..UptoSaid' is the law's where the arguments, and the package variables that the reading takes, are together of bulk at most 1048576: NARROWER than '..Said'. Prove '..Said' where nothing that the law and all that it calls make is longer than what came in: it says more and counts as full. Else prove '..UptoSaid'. A law counts once. -/
mutual
def uptoBulk {H : Type} : DataW H → Nat
  | .lit (.string bytes) => bytes.length + 1
  | .lit _ => 1
  | .nil => 1
  | .ptr d => uptoBulk d + 1
  | .slice elems spare => uptoBulkAll elems + uptoBulkAll spare + 1
  | .agg parts => uptoBulkAll parts + 1
  | .iface _ d => uptoBulk d + 1
  | .map entries => uptoBulkEntries entries + 1
  | .held _ => 1
def uptoBulkAll {H : Type} : List (DataW H) → Nat
  | [] => 0
  | d :: r => uptoBulk d + uptoBulkAll r
def uptoBulkEntries {H : Type} : List (Lit × DataW H) → Nat
  | [] => 0
  | x :: r => uptoBulkEntry x + uptoBulkEntries r
def uptoBulkEntry {H : Type} : Lit × DataW H → Nat
  | (.string bytes, d) => bytes.length + uptoBulk d + 1
  | (_, d) => uptoBulk d + 1
 end
def uptoSmall : (H : Type) → List (DataW H) → Bool := fun _ ds => decide (uptoBulkAll ds ≤ 1048576)
def OpenSpec.upto (s : _root_.Go.ChangeSpec) : _root_.Go.OpenSpec := { _root_.Go.OpenSpec.ofChange s with cond := some uptoSmall }

/-- 'ladinglaw22.PubNumbers', WHERE WHAT IT READS IS OF BULK AT MOST 1048576: true; the input reads as it did. -/
def pubNumbersUptoRow : OpenClaim := { program := "ytjfpofjppjaofaagreat", sum := "a11dc4082920e3cb2e006f979c17503f687b98ffc1c97fdd48602f43dd7a855f", func := "lading/ladinglaw22.PubNumbers", spec := "pubNumbers", inPlace := ["internal/abi.NoEscape", "internal/bytealg.MakeNoZero"], unfollowed := true, recurses := true, plainKeys := false, apart := false, narrowed := true }
def PubNumbersUptoSaid : Prop := pubNumbersUptoRow.holds Tryz.pinned (OpenSpec.upto pubNumbersSpec)

/-- 'ladinglaw22.PubRefuses', WHERE WHAT IT READS IS OF BULK AT MOST 1048576: true; the input reads as it did. -/
def pubRefusesUptoRow : OpenClaim := { program := "ytjfpofjppjaofaagreat", sum := "a11dc4082920e3cb2e006f979c17503f687b98ffc1c97fdd48602f43dd7a855f", func := "lading/ladinglaw22.PubRefuses", spec := "pubRefuses", inPlace := ["internal/abi.NoEscape", "internal/bytealg.MakeNoZero"], unfollowed := true, recurses := true, plainKeys := false, apart := false, narrowed := true }
def PubRefusesUptoSaid : Prop := pubRefusesUptoRow.holds Tryz.pinned (OpenSpec.upto pubRefusesSpec)

/-- 'ladinglaw23.ActWaits', WHERE WHAT IT READS IS OF BULK AT MOST 1048576: true; the input reads as it did. -/
def actWaitsUptoRow : OpenClaim := { program := "ytjfpofjppjaofaagreat", sum := "a11dc4082920e3cb2e006f979c17503f687b98ffc1c97fdd48602f43dd7a855f", func := "lading/ladinglaw23.ActWaits", spec := "actWaits", inPlace := ["internal/abi.NoEscape", "internal/bytealg.MakeNoZero"], unfollowed := true, recurses := true, plainKeys := false, apart := false, narrowed := true }
def ActWaitsUptoSaid : Prop := actWaitsUptoRow.holds Tryz.pinned (OpenSpec.upto actWaitsSpec)

/-- 'ladinglaw23.ActHello', WHERE WHAT IT READS IS OF BULK AT MOST 1048576: true; the input reads as it did. -/
def actHelloUptoRow : OpenClaim := { program := "ytjfpofjppjaofaagreat", sum := "a11dc4082920e3cb2e006f979c17503f687b98ffc1c97fdd48602f43dd7a855f", func := "lading/ladinglaw23.ActHello", spec := "actHello", inPlace := ["internal/abi.NoEscape", "internal/bytealg.MakeNoZero"], unfollowed := true, recurses := true, plainKeys := false, apart := false, narrowed := true }
def ActHelloUptoSaid : Prop := actHelloUptoRow.holds Tryz.pinned (OpenSpec.upto actHelloSpec)

/-- 'ladinglaw23.ActSilent', WHERE WHAT IT READS IS OF BULK AT MOST 1048576: true; the input reads as it did. -/
def actSilentUptoRow : OpenClaim := { program := "ytjfpofjppjaofaagreat", sum := "a11dc4082920e3cb2e006f979c17503f687b98ffc1c97fdd48602f43dd7a855f", func := "lading/ladinglaw23.ActSilent", spec := "actSilent", inPlace := ["internal/abi.NoEscape", "internal/bytealg.MakeNoZero"], unfollowed := true, recurses := true, plainKeys := false, apart := false, narrowed := true }
def ActSilentUptoSaid : Prop := actSilentUptoRow.holds Tryz.pinned (OpenSpec.upto actSilentSpec)

end Rows
end Go.Proofs.YtjfpofjppjaofaaGreat
