/-
  No cell of these rows narrows 'for every input' (looked for: loops, veiled, ifaces, maps, wideKeys, modest, calm, conditions, laid).
  DERIVED. THE GIVEN ROWS OF THIS SEAT. 9 by the template 'for every input the law returns true; each argument reads behind the call as it read before'; 0 by the template 'total and deterministic' (their statements: YtaongejpbgjbiaaTotals.lean).
  GIVEN WITH THE SEED: the statements are not yours to turn. If you find one false, say at which input.
  Laid BY PROGRAM, IN A SANDBOX (cutbox-rows.mjs): the forced cells as the released guide's own fill.sh prints them over the translation 55555d7d9856bdc2… (all of the seat's roots in one cut). By AI agents, Wed Nov 11 2026. No macro, syntax, notation, axiom, sorry.
-/
import Derived.Test.YtaongejpbgjbiaaChecked
import GoSem.Claim
import GoSem.ClaimJoined
import GoSem.ClaimMapViews
import Derived.JoinedTies
import Derived.KernelRfl
namespace Go.Proofs.Ytaongejpbgjbiaa
/- THE CELL 'sum', in the pinned program and in every row, IS THE sha256 OF THE DUMP (.gsa) THAT YtaongejpbgjbiaaProg.lean LOADS. Nothing in Lean hashes anything: it is a label: what it is worth is what the hold of that sum in a sandbox is worth. -/
noncomputable def Try.pinned : Pinned := { name := "ytaongejpbgjbiaa", sum := "55555d7d9856bdc21fc85b072e15a15723b2ad01dfdf32d70a4d03eac5ab30c2", checked := Try.checked }
namespace Rows
def none {H : Type} : Left H := { results := [], args := [] }

/-- 'railplanlaw24.CalendarCheck': WHATEVER THE INPUT: true; the input reads as it did. -/
def calendarCheckSpec : ChangeSpec := { name := "calendarCheck", fn := fun _ => fun
  | [d1, d2, d3, d4] => { results := [.lit (.bool true)], args := [d1, d2, d3, d4] }
  | _ => none }
def calendarCheckRow : OpenClaim := { program := "ytaongejpbgjbiaa", sum := "55555d7d9856bdc21fc85b072e15a15723b2ad01dfdf32d70a4d03eac5ab30c2", func := "railplan/railplanlaw24.CalendarCheck", spec := "calendarCheck", unfollowed := true, recurses := true, plainKeys := false, apart := false }
def CalendarCheckSaid : Prop := calendarCheckRow.holds Try.pinned (OpenSpec.ofChange calendarCheckSpec)

/-- ITS FALSE NEIGHBOUR: 'it returns false'. Refute it at one input. -/
def calendarCheckWrong : ChangeSpec := { name := "calendarCheck", fn := fun _ => fun
  | [d1, d2, d3, d4] => { results := [.lit (.bool false)], args := [d1, d2, d3, d4] }
  | _ => none }
def CalendarCheckWrongFalsely : Prop := calendarCheckRow.holds Try.pinned (OpenSpec.ofChange calendarCheckWrong)

/-- 'railplanlaw24.CalendarMade': WHATEVER THE INPUT: true; the input reads as it did. -/
def calendarMadeSpec : ChangeSpec := { name := "calendarMade", fn := fun _ => fun
  | [d1, d2, d3, d4, d5, d6] => { results := [.lit (.bool true)], args := [d1, d2, d3, d4, d5, d6] }
  | _ => none }
def calendarMadeRow : OpenClaim := { program := "ytaongejpbgjbiaa", sum := "55555d7d9856bdc21fc85b072e15a15723b2ad01dfdf32d70a4d03eac5ab30c2", func := "railplan/railplanlaw24.CalendarMade", spec := "calendarMade", unfollowed := true, recurses := true, plainKeys := false, apart := false }
def CalendarMadeSaid : Prop := calendarMadeRow.holds Try.pinned (OpenSpec.ofChange calendarMadeSpec)

/-- ITS FALSE NEIGHBOUR: 'it returns false'. Refute it at one input. -/
def calendarMadeWrong : ChangeSpec := { name := "calendarMade", fn := fun _ => fun
  | [d1, d2, d3, d4, d5, d6] => { results := [.lit (.bool false)], args := [d1, d2, d3, d4, d5, d6] }
  | _ => none }
def CalendarMadeWrongFalsely : Prop := calendarMadeRow.holds Try.pinned (OpenSpec.ofChange calendarMadeWrong)

/-- 'railplanlaw24.CalendarRuns': WHATEVER THE INPUT: true; the input reads as it did. -/
def calendarRunsSpec : ChangeSpec := { name := "calendarRuns", fn := fun _ => fun
  | [d1, d2, d3, d4, d5] => { results := [.lit (.bool true)], args := [d1, d2, d3, d4, d5] }
  | _ => none }
def calendarRunsRow : OpenClaim := { program := "ytaongejpbgjbiaa", sum := "55555d7d9856bdc21fc85b072e15a15723b2ad01dfdf32d70a4d03eac5ab30c2", func := "railplan/railplanlaw24.CalendarRuns", spec := "calendarRuns", unfollowed := true, recurses := true, plainKeys := false, apart := false }
def CalendarRunsSaid : Prop := calendarRunsRow.holds Try.pinned (OpenSpec.ofChange calendarRunsSpec)

/-- ITS FALSE NEIGHBOUR: 'it returns false'. Refute it at one input. -/
def calendarRunsWrong : ChangeSpec := { name := "calendarRuns", fn := fun _ => fun
  | [d1, d2, d3, d4, d5] => { results := [.lit (.bool false)], args := [d1, d2, d3, d4, d5] }
  | _ => none }
def CalendarRunsWrongFalsely : Prop := calendarRunsRow.holds Try.pinned (OpenSpec.ofChange calendarRunsWrong)

/-- 'railplanlaw24.CalendarTimes': WHATEVER THE INPUT: true; the input reads as it did. -/
def calendarTimesSpec : ChangeSpec := { name := "calendarTimes", fn := fun _ => fun
  | [d1, d2, d3] => { results := [.lit (.bool true)], args := [d1, d2, d3] }
  | _ => none }
def calendarTimesRow : OpenClaim := { program := "ytaongejpbgjbiaa", sum := "55555d7d9856bdc21fc85b072e15a15723b2ad01dfdf32d70a4d03eac5ab30c2", func := "railplan/railplanlaw24.CalendarTimes", spec := "calendarTimes", unfollowed := true, recurses := true, plainKeys := false, apart := false }
def CalendarTimesSaid : Prop := calendarTimesRow.holds Try.pinned (OpenSpec.ofChange calendarTimesSpec)

/-- ITS FALSE NEIGHBOUR: 'it returns false'. Refute it at one input. -/
def calendarTimesWrong : ChangeSpec := { name := "calendarTimes", fn := fun _ => fun
  | [d1, d2, d3] => { results := [.lit (.bool false)], args := [d1, d2, d3] }
  | _ => none }
def CalendarTimesWrongFalsely : Prop := calendarTimesRow.holds Try.pinned (OpenSpec.ofChange calendarTimesWrong)

/-- 'railplanlaw24.CalendarException': WHATEVER THE INPUT: true; the input reads as it did. -/
def calendarExceptionSpec : ChangeSpec := { name := "calendarException", fn := fun _ => fun
  | [d1, d2, d3, d4, d5] => { results := [.lit (.bool true)], args := [d1, d2, d3, d4, d5] }
  | _ => none }
def calendarExceptionRow : OpenClaim := { program := "ytaongejpbgjbiaa", sum := "55555d7d9856bdc21fc85b072e15a15723b2ad01dfdf32d70a4d03eac5ab30c2", func := "railplan/railplanlaw24.CalendarException", spec := "calendarException", unfollowed := true, recurses := true, plainKeys := false, apart := false }
def CalendarExceptionSaid : Prop := calendarExceptionRow.holds Try.pinned (OpenSpec.ofChange calendarExceptionSpec)

/-- ITS FALSE NEIGHBOUR: 'it returns false'. Refute it at one input. -/
def calendarExceptionWrong : ChangeSpec := { name := "calendarException", fn := fun _ => fun
  | [d1, d2, d3, d4, d5] => { results := [.lit (.bool false)], args := [d1, d2, d3, d4, d5] }
  | _ => none }
def CalendarExceptionWrongFalsely : Prop := calendarExceptionRow.holds Try.pinned (OpenSpec.ofChange calendarExceptionWrong)

/-- 'railplanlaw24.CalendarHorizon': WHATEVER THE INPUT: true; the input reads as it did. -/
def calendarHorizonSpec : ChangeSpec := { name := "calendarHorizon", fn := fun _ => fun
  | [d1, d2, d3] => { results := [.lit (.bool true)], args := [d1, d2, d3] }
  | _ => none }
def calendarHorizonRow : OpenClaim := { program := "ytaongejpbgjbiaa", sum := "55555d7d9856bdc21fc85b072e15a15723b2ad01dfdf32d70a4d03eac5ab30c2", func := "railplan/railplanlaw24.CalendarHorizon", spec := "calendarHorizon", unfollowed := true, recurses := true, plainKeys := false, apart := false }
def CalendarHorizonSaid : Prop := calendarHorizonRow.holds Try.pinned (OpenSpec.ofChange calendarHorizonSpec)

/-- ITS FALSE NEIGHBOUR: 'it returns false'. Refute it at one input. -/
def calendarHorizonWrong : ChangeSpec := { name := "calendarHorizon", fn := fun _ => fun
  | [d1, d2, d3] => { results := [.lit (.bool false)], args := [d1, d2, d3] }
  | _ => none }
def CalendarHorizonWrongFalsely : Prop := calendarHorizonRow.holds Try.pinned (OpenSpec.ofChange calendarHorizonWrong)

/-- 'railplanlaw24.CalendarExample': WHATEVER THE INPUT: true; the input reads as it did. -/
def calendarExampleSpec : ChangeSpec := { name := "calendarExample", fn := fun _ => fun
  | [] => { results := [.lit (.bool true)], args := [] }
  | _ => none }
def calendarExampleRow : OpenClaim := { program := "ytaongejpbgjbiaa", sum := "55555d7d9856bdc21fc85b072e15a15723b2ad01dfdf32d70a4d03eac5ab30c2", func := "railplan/railplanlaw24.CalendarExample", spec := "calendarExample", unfollowed := true, recurses := true, plainKeys := false, apart := false }
def CalendarExampleSaid : Prop := calendarExampleRow.holds Try.pinned (OpenSpec.ofChange calendarExampleSpec)

/-- ITS FALSE NEIGHBOUR: 'it returns false'. Refute it at one input. -/
def calendarExampleWrong : ChangeSpec := { name := "calendarExample", fn := fun _ => fun
  | [] => { results := [.lit (.bool false)], args := [] }
  | _ => none }
def CalendarExampleWrongFalsely : Prop := calendarExampleRow.holds Try.pinned (OpenSpec.ofChange calendarExampleWrong)

/-- 'railplanlaw24.CalendarRoll': WHATEVER THE INPUT: true; the input reads as it did. -/
def calendarRollSpec : ChangeSpec := { name := "calendarRoll", fn := fun _ => fun
  | [d1, d2, d3] => { results := [.lit (.bool true)], args := [d1, d2, d3] }
  | _ => none }
def calendarRollRow : OpenClaim := { program := "ytaongejpbgjbiaa", sum := "55555d7d9856bdc21fc85b072e15a15723b2ad01dfdf32d70a4d03eac5ab30c2", func := "railplan/railplanlaw24.CalendarRoll", spec := "calendarRoll", unfollowed := true, recurses := true, plainKeys := false, apart := false }
def CalendarRollSaid : Prop := calendarRollRow.holds Try.pinned (OpenSpec.ofChange calendarRollSpec)

/-- ITS FALSE NEIGHBOUR: 'it returns false'. Refute it at one input. -/
def calendarRollWrong : ChangeSpec := { name := "calendarRoll", fn := fun _ => fun
  | [d1, d2, d3] => { results := [.lit (.bool false)], args := [d1, d2, d3] }
  | _ => none }
def CalendarRollWrongFalsely : Prop := calendarRollRow.holds Try.pinned (OpenSpec.ofChange calendarRollWrong)

/-- 'railplanlaw24.CalendarActive': WHATEVER THE INPUT: true; the input reads as it did. -/
def calendarActiveSpec : ChangeSpec := { name := "calendarActive", fn := fun _ => fun
  | [d1, d2, d3] => { results := [.lit (.bool true)], args := [d1, d2, d3] }
  | _ => none }
def calendarActiveRow : OpenClaim := { program := "ytaongejpbgjbiaa", sum := "55555d7d9856bdc21fc85b072e15a15723b2ad01dfdf32d70a4d03eac5ab30c2", func := "railplan/railplanlaw24.CalendarActive", spec := "calendarActive", unfollowed := true, recurses := true, plainKeys := false, apart := false }
def CalendarActiveSaid : Prop := calendarActiveRow.holds Try.pinned (OpenSpec.ofChange calendarActiveSpec)

/-- ITS FALSE NEIGHBOUR: 'it returns false'. Refute it at one input. -/
def calendarActiveWrong : ChangeSpec := { name := "calendarActive", fn := fun _ => fun
  | [d1, d2, d3] => { results := [.lit (.bool false)], args := [d1, d2, d3] }
  | _ => none }
def CalendarActiveWrongFalsely : Prop := calendarActiveRow.holds Try.pinned (OpenSpec.ofChange calendarActiveWrong)

/- THE SECOND FORM. 'bulk': how many values and letters a reading holds, each counted each time it is reached (what is shared counts as often as it is met; a slice's spare places count too). A statement '..UptoSaid' is the law's where the arguments, and the package variables that the reading takes, are together of bulk at most 1048576: NARROWER than '..Said'. Prove '..Said' where nothing that the law and all that it calls make is longer than what came in: it says more and counts as full. Else prove '..UptoSaid'. A law counts once. -/
mutual
def uptoBulk {H : Type} : DataW H → Nat
  | .lit (.string bytes) => bytes.length + 1
  | .lit _ => 1
  | .nil => 1
  | .ptr d => uptoBulk d + 1
  | .slice elems spare => uptoBulkAll elems + uptoBulkAll spare + 1
  | .agg parts => uptoBulkAll parts + 1
  | .iface _ d => uptoBulk d + 1
  | .map entries => uptoBulkEntries entries + 1
  | .held _ => 1
def uptoBulkAll {H : Type} : List (DataW H) → Nat
  | [] => 0
  | d :: r => uptoBulk d + uptoBulkAll r
def uptoBulkEntries {H : Type} : List (Lit × DataW H) → Nat
  | [] => 0
  | x :: r => uptoBulkEntry x + uptoBulkEntries r
def uptoBulkEntry {H : Type} : Lit × DataW H → Nat
  | (.string bytes, d) => bytes.length + uptoBulk d + 1
  | (_, d) => uptoBulk d + 1
 end
def uptoSmall : (H : Type) → List (DataW H) → Bool := fun _ ds => decide (uptoBulkAll ds ≤ 1048576)
def OpenSpec.upto (s : _root_.Go.ChangeSpec) : _root_.Go.OpenSpec := { _root_.Go.OpenSpec.ofChange s with cond := some uptoSmall }

/-- 'railplanlaw24.CalendarCheck', WHERE WHAT IT READS IS OF BULK AT MOST 1048576: true; the input reads as it did. -/
def calendarCheckUptoRow : OpenClaim := { program := "ytaongejpbgjbiaa", sum := "55555d7d9856bdc21fc85b072e15a15723b2ad01dfdf32d70a4d03eac5ab30c2", func := "railplan/railplanlaw24.CalendarCheck", spec := "calendarCheck", unfollowed := true, recurses := true, plainKeys := false, apart := false, narrowed := true }
def CalendarCheckUptoSaid : Prop := calendarCheckUptoRow.holds Try.pinned (OpenSpec.upto calendarCheckSpec)

/-- 'railplanlaw24.CalendarMade', WHERE WHAT IT READS IS OF BULK AT MOST 1048576: true; the input reads as it did. -/
def calendarMadeUptoRow : OpenClaim := { program := "ytaongejpbgjbiaa", sum := "55555d7d9856bdc21fc85b072e15a15723b2ad01dfdf32d70a4d03eac5ab30c2", func := "railplan/railplanlaw24.CalendarMade", spec := "calendarMade", unfollowed := true, recurses := true, plainKeys := false, apart := false, narrowed := true }
def CalendarMadeUptoSaid : Prop := calendarMadeUptoRow.holds Try.pinned (OpenSpec.upto calendarMadeSpec)

/-- 'railplanlaw24.CalendarRuns', WHERE WHAT IT READS IS OF BULK AT MOST 1048576: true; the input reads as it did. -/
def calendarRunsUptoRow : OpenClaim := { program := "ytaongejpbgjbiaa", sum := "55555d7d9856bdc21fc85b072e15a15723b2ad01dfdf32d70a4d03eac5ab30c2", func := "railplan/railplanlaw24.CalendarRuns", spec := "calendarRuns", unfollowed := true, recurses := true, plainKeys := false, apart := false, narrowed := true }
def CalendarRunsUptoSaid : Prop := calendarRunsUptoRow.holds Try.pinned (OpenSpec.upto calendarRunsSpec)

/-- 'railplanlaw24.CalendarTimes', WHERE WHAT IT READS IS OF BULK AT MOST 1048576: true; the input reads as it did. -/
def calendarTimesUptoRow : OpenClaim := { program := "ytaongejpbgjbiaa", sum := "55555d7d9856bdc21fc85b072e15a15723b2ad01dfdf32d70a4d03eac5ab30c2", func := "railplan/railplanlaw24.CalendarTimes", spec := "calendarTimes", unfollowed := true, recurses := true, plainKeys := false, apart := false, narrowed := true }
def CalendarTimesUptoSaid : Prop := calendarTimesUptoRow.holds Try.pinned (OpenSpec.upto calendarTimesSpec)

/-- 'railplanlaw24.CalendarException', WHERE WHAT IT READS IS OF BULK AT MOST 1048576: true; the input reads as it did. -/
def calendarExceptionUptoRow : OpenClaim := { program := "ytaongejpbgjbiaa", sum := "55555d7d9856bdc21fc85b072e15a15723b2ad01dfdf32d70a4d03eac5ab30c2", func := "railplan/railplanlaw24.CalendarException", spec := "calendarException", unfollowed := true, recurses := true, plainKeys := false, apart := false, narrowed := true }
def CalendarExceptionUptoSaid : Prop := calendarExceptionUptoRow.holds Try.pinned (OpenSpec.upto calendarExceptionSpec)

/-- 'railplanlaw24.CalendarHorizon', WHERE WHAT IT READS IS OF BULK AT MOST 1048576: true; the input reads as it did. -/
def calendarHorizonUptoRow : OpenClaim := { program := "ytaongejpbgjbiaa", sum := "55555d7d9856bdc21fc85b072e15a15723b2ad01dfdf32d70a4d03eac5ab30c2", func := "railplan/railplanlaw24.CalendarHorizon", spec := "calendarHorizon", unfollowed := true, recurses := true, plainKeys := false, apart := false, narrowed := true }
def CalendarHorizonUptoSaid : Prop := calendarHorizonUptoRow.holds Try.pinned (OpenSpec.upto calendarHorizonSpec)

/-- 'railplanlaw24.CalendarExample', WHERE WHAT IT READS IS OF BULK AT MOST 1048576: true; the input reads as it did. -/
def calendarExampleUptoRow : OpenClaim := { program := "ytaongejpbgjbiaa", sum := "55555d7d9856bdc21fc85b072e15a15723b2ad01dfdf32d70a4d03eac5ab30c2", func := "railplan/railplanlaw24.CalendarExample", spec := "calendarExample", unfollowed := true, recurses := true, plainKeys := false, apart := false, narrowed := true }
def CalendarExampleUptoSaid : Prop := calendarExampleUptoRow.holds Try.pinned (OpenSpec.upto calendarExampleSpec)

/-- 'railplanlaw24.CalendarRoll', WHERE WHAT IT READS IS OF BULK AT MOST 1048576: true; the input reads as it did. -/
def calendarRollUptoRow : OpenClaim := { program := "ytaongejpbgjbiaa", sum := "55555d7d9856bdc21fc85b072e15a15723b2ad01dfdf32d70a4d03eac5ab30c2", func := "railplan/railplanlaw24.CalendarRoll", spec := "calendarRoll", unfollowed := true, recurses := true, plainKeys := false, apart := false, narrowed := true }
def CalendarRollUptoSaid : Prop := calendarRollUptoRow.holds Try.pinned (OpenSpec.upto calendarRollSpec)

/-- 'railplanlaw24.CalendarActive', WHERE WHAT IT READS IS OF BULK AT MOST 1048576: true; the input reads as it did. -/
def calendarActiveUptoRow : OpenClaim := { program := "ytaongejpbgjbiaa", sum := "55555d7d9856bdc21fc85b072e15a15723b2ad01dfdf32d70a4d03eac5ab30c2", func := "railplan/railplanlaw24.CalendarActive", spec := "calendarActive", unfollowed := true, recurses := true, plainKeys := false, apart := false, narrowed := true }
def CalendarActiveUptoSaid : Prop := calendarActiveUptoRow.holds Try.pinned (OpenSpec.upto calendarActiveSpec)

end Rows
end Go.Proofs.Ytaongejpbgjbiaa
