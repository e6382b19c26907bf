/-
  No cell of these rows narrows 'for every input' (looked for: loops, veiled, ifaces, maps, wideKeys, modest, calm, conditions, laid).
  DERIVED. THE GIVEN ROWS OF THIS SEAT. 10 by the template 'for every input the law returns true; each argument reads behind the call as it read before'; 0 by the template 'total and deterministic' (their statements: YtlillkfelfoafaaTotals.lean).
  GIVEN WITH THE SEED: the statements are not yours to turn. If you find one false, say at which input.
  Laid BY PROGRAM, IN A SANDBOX (cutbox-rows.mjs): the forced cells as the released guide's own fill.sh prints them over the translation 58ce696a3b010e63… (all of the seat's roots in one cut). By AI agents, Wed Nov 11 2026. No macro, syntax, notation, axiom, sorry.
-/
import Derived.Test.YtlillkfelfoafaaChecked
import GoSem.Claim
import GoSem.ClaimJoined
import GoSem.ClaimMapViews
import Derived.JoinedTies
import Derived.KernelRfl
namespace Go.Proofs.Ytlillkfelfoafaa
/- THE CELL 'sum', in the pinned program and in every row, IS THE sha256 OF THE DUMP (.gsa) THAT YtlillkfelfoafaaProg.lean LOADS. Nothing in Lean hashes anything: it is a label: what it is worth is what the hold of that sum in a sandbox is worth. -/
noncomputable def Try.pinned : Pinned := { name := "ytlillkfelfoafaa", sum := "58ce696a3b010e6384dc6ff98d366b73ba26b19a04a8f4dac1ce50ec03cfe1b5", checked := Try.checked }
namespace Rows
def none {H : Type} : Left H := { results := [], args := [] }

/-- 'railplanlaw26.DivertRaw': WHATEVER THE INPUT: true; the input reads as it did. -/
def divertRawSpec : ChangeSpec := { name := "divertRaw", fn := fun _ => fun
  | [d1, d2, d3, d4, d5, d6, d7] => { results := [.lit (.bool true)], args := [d1, d2, d3, d4, d5, d6, d7] }
  | _ => none }
def divertRawRow : OpenClaim := { program := "ytlillkfelfoafaa", sum := "58ce696a3b010e6384dc6ff98d366b73ba26b19a04a8f4dac1ce50ec03cfe1b5", func := "railplan/railplanlaw26.DivertRaw", spec := "divertRaw", unfollowed := true, recurses := true, apart := false }
def DivertRawSaid : Prop := divertRawRow.holds Try.pinned (OpenSpec.ofChange divertRawSpec)

/-- ITS FALSE NEIGHBOUR: 'it returns false'. Refute it at one input. -/
def divertRawWrong : ChangeSpec := { name := "divertRaw", fn := fun _ => fun
  | [d1, d2, d3, d4, d5, d6, d7] => { results := [.lit (.bool false)], args := [d1, d2, d3, d4, d5, d6, d7] }
  | _ => none }
def DivertRawWrongFalsely : Prop := divertRawRow.holds Try.pinned (OpenSpec.ofChange divertRawWrong)

/-- 'railplanlaw26.DivertMade': WHATEVER THE INPUT: true; the input reads as it did. -/
def divertMadeSpec : ChangeSpec := { name := "divertMade", fn := fun _ => fun
  | [d1, d2, d3, d4, d5, d6] => { results := [.lit (.bool true)], args := [d1, d2, d3, d4, d5, d6] }
  | _ => none }
def divertMadeRow : OpenClaim := { program := "ytlillkfelfoafaa", sum := "58ce696a3b010e6384dc6ff98d366b73ba26b19a04a8f4dac1ce50ec03cfe1b5", func := "railplan/railplanlaw26.DivertMade", spec := "divertMade", unfollowed := true, recurses := true, apart := false }
def DivertMadeSaid : Prop := divertMadeRow.holds Try.pinned (OpenSpec.ofChange divertMadeSpec)

/-- ITS FALSE NEIGHBOUR: 'it returns false'. Refute it at one input. -/
def divertMadeWrong : ChangeSpec := { name := "divertMade", fn := fun _ => fun
  | [d1, d2, d3, d4, d5, d6] => { results := [.lit (.bool false)], args := [d1, d2, d3, d4, d5, d6] }
  | _ => none }
def DivertMadeWrongFalsely : Prop := divertMadeRow.holds Try.pinned (OpenSpec.ofChange divertMadeWrong)

/-- 'railplanlaw26.DivertSeconds': WHATEVER THE INPUT: true; the input reads as it did. -/
def divertSecondsSpec : ChangeSpec := { name := "divertSeconds", fn := fun _ => fun
  | [d1, d2, d3, d4] => { results := [.lit (.bool true)], args := [d1, d2, d3, d4] }
  | _ => none }
def divertSecondsRow : OpenClaim := { program := "ytlillkfelfoafaa", sum := "58ce696a3b010e6384dc6ff98d366b73ba26b19a04a8f4dac1ce50ec03cfe1b5", func := "railplan/railplanlaw26.DivertSeconds", spec := "divertSeconds", unfollowed := true, recurses := true, apart := false }
def DivertSecondsSaid : Prop := divertSecondsRow.holds Try.pinned (OpenSpec.ofChange divertSecondsSpec)

/-- ITS FALSE NEIGHBOUR: 'it returns false'. Refute it at one input. -/
def divertSecondsWrong : ChangeSpec := { name := "divertSeconds", fn := fun _ => fun
  | [d1, d2, d3, d4] => { results := [.lit (.bool false)], args := [d1, d2, d3, d4] }
  | _ => none }
def DivertSecondsWrongFalsely : Prop := divertSecondsRow.holds Try.pinned (OpenSpec.ofChange divertSecondsWrong)

/-- 'railplanlaw26.DivertPlan': WHATEVER THE INPUT: true; the input reads as it did. -/
def divertPlanSpec : ChangeSpec := { name := "divertPlan", fn := fun _ => fun
  | [d1, d2, d3, d4, d5] => { results := [.lit (.bool true)], args := [d1, d2, d3, d4, d5] }
  | _ => none }
def divertPlanRow : OpenClaim := { program := "ytlillkfelfoafaa", sum := "58ce696a3b010e6384dc6ff98d366b73ba26b19a04a8f4dac1ce50ec03cfe1b5", func := "railplan/railplanlaw26.DivertPlan", spec := "divertPlan", unfollowed := true, recurses := true, apart := false }
def DivertPlanSaid : Prop := divertPlanRow.holds Try.pinned (OpenSpec.ofChange divertPlanSpec)

/-- ITS FALSE NEIGHBOUR: 'it returns false'. Refute it at one input. -/
def divertPlanWrong : ChangeSpec := { name := "divertPlan", fn := fun _ => fun
  | [d1, d2, d3, d4, d5] => { results := [.lit (.bool false)], args := [d1, d2, d3, d4, d5] }
  | _ => none }
def DivertPlanWrongFalsely : Prop := divertPlanRow.holds Try.pinned (OpenSpec.ofChange divertPlanWrong)

/-- 'railplanlaw26.DivertErrors': WHATEVER THE INPUT: true; the input reads as it did. -/
def divertErrorsSpec : ChangeSpec := { name := "divertErrors", fn := fun _ => fun
  | [d1, d2, d3, d4, d5] => { results := [.lit (.bool true)], args := [d1, d2, d3, d4, d5] }
  | _ => none }
def divertErrorsRow : OpenClaim := { program := "ytlillkfelfoafaa", sum := "58ce696a3b010e6384dc6ff98d366b73ba26b19a04a8f4dac1ce50ec03cfe1b5", func := "railplan/railplanlaw26.DivertErrors", spec := "divertErrors", unfollowed := true, recurses := true, apart := false }
def DivertErrorsSaid : Prop := divertErrorsRow.holds Try.pinned (OpenSpec.ofChange divertErrorsSpec)

/-- ITS FALSE NEIGHBOUR: 'it returns false'. Refute it at one input. -/
def divertErrorsWrong : ChangeSpec := { name := "divertErrors", fn := fun _ => fun
  | [d1, d2, d3, d4, d5] => { results := [.lit (.bool false)], args := [d1, d2, d3, d4, d5] }
  | _ => none }
def DivertErrorsWrongFalsely : Prop := divertErrorsRow.holds Try.pinned (OpenSpec.ofChange divertErrorsWrong)

/-- 'railplanlaw26.DivertSafe': WHATEVER THE INPUT: true; the input reads as it did. -/
def divertSafeSpec : ChangeSpec := { name := "divertSafe", fn := fun _ => fun
  | [d1, d2, d3, d4] => { results := [.lit (.bool true)], args := [d1, d2, d3, d4] }
  | _ => none }
def divertSafeRow : OpenClaim := { program := "ytlillkfelfoafaa", sum := "58ce696a3b010e6384dc6ff98d366b73ba26b19a04a8f4dac1ce50ec03cfe1b5", func := "railplan/railplanlaw26.DivertSafe", spec := "divertSafe", unfollowed := true, recurses := true, apart := false }
def DivertSafeSaid : Prop := divertSafeRow.holds Try.pinned (OpenSpec.ofChange divertSafeSpec)

/-- ITS FALSE NEIGHBOUR: 'it returns false'. Refute it at one input. -/
def divertSafeWrong : ChangeSpec := { name := "divertSafe", fn := fun _ => fun
  | [d1, d2, d3, d4] => { results := [.lit (.bool false)], args := [d1, d2, d3, d4] }
  | _ => none }
def DivertSafeWrongFalsely : Prop := divertSafeRow.holds Try.pinned (OpenSpec.ofChange divertSafeWrong)

/-- 'railplanlaw26.DivertEarliest': WHATEVER THE INPUT: true; the input reads as it did. -/
def divertEarliestSpec : ChangeSpec := { name := "divertEarliest", fn := fun _ => fun
  | [d1, d2, d3, d4] => { results := [.lit (.bool true)], args := [d1, d2, d3, d4] }
  | _ => none }
def divertEarliestRow : OpenClaim := { program := "ytlillkfelfoafaa", sum := "58ce696a3b010e6384dc6ff98d366b73ba26b19a04a8f4dac1ce50ec03cfe1b5", func := "railplan/railplanlaw26.DivertEarliest", spec := "divertEarliest", unfollowed := true, recurses := true, apart := false }
def DivertEarliestSaid : Prop := divertEarliestRow.holds Try.pinned (OpenSpec.ofChange divertEarliestSpec)

/-- ITS FALSE NEIGHBOUR: 'it returns false'. Refute it at one input. -/
def divertEarliestWrong : ChangeSpec := { name := "divertEarliest", fn := fun _ => fun
  | [d1, d2, d3, d4] => { results := [.lit (.bool false)], args := [d1, d2, d3, d4] }
  | _ => none }
def DivertEarliestWrongFalsely : Prop := divertEarliestRow.holds Try.pinned (OpenSpec.ofChange divertEarliestWrong)

/-- 'railplanlaw26.DivertVerify': WHATEVER THE INPUT: true; the input reads as it did. -/
def divertVerifySpec : ChangeSpec := { name := "divertVerify", fn := fun _ => fun
  | [d1, d2, d3, d4, d5, d6] => { results := [.lit (.bool true)], args := [d1, d2, d3, d4, d5, d6] }
  | _ => none }
def divertVerifyRow : OpenClaim := { program := "ytlillkfelfoafaa", sum := "58ce696a3b010e6384dc6ff98d366b73ba26b19a04a8f4dac1ce50ec03cfe1b5", func := "railplan/railplanlaw26.DivertVerify", spec := "divertVerify", unfollowed := true, recurses := true, apart := false }
def DivertVerifySaid : Prop := divertVerifyRow.holds Try.pinned (OpenSpec.ofChange divertVerifySpec)

/-- ITS FALSE NEIGHBOUR: 'it returns false'. Refute it at one input. -/
def divertVerifyWrong : ChangeSpec := { name := "divertVerify", fn := fun _ => fun
  | [d1, d2, d3, d4, d5, d6] => { results := [.lit (.bool false)], args := [d1, d2, d3, d4, d5, d6] }
  | _ => none }
def DivertVerifyWrongFalsely : Prop := divertVerifyRow.holds Try.pinned (OpenSpec.ofChange divertVerifyWrong)

/-- 'railplanlaw26.DivertFree': WHATEVER THE INPUT: true; the input reads as it did. -/
def divertFreeSpec : ChangeSpec := { name := "divertFree", fn := fun _ => fun
  | [d1, d2] => { results := [.lit (.bool true)], args := [d1, d2] }
  | _ => none }
def divertFreeRow : OpenClaim := { program := "ytlillkfelfoafaa", sum := "58ce696a3b010e6384dc6ff98d366b73ba26b19a04a8f4dac1ce50ec03cfe1b5", func := "railplan/railplanlaw26.DivertFree", spec := "divertFree", unfollowed := true, recurses := true, apart := false }
def DivertFreeSaid : Prop := divertFreeRow.holds Try.pinned (OpenSpec.ofChange divertFreeSpec)

/-- ITS FALSE NEIGHBOUR: 'it returns false'. Refute it at one input. -/
def divertFreeWrong : ChangeSpec := { name := "divertFree", fn := fun _ => fun
  | [d1, d2] => { results := [.lit (.bool false)], args := [d1, d2] }
  | _ => none }
def DivertFreeWrongFalsely : Prop := divertFreeRow.holds Try.pinned (OpenSpec.ofChange divertFreeWrong)

/-- 'railplanlaw26.DivertCost': WHATEVER THE INPUT: true; the input reads as it did. -/
def divertCostSpec : ChangeSpec := { name := "divertCost", fn := fun _ => fun
  | [d1, d2, d3, d4, d5] => { results := [.lit (.bool true)], args := [d1, d2, d3, d4, d5] }
  | _ => none }
def divertCostRow : OpenClaim := { program := "ytlillkfelfoafaa", sum := "58ce696a3b010e6384dc6ff98d366b73ba26b19a04a8f4dac1ce50ec03cfe1b5", func := "railplan/railplanlaw26.DivertCost", spec := "divertCost", unfollowed := true, recurses := true, apart := false }
def DivertCostSaid : Prop := divertCostRow.holds Try.pinned (OpenSpec.ofChange divertCostSpec)

/-- ITS FALSE NEIGHBOUR: 'it returns false'. Refute it at one input. -/
def divertCostWrong : ChangeSpec := { name := "divertCost", fn := fun _ => fun
  | [d1, d2, d3, d4, d5] => { results := [.lit (.bool false)], args := [d1, d2, d3, d4, d5] }
  | _ => none }
def DivertCostWrongFalsely : Prop := divertCostRow.holds Try.pinned (OpenSpec.ofChange divertCostWrong)

/- THE SECOND FORM. 'bulk': how many values and letters a reading holds, each counted each time it is reached (what is shared counts as often as it is met; a slice's spare places count too). A statement '..UptoSaid' is the law's where the arguments, and the package variables that the reading takes, are together of bulk at most 1048576: NARROWER than '..Said'. Prove '..Said' where nothing that the law and all that it calls make is longer than what came in: it says more and counts as full. Else prove '..UptoSaid'. A law counts once. -/
mutual
def uptoBulk {H : Type} : DataW H → Nat
  | .lit (.string bytes) => bytes.length + 1
  | .lit _ => 1
  | .nil => 1
  | .ptr d => uptoBulk d + 1
  | .slice elems spare => uptoBulkAll elems + uptoBulkAll spare + 1
  | .agg parts => uptoBulkAll parts + 1
  | .iface _ d => uptoBulk d + 1
  | .map entries => uptoBulkEntries entries + 1
  | .held _ => 1
def uptoBulkAll {H : Type} : List (DataW H) → Nat
  | [] => 0
  | d :: r => uptoBulk d + uptoBulkAll r
def uptoBulkEntries {H : Type} : List (Lit × DataW H) → Nat
  | [] => 0
  | x :: r => uptoBulkEntry x + uptoBulkEntries r
def uptoBulkEntry {H : Type} : Lit × DataW H → Nat
  | (.string bytes, d) => bytes.length + uptoBulk d + 1
  | (_, d) => uptoBulk d + 1
 end
def uptoSmall : (H : Type) → List (DataW H) → Bool := fun _ ds => decide (uptoBulkAll ds ≤ 1048576)
def OpenSpec.upto (s : _root_.Go.ChangeSpec) : _root_.Go.OpenSpec := { _root_.Go.OpenSpec.ofChange s with cond := some uptoSmall }

/-- 'railplanlaw26.DivertRaw', WHERE WHAT IT READS IS OF BULK AT MOST 1048576: true; the input reads as it did. -/
def divertRawUptoRow : OpenClaim := { program := "ytlillkfelfoafaa", sum := "58ce696a3b010e6384dc6ff98d366b73ba26b19a04a8f4dac1ce50ec03cfe1b5", func := "railplan/railplanlaw26.DivertRaw", spec := "divertRaw", unfollowed := true, recurses := true, apart := false, narrowed := true }
def DivertRawUptoSaid : Prop := divertRawUptoRow.holds Try.pinned (OpenSpec.upto divertRawSpec)

/-- 'railplanlaw26.DivertMade', WHERE WHAT IT READS IS OF BULK AT MOST 1048576: true; the input reads as it did. -/
def divertMadeUptoRow : OpenClaim := { program := "ytlillkfelfoafaa", sum := "58ce696a3b010e6384dc6ff98d366b73ba26b19a04a8f4dac1ce50ec03cfe1b5", func := "railplan/railplanlaw26.DivertMade", spec := "divertMade", unfollowed := true, recurses := true, apart := false, narrowed := true }
def DivertMadeUptoSaid : Prop := divertMadeUptoRow.holds Try.pinned (OpenSpec.upto divertMadeSpec)

/-- 'railplanlaw26.DivertSeconds', WHERE WHAT IT READS IS OF BULK AT MOST 1048576: true; the input reads as it did. -/
def divertSecondsUptoRow : OpenClaim := { program := "ytlillkfelfoafaa", sum := "58ce696a3b010e6384dc6ff98d366b73ba26b19a04a8f4dac1ce50ec03cfe1b5", func := "railplan/railplanlaw26.DivertSeconds", spec := "divertSeconds", unfollowed := true, recurses := true, apart := false, narrowed := true }
def DivertSecondsUptoSaid : Prop := divertSecondsUptoRow.holds Try.pinned (OpenSpec.upto divertSecondsSpec)

/-- 'railplanlaw26.DivertPlan', WHERE WHAT IT READS IS OF BULK AT MOST 1048576: true; the input reads as it did. -/
def divertPlanUptoRow : OpenClaim := { program := "ytlillkfelfoafaa", sum := "58ce696a3b010e6384dc6ff98d366b73ba26b19a04a8f4dac1ce50ec03cfe1b5", func := "railplan/railplanlaw26.DivertPlan", spec := "divertPlan", unfollowed := true, recurses := true, apart := false, narrowed := true }
def DivertPlanUptoSaid : Prop := divertPlanUptoRow.holds Try.pinned (OpenSpec.upto divertPlanSpec)

/-- 'railplanlaw26.DivertErrors', WHERE WHAT IT READS IS OF BULK AT MOST 1048576: true; the input reads as it did. -/
def divertErrorsUptoRow : OpenClaim := { program := "ytlillkfelfoafaa", sum := "58ce696a3b010e6384dc6ff98d366b73ba26b19a04a8f4dac1ce50ec03cfe1b5", func := "railplan/railplanlaw26.DivertErrors", spec := "divertErrors", unfollowed := true, recurses := true, apart := false, narrowed := true }
def DivertErrorsUptoSaid : Prop := divertErrorsUptoRow.holds Try.pinned (OpenSpec.upto divertErrorsSpec)

/-- 'railplanlaw26.DivertSafe', WHERE WHAT IT READS IS OF BULK AT MOST 1048576: true; the input reads as it did. -/
def divertSafeUptoRow : OpenClaim := { program := "ytlillkfelfoafaa", sum := "58ce696a3b010e6384dc6ff98d366b73ba26b19a04a8f4dac1ce50ec03cfe1b5", func := "railplan/railplanlaw26.DivertSafe", spec := "divertSafe", unfollowed := true, recurses := true, apart := false, narrowed := true }
def DivertSafeUptoSaid : Prop := divertSafeUptoRow.holds Try.pinned (OpenSpec.upto divertSafeSpec)

/-- 'railplanlaw26.DivertEarliest', WHERE WHAT IT READS IS OF BULK AT MOST 1048576: true; the input reads as it did. -/
def divertEarliestUptoRow : OpenClaim := { program := "ytlillkfelfoafaa", sum := "58ce696a3b010e6384dc6ff98d366b73ba26b19a04a8f4dac1ce50ec03cfe1b5", func := "railplan/railplanlaw26.DivertEarliest", spec := "divertEarliest", unfollowed := true, recurses := true, apart := false, narrowed := true }
def DivertEarliestUptoSaid : Prop := divertEarliestUptoRow.holds Try.pinned (OpenSpec.upto divertEarliestSpec)

/-- 'railplanlaw26.DivertVerify', WHERE WHAT IT READS IS OF BULK AT MOST 1048576: true; the input reads as it did. -/
def divertVerifyUptoRow : OpenClaim := { program := "ytlillkfelfoafaa", sum := "58ce696a3b010e6384dc6ff98d366b73ba26b19a04a8f4dac1ce50ec03cfe1b5", func := "railplan/railplanlaw26.DivertVerify", spec := "divertVerify", unfollowed := true, recurses := true, apart := false, narrowed := true }
def DivertVerifyUptoSaid : Prop := divertVerifyUptoRow.holds Try.pinned (OpenSpec.upto divertVerifySpec)

/-- 'railplanlaw26.DivertFree', WHERE WHAT IT READS IS OF BULK AT MOST 1048576: true; the input reads as it did. -/
def divertFreeUptoRow : OpenClaim := { program := "ytlillkfelfoafaa", sum := "58ce696a3b010e6384dc6ff98d366b73ba26b19a04a8f4dac1ce50ec03cfe1b5", func := "railplan/railplanlaw26.DivertFree", spec := "divertFree", unfollowed := true, recurses := true, apart := false, narrowed := true }
def DivertFreeUptoSaid : Prop := divertFreeUptoRow.holds Try.pinned (OpenSpec.upto divertFreeSpec)

/-- 'railplanlaw26.DivertCost', WHERE WHAT IT READS IS OF BULK AT MOST 1048576: true; the input reads as it did. -/
def divertCostUptoRow : OpenClaim := { program := "ytlillkfelfoafaa", sum := "58ce696a3b010e6384dc6ff98d366b73ba26b19a04a8f4dac1ce50ec03cfe1b5", func := "railplan/railplanlaw26.DivertCost", spec := "divertCost", unfollowed := true, recurses := true, apart := false, narrowed := true }
def DivertCostUptoSaid : Prop := divertCostUptoRow.holds Try.pinned (OpenSpec.upto divertCostSpec)

end Rows
end Go.Proofs.Ytlillkfelfoafaa
