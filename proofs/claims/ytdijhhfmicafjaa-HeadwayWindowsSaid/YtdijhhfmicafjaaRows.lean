/-
  No cell of these rows narrows 'for every input' (looked for: loops, veiled, ifaces, maps, wideKeys, modest, calm, conditions, laid).
  DERIVED. THE GIVEN ROWS OF THIS SEAT. 9 by the template 'for every input the law returns true; each argument reads behind the call as it read before'; 0 by the template 'total and deterministic' (their statements: YtdijhhfmicafjaaTotals.lean).
  GIVEN WITH THE SEED: the statements are not yours to turn. If you find one false, say at which input.
  Laid BY PROGRAM, IN A SANDBOX (cutbox-rows.mjs): the forced cells as the released guide's own fill.sh prints them over the translation 1cb69585f4e11a68… (all of the seat's roots in one cut). By AI agents, Wed Nov 11 2026. No macro, syntax, notation, axiom, sorry.
-/
import Derived.Test.YtdijhhfmicafjaaChecked
import GoSem.Claim
import GoSem.ClaimJoined
import GoSem.ClaimMapViews
import Derived.JoinedTies
import Derived.KernelRfl
namespace Go.Proofs.Ytdijhhfmicafjaa
/- THE CELL 'sum', in the pinned program and in every row, IS THE sha256 OF THE DUMP (.gsa) THAT YtdijhhfmicafjaaProg.lean LOADS. Nothing in Lean hashes anything: it is a label: what it is worth is what the hold of that sum in a sandbox is worth. -/
noncomputable def Try.pinned : Pinned := { name := "ytdijhhfmicafjaa", sum := "1cb69585f4e11a68a352539f3425438921d041c7bde5155a487602b255125661", checked := Try.checked }
namespace Rows
def none {H : Type} : Left H := { results := [], args := [] }

/-- 'railplanlaw9.HeadwayLeastSeparates': WHATEVER THE INPUT: true; the input reads as it did. -/
def headwayLeastSeparatesSpec : ChangeSpec := { name := "headwayLeastSeparates", fn := fun _ => fun
  | [d1, d2, d3] => { results := [.lit (.bool true)], args := [d1, d2, d3] }
  | _ => none }
def headwayLeastSeparatesRow : OpenClaim := { program := "ytdijhhfmicafjaa", sum := "1cb69585f4e11a68a352539f3425438921d041c7bde5155a487602b255125661", func := "railplan/railplanlaw9.HeadwayLeastSeparates", spec := "headwayLeastSeparates", unfollowed := true, recurses := true, apart := false }
def HeadwayLeastSeparatesSaid : Prop := headwayLeastSeparatesRow.holds Try.pinned (OpenSpec.ofChange headwayLeastSeparatesSpec)

/-- ITS FALSE NEIGHBOUR: 'it returns false'. Refute it at one input. -/
def headwayLeastSeparatesWrong : ChangeSpec := { name := "headwayLeastSeparates", fn := fun _ => fun
  | [d1, d2, d3] => { results := [.lit (.bool false)], args := [d1, d2, d3] }
  | _ => none }
def HeadwayLeastSeparatesWrongFalsely : Prop := headwayLeastSeparatesRow.holds Try.pinned (OpenSpec.ofChange headwayLeastSeparatesWrong)

/-- 'railplanlaw9.HeadwayAlone': WHATEVER THE INPUT: true; the input reads as it did. -/
def headwayAloneSpec : ChangeSpec := { name := "headwayAlone", fn := fun _ => fun
  | [d1, d2] => { results := [.lit (.bool true)], args := [d1, d2] }
  | _ => none }
def headwayAloneRow : OpenClaim := { program := "ytdijhhfmicafjaa", sum := "1cb69585f4e11a68a352539f3425438921d041c7bde5155a487602b255125661", func := "railplan/railplanlaw9.HeadwayAlone", spec := "headwayAlone", unfollowed := true, recurses := true, apart := false }
def HeadwayAloneSaid : Prop := headwayAloneRow.holds Try.pinned (OpenSpec.ofChange headwayAloneSpec)

/-- ITS FALSE NEIGHBOUR: 'it returns false'. Refute it at one input. -/
def headwayAloneWrong : ChangeSpec := { name := "headwayAlone", fn := fun _ => fun
  | [d1, d2] => { results := [.lit (.bool false)], args := [d1, d2] }
  | _ => none }
def HeadwayAloneWrongFalsely : Prop := headwayAloneRow.holds Try.pinned (OpenSpec.ofChange headwayAloneWrong)

/-- 'railplanlaw9.HeadwayForbidden': WHATEVER THE INPUT: true; the input reads as it did. -/
def headwayForbiddenSpec : ChangeSpec := { name := "headwayForbidden", fn := fun _ => fun
  | [d1, d2, d3, d4] => { results := [.lit (.bool true)], args := [d1, d2, d3, d4] }
  | _ => none }
def headwayForbiddenRow : OpenClaim := { program := "ytdijhhfmicafjaa", sum := "1cb69585f4e11a68a352539f3425438921d041c7bde5155a487602b255125661", func := "railplan/railplanlaw9.HeadwayForbidden", spec := "headwayForbidden", unfollowed := true, recurses := true, apart := false }
def HeadwayForbiddenSaid : Prop := headwayForbiddenRow.holds Try.pinned (OpenSpec.ofChange headwayForbiddenSpec)

/-- ITS FALSE NEIGHBOUR: 'it returns false'. Refute it at one input. -/
def headwayForbiddenWrong : ChangeSpec := { name := "headwayForbidden", fn := fun _ => fun
  | [d1, d2, d3, d4] => { results := [.lit (.bool false)], args := [d1, d2, d3, d4] }
  | _ => none }
def HeadwayForbiddenWrongFalsely : Prop := headwayForbiddenRow.holds Try.pinned (OpenSpec.ofChange headwayForbiddenWrong)

/-- 'railplanlaw9.HeadwayExchange': WHATEVER THE INPUT: true; the input reads as it did. -/
def headwayExchangeSpec : ChangeSpec := { name := "headwayExchange", fn := fun _ => fun
  | [d1, d2, d3, d4] => { results := [.lit (.bool true)], args := [d1, d2, d3, d4] }
  | _ => none }
def headwayExchangeRow : OpenClaim := { program := "ytdijhhfmicafjaa", sum := "1cb69585f4e11a68a352539f3425438921d041c7bde5155a487602b255125661", func := "railplan/railplanlaw9.HeadwayExchange", spec := "headwayExchange", unfollowed := true, recurses := true, apart := false }
def HeadwayExchangeSaid : Prop := headwayExchangeRow.holds Try.pinned (OpenSpec.ofChange headwayExchangeSpec)

/-- ITS FALSE NEIGHBOUR: 'it returns false'. Refute it at one input. -/
def headwayExchangeWrong : ChangeSpec := { name := "headwayExchange", fn := fun _ => fun
  | [d1, d2, d3, d4] => { results := [.lit (.bool false)], args := [d1, d2, d3, d4] }
  | _ => none }
def HeadwayExchangeWrongFalsely : Prop := headwayExchangeRow.holds Try.pinned (OpenSpec.ofChange headwayExchangeWrong)

/-- 'railplanlaw9.HeadwayExamples': WHATEVER THE INPUT: true; the input reads as it did. -/
def headwayExamplesSpec : ChangeSpec := { name := "headwayExamples", fn := fun _ => fun
  | [] => { results := [.lit (.bool true)], args := [] }
  | _ => none }
def headwayExamplesRow : OpenClaim := { program := "ytdijhhfmicafjaa", sum := "1cb69585f4e11a68a352539f3425438921d041c7bde5155a487602b255125661", func := "railplan/railplanlaw9.HeadwayExamples", spec := "headwayExamples", unfollowed := true, recurses := true, apart := false }
def HeadwayExamplesSaid : Prop := headwayExamplesRow.holds Try.pinned (OpenSpec.ofChange headwayExamplesSpec)

/-- ITS FALSE NEIGHBOUR: 'it returns false'. Refute it at one input. -/
def headwayExamplesWrong : ChangeSpec := { name := "headwayExamples", fn := fun _ => fun
  | [] => { results := [.lit (.bool false)], args := [] }
  | _ => none }
def HeadwayExamplesWrongFalsely : Prop := headwayExamplesRow.holds Try.pinned (OpenSpec.ofChange headwayExamplesWrong)

/-- 'railplanlaw9.HeadwayRaw': WHATEVER THE INPUT: true; the input reads as it did. -/
def headwayRawSpec : ChangeSpec := { name := "headwayRaw", fn := fun _ => fun
  | [d1, d2, d3] => { results := [.lit (.bool true)], args := [d1, d2, d3] }
  | _ => none }
def headwayRawRow : OpenClaim := { program := "ytdijhhfmicafjaa", sum := "1cb69585f4e11a68a352539f3425438921d041c7bde5155a487602b255125661", func := "railplan/railplanlaw9.HeadwayRaw", spec := "headwayRaw", unfollowed := true, recurses := true, apart := false }
def HeadwayRawSaid : Prop := headwayRawRow.holds Try.pinned (OpenSpec.ofChange headwayRawSpec)

/-- ITS FALSE NEIGHBOUR: 'it returns false'. Refute it at one input. -/
def headwayRawWrong : ChangeSpec := { name := "headwayRaw", fn := fun _ => fun
  | [d1, d2, d3] => { results := [.lit (.bool false)], args := [d1, d2, d3] }
  | _ => none }
def HeadwayRawWrongFalsely : Prop := headwayRawRow.holds Try.pinned (OpenSpec.ofChange headwayRawWrong)

/-- 'railplanlaw9.HeadwayGenerated': WHATEVER THE INPUT: true; the input reads as it did. -/
def headwayGeneratedSpec : ChangeSpec := { name := "headwayGenerated", fn := fun _ => fun
  | [d1, d2, d3, d4] => { results := [.lit (.bool true)], args := [d1, d2, d3, d4] }
  | _ => none }
def headwayGeneratedRow : OpenClaim := { program := "ytdijhhfmicafjaa", sum := "1cb69585f4e11a68a352539f3425438921d041c7bde5155a487602b255125661", func := "railplan/railplanlaw9.HeadwayGenerated", spec := "headwayGenerated", unfollowed := true, recurses := true, apart := false }
def HeadwayGeneratedSaid : Prop := headwayGeneratedRow.holds Try.pinned (OpenSpec.ofChange headwayGeneratedSpec)

/-- ITS FALSE NEIGHBOUR: 'it returns false'. Refute it at one input. -/
def headwayGeneratedWrong : ChangeSpec := { name := "headwayGenerated", fn := fun _ => fun
  | [d1, d2, d3, d4] => { results := [.lit (.bool false)], args := [d1, d2, d3, d4] }
  | _ => none }
def HeadwayGeneratedWrongFalsely : Prop := headwayGeneratedRow.holds Try.pinned (OpenSpec.ofChange headwayGeneratedWrong)

/-- 'railplanlaw9.HeadwayWindows': WHATEVER THE INPUT: true; the input reads as it did. -/
def headwayWindowsSpec : ChangeSpec := { name := "headwayWindows", fn := fun _ => fun
  | [d1, d2, d3, d4] => { results := [.lit (.bool true)], args := [d1, d2, d3, d4] }
  | _ => none }
def headwayWindowsRow : OpenClaim := { program := "ytdijhhfmicafjaa", sum := "1cb69585f4e11a68a352539f3425438921d041c7bde5155a487602b255125661", func := "railplan/railplanlaw9.HeadwayWindows", spec := "headwayWindows", unfollowed := true, recurses := true, apart := false }
def HeadwayWindowsSaid : Prop := headwayWindowsRow.holds Try.pinned (OpenSpec.ofChange headwayWindowsSpec)

/-- ITS FALSE NEIGHBOUR: 'it returns false'. Refute it at one input. -/
def headwayWindowsWrong : ChangeSpec := { name := "headwayWindows", fn := fun _ => fun
  | [d1, d2, d3, d4] => { results := [.lit (.bool false)], args := [d1, d2, d3, d4] }
  | _ => none }
def HeadwayWindowsWrongFalsely : Prop := headwayWindowsRow.holds Try.pinned (OpenSpec.ofChange headwayWindowsWrong)

/-- 'railplanlaw9.HeadwayWindowsAreFew': WHATEVER THE INPUT: true; the input reads as it did. -/
def headwayWindowsAreFewSpec : ChangeSpec := { name := "headwayWindowsAreFew", fn := fun _ => fun
  | [d1, d2, d3] => { results := [.lit (.bool true)], args := [d1, d2, d3] }
  | _ => none }
def headwayWindowsAreFewRow : OpenClaim := { program := "ytdijhhfmicafjaa", sum := "1cb69585f4e11a68a352539f3425438921d041c7bde5155a487602b255125661", func := "railplan/railplanlaw9.HeadwayWindowsAreFew", spec := "headwayWindowsAreFew", unfollowed := true, recurses := true, apart := false }
def HeadwayWindowsAreFewSaid : Prop := headwayWindowsAreFewRow.holds Try.pinned (OpenSpec.ofChange headwayWindowsAreFewSpec)

/-- ITS FALSE NEIGHBOUR: 'it returns false'. Refute it at one input. -/
def headwayWindowsAreFewWrong : ChangeSpec := { name := "headwayWindowsAreFew", fn := fun _ => fun
  | [d1, d2, d3] => { results := [.lit (.bool false)], args := [d1, d2, d3] }
  | _ => none }
def HeadwayWindowsAreFewWrongFalsely : Prop := headwayWindowsAreFewRow.holds Try.pinned (OpenSpec.ofChange headwayWindowsAreFewWrong)

/- THE SECOND FORM. 'bulk': how many values and letters a reading holds, each counted each time it is reached (what is shared counts as often as it is met; a slice's spare places count too). A statement '..UptoSaid' is the law's where the arguments, and the package variables that the reading takes, are together of bulk at most 1048576: NARROWER than '..Said'. Prove '..Said' where nothing that the law and all that it calls make is longer than what came in: it says more and counts as full. Else prove '..UptoSaid'. A law counts once. -/
mutual
def uptoBulk {H : Type} : DataW H → Nat
  | .lit (.string bytes) => bytes.length + 1
  | .lit _ => 1
  | .nil => 1
  | .ptr d => uptoBulk d + 1
  | .slice elems spare => uptoBulkAll elems + uptoBulkAll spare + 1
  | .agg parts => uptoBulkAll parts + 1
  | .iface _ d => uptoBulk d + 1
  | .map entries => uptoBulkEntries entries + 1
  | .held _ => 1
def uptoBulkAll {H : Type} : List (DataW H) → Nat
  | [] => 0
  | d :: r => uptoBulk d + uptoBulkAll r
def uptoBulkEntries {H : Type} : List (Lit × DataW H) → Nat
  | [] => 0
  | x :: r => uptoBulkEntry x + uptoBulkEntries r
def uptoBulkEntry {H : Type} : Lit × DataW H → Nat
  | (.string bytes, d) => bytes.length + uptoBulk d + 1
  | (_, d) => uptoBulk d + 1
 end
def uptoSmall : (H : Type) → List (DataW H) → Bool := fun _ ds => decide (uptoBulkAll ds ≤ 1048576)
def OpenSpec.upto (s : _root_.Go.ChangeSpec) : _root_.Go.OpenSpec := { _root_.Go.OpenSpec.ofChange s with cond := some uptoSmall }

/-- 'railplanlaw9.HeadwayLeastSeparates', WHERE WHAT IT READS IS OF BULK AT MOST 1048576: true; the input reads as it did. -/
def headwayLeastSeparatesUptoRow : OpenClaim := { program := "ytdijhhfmicafjaa", sum := "1cb69585f4e11a68a352539f3425438921d041c7bde5155a487602b255125661", func := "railplan/railplanlaw9.HeadwayLeastSeparates", spec := "headwayLeastSeparates", unfollowed := true, recurses := true, apart := false, narrowed := true }
def HeadwayLeastSeparatesUptoSaid : Prop := headwayLeastSeparatesUptoRow.holds Try.pinned (OpenSpec.upto headwayLeastSeparatesSpec)

/-- 'railplanlaw9.HeadwayAlone', WHERE WHAT IT READS IS OF BULK AT MOST 1048576: true; the input reads as it did. -/
def headwayAloneUptoRow : OpenClaim := { program := "ytdijhhfmicafjaa", sum := "1cb69585f4e11a68a352539f3425438921d041c7bde5155a487602b255125661", func := "railplan/railplanlaw9.HeadwayAlone", spec := "headwayAlone", unfollowed := true, recurses := true, apart := false, narrowed := true }
def HeadwayAloneUptoSaid : Prop := headwayAloneUptoRow.holds Try.pinned (OpenSpec.upto headwayAloneSpec)

/-- 'railplanlaw9.HeadwayForbidden', WHERE WHAT IT READS IS OF BULK AT MOST 1048576: true; the input reads as it did. -/
def headwayForbiddenUptoRow : OpenClaim := { program := "ytdijhhfmicafjaa", sum := "1cb69585f4e11a68a352539f3425438921d041c7bde5155a487602b255125661", func := "railplan/railplanlaw9.HeadwayForbidden", spec := "headwayForbidden", unfollowed := true, recurses := true, apart := false, narrowed := true }
def HeadwayForbiddenUptoSaid : Prop := headwayForbiddenUptoRow.holds Try.pinned (OpenSpec.upto headwayForbiddenSpec)

/-- 'railplanlaw9.HeadwayExchange', WHERE WHAT IT READS IS OF BULK AT MOST 1048576: true; the input reads as it did. -/
def headwayExchangeUptoRow : OpenClaim := { program := "ytdijhhfmicafjaa", sum := "1cb69585f4e11a68a352539f3425438921d041c7bde5155a487602b255125661", func := "railplan/railplanlaw9.HeadwayExchange", spec := "headwayExchange", unfollowed := true, recurses := true, apart := false, narrowed := true }
def HeadwayExchangeUptoSaid : Prop := headwayExchangeUptoRow.holds Try.pinned (OpenSpec.upto headwayExchangeSpec)

/-- 'railplanlaw9.HeadwayExamples', WHERE WHAT IT READS IS OF BULK AT MOST 1048576: true; the input reads as it did. -/
def headwayExamplesUptoRow : OpenClaim := { program := "ytdijhhfmicafjaa", sum := "1cb69585f4e11a68a352539f3425438921d041c7bde5155a487602b255125661", func := "railplan/railplanlaw9.HeadwayExamples", spec := "headwayExamples", unfollowed := true, recurses := true, apart := false, narrowed := true }
def HeadwayExamplesUptoSaid : Prop := headwayExamplesUptoRow.holds Try.pinned (OpenSpec.upto headwayExamplesSpec)

/-- 'railplanlaw9.HeadwayRaw', WHERE WHAT IT READS IS OF BULK AT MOST 1048576: true; the input reads as it did. -/
def headwayRawUptoRow : OpenClaim := { program := "ytdijhhfmicafjaa", sum := "1cb69585f4e11a68a352539f3425438921d041c7bde5155a487602b255125661", func := "railplan/railplanlaw9.HeadwayRaw", spec := "headwayRaw", unfollowed := true, recurses := true, apart := false, narrowed := true }
def HeadwayRawUptoSaid : Prop := headwayRawUptoRow.holds Try.pinned (OpenSpec.upto headwayRawSpec)

/-- 'railplanlaw9.HeadwayGenerated', WHERE WHAT IT READS IS OF BULK AT MOST 1048576: true; the input reads as it did. -/
def headwayGeneratedUptoRow : OpenClaim := { program := "ytdijhhfmicafjaa", sum := "1cb69585f4e11a68a352539f3425438921d041c7bde5155a487602b255125661", func := "railplan/railplanlaw9.HeadwayGenerated", spec := "headwayGenerated", unfollowed := true, recurses := true, apart := false, narrowed := true }
def HeadwayGeneratedUptoSaid : Prop := headwayGeneratedUptoRow.holds Try.pinned (OpenSpec.upto headwayGeneratedSpec)

/-- 'railplanlaw9.HeadwayWindows', WHERE WHAT IT READS IS OF BULK AT MOST 1048576: true; the input reads as it did. -/
def headwayWindowsUptoRow : OpenClaim := { program := "ytdijhhfmicafjaa", sum := "1cb69585f4e11a68a352539f3425438921d041c7bde5155a487602b255125661", func := "railplan/railplanlaw9.HeadwayWindows", spec := "headwayWindows", unfollowed := true, recurses := true, apart := false, narrowed := true }
def HeadwayWindowsUptoSaid : Prop := headwayWindowsUptoRow.holds Try.pinned (OpenSpec.upto headwayWindowsSpec)

/-- 'railplanlaw9.HeadwayWindowsAreFew', WHERE WHAT IT READS IS OF BULK AT MOST 1048576: true; the input reads as it did. -/
def headwayWindowsAreFewUptoRow : OpenClaim := { program := "ytdijhhfmicafjaa", sum := "1cb69585f4e11a68a352539f3425438921d041c7bde5155a487602b255125661", func := "railplan/railplanlaw9.HeadwayWindowsAreFew", spec := "headwayWindowsAreFew", unfollowed := true, recurses := true, apart := false, narrowed := true }
def HeadwayWindowsAreFewUptoSaid : Prop := headwayWindowsAreFewUptoRow.holds Try.pinned (OpenSpec.upto headwayWindowsAreFewSpec)

end Rows
end Go.Proofs.Ytdijhhfmicafjaa
