/-
  NARROWER THAN 'FOR EVERY INPUT', by the rows' own cells (each row's printed sentence says how): FlowSteps: laid · FlowLocals: laid · FlowBelow: laid · FlowHeights: laid · FlowOwn: laid · JudgeRight: laid · JudgeBelow: laid · JudgeFirst: laid · JudgeWider: laid.
  DERIVED. THE GIVEN ROWS OF THIS SEAT. 9 by the template 'for every input the law returns true; each argument reads behind the call as it read before'; 0 by the template 'total and deterministic' (their statements: YtliamnpngkojdaaDoorTotals.lean).
  GIVEN WITH THE SEED: the statements are not yours to turn. If you find one false, say at which input.
  Laid BY PROGRAM, IN A SANDBOX (cutbox-rows.mjs): the forced cells as the released guide's own fill.sh prints them over the translation bfc55f82e9c8632b… (all of the seat's roots in one cut). By AI agents, Wed Nov 11 2026. No macro, syntax, notation, axiom, sorry.
-/
import Derived.Test.YtliamnpngkojdaaDoorChecked
import GoSem.Claim
import GoSem.ClaimJoined
import GoSem.ClaimMapViews
import Derived.JoinedTies
import Derived.KernelRfl
namespace Go.Proofs.YtliamnpngkojdaaDoor
/- THE CELL 'sum', in the pinned program and in every row, IS THE sha256 OF THE DUMP (.gsa) THAT YtliamnpngkojdaaDoorProg.lean LOADS. Nothing in Lean hashes anything: it is a label: what it is worth is what the hold of that sum in a sandbox is worth. -/
noncomputable def Tryd.pinned : Pinned := { name := "ytliamnpngkojdaadoor", sum := "bfc55f82e9c8632b78c6bc33d46c40e4dd8cd8d657bfb25bdeb1c93ef41b4153", checked := Tryd.checked }
namespace Rows
def none {H : Type} : Left H := { results := [], args := [] }

/- WHAT THE LISTED PACKAGE-LEVEL VARIABLES READ AS WHEN THE CALL BEGINS. Each datum BY PROGRAM (the guide's laid-datum.mjs) off the statement by which the dump's own 'gosem.cut.vars' lays the variable. In a bare row this is a premise. The card (YtliamnpngkojdaaDoorCards.lean) ties it to the program's text. -/
def laid_chrysalis_flow_number {H : Type} : DataW H := .agg [.lit (.int .i64 1), .lit (.int .i64 0)]
def laid_chrysalis_flow_octets {H : Type} : DataW H := .agg [.lit (.int .i64 2), .lit (.int .i64 0)]
def laid_chrysalis_flow_words {H : Type} : DataW H := .agg [.lit (.int .i64 3), .lit (.int .i64 0)]
def laid_chrysalis_flow_refs {H : Type} : DataW H := .agg [.lit (.int .i64 7), .lit (.int .i64 0)]
def laid_chrysalis_flow_use {H : Type} : DataW H := .agg [.lit (.int .i64 8), .lit (.int .i64 0)]

/-- 'chrysalislaw08.FlowSteps': WHATEVER THE INPUT: true; the input reads as it did. -/
def flowStepsSpec : ChangeSpec := { name := "flowSteps", fn := fun _ => fun
  | [d1, d2, d3, d4] => { results := [.lit (.bool true)], args := [d1, d2, d3, d4] }
  | _ => none }
def flowStepsRow : OpenClaim := { program := "ytliamnpngkojdaadoor", sum := "bfc55f82e9c8632b78c6bc33d46c40e4dd8cd8d657bfb25bdeb1c93ef41b4153", func := "chrysalis/chrysalislaw08.FlowSteps", spec := "flowSteps", unfollowed := true, recurses := true, named := ["chrysalis/flow.use", "chrysalis/flow.number", "chrysalis/flow.words", "chrysalis/flow.octets", "chrysalis/flow.refs"], apart := false, laid := [("chrysalis/flow.number", laid_chrysalis_flow_number), ("chrysalis/flow.octets", laid_chrysalis_flow_octets), ("chrysalis/flow.words", laid_chrysalis_flow_words), ("chrysalis/flow.refs", laid_chrysalis_flow_refs), ("chrysalis/flow.use", laid_chrysalis_flow_use)] }
def FlowStepsSaid : Prop := flowStepsRow.holds Tryd.pinned (OpenSpec.ofChange flowStepsSpec)

/-- ITS FALSE NEIGHBOUR: 'it returns false'. Refute it at one input. -/
def flowStepsWrong : ChangeSpec := { name := "flowSteps", fn := fun _ => fun
  | [d1, d2, d3, d4] => { results := [.lit (.bool false)], args := [d1, d2, d3, d4] }
  | _ => none }
def FlowStepsWrongFalsely : Prop := flowStepsRow.holds Tryd.pinned (OpenSpec.ofChange flowStepsWrong)

/-- 'chrysalislaw08.FlowLocals': WHATEVER THE INPUT: true; the input reads as it did. -/
def flowLocalsSpec : ChangeSpec := { name := "flowLocals", fn := fun _ => fun
  | [d1, d2] => { results := [.lit (.bool true)], args := [d1, d2] }
  | _ => none }
def flowLocalsRow : OpenClaim := { program := "ytliamnpngkojdaadoor", sum := "bfc55f82e9c8632b78c6bc33d46c40e4dd8cd8d657bfb25bdeb1c93ef41b4153", func := "chrysalis/chrysalislaw08.FlowLocals", spec := "flowLocals", unfollowed := true, recurses := true, named := ["chrysalis/flow.use", "chrysalis/flow.number", "chrysalis/flow.words", "chrysalis/flow.octets", "chrysalis/flow.refs"], apart := false, laid := [("chrysalis/flow.number", laid_chrysalis_flow_number), ("chrysalis/flow.octets", laid_chrysalis_flow_octets), ("chrysalis/flow.words", laid_chrysalis_flow_words), ("chrysalis/flow.refs", laid_chrysalis_flow_refs), ("chrysalis/flow.use", laid_chrysalis_flow_use)] }
def FlowLocalsSaid : Prop := flowLocalsRow.holds Tryd.pinned (OpenSpec.ofChange flowLocalsSpec)

/-- ITS FALSE NEIGHBOUR: 'it returns false'. Refute it at one input. -/
def flowLocalsWrong : ChangeSpec := { name := "flowLocals", fn := fun _ => fun
  | [d1, d2] => { results := [.lit (.bool false)], args := [d1, d2] }
  | _ => none }
def FlowLocalsWrongFalsely : Prop := flowLocalsRow.holds Tryd.pinned (OpenSpec.ofChange flowLocalsWrong)

/-- 'chrysalislaw08.FlowBelow': WHATEVER THE INPUT: true; the input reads as it did. -/
def flowBelowSpec : ChangeSpec := { name := "flowBelow", fn := fun _ => fun
  | [d1, d2, d3, d4, d5] => { results := [.lit (.bool true)], args := [d1, d2, d3, d4, d5] }
  | _ => none }
def flowBelowRow : OpenClaim := { program := "ytliamnpngkojdaadoor", sum := "bfc55f82e9c8632b78c6bc33d46c40e4dd8cd8d657bfb25bdeb1c93ef41b4153", func := "chrysalis/chrysalislaw08.FlowBelow", spec := "flowBelow", unfollowed := true, recurses := true, named := ["chrysalis/flow.use", "chrysalis/flow.number", "chrysalis/flow.words", "chrysalis/flow.octets", "chrysalis/flow.refs"], apart := false, laid := [("chrysalis/flow.number", laid_chrysalis_flow_number), ("chrysalis/flow.octets", laid_chrysalis_flow_octets), ("chrysalis/flow.words", laid_chrysalis_flow_words), ("chrysalis/flow.refs", laid_chrysalis_flow_refs), ("chrysalis/flow.use", laid_chrysalis_flow_use)] }
def FlowBelowSaid : Prop := flowBelowRow.holds Tryd.pinned (OpenSpec.ofChange flowBelowSpec)

/-- ITS FALSE NEIGHBOUR: 'it returns false'. Refute it at one input. -/
def flowBelowWrong : ChangeSpec := { name := "flowBelow", fn := fun _ => fun
  | [d1, d2, d3, d4, d5] => { results := [.lit (.bool false)], args := [d1, d2, d3, d4, d5] }
  | _ => none }
def FlowBelowWrongFalsely : Prop := flowBelowRow.holds Tryd.pinned (OpenSpec.ofChange flowBelowWrong)

/-- 'chrysalislaw08.FlowHeights': WHATEVER THE INPUT: true; the input reads as it did. -/
def flowHeightsSpec : ChangeSpec := { name := "flowHeights", fn := fun _ => fun
  | [d1, d2, d3, d4] => { results := [.lit (.bool true)], args := [d1, d2, d3, d4] }
  | _ => none }
def flowHeightsRow : OpenClaim := { program := "ytliamnpngkojdaadoor", sum := "bfc55f82e9c8632b78c6bc33d46c40e4dd8cd8d657bfb25bdeb1c93ef41b4153", func := "chrysalis/chrysalislaw08.FlowHeights", spec := "flowHeights", unfollowed := true, recurses := true, named := ["chrysalis/flow.use", "chrysalis/flow.number", "chrysalis/flow.words", "chrysalis/flow.octets", "chrysalis/flow.refs"], apart := false, laid := [("chrysalis/flow.number", laid_chrysalis_flow_number), ("chrysalis/flow.octets", laid_chrysalis_flow_octets), ("chrysalis/flow.words", laid_chrysalis_flow_words), ("chrysalis/flow.refs", laid_chrysalis_flow_refs), ("chrysalis/flow.use", laid_chrysalis_flow_use)] }
def FlowHeightsSaid : Prop := flowHeightsRow.holds Tryd.pinned (OpenSpec.ofChange flowHeightsSpec)

/-- ITS FALSE NEIGHBOUR: 'it returns false'. Refute it at one input. -/
def flowHeightsWrong : ChangeSpec := { name := "flowHeights", fn := fun _ => fun
  | [d1, d2, d3, d4] => { results := [.lit (.bool false)], args := [d1, d2, d3, d4] }
  | _ => none }
def FlowHeightsWrongFalsely : Prop := flowHeightsRow.holds Tryd.pinned (OpenSpec.ofChange flowHeightsWrong)

/-- 'chrysalislaw08.FlowOwn': WHATEVER THE INPUT: true; the input reads as it did. -/
def flowOwnSpec : ChangeSpec := { name := "flowOwn", fn := fun _ => fun
  | [d1, d2, d3, d4] => { results := [.lit (.bool true)], args := [d1, d2, d3, d4] }
  | _ => none }
def flowOwnRow : OpenClaim := { program := "ytliamnpngkojdaadoor", sum := "bfc55f82e9c8632b78c6bc33d46c40e4dd8cd8d657bfb25bdeb1c93ef41b4153", func := "chrysalis/chrysalislaw08.FlowOwn", spec := "flowOwn", unfollowed := true, recurses := true, named := ["chrysalis/flow.use", "chrysalis/flow.number", "chrysalis/flow.words", "chrysalis/flow.octets", "chrysalis/flow.refs"], apart := false, laid := [("chrysalis/flow.number", laid_chrysalis_flow_number), ("chrysalis/flow.octets", laid_chrysalis_flow_octets), ("chrysalis/flow.words", laid_chrysalis_flow_words), ("chrysalis/flow.refs", laid_chrysalis_flow_refs), ("chrysalis/flow.use", laid_chrysalis_flow_use)] }
def FlowOwnSaid : Prop := flowOwnRow.holds Tryd.pinned (OpenSpec.ofChange flowOwnSpec)

/-- ITS FALSE NEIGHBOUR: 'it returns false'. Refute it at one input. -/
def flowOwnWrong : ChangeSpec := { name := "flowOwn", fn := fun _ => fun
  | [d1, d2, d3, d4] => { results := [.lit (.bool false)], args := [d1, d2, d3, d4] }
  | _ => none }
def FlowOwnWrongFalsely : Prop := flowOwnRow.holds Tryd.pinned (OpenSpec.ofChange flowOwnWrong)

/-- 'chrysalislaw10.JudgeRight': WHATEVER THE INPUT: true; the input reads as it did. -/
def judgeRightSpec : ChangeSpec := { name := "judgeRight", fn := fun _ => fun
  | [d1, d2] => { results := [.lit (.bool true)], args := [d1, d2] }
  | _ => none }
def judgeRightRow : OpenClaim := { program := "ytliamnpngkojdaadoor", sum := "bfc55f82e9c8632b78c6bc33d46c40e4dd8cd8d657bfb25bdeb1c93ef41b4153", func := "chrysalis/chrysalislaw10.JudgeRight", spec := "judgeRight", unfollowed := true, recurses := true, named := ["chrysalis/flow.use", "chrysalis/flow.number", "chrysalis/flow.words", "chrysalis/flow.octets", "chrysalis/flow.refs"], apart := false, laid := [("chrysalis/flow.number", laid_chrysalis_flow_number), ("chrysalis/flow.octets", laid_chrysalis_flow_octets), ("chrysalis/flow.words", laid_chrysalis_flow_words), ("chrysalis/flow.refs", laid_chrysalis_flow_refs), ("chrysalis/flow.use", laid_chrysalis_flow_use)] }
def JudgeRightSaid : Prop := judgeRightRow.holds Tryd.pinned (OpenSpec.ofChange judgeRightSpec)

/-- ITS FALSE NEIGHBOUR: 'it returns false'. Refute it at one input. -/
def judgeRightWrong : ChangeSpec := { name := "judgeRight", fn := fun _ => fun
  | [d1, d2] => { results := [.lit (.bool false)], args := [d1, d2] }
  | _ => none }
def JudgeRightWrongFalsely : Prop := judgeRightRow.holds Tryd.pinned (OpenSpec.ofChange judgeRightWrong)

/-- 'chrysalislaw10.JudgeBelow': WHATEVER THE INPUT: true; the input reads as it did. -/
def judgeBelowSpec : ChangeSpec := { name := "judgeBelow", fn := fun _ => fun
  | [d1, d2, d3] => { results := [.lit (.bool true)], args := [d1, d2, d3] }
  | _ => none }
def judgeBelowRow : OpenClaim := { program := "ytliamnpngkojdaadoor", sum := "bfc55f82e9c8632b78c6bc33d46c40e4dd8cd8d657bfb25bdeb1c93ef41b4153", func := "chrysalis/chrysalislaw10.JudgeBelow", spec := "judgeBelow", unfollowed := true, recurses := true, named := ["chrysalis/flow.use", "chrysalis/flow.number", "chrysalis/flow.words", "chrysalis/flow.octets", "chrysalis/flow.refs"], apart := false, laid := [("chrysalis/flow.number", laid_chrysalis_flow_number), ("chrysalis/flow.octets", laid_chrysalis_flow_octets), ("chrysalis/flow.words", laid_chrysalis_flow_words), ("chrysalis/flow.refs", laid_chrysalis_flow_refs), ("chrysalis/flow.use", laid_chrysalis_flow_use)] }
def JudgeBelowSaid : Prop := judgeBelowRow.holds Tryd.pinned (OpenSpec.ofChange judgeBelowSpec)

/-- ITS FALSE NEIGHBOUR: 'it returns false'. Refute it at one input. -/
def judgeBelowWrong : ChangeSpec := { name := "judgeBelow", fn := fun _ => fun
  | [d1, d2, d3] => { results := [.lit (.bool false)], args := [d1, d2, d3] }
  | _ => none }
def JudgeBelowWrongFalsely : Prop := judgeBelowRow.holds Tryd.pinned (OpenSpec.ofChange judgeBelowWrong)

/-- 'chrysalislaw10.JudgeFirst': WHATEVER THE INPUT: true; the input reads as it did. -/
def judgeFirstSpec : ChangeSpec := { name := "judgeFirst", fn := fun _ => fun
  | [d1, d2, d3] => { results := [.lit (.bool true)], args := [d1, d2, d3] }
  | _ => none }
def judgeFirstRow : OpenClaim := { program := "ytliamnpngkojdaadoor", sum := "bfc55f82e9c8632b78c6bc33d46c40e4dd8cd8d657bfb25bdeb1c93ef41b4153", func := "chrysalis/chrysalislaw10.JudgeFirst", spec := "judgeFirst", unfollowed := true, recurses := true, named := ["chrysalis/flow.use", "chrysalis/flow.number", "chrysalis/flow.words", "chrysalis/flow.octets", "chrysalis/flow.refs"], apart := false, laid := [("chrysalis/flow.number", laid_chrysalis_flow_number), ("chrysalis/flow.octets", laid_chrysalis_flow_octets), ("chrysalis/flow.words", laid_chrysalis_flow_words), ("chrysalis/flow.refs", laid_chrysalis_flow_refs), ("chrysalis/flow.use", laid_chrysalis_flow_use)] }
def JudgeFirstSaid : Prop := judgeFirstRow.holds Tryd.pinned (OpenSpec.ofChange judgeFirstSpec)

/-- ITS FALSE NEIGHBOUR: 'it returns false'. Refute it at one input. -/
def judgeFirstWrong : ChangeSpec := { name := "judgeFirst", fn := fun _ => fun
  | [d1, d2, d3] => { results := [.lit (.bool false)], args := [d1, d2, d3] }
  | _ => none }
def JudgeFirstWrongFalsely : Prop := judgeFirstRow.holds Tryd.pinned (OpenSpec.ofChange judgeFirstWrong)

/-- 'chrysalislaw10.JudgeWider': WHATEVER THE INPUT: true; the input reads as it did. -/
def judgeWiderSpec : ChangeSpec := { name := "judgeWider", fn := fun _ => fun
  | [d] => { results := [.lit (.bool true)], args := [d] }
  | _ => none }
def judgeWiderRow : OpenClaim := { program := "ytliamnpngkojdaadoor", sum := "bfc55f82e9c8632b78c6bc33d46c40e4dd8cd8d657bfb25bdeb1c93ef41b4153", func := "chrysalis/chrysalislaw10.JudgeWider", spec := "judgeWider", unfollowed := true, recurses := true, named := ["chrysalis/flow.use", "chrysalis/flow.number", "chrysalis/flow.words", "chrysalis/flow.octets", "chrysalis/flow.refs"], apart := false, laid := [("chrysalis/flow.number", laid_chrysalis_flow_number), ("chrysalis/flow.octets", laid_chrysalis_flow_octets), ("chrysalis/flow.words", laid_chrysalis_flow_words), ("chrysalis/flow.refs", laid_chrysalis_flow_refs), ("chrysalis/flow.use", laid_chrysalis_flow_use)] }
def JudgeWiderSaid : Prop := judgeWiderRow.holds Tryd.pinned (OpenSpec.ofChange judgeWiderSpec)

/-- ITS FALSE NEIGHBOUR: 'it returns false'. Refute it at one input. -/
def judgeWiderWrong : ChangeSpec := { name := "judgeWider", fn := fun _ => fun
  | [d] => { results := [.lit (.bool false)], args := [d] }
  | _ => none }
def JudgeWiderWrongFalsely : Prop := judgeWiderRow.holds Tryd.pinned (OpenSpec.ofChange judgeWiderWrong)

/- THE SECOND FORM. 'bulk': how many values and letters a reading holds, each counted each time it is reached (what is shared counts as often as it is met; a slice's spare places count too). A statement '..UptoSaid' is the law's where the arguments, and the package variables that the reading takes, are together of bulk at most 1048576: NARROWER than '..Said'. Prove '..Said' where nothing that the law and all that it calls make is longer than what came in: it says more and counts as full. Else prove '..UptoSaid'. A law counts once. -/
mutual
def uptoBulk {H : Type} : DataW H → Nat
  | .lit (.string bytes) => bytes.length + 1
  | .lit _ => 1
  | .nil => 1
  | .ptr d => uptoBulk d + 1
  | .slice elems spare => uptoBulkAll elems + uptoBulkAll spare + 1
  | .agg parts => uptoBulkAll parts + 1
  | .iface _ d => uptoBulk d + 1
  | .map entries => uptoBulkEntries entries + 1
  | .held _ => 1
def uptoBulkAll {H : Type} : List (DataW H) → Nat
  | [] => 0
  | d :: r => uptoBulk d + uptoBulkAll r
def uptoBulkEntries {H : Type} : List (Lit × DataW H) → Nat
  | [] => 0
  | x :: r => uptoBulkEntry x + uptoBulkEntries r
def uptoBulkEntry {H : Type} : Lit × DataW H → Nat
  | (.string bytes, d) => bytes.length + uptoBulk d + 1
  | (_, d) => uptoBulk d + 1
 end
def uptoSmall : (H : Type) → List (DataW H) → Bool := fun _ ds => decide (uptoBulkAll ds ≤ 1048576)
def OpenSpec.upto (s : _root_.Go.ChangeSpec) : _root_.Go.OpenSpec := { _root_.Go.OpenSpec.ofChange s with cond := some uptoSmall }

/-- 'chrysalislaw08.FlowSteps', WHERE WHAT IT READS IS OF BULK AT MOST 1048576: true; the input reads as it did. -/
def flowStepsUptoRow : OpenClaim := { program := "ytliamnpngkojdaadoor", sum := "bfc55f82e9c8632b78c6bc33d46c40e4dd8cd8d657bfb25bdeb1c93ef41b4153", func := "chrysalis/chrysalislaw08.FlowSteps", spec := "flowSteps", unfollowed := true, recurses := true, named := ["chrysalis/flow.use", "chrysalis/flow.number", "chrysalis/flow.words", "chrysalis/flow.octets", "chrysalis/flow.refs"], apart := false, laid := [("chrysalis/flow.number", laid_chrysalis_flow_number), ("chrysalis/flow.octets", laid_chrysalis_flow_octets), ("chrysalis/flow.words", laid_chrysalis_flow_words), ("chrysalis/flow.refs", laid_chrysalis_flow_refs), ("chrysalis/flow.use", laid_chrysalis_flow_use)], narrowed := true }
def FlowStepsUptoSaid : Prop := flowStepsUptoRow.holds Tryd.pinned (OpenSpec.upto flowStepsSpec)

/-- 'chrysalislaw08.FlowLocals', WHERE WHAT IT READS IS OF BULK AT MOST 1048576: true; the input reads as it did. -/
def flowLocalsUptoRow : OpenClaim := { program := "ytliamnpngkojdaadoor", sum := "bfc55f82e9c8632b78c6bc33d46c40e4dd8cd8d657bfb25bdeb1c93ef41b4153", func := "chrysalis/chrysalislaw08.FlowLocals", spec := "flowLocals", unfollowed := true, recurses := true, named := ["chrysalis/flow.use", "chrysalis/flow.number", "chrysalis/flow.words", "chrysalis/flow.octets", "chrysalis/flow.refs"], apart := false, laid := [("chrysalis/flow.number", laid_chrysalis_flow_number), ("chrysalis/flow.octets", laid_chrysalis_flow_octets), ("chrysalis/flow.words", laid_chrysalis_flow_words), ("chrysalis/flow.refs", laid_chrysalis_flow_refs), ("chrysalis/flow.use", laid_chrysalis_flow_use)], narrowed := true }
def FlowLocalsUptoSaid : Prop := flowLocalsUptoRow.holds Tryd.pinned (OpenSpec.upto flowLocalsSpec)

/-- 'chrysalislaw08.FlowBelow', WHERE WHAT IT READS IS OF BULK AT MOST 1048576: true; the input reads as it did. -/
def flowBelowUptoRow : OpenClaim := { program := "ytliamnpngkojdaadoor", sum := "bfc55f82e9c8632b78c6bc33d46c40e4dd8cd8d657bfb25bdeb1c93ef41b4153", func := "chrysalis/chrysalislaw08.FlowBelow", spec := "flowBelow", unfollowed := true, recurses := true, named := ["chrysalis/flow.use", "chrysalis/flow.number", "chrysalis/flow.words", "chrysalis/flow.octets", "chrysalis/flow.refs"], apart := false, laid := [("chrysalis/flow.number", laid_chrysalis_flow_number), ("chrysalis/flow.octets", laid_chrysalis_flow_octets), ("chrysalis/flow.words", laid_chrysalis_flow_words), ("chrysalis/flow.refs", laid_chrysalis_flow_refs), ("chrysalis/flow.use", laid_chrysalis_flow_use)], narrowed := true }
def FlowBelowUptoSaid : Prop := flowBelowUptoRow.holds Tryd.pinned (OpenSpec.upto flowBelowSpec)

/-- 'chrysalislaw08.FlowHeights', WHERE WHAT IT READS IS OF BULK AT MOST 1048576: true; the input reads as it did. -/
def flowHeightsUptoRow : OpenClaim := { program := "ytliamnpngkojdaadoor", sum := "bfc55f82e9c8632b78c6bc33d46c40e4dd8cd8d657bfb25bdeb1c93ef41b4153", func := "chrysalis/chrysalislaw08.FlowHeights", spec := "flowHeights", unfollowed := true, recurses := true, named := ["chrysalis/flow.use", "chrysalis/flow.number", "chrysalis/flow.words", "chrysalis/flow.octets", "chrysalis/flow.refs"], apart := false, laid := [("chrysalis/flow.number", laid_chrysalis_flow_number), ("chrysalis/flow.octets", laid_chrysalis_flow_octets), ("chrysalis/flow.words", laid_chrysalis_flow_words), ("chrysalis/flow.refs", laid_chrysalis_flow_refs), ("chrysalis/flow.use", laid_chrysalis_flow_use)], narrowed := true }
def FlowHeightsUptoSaid : Prop := flowHeightsUptoRow.holds Tryd.pinned (OpenSpec.upto flowHeightsSpec)

/-- 'chrysalislaw08.FlowOwn', WHERE WHAT IT READS IS OF BULK AT MOST 1048576: true; the input reads as it did. -/
def flowOwnUptoRow : OpenClaim := { program := "ytliamnpngkojdaadoor", sum := "bfc55f82e9c8632b78c6bc33d46c40e4dd8cd8d657bfb25bdeb1c93ef41b4153", func := "chrysalis/chrysalislaw08.FlowOwn", spec := "flowOwn", unfollowed := true, recurses := true, named := ["chrysalis/flow.use", "chrysalis/flow.number", "chrysalis/flow.words", "chrysalis/flow.octets", "chrysalis/flow.refs"], apart := false, laid := [("chrysalis/flow.number", laid_chrysalis_flow_number), ("chrysalis/flow.octets", laid_chrysalis_flow_octets), ("chrysalis/flow.words", laid_chrysalis_flow_words), ("chrysalis/flow.refs", laid_chrysalis_flow_refs), ("chrysalis/flow.use", laid_chrysalis_flow_use)], narrowed := true }
def FlowOwnUptoSaid : Prop := flowOwnUptoRow.holds Tryd.pinned (OpenSpec.upto flowOwnSpec)

/-- 'chrysalislaw10.JudgeRight', WHERE WHAT IT READS IS OF BULK AT MOST 1048576: true; the input reads as it did. -/
def judgeRightUptoRow : OpenClaim := { program := "ytliamnpngkojdaadoor", sum := "bfc55f82e9c8632b78c6bc33d46c40e4dd8cd8d657bfb25bdeb1c93ef41b4153", func := "chrysalis/chrysalislaw10.JudgeRight", spec := "judgeRight", unfollowed := true, recurses := true, named := ["chrysalis/flow.use", "chrysalis/flow.number", "chrysalis/flow.words", "chrysalis/flow.octets", "chrysalis/flow.refs"], apart := false, laid := [("chrysalis/flow.number", laid_chrysalis_flow_number), ("chrysalis/flow.octets", laid_chrysalis_flow_octets), ("chrysalis/flow.words", laid_chrysalis_flow_words), ("chrysalis/flow.refs", laid_chrysalis_flow_refs), ("chrysalis/flow.use", laid_chrysalis_flow_use)], narrowed := true }
def JudgeRightUptoSaid : Prop := judgeRightUptoRow.holds Tryd.pinned (OpenSpec.upto judgeRightSpec)

/-- 'chrysalislaw10.JudgeBelow', WHERE WHAT IT READS IS OF BULK AT MOST 1048576: true; the input reads as it did. -/
def judgeBelowUptoRow : OpenClaim := { program := "ytliamnpngkojdaadoor", sum := "bfc55f82e9c8632b78c6bc33d46c40e4dd8cd8d657bfb25bdeb1c93ef41b4153", func := "chrysalis/chrysalislaw10.JudgeBelow", spec := "judgeBelow", unfollowed := true, recurses := true, named := ["chrysalis/flow.use", "chrysalis/flow.number", "chrysalis/flow.words", "chrysalis/flow.octets", "chrysalis/flow.refs"], apart := false, laid := [("chrysalis/flow.number", laid_chrysalis_flow_number), ("chrysalis/flow.octets", laid_chrysalis_flow_octets), ("chrysalis/flow.words", laid_chrysalis_flow_words), ("chrysalis/flow.refs", laid_chrysalis_flow_refs), ("chrysalis/flow.use", laid_chrysalis_flow_use)], narrowed := true }
def JudgeBelowUptoSaid : Prop := judgeBelowUptoRow.holds Tryd.pinned (OpenSpec.upto judgeBelowSpec)

/-- 'chrysalislaw10.JudgeFirst', WHERE WHAT IT READS IS OF BULK AT MOST 1048576: true; the input reads as it did. -/
def judgeFirstUptoRow : OpenClaim := { program := "ytliamnpngkojdaadoor", sum := "bfc55f82e9c8632b78c6bc33d46c40e4dd8cd8d657bfb25bdeb1c93ef41b4153", func := "chrysalis/chrysalislaw10.JudgeFirst", spec := "judgeFirst", unfollowed := true, recurses := true, named := ["chrysalis/flow.use", "chrysalis/flow.number", "chrysalis/flow.words", "chrysalis/flow.octets", "chrysalis/flow.refs"], apart := false, laid := [("chrysalis/flow.number", laid_chrysalis_flow_number), ("chrysalis/flow.octets", laid_chrysalis_flow_octets), ("chrysalis/flow.words", laid_chrysalis_flow_words), ("chrysalis/flow.refs", laid_chrysalis_flow_refs), ("chrysalis/flow.use", laid_chrysalis_flow_use)], narrowed := true }
def JudgeFirstUptoSaid : Prop := judgeFirstUptoRow.holds Tryd.pinned (OpenSpec.upto judgeFirstSpec)

/-- 'chrysalislaw10.JudgeWider', WHERE WHAT IT READS IS OF BULK AT MOST 1048576: true; the input reads as it did. -/
def judgeWiderUptoRow : OpenClaim := { program := "ytliamnpngkojdaadoor", sum := "bfc55f82e9c8632b78c6bc33d46c40e4dd8cd8d657bfb25bdeb1c93ef41b4153", func := "chrysalis/chrysalislaw10.JudgeWider", spec := "judgeWider", unfollowed := true, recurses := true, named := ["chrysalis/flow.use", "chrysalis/flow.number", "chrysalis/flow.words", "chrysalis/flow.octets", "chrysalis/flow.refs"], apart := false, laid := [("chrysalis/flow.number", laid_chrysalis_flow_number), ("chrysalis/flow.octets", laid_chrysalis_flow_octets), ("chrysalis/flow.words", laid_chrysalis_flow_words), ("chrysalis/flow.refs", laid_chrysalis_flow_refs), ("chrysalis/flow.use", laid_chrysalis_flow_use)], narrowed := true }
def JudgeWiderUptoSaid : Prop := judgeWiderUptoRow.holds Tryd.pinned (OpenSpec.upto judgeWiderSpec)

end Rows
end Go.Proofs.YtliamnpngkojdaaDoor
