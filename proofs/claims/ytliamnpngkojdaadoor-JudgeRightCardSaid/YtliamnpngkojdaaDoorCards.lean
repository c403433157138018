/-
  DERIVED. GIVEN WITH THE SEED: THE CARDS: each row of YtliamnpngkojdaaDoorRows.lean that lists a variable, with what it lists TIED to the program's text (the seventh form; the later family's looks); each row that meets fmt, with fmt's text TOLD by the authors' own Lean function (tested against real Go, not proved from fmt's source: count such statements apart). THE CARD IS WHAT COUNTS. Prove the row's statement (the work); the ties are given (YtliamnpngkojdaaDoorTie.lean); close each card by the builder's one call (the guide's Derived/Test/ToyasCard.lean, 'card_holds'). Laid BY PROGRAM, IN A SANDBOX (cutbox-door.mjs). By AI agents, Wed Nov 11 2026. No macro, syntax, notation, axiom, sorry.
-/
import Derived.Test.YtliamnpngkojdaaDoorRows
import GoSem.ClaimSeven
namespace Go.Proofs.YtliamnpngkojdaaDoor
namespace Rows

/-- THE TIED CARD OF 'chrysalislaw08.FlowSteps'. -/
def flowStepsCard : Claim7 := { stood := { row := flowStepsRow, standIns := [], harness := (true, "232f948264747232d392720e58d3d817670e615535002a07a0fad7f265756174"), looks := false }, kinds := [], alts := [], laidByText := true, laidKinds := [.data, .data, .data, .data, .data], laidTests := true, laidLooks := .later }
def FlowStepsCardSaid : Prop := Claim7.holds Tryd.pinned (.plain (OpenSpec.ofChange flowStepsSpec)) flowStepsCard

/-- THE TIED CARD OF 'chrysalislaw08.FlowLocals'. -/
def flowLocalsCard : Claim7 := { stood := { row := flowLocalsRow, standIns := [], harness := (true, "232f948264747232d392720e58d3d817670e615535002a07a0fad7f265756174"), looks := false }, kinds := [], alts := [], laidByText := true, laidKinds := [.data, .data, .data, .data, .data], laidTests := true, laidLooks := .later }
def FlowLocalsCardSaid : Prop := Claim7.holds Tryd.pinned (.plain (OpenSpec.ofChange flowLocalsSpec)) flowLocalsCard

/-- THE TIED CARD OF 'chrysalislaw08.FlowBelow'. -/
def flowBelowCard : Claim7 := { stood := { row := flowBelowRow, standIns := [], harness := (true, "232f948264747232d392720e58d3d817670e615535002a07a0fad7f265756174"), looks := false }, kinds := [], alts := [], laidByText := true, laidKinds := [.data, .data, .data, .data, .data], laidTests := true, laidLooks := .later }
def FlowBelowCardSaid : Prop := Claim7.holds Tryd.pinned (.plain (OpenSpec.ofChange flowBelowSpec)) flowBelowCard

/-- THE TIED CARD OF 'chrysalislaw08.FlowHeights'. -/
def flowHeightsCard : Claim7 := { stood := { row := flowHeightsRow, standIns := [], harness := (true, "232f948264747232d392720e58d3d817670e615535002a07a0fad7f265756174"), looks := false }, kinds := [], alts := [], laidByText := true, laidKinds := [.data, .data, .data, .data, .data], laidTests := true, laidLooks := .later }
def FlowHeightsCardSaid : Prop := Claim7.holds Tryd.pinned (.plain (OpenSpec.ofChange flowHeightsSpec)) flowHeightsCard

/-- THE TIED CARD OF 'chrysalislaw08.FlowOwn'. -/
def flowOwnCard : Claim7 := { stood := { row := flowOwnRow, standIns := [], harness := (true, "232f948264747232d392720e58d3d817670e615535002a07a0fad7f265756174"), looks := false }, kinds := [], alts := [], laidByText := true, laidKinds := [.data, .data, .data, .data, .data], laidTests := true, laidLooks := .later }
def FlowOwnCardSaid : Prop := Claim7.holds Tryd.pinned (.plain (OpenSpec.ofChange flowOwnSpec)) flowOwnCard

/-- THE TIED CARD OF 'chrysalislaw10.JudgeRight'. -/
def judgeRightCard : Claim7 := { stood := { row := judgeRightRow, standIns := [], harness := (true, "232f948264747232d392720e58d3d817670e615535002a07a0fad7f265756174"), looks := false }, kinds := [], alts := [], laidByText := true, laidKinds := [.data, .data, .data, .data, .data], laidTests := true, laidLooks := .later }
def JudgeRightCardSaid : Prop := Claim7.holds Tryd.pinned (.plain (OpenSpec.ofChange judgeRightSpec)) judgeRightCard

/-- THE TIED CARD OF 'chrysalislaw10.JudgeBelow'. -/
def judgeBelowCard : Claim7 := { stood := { row := judgeBelowRow, standIns := [], harness := (true, "232f948264747232d392720e58d3d817670e615535002a07a0fad7f265756174"), looks := false }, kinds := [], alts := [], laidByText := true, laidKinds := [.data, .data, .data, .data, .data], laidTests := true, laidLooks := .later }
def JudgeBelowCardSaid : Prop := Claim7.holds Tryd.pinned (.plain (OpenSpec.ofChange judgeBelowSpec)) judgeBelowCard

/-- THE TIED CARD OF 'chrysalislaw10.JudgeFirst'. -/
def judgeFirstCard : Claim7 := { stood := { row := judgeFirstRow, standIns := [], harness := (true, "232f948264747232d392720e58d3d817670e615535002a07a0fad7f265756174"), looks := false }, kinds := [], alts := [], laidByText := true, laidKinds := [.data, .data, .data, .data, .data], laidTests := true, laidLooks := .later }
def JudgeFirstCardSaid : Prop := Claim7.holds Tryd.pinned (.plain (OpenSpec.ofChange judgeFirstSpec)) judgeFirstCard

/-- THE TIED CARD OF 'chrysalislaw10.JudgeWider'. -/
def judgeWiderCard : Claim7 := { stood := { row := judgeWiderRow, standIns := [], harness := (true, "232f948264747232d392720e58d3d817670e615535002a07a0fad7f265756174"), looks := false }, kinds := [], alts := [], laidByText := true, laidKinds := [.data, .data, .data, .data, .data], laidTests := true, laidLooks := .later }
def JudgeWiderCardSaid : Prop := Claim7.holds Tryd.pinned (.plain (OpenSpec.ofChange judgeWiderSpec)) judgeWiderCard

/-- THE SECOND FORM's CARD OF 'chrysalislaw08.FlowSteps'. -/
def flowStepsUptoCard : Claim7 := { stood := { row := flowStepsUptoRow, standIns := [], harness := (true, "232f948264747232d392720e58d3d817670e615535002a07a0fad7f265756174"), looks := false }, kinds := [], alts := [], laidByText := true, laidKinds := [.data, .data, .data, .data, .data], laidTests := true, laidLooks := .later }
def FlowStepsUptoCardSaid : Prop := Claim7.holds Tryd.pinned (.plain (OpenSpec.upto flowStepsSpec)) flowStepsUptoCard

/-- THE SECOND FORM's CARD OF 'chrysalislaw08.FlowLocals'. -/
def flowLocalsUptoCard : Claim7 := { stood := { row := flowLocalsUptoRow, standIns := [], harness := (true, "232f948264747232d392720e58d3d817670e615535002a07a0fad7f265756174"), looks := false }, kinds := [], alts := [], laidByText := true, laidKinds := [.data, .data, .data, .data, .data], laidTests := true, laidLooks := .later }
def FlowLocalsUptoCardSaid : Prop := Claim7.holds Tryd.pinned (.plain (OpenSpec.upto flowLocalsSpec)) flowLocalsUptoCard

/-- THE SECOND FORM's CARD OF 'chrysalislaw08.FlowBelow'. -/
def flowBelowUptoCard : Claim7 := { stood := { row := flowBelowUptoRow, standIns := [], harness := (true, "232f948264747232d392720e58d3d817670e615535002a07a0fad7f265756174"), looks := false }, kinds := [], alts := [], laidByText := true, laidKinds := [.data, .data, .data, .data, .data], laidTests := true, laidLooks := .later }
def FlowBelowUptoCardSaid : Prop := Claim7.holds Tryd.pinned (.plain (OpenSpec.upto flowBelowSpec)) flowBelowUptoCard

/-- THE SECOND FORM's CARD OF 'chrysalislaw08.FlowHeights'. -/
def flowHeightsUptoCard : Claim7 := { stood := { row := flowHeightsUptoRow, standIns := [], harness := (true, "232f948264747232d392720e58d3d817670e615535002a07a0fad7f265756174"), looks := false }, kinds := [], alts := [], laidByText := true, laidKinds := [.data, .data, .data, .data, .data], laidTests := true, laidLooks := .later }
def FlowHeightsUptoCardSaid : Prop := Claim7.holds Tryd.pinned (.plain (OpenSpec.upto flowHeightsSpec)) flowHeightsUptoCard

/-- THE SECOND FORM's CARD OF 'chrysalislaw08.FlowOwn'. -/
def flowOwnUptoCard : Claim7 := { stood := { row := flowOwnUptoRow, standIns := [], harness := (true, "232f948264747232d392720e58d3d817670e615535002a07a0fad7f265756174"), looks := false }, kinds := [], alts := [], laidByText := true, laidKinds := [.data, .data, .data, .data, .data], laidTests := true, laidLooks := .later }
def FlowOwnUptoCardSaid : Prop := Claim7.holds Tryd.pinned (.plain (OpenSpec.upto flowOwnSpec)) flowOwnUptoCard

/-- THE SECOND FORM's CARD OF 'chrysalislaw10.JudgeRight'. -/
def judgeRightUptoCard : Claim7 := { stood := { row := judgeRightUptoRow, standIns := [], harness := (true, "232f948264747232d392720e58d3d817670e615535002a07a0fad7f265756174"), looks := false }, kinds := [], alts := [], laidByText := true, laidKinds := [.data, .data, .data, .data, .data], laidTests := true, laidLooks := .later }
def JudgeRightUptoCardSaid : Prop := Claim7.holds Tryd.pinned (.plain (OpenSpec.upto judgeRightSpec)) judgeRightUptoCard

/-- THE SECOND FORM's CARD OF 'chrysalislaw10.JudgeBelow'. -/
def judgeBelowUptoCard : Claim7 := { stood := { row := judgeBelowUptoRow, standIns := [], harness := (true, "232f948264747232d392720e58d3d817670e615535002a07a0fad7f265756174"), looks := false }, kinds := [], alts := [], laidByText := true, laidKinds := [.data, .data, .data, .data, .data], laidTests := true, laidLooks := .later }
def JudgeBelowUptoCardSaid : Prop := Claim7.holds Tryd.pinned (.plain (OpenSpec.upto judgeBelowSpec)) judgeBelowUptoCard

/-- THE SECOND FORM's CARD OF 'chrysalislaw10.JudgeFirst'. -/
def judgeFirstUptoCard : Claim7 := { stood := { row := judgeFirstUptoRow, standIns := [], harness := (true, "232f948264747232d392720e58d3d817670e615535002a07a0fad7f265756174"), looks := false }, kinds := [], alts := [], laidByText := true, laidKinds := [.data, .data, .data, .data, .data], laidTests := true, laidLooks := .later }
def JudgeFirstUptoCardSaid : Prop := Claim7.holds Tryd.pinned (.plain (OpenSpec.upto judgeFirstSpec)) judgeFirstUptoCard

/-- THE SECOND FORM's CARD OF 'chrysalislaw10.JudgeWider'. -/
def judgeWiderUptoCard : Claim7 := { stood := { row := judgeWiderUptoRow, standIns := [], harness := (true, "232f948264747232d392720e58d3d817670e615535002a07a0fad7f265756174"), looks := false }, kinds := [], alts := [], laidByText := true, laidKinds := [.data, .data, .data, .data, .data], laidTests := true, laidLooks := .later }
def JudgeWiderUptoCardSaid : Prop := Claim7.holds Tryd.pinned (.plain (OpenSpec.upto judgeWiderSpec)) judgeWiderUptoCard
end Rows
end Go.Proofs.YtliamnpngkojdaaDoor
