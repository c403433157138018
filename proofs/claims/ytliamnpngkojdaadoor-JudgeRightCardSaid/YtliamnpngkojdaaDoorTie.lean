/-
  DERIVED. GIVEN WITH THE SEED: THE PROGRAM's TIES (one call each: nine closed facts by the kernel) AND EACH ROW's TIE, after the 31st guide's Derived/Test/Toyas{Tie, Card}.lean. No idea stands in it: it is a product of the set-up. Laid BY PROGRAM, IN A SANDBOX (cutbox-door.mjs). By AI agents, Wed Nov 11 2026. No macro, syntax, notation, axiom, sorry.
-/
import Derived.Test.YtliamnpngkojdaaDoorRows
import Derived.LaidByTextLater
import Derived.SevenTiedAt
import Derived.LaidSub
import Derived.LaidOnce
namespace Go.Proofs.YtliamnpngkojdaaDoor
open Go
set_option maxRecDepth 100000
theorem seatTie1 : Tryd.prog.laidByTextLater [("chrysalis/flow.number", Rows.laid_chrysalis_flow_number), ("chrysalis/flow.octets", Rows.laid_chrysalis_flow_octets), ("chrysalis/flow.words", Rows.laid_chrysalis_flow_words), ("chrysalis/flow.refs", Rows.laid_chrysalis_flow_refs), ("chrysalis/flow.use", Rows.laid_chrysalis_flow_use)] [.data, .data, .data, .data, .data] true :=
  Program.laidByTextLater_by_one 34 8 3 (by kernel_rfl) (by kernel_rfl) (by kernel_rfl) (by kernel_rfl) (by kernel_rfl) (by kernel_rfl) (fun _ _ => by kernel_rfl)
theorem noOwnUnsafe : Tryd.pinned.checked.prog.headLifts.contains "ownunsafe" = false := by kernel_rfl
theorem tie : Tryd.prog.laidByTextLater [("chrysalis/flow.number", Rows.laid_chrysalis_flow_number), ("chrysalis/flow.octets", Rows.laid_chrysalis_flow_octets), ("chrysalis/flow.words", Rows.laid_chrysalis_flow_words), ("chrysalis/flow.refs", Rows.laid_chrysalis_flow_refs), ("chrysalis/flow.use", Rows.laid_chrysalis_flow_use)] [.data, .data, .data, .data, .data] true :=
  Program.laidByTextLater.sub seatTie1 ["chrysalis/flow.number", "chrysalis/flow.octets", "chrysalis/flow.words", "chrysalis/flow.refs", "chrysalis/flow.use"] (by kernel_rfl) (by kernel_rfl)
theorem flowSteps_row_tie : Rows.flowStepsRow.laidByTextAt .later Tryd.pinned [.data, .data, .data, .data, .data] true :=
  OpenClaim.laidByTextAt_later rfl rfl tie noOwnUnsafe
theorem flowLocals_row_tie : Rows.flowLocalsRow.laidByTextAt .later Tryd.pinned [.data, .data, .data, .data, .data] true :=
  OpenClaim.laidByTextAt_later rfl rfl tie noOwnUnsafe
theorem flowBelow_row_tie : Rows.flowBelowRow.laidByTextAt .later Tryd.pinned [.data, .data, .data, .data, .data] true :=
  OpenClaim.laidByTextAt_later rfl rfl tie noOwnUnsafe
theorem flowHeights_row_tie : Rows.flowHeightsRow.laidByTextAt .later Tryd.pinned [.data, .data, .data, .data, .data] true :=
  OpenClaim.laidByTextAt_later rfl rfl tie noOwnUnsafe
theorem flowOwn_row_tie : Rows.flowOwnRow.laidByTextAt .later Tryd.pinned [.data, .data, .data, .data, .data] true :=
  OpenClaim.laidByTextAt_later rfl rfl tie noOwnUnsafe
theorem judgeRight_row_tie : Rows.judgeRightRow.laidByTextAt .later Tryd.pinned [.data, .data, .data, .data, .data] true :=
  OpenClaim.laidByTextAt_later rfl rfl tie noOwnUnsafe
theorem judgeBelow_row_tie : Rows.judgeBelowRow.laidByTextAt .later Tryd.pinned [.data, .data, .data, .data, .data] true :=
  OpenClaim.laidByTextAt_later rfl rfl tie noOwnUnsafe
theorem judgeFirst_row_tie : Rows.judgeFirstRow.laidByTextAt .later Tryd.pinned [.data, .data, .data, .data, .data] true :=
  OpenClaim.laidByTextAt_later rfl rfl tie noOwnUnsafe
theorem judgeWider_row_tie : Rows.judgeWiderRow.laidByTextAt .later Tryd.pinned [.data, .data, .data, .data, .data] true :=
  OpenClaim.laidByTextAt_later rfl rfl tie noOwnUnsafe
theorem flowStepsUpto_row_tie : Rows.flowStepsUptoRow.laidByTextAt .later Tryd.pinned [.data, .data, .data, .data, .data] true :=
  OpenClaim.laidByTextAt_later rfl rfl tie noOwnUnsafe
theorem flowLocalsUpto_row_tie : Rows.flowLocalsUptoRow.laidByTextAt .later Tryd.pinned [.data, .data, .data, .data, .data] true :=
  OpenClaim.laidByTextAt_later rfl rfl tie noOwnUnsafe
theorem flowBelowUpto_row_tie : Rows.flowBelowUptoRow.laidByTextAt .later Tryd.pinned [.data, .data, .data, .data, .data] true :=
  OpenClaim.laidByTextAt_later rfl rfl tie noOwnUnsafe
theorem flowHeightsUpto_row_tie : Rows.flowHeightsUptoRow.laidByTextAt .later Tryd.pinned [.data, .data, .data, .data, .data] true :=
  OpenClaim.laidByTextAt_later rfl rfl tie noOwnUnsafe
theorem flowOwnUpto_row_tie : Rows.flowOwnUptoRow.laidByTextAt .later Tryd.pinned [.data, .data, .data, .data, .data] true :=
  OpenClaim.laidByTextAt_later rfl rfl tie noOwnUnsafe
theorem judgeRightUpto_row_tie : Rows.judgeRightUptoRow.laidByTextAt .later Tryd.pinned [.data, .data, .data, .data, .data] true :=
  OpenClaim.laidByTextAt_later rfl rfl tie noOwnUnsafe
theorem judgeBelowUpto_row_tie : Rows.judgeBelowUptoRow.laidByTextAt .later Tryd.pinned [.data, .data, .data, .data, .data] true :=
  OpenClaim.laidByTextAt_later rfl rfl tie noOwnUnsafe
theorem judgeFirstUpto_row_tie : Rows.judgeFirstUptoRow.laidByTextAt .later Tryd.pinned [.data, .data, .data, .data, .data] true :=
  OpenClaim.laidByTextAt_later rfl rfl tie noOwnUnsafe
theorem judgeWiderUpto_row_tie : Rows.judgeWiderUptoRow.laidByTextAt .later Tryd.pinned [.data, .data, .data, .data, .data] true :=
  OpenClaim.laidByTextAt_later rfl rfl tie noOwnUnsafe
end Go.Proofs.YtliamnpngkojdaaDoor
