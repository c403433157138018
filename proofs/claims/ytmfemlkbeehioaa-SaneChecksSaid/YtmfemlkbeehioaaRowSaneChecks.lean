/- The statement SaneChecks: at every input the call answers true, and each argument reads afterwards as it read before.
  Conditions: none but the row's own. -/
import Derived.Test.YtmfemlkbeehioaaRows
import Derived.Test.YtmfemlkbeehioaaSaneRowPlain
import Derived.Test.YtmfemlkbeehioaaSaneRun1
import Derived.WalkKit
import Derived.ProofKit
import Derived.SizedLaws
import Derived.KernelRfl
set_option linter.unusedVariables false
namespace Go.Proofs.Ytmfemlkbeehioaa.saneChecks
open Go Go.Ab Go.RowKit Go.ChangeShapes Go.WideShapes Go.ChangeAt
theorem own : ownKnob Try.prog.godebug = none := by kernel_rfl
noncomputable def sh : Sh := .cons Sx.shM .nil
theorem facts : rowSh Try.prog Try.f4 sh = true := by kernel_rfl
set_option maxRecDepth 100000 in
theorem lifted (os : Os) (started : os.Started) (H : Type) (enc : TypeId × Value → H) :
    ReturnsInHanded {} Try.checked os 4 .any (Rows.saneChecksSpec.pre6 enc Try.prog Try.f4 Rows.saneChecksRow.domain false) (Rows.saneChecksSpec.post enc Try.prog Try.f4 false true false false) := by
  refine returnsInHanded_of_change_sized (C := Try.checked) own started (by kernel_rfl) Try.func4
    (ChangeSpec.witness6 (enc := enc) (C := Try.checked) false ⟨#[], #[.agg #[.slice none 0 0, .slice none 0 0, .slice none 0 0, .slice none 0 0, .slice none 0 0]], []⟩ 8 (by kernel_rfl) (by kernel_rfl) (by kernel_rfl) (by kernel_rfl)) ?_
  intro W base args ds gs before hval hW hcnd hsz _
  exact row_contract (sh := sh) facts rfl (fun (ds : List (DataW H)) h => match ds, h with | [d1], _ => rfl)
    (fun d hf W avs vargs hle hlen hv => Exists.elim (Sx.checks_plain d hf) fun n hn => calls_true (Sx.law07SaneChecks_ok n) (a := d) (b := true) hn rfl ⟨hlen, hle, rfl⟩ hv) hval hW hsz
theorem over : Rows.saneChecksRow.holds Try.pinned (OpenSpec.ofChange Rows.saneChecksSpec) :=
  OpenClaim.holds_of_wide 4 Try.f4 rfl rfl rfl rfl rfl rfl rfl ⟨rfl, rfl, rfl, rfl, rfl⟩ rfl rfl rfl rfl rfl (by kernel_rfl) Try.func4 (by kernel_rfl)
    (of_decide_eq_true (by kernel_rfl)) (by unfold Func.isWrapper; first | (rw [if_pos (by decide +kernel)]; kernel_rfl) | (rw [if_neg (by decide +kernel)]; exact ⟨rfl, rfl⟩))
    (fun os started H enc _ => lifted os started H enc)
theorem proved : Rows.SaneChecksSaid := over
end Go.Proofs.Ytmfemlkbeehioaa.saneChecks
namespace Go.Proofs.Ytmfemlkbeehioaa
/-- The statement. -/
theorem saneChecks_holds : Rows.SaneChecksSaid := saneChecks.proved
#print axioms saneChecks_holds
end Go.Proofs.Ytmfemlkbeehioaa
