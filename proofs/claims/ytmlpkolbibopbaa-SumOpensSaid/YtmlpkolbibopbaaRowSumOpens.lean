/- The statement SumOpens: at every input the call answers true, and each argument reads afterwards as it read before.
  Conditions: none but the row's own. -/
import Derived.Test.YtmlpkolbibopbaaRows
import Derived.Test.YtmlpkolbibopbaaSumRowPlain
import Derived.WalkKit
import Derived.ProofKit
import Derived.SizedLaws
import Derived.KernelRfl
set_option linter.unusedVariables false
namespace Go.Proofs.Ytmlpkolbibopbaa.sumOpens
open Go Go.Ab Go.RowKit Go.ChangeShapes Go.WideShapes Go.ChangeAt
theorem own : ownKnob Try.prog.godebug = none := by kernel_rfl
noncomputable def sh : Sh := .cons (.sl true false (.int .u8)) .nil
theorem facts : rowSh Try.prog Try.f5 sh = true := by kernel_rfl
set_option maxRecDepth 100000 in
theorem lifted (os : Os) (started : os.Started) (H : Type) (enc : TypeId × Value → H) :
    ReturnsInHanded {} Try.checked os 5 .any (Rows.sumOpensSpec.pre6 enc Try.prog Try.f5 Rows.sumOpensRow.domain false) (Rows.sumOpensSpec.post enc Try.prog Try.f5 false true false false) := by
  refine returnsInHanded_of_change (C := Try.checked) own started (by kernel_rfl) Try.func5
    (ChangeSpec.witness6 (enc := enc) (C := Try.checked) false ⟨#[], #[.slice none 0 0], []⟩ 8 (by kernel_rfl) (by kernel_rfl) (by kernel_rfl) (by kernel_rfl)) ?_
  intro W base args ds gs before hval hW hcnd _
  exact row_contract (sh := sh) facts rfl (fun (ds : List (DataW H)) h => match ds, h with | [d1], _ => rfl)
    (fun d hf W avs vargs hle hlen hv => Exists.elim (Sx.opens_plain d hf) fun n hn => calls_true (Sx.law02SumOpens_ok n) (a := d) (b := true) hn rfl ⟨hlen, hle, rfl⟩ hv) hval hW
theorem over : Rows.sumOpensRow.holds Try.pinned (OpenSpec.ofChange Rows.sumOpensSpec) :=
  OpenClaim.holds_of_wide 5 Try.f5 rfl rfl rfl rfl rfl rfl rfl ⟨rfl, rfl, rfl, rfl, rfl⟩ rfl rfl rfl rfl rfl (by kernel_rfl) Try.func5 (by kernel_rfl)
    (of_decide_eq_true (by kernel_rfl)) (by unfold Func.isWrapper; first | (rw [if_pos (by decide +kernel)]; kernel_rfl) | (rw [if_neg (by decide +kernel)]; exact ⟨rfl, rfl⟩))
    (fun os started H enc _ => lifted os started H enc)
theorem proved : Rows.SumOpensSaid := over
end Go.Proofs.Ytmlpkolbibopbaa.sumOpens
namespace Go.Proofs.Ytmlpkolbibopbaa
/-- The statement. -/
theorem sumOpens_holds : Rows.SumOpensSaid := sumOpens.proved
#print axioms sumOpens_holds
end Go.Proofs.Ytmlpkolbibopbaa
