/- The statement SumShort: at every input the call answers true, and each argument reads afterwards as it read before.
  Conditions: none but the row's own. -/
import Derived.Test.YtmlpkolbibopbaaRows
import Derived.Test.YtmlpkolbibopbaaSumRowPlain
import Derived.WalkKit
import Derived.ProofKit
import Derived.SizedLaws
import Derived.KernelRfl
set_option linter.unusedVariables false
namespace Go.Proofs.Ytmlpkolbibopbaa.sumShort
open Go Go.Ab Go.RowKit Go.ChangeShapes Go.WideShapes Go.ChangeAt
theorem own : ownKnob Try.prog.godebug = none := by kernel_rfl
noncomputable def sh : Sh := .cons (.sl true false (.int .u8)) .nil
theorem facts : rowSh Try.prog Try.f7 sh = true := by kernel_rfl
set_option maxRecDepth 100000 in
theorem lifted (os : Os) (started : os.Started) (H : Type) (enc : TypeId × Value → H) :
    ReturnsInHanded {} Try.checked os 7 .any (Rows.sumShortSpec.pre6 enc Try.prog Try.f7 Rows.sumShortRow.domain false) (Rows.sumShortSpec.post enc Try.prog Try.f7 false true false false) := by
  refine returnsInHanded_of_change (C := Try.checked) own started (by kernel_rfl) Try.func7
    (ChangeSpec.witness6 (enc := enc) (C := Try.checked) false ⟨#[], #[.slice none 0 0], []⟩ 8 (by kernel_rfl) (by kernel_rfl) (by kernel_rfl) (by kernel_rfl)) ?_
  intro W base args ds gs before hval hW hcnd _
  exact row_contract (sh := sh) facts rfl (fun (ds : List (DataW H)) h => match ds, h with | [d1], _ => rfl)
    (fun d hf W avs vargs hle hlen hv => Exists.elim (Sx.short_plain d hf) fun n hn => calls_true (Sx.law02SumShort_ok n) (a := d) (b := true) hn rfl ⟨hlen, hle, rfl⟩ hv) hval hW
theorem over : Rows.sumShortRow.holds Try.pinned (OpenSpec.ofChange Rows.sumShortSpec) :=
  OpenClaim.holds_of_wide 7 Try.f7 rfl rfl rfl rfl rfl rfl rfl ⟨rfl, rfl, rfl, rfl, rfl⟩ rfl rfl rfl rfl rfl (by kernel_rfl) Try.func7 (by kernel_rfl)
    (of_decide_eq_true (by kernel_rfl)) (by unfold Func.isWrapper; first | (rw [if_pos (by decide +kernel)]; kernel_rfl) | (rw [if_neg (by decide +kernel)]; exact ⟨rfl, rfl⟩))
    (fun os started H enc _ => lifted os started H enc)
theorem proved : Rows.SumShortSaid := over
end Go.Proofs.Ytmlpkolbibopbaa.sumShort
namespace Go.Proofs.Ytmlpkolbibopbaa
/-- The statement. -/
theorem sumShort_holds : Rows.SumShortSaid := sumShort.proved
#print axioms sumShort_holds
end Go.Proofs.Ytmlpkolbibopbaa
