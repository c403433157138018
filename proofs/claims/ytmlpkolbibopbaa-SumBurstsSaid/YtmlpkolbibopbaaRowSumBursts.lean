/- The statement SumBursts: at every input the call answers true, and each argument reads afterwards as it read before.
  Conditions: none but the row's own. -/
import Derived.Test.YtmlpkolbibopbaaRows
import Derived.Test.YtmlpkolbibopbaaSumLaw4
import Derived.WalkKit
import Derived.ProofKit
import Derived.SizedLaws
import Derived.KernelRfl
set_option linter.unusedVariables false
namespace Go.Proofs.Ytmlpkolbibopbaa.sumBursts
open Go Go.Ab Go.RowKit Go.ChangeShapes Go.WideShapes Go.ChangeAt
theorem own : ownKnob Try.prog.godebug = none := by kernel_rfl
noncomputable def sh : Sh := .cons (.sl true false (.int .u8)) (.cons (.int .u16) (.cons (.int .u32) .nil))
theorem facts : rowSh Try.prog Try.f6 sh = true := by kernel_rfl
set_option maxRecDepth 100000 in
theorem lifted (os : Os) (started : os.Started) (H : Type) (enc : TypeId × Value → H) :
    ReturnsInHanded {} Try.checked os 6 .any (Rows.sumBurstsSpec.pre6 enc Try.prog Try.f6 Rows.sumBurstsRow.domain false) (Rows.sumBurstsSpec.post enc Try.prog Try.f6 false true false false) := by
  refine returnsInHanded_of_change (C := Try.checked) own started (by kernel_rfl) Try.func6
    (ChangeSpec.witness6 (enc := enc) (C := Try.checked) false ⟨#[], #[.slice none 0 0, .int .u16 0, .int .u32 0], []⟩ 8 (by kernel_rfl) (by kernel_rfl) (by kernel_rfl) (by kernel_rfl)) ?_
  intro W base args ds gs before hval hW hcnd _
  exact row_contract (sh := sh) facts rfl (fun (ds : List (DataW H)) h => match ds, h with | [d1, d2, d3], _ => rfl)
    (fun d hf W avs vargs hle hlen hv => Exists.elim (Sx.bursts_plain d hf) fun n hn => calls_true (Sx.law02SumBursts_ok n) (a := d) (b := true) hn rfl ⟨hlen, hle, rfl⟩ hv) hval hW
theorem over : Rows.sumBurstsRow.holds Try.pinned (OpenSpec.ofChange Rows.sumBurstsSpec) :=
  OpenClaim.holds_of_wide 6 Try.f6 rfl rfl rfl rfl rfl rfl rfl ⟨rfl, rfl, rfl, rfl, rfl⟩ rfl rfl rfl rfl rfl (by kernel_rfl) Try.func6 (by kernel_rfl)
    (of_decide_eq_true (by kernel_rfl)) (by unfold Func.isWrapper; first | (rw [if_pos (by decide +kernel)]; kernel_rfl) | (rw [if_neg (by decide +kernel)]; exact ⟨rfl, rfl⟩))
    (fun os started H enc _ => lifted os started H enc)
theorem proved : Rows.SumBurstsSaid := over
end Go.Proofs.Ytmlpkolbibopbaa.sumBursts
namespace Go.Proofs.Ytmlpkolbibopbaa
/-- The statement. -/
theorem sumBursts_holds : Rows.SumBurstsSaid := sumBursts.proved
#print axioms sumBursts_holds
end Go.Proofs.Ytmlpkolbibopbaa
