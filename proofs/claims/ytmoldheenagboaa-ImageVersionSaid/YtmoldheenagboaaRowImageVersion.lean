/- The statement ImageVersion: at every input the call answers true, and each argument reads afterwards as it read before.
  Conditions: none but the row's own. -/
import Derived.Test.YtmoldheenagboaaRows
import Derived.Test.YtmoldheenagboaaLaw1
import Derived.Test.YtmoldheenagboaaImgRun3
import Derived.WalkKit
import Derived.ProofKit
import Derived.SizedLaws
import Derived.KernelRfl
import Derived.Test.YtmoldheenagboaaLib34
set_option linter.unusedVariables false
namespace Go.Proofs.Ytmoldheenagboaa.imageVersion
open Go Go.Ab Go.RowKit Go.ChangeShapes Go.WideShapes Go.ChangeAt
theorem own : ownKnob Try.prog.godebug = none := by kernel_rfl
noncomputable def sh : Sh := .cons (.sl true false (.int .u8)) .nil
theorem facts : rowSh Try.prog Try.f5 sh = true := by kernel_rfl
set_option maxRecDepth 100000 in
theorem lifted (os : Os) (started : os.Started) (H : Type) (enc : TypeId × Value → H) :
    ReturnsInHanded {} Try.checked os 5 .any (Rows.imageVersionSpec.pre6 enc Try.prog Try.f5 Rows.imageVersionRow.domain false) (Rows.imageVersionSpec.post enc Try.prog Try.f5 false true false false) := by
  refine returnsInHanded_of_change_sized (C := Try.checked) own started (by kernel_rfl) Try.func5
    (ChangeSpec.witness6 (enc := enc) (C := Try.checked) false ⟨#[], #[.slice none 0 0], []⟩ 8 (by kernel_rfl) (by kernel_rfl) (by kernel_rfl) (by kernel_rfl)) ?_
  intro W base args ds gs before hval hW hcnd hsz _
  exact ziy (sh := sh) facts rfl (fun (ds : List (DataW H)) h => match ds, h with | [d1], _ => rfl)
    (fun d hf W avs vargs hw hle hlen hv => Exists.elim (Sx.zhj d hf) fun n hn => zku (Sx.zcA n) (a := d) (b := true) hn rfl ⟨hlen, hle, rfl⟩ hw hv) (GlobR.of_none fun g => rfl) hval hW hsz
theorem over : Rows.imageVersionRow.holds Try.pinned (OpenSpec.ofChange Rows.imageVersionSpec) :=
  OpenClaim.holds_of_wide 5 Try.f5 rfl rfl rfl rfl rfl rfl rfl ⟨rfl, rfl, rfl, rfl, rfl⟩ rfl rfl rfl rfl rfl (by kernel_rfl) Try.func5 (by kernel_rfl)
    (of_decide_eq_true (by kernel_rfl)) (by unfold Func.isWrapper; first | (rw [if_pos (by decide +kernel)]; kernel_rfl) | (rw [if_neg (by decide +kernel)]; exact ⟨rfl, rfl⟩))
    (fun os started H enc _ => lifted os started H enc)
theorem proved : Rows.ImageVersionSaid := over
end Go.Proofs.Ytmoldheenagboaa.imageVersion
namespace Go.Proofs.Ytmoldheenagboaa
theorem imageVersion_holds : Rows.ImageVersionSaid := imageVersion.proved
#print axioms imageVersion_holds
end Go.Proofs.Ytmoldheenagboaa
