/- The statement ImageOwn: at every input the call answers true, and each argument reads afterwards as it read before.
  Conditions: none but the row's own. -/
import Derived.Test.YtmoldheenagboaaRows
import Derived.Test.YtmoldheenagboaaLaw1
import Derived.Test.YtmoldheenagboaaImgRun3
import Derived.WalkKit
import Derived.ProofKit
import Derived.SizedLaws
import Derived.KernelRfl
import Derived.Test.YtmoldheenagboaaLib34
set_option linter.unusedVariables false
namespace Go.Proofs.Ytmoldheenagboaa.imageOwn
open Go Go.Ab Go.RowKit Go.ChangeShapes Go.WideShapes Go.ChangeAt
theorem own : ownKnob Try.prog.godebug = none := by kernel_rfl
noncomputable def sh : Sh := .cons Sx.shS (.cons (.int .u32) .nil)
theorem facts : rowSh Try.prog Try.f6 sh = true := by kernel_rfl
set_option maxRecDepth 100000 in
theorem lifted (os : Os) (started : os.Started) (H : Type) (enc : TypeId × Value → H) :
    ReturnsInHanded {} Try.checked os 6 .any (Rows.imageOwnSpec.pre6 enc Try.prog Try.f6 Rows.imageOwnRow.domain false) (Rows.imageOwnSpec.post enc Try.prog Try.f6 false true false false) := by
  refine returnsInHanded_of_change_sized (C := Try.checked) own started (by kernel_rfl) Try.func6
    (ChangeSpec.witness6 (enc := enc) (C := Try.checked) false ⟨#[], #[.agg #[.slice none 0 0, .slice none 0 0, .slice none 0 0, .int .i64 0, .int .i64 0, .int .i64 0, .int .u64 0], .int .u32 0], []⟩ 8 (by kernel_rfl) (by kernel_rfl) (by kernel_rfl) (by kernel_rfl)) ?_
  intro W base args ds gs before hval hW hcnd hsz _
  exact zjj (sh := sh) facts rfl (fun (ds : List (DataW H)) h => match ds, h with | [d1, d2], _ => rfl)
    (fun d hf W avs vargs hw hle hlen hv => Exists.elim (Sx.zmN d hf) fun n hn => zlq (Sx.zfa n) (a := d) (b := true) hn rfl ⟨hlen, hle, rfl⟩ hw hv) (GlobR.of_none fun g => rfl) hval hW hsz
theorem over : Rows.imageOwnRow.holds Try.pinned (OpenSpec.ofChange Rows.imageOwnSpec) :=
  OpenClaim.holds_of_wide 6 Try.f6 rfl rfl rfl rfl rfl rfl rfl ⟨rfl, rfl, rfl, rfl, rfl⟩ rfl rfl rfl rfl rfl (by kernel_rfl) Try.func6 (by kernel_rfl)
    (of_decide_eq_true (by kernel_rfl)) (by unfold Func.isWrapper; first | (rw [if_pos (by decide +kernel)]; kernel_rfl) | (rw [if_neg (by decide +kernel)]; exact ⟨rfl, rfl⟩))
    (fun os started H enc _ => lifted os started H enc)
theorem proved : Rows.ImageOwnSaid := over
end Go.Proofs.Ytmoldheenagboaa.imageOwn
namespace Go.Proofs.Ytmoldheenagboaa
theorem imageOwn_holds : Rows.ImageOwnSaid := imageOwn.proved
#print axioms imageOwn_holds
end Go.Proofs.Ytmoldheenagboaa
