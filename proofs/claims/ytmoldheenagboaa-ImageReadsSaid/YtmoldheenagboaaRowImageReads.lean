import Derived.Test.YtmoldheenagboaaRows
import Derived.Test.YtmoldheenagboaaLaw1
import Derived.Test.YtmoldheenagboaaImgRun3
import Derived.Test.YtmoldheenagboaaLib34
set_option linter.unusedVariables false
namespace Go.Proofs.Ytmoldheenagboaa.imageReads
open Go Go.Ab Go.RowKit Go.ChangeShapes Go.WideShapes Go.ChangeAt
theorem own : ownKnob Try.prog.godebug = none := by kernel_rfl
noncomputable def sh : Sh := .cons (.sl true false (.int .u8)) .nil
theorem facts : KH Try.prog Try.f4 sh = true := by kernel_rfl
set_option maxRecDepth 100000 in
theorem lifted (os : Os) (started : os.Started) (H : Type) (enc : TypeId × Value → H) :
    ReturnsInHanded {} Try.checked os 4 .any (Rows.imageReadsSpec.pre6 enc Try.prog Try.f4 Rows.imageReadsRow.domain false) (Rows.imageReadsSpec.post enc Try.prog Try.f4 false true false false) := by
  refine returnsInHanded_of_change_sized (C := Try.checked) own started (by kernel_rfl) Try.func4
    (ChangeSpec.witness6 (enc := enc) (C := Try.checked) false ⟨#[], #[.slice none 0 0], []⟩ 8 (by kernel_rfl) (by kernel_rfl) (by kernel_rfl) (by kernel_rfl)) ?_
  intro W base args ds gs before hval hW hcnd hsz _
  exact Fo (sh := sh) facts rfl (fun (ds : List (DataW H)) h => match ds, h with | [d1], _ => rfl)
    (fun d hf W avs vargs hw hle hlen hv => Exists.elim (Sx.Hn d hf) fun n hn => HT (Sx.sN n) (a := d) (b := true) hn rfl ⟨hlen, hle, rfl⟩ hw hv) (oQ.of_none fun g => rfl) hval hW hsz
theorem over : Rows.imageReadsRow.holds Try.pinned (OpenSpec.ofChange Rows.imageReadsSpec) :=
  OpenClaim.holds_of_wide 4 Try.f4 rfl rfl rfl rfl rfl rfl rfl ⟨rfl, rfl, rfl, rfl, rfl⟩ rfl rfl rfl rfl rfl (by kernel_rfl) Try.func4 (by kernel_rfl)
    (of_decide_eq_true (by kernel_rfl)) (by unfold Func.isWrapper; first | (rw [if_pos (by decide +kernel)]; kernel_rfl) | (rw [if_neg (by decide +kernel)]; exact ⟨rfl, rfl⟩))
    (fun os started H enc _ => lifted os started H enc)
theorem proved : Rows.ImageReadsSaid := over
end Go.Proofs.Ytmoldheenagboaa.imageReads
namespace Go.Proofs.Ytmoldheenagboaa
theorem imageReads_holds : Rows.ImageReadsSaid := imageReads.proved
#print axioms imageReads_holds
end Go.Proofs.Ytmoldheenagboaa
