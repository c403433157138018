/- The statement ModuleReads: at every input the call answers true, and each argument reads afterwards as it read before.
  Conditions: none but the row's own. -/
import Derived.Test.YtmfemlkbeehioaaRows
import Derived.Test.YtmfemlkbeehioaaModRowPlain
import Derived.Test.YtmfemlkbeehioaaModRRun2
import Derived.WalkKit
import Derived.ProofKit
import Derived.SizedLaws
import Derived.KernelRfl
set_option linter.unusedVariables false
namespace Go.Proofs.Ytmfemlkbeehioaa.moduleReads
open Go Go.Ab Go.RowKit Go.ChangeShapes Go.WideShapes Go.ChangeAt
theorem own : ownKnob Try.prog.godebug = none := by kernel_rfl
noncomputable def sh : Sh := .cons (.sl true false (.int .u8)) .nil
theorem facts : rowSh Try.prog Try.f8 sh = true := by kernel_rfl
set_option maxRecDepth 100000 in
theorem lifted (os : Os) (started : os.Started) (H : Type) (enc : TypeId × Value → H) :
    ReturnsInHanded {} Try.checked os 8 .any (Rows.moduleReadsSpec.pre6 enc Try.prog Try.f8 Rows.moduleReadsRow.domain false) (Rows.moduleReadsSpec.post enc Try.prog Try.f8 false true false false) := by
  refine returnsInHanded_of_change_sized (C := Try.checked) own started (by kernel_rfl) Try.func8
    (ChangeSpec.witness6 (enc := enc) (C := Try.checked) false ⟨#[], #[.slice none 0 0], []⟩ 8 (by kernel_rfl) (by kernel_rfl) (by kernel_rfl) (by kernel_rfl)) ?_
  intro W base args ds gs before hval hW hcnd hsz _
  exact row_contract (sh := sh) facts rfl (fun (ds : List (DataW H)) h => match ds, h with | [d1], _ => rfl)
    (fun d hf W avs vargs hle hlen hv => Exists.elim (Sx.reads_plain d hf) fun n hn => calls_true (Sx.law06ModuleReads_ok n) (a := d) (b := true) hn rfl ⟨hlen, hle, rfl⟩ hv) hval hW hsz
theorem over : Rows.moduleReadsRow.holds Try.pinned (OpenSpec.ofChange Rows.moduleReadsSpec) :=
  OpenClaim.holds_of_wide 8 Try.f8 rfl rfl rfl rfl rfl rfl rfl ⟨rfl, rfl, rfl, rfl, rfl⟩ rfl rfl rfl rfl rfl (by kernel_rfl) Try.func8 (by kernel_rfl)
    (of_decide_eq_true (by kernel_rfl)) (by unfold Func.isWrapper; first | (rw [if_pos (by decide +kernel)]; kernel_rfl) | (rw [if_neg (by decide +kernel)]; exact ⟨rfl, rfl⟩))
    (fun os started H enc _ => lifted os started H enc)
theorem proved : Rows.ModuleReadsSaid := over
end Go.Proofs.Ytmfemlkbeehioaa.moduleReads
namespace Go.Proofs.Ytmfemlkbeehioaa
theorem moduleReads_holds : Rows.ModuleReadsSaid := moduleReads.proved
#print axioms moduleReads_holds
end Go.Proofs.Ytmfemlkbeehioaa
