/- The statement ModuleCuts: at every input the call answers true, and each argument reads afterwards as it read before.
  Conditions: none but the row's own. -/
import Derived.Test.YtmfemlkbeehioaaRows
import Derived.Test.YtmfemlkbeehioaaLaw1
import Derived.Test.YtmfemlkbeehioaaModRRun2
import Derived.WalkKit
import Derived.ProofKit
import Derived.SizedLaws
import Derived.KernelRfl
import Derived.Test.YtmfemlkbeehioaaLib34
set_option linter.unusedVariables false
namespace Go.Proofs.Ytmfemlkbeehioaa.moduleCuts
open Go Go.Ab Go.RowKit Go.ChangeShapes Go.WideShapes Go.ChangeAt
theorem own : ownKnob Try.prog.godebug = none := by kernel_rfl
noncomputable def sh : Sh := .cons Sx.shM (.cons (.int .u16) (.cons (.int .u8) .nil))
theorem facts : rowSh Try.prog Try.f10 sh = true := by kernel_rfl
set_option maxRecDepth 100000 in
theorem lifted (os : Os) (started : os.Started) (H : Type) (enc : TypeId × Value → H) :
    ReturnsInHanded {} Try.checked os 10 .any (Rows.moduleCutsSpec.pre6 enc Try.prog Try.f10 Rows.moduleCutsRow.domain false) (Rows.moduleCutsSpec.post enc Try.prog Try.f10 false true false false) := by
  refine returnsInHanded_of_change_sized (C := Try.checked) own started (by kernel_rfl) Try.func10
    (ChangeSpec.witness6 (enc := enc) (C := Try.checked) false ⟨#[], #[.agg #[.slice none 0 0, .slice none 0 0, .slice none 0 0, .slice none 0 0, .slice none 0 0], .int .u16 0, .int .u8 0], []⟩ 8 (by kernel_rfl) (by kernel_rfl) (by kernel_rfl) (by kernel_rfl)) ?_
  intro W base args ds gs before hval hW hcnd hsz _
  exact ziX (sh := sh) facts rfl (fun (ds : List (DataW H)) h => match ds, h with | [d1, d2, d3], _ => rfl)
    (fun d hf W avs vargs hw hle hlen hv => Exists.elim (Sx.zlM d hf) fun n hn => zlF (Sx.zdX n) (a := d) (b := true) hn rfl ⟨hlen, hle, rfl⟩ hw hv) (GlobR.of_none fun g => rfl) hval hW hsz
theorem over : Rows.moduleCutsRow.holds Try.pinned (OpenSpec.ofChange Rows.moduleCutsSpec) :=
  OpenClaim.holds_of_wide 10 Try.f10 rfl rfl rfl rfl rfl rfl rfl ⟨rfl, rfl, rfl, rfl, rfl⟩ rfl rfl rfl rfl rfl (by kernel_rfl) Try.func10 (by kernel_rfl)
    (of_decide_eq_true (by kernel_rfl)) (by unfold Func.isWrapper; first | (rw [if_pos (by decide +kernel)]; kernel_rfl) | (rw [if_neg (by decide +kernel)]; exact ⟨rfl, rfl⟩))
    (fun os started H enc _ => lifted os started H enc)
theorem proved : Rows.ModuleCutsSaid := over
end Go.Proofs.Ytmfemlkbeehioaa.moduleCuts
namespace Go.Proofs.Ytmfemlkbeehioaa
theorem moduleCuts_holds : Rows.ModuleCutsSaid := moduleCuts.proved
#print axioms moduleCuts_holds
end Go.Proofs.Ytmfemlkbeehioaa
