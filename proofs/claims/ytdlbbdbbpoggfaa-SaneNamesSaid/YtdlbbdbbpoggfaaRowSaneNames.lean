/- The statement SaneNames: at every input the call answers true, and each argument reads afterwards as it read before.
  Conditions: none but the row's own. -/
import Derived.Test.YtdlbbdbbpoggfaaRows
import Derived.Test.YtdlbbdbbpoggfaaLaw1
import Derived.Test.YtdlbbdbbpoggfaaSnRun1
import Derived.WalkKit
import Derived.ProofKit
import Derived.SizedLaws
import Derived.KernelRfl
import Derived.Test.YtdlbbdbbpoggfaaLib32
set_option linter.unusedVariables false
namespace Go.Proofs.Ytdlbbdbbpoggfaa.saneNames
open Go Go.Ab Go.RowKit Go.ChangeShapes Go.WideShapes Go.ChangeAt
theorem own : ownKnob Try.prog.godebug = none := by kernel_rfl
noncomputable def sh : Sh := .cons (.int .u8) (.cons (.int .u8) .nil)
theorem facts : rowSh Try.prog Try.f3 sh = true := by kernel_rfl
set_option maxRecDepth 100000 in
theorem lifted (os : Os) (started : os.Started) (H : Type) (enc : TypeId × Value → H) :
    ReturnsInHanded {} Try.checked os 3 .any (Rows.saneNamesSpec.pre6 enc Try.prog Try.f3 Rows.saneNamesRow.domain false) (Rows.saneNamesSpec.post enc Try.prog Try.f3 false true false false) := by
  refine returnsInHanded_of_change_sized (C := Try.checked) own started (by kernel_rfl) Try.func3
    (ChangeSpec.witness6 (enc := enc) (C := Try.checked) false ⟨#[], #[.int .u8 0, .int .u8 0], []⟩ 8 (by kernel_rfl) (by kernel_rfl) (by kernel_rfl) (by kernel_rfl)) ?_
  intro W base args ds gs before hval hW hcnd hsz _
  exact zjE (sh := sh) facts rfl (fun (ds : List (DataW H)) h => match ds, h with | [d1, d2], _ => rfl)
    (fun d hf W avs vargs hw hle hlen hv => Exists.elim (Sx.zll d hf) fun n hn => zmB (Sx.zff n) (a := d) (b := true) hn rfl ⟨hlen, hle, rfl⟩ hw hv) (GlobR.of_none fun g => rfl) hval hW hsz
theorem over : Rows.saneNamesRow.holds Try.pinned (OpenSpec.ofChange Rows.saneNamesSpec) :=
  OpenClaim.holds_of_wide 3 Try.f3 rfl rfl rfl rfl rfl rfl rfl ⟨rfl, rfl, rfl, rfl, rfl⟩ rfl rfl rfl rfl rfl (by kernel_rfl) Try.func3 (by kernel_rfl)
    (of_decide_eq_true (by kernel_rfl)) (by unfold Func.isWrapper; first | (rw [if_pos (by decide +kernel)]; kernel_rfl) | (rw [if_neg (by decide +kernel)]; exact ⟨rfl, rfl⟩))
    (fun os started H enc _ => lifted os started H enc)
theorem proved : Rows.SaneNamesSaid := over
end Go.Proofs.Ytdlbbdbbpoggfaa.saneNames
namespace Go.Proofs.Ytdlbbdbbpoggfaa
theorem saneNames_holds : Rows.SaneNamesSaid := saneNames.proved
#print axioms saneNames_holds
end Go.Proofs.Ytdlbbdbbpoggfaa
