import Derived.Test.YtdlbbdbbpoggfaaRows
import Derived.Test.YtdlbbdbbpoggfaaLaw1
import Derived.Test.YtdlbbdbbpoggfaaScRun1
import Derived.Test.YtdlbbdbbpoggfaaLib36
set_option linter.unusedVariables false
namespace Go.Proofs.Ytdlbbdbbpoggfaa.stateCopies
open Go Go.Ab Go.RowKit Go.ChangeShapes Go.WideShapes Go.ChangeAt
theorem own : ownKnob Try.prog.godebug = none := by kernel_rfl
noncomputable def sh : Sh := .cons Sx.shS (.cons Sx.shS .nil)
theorem facts : rowSh Try.prog Try.f4 sh = true := by kernel_rfl
set_option maxRecDepth 100000 in
theorem lifted (os : Os) (started : os.Started) (H : Type) (enc : TypeId × Value → H) :
    ReturnsInHanded {} Try.checked os 4 .any (Rows.stateCopiesSpec.pre6 enc Try.prog Try.f4 Rows.stateCopiesRow.domain false) (Rows.stateCopiesSpec.post enc Try.prog Try.f4 false true false false) := by
  refine returnsInHanded_of_change_sized (C := Try.checked) own started (by kernel_rfl) Try.func4
    (ChangeSpec.witness6 (enc := enc) (C := Try.checked) false ⟨#[], #[.agg #[.slice none 0 0, .slice none 0 0, .slice none 0 0, .int .i64 0, .int .i64 0, .int .i64 0, .int .u64 0], .agg #[.slice none 0 0, .slice none 0 0, .slice none 0 0, .int .i64 0, .int .i64 0, .int .i64 0, .int .u64 0]], []⟩ 8 (by kernel_rfl) (by kernel_rfl) (by kernel_rfl) (by kernel_rfl)) ?_
  intro W base args ds gs before hval hW hcnd hsz _
  exact zko (sh := sh) facts rfl (fun (ds : List (DataW H)) h => match ds, h with | [d1, d2], _ => rfl)
    (fun d hf W avs vargs hw hle hlen hv => Exists.elim (Sx.zkb d hf) fun n hn => znD (Sx.zeo n) (a := d) (b := true) hn rfl ⟨hlen, hle, rfl⟩ hw hv) (GlobR.of_none fun g => rfl) hval hW hsz
theorem over : Rows.stateCopiesRow.holds Try.pinned (OpenSpec.ofChange Rows.stateCopiesSpec) :=
  OpenClaim.holds_of_wide 4 Try.f4 rfl rfl rfl rfl rfl rfl rfl ⟨rfl, rfl, rfl, rfl, rfl⟩ rfl rfl rfl rfl rfl (by kernel_rfl) Try.func4 (by kernel_rfl)
    (of_decide_eq_true (by kernel_rfl)) (by unfold Func.isWrapper; first | (rw [if_pos (by decide +kernel)]; kernel_rfl) | (rw [if_neg (by decide +kernel)]; exact ⟨rfl, rfl⟩))
    (fun os started H enc _ => lifted os started H enc)
theorem proved : Rows.StateCopiesSaid := over
end Go.Proofs.Ytdlbbdbbpoggfaa.stateCopies
namespace Go.Proofs.Ytdlbbdbbpoggfaa
theorem stateCopies_holds : Rows.StateCopiesSaid := stateCopies.proved
#print axioms stateCopies_holds
end Go.Proofs.Ytdlbbdbbpoggfaa
