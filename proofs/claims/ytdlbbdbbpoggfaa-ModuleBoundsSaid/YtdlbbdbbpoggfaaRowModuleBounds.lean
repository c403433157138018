import Derived.Test.YtdlbbdbbpoggfaaRows
import Derived.Test.YtdlbbdbbpoggfaaLaw1
import Derived.Test.YtdlbbdbbpoggfaaMbRun2
import Derived.Test.YtdlbbdbbpoggfaaLib36
set_option linter.unusedVariables false
namespace Go.Proofs.Ytdlbbdbbpoggfaa.moduleBounds
open Go Go.Ab Go.RowKit Go.ChangeShapes Go.WideShapes Go.ChangeAt
theorem own : ownKnob Try.prog.godebug = none := by kernel_rfl
noncomputable def sh : Sh := .cons (.int .u8) (.cons (.int .u8) .nil)
theorem facts : NN Try.prog Try.f5 sh = true := by kernel_rfl
set_option maxRecDepth 100000 in
theorem lifted (os : Os) (started : os.Started) (H : Type) (enc : TypeId × Value → H) :
    ReturnsInHanded {} Try.checked os 5 .any (Rows.moduleBoundsSpec.pre6 enc Try.prog Try.f5 Rows.moduleBoundsRow.domain false) (Rows.moduleBoundsSpec.post enc Try.prog Try.f5 false true false false) := by
  refine returnsInHanded_of_change_sized (C := Try.checked) own started (by kernel_rfl) Try.func5
    (ChangeSpec.witness6 (enc := enc) (C := Try.checked) false ⟨#[], #[.int .u8 0, .int .u8 0], []⟩ 8 (by kernel_rfl) (by kernel_rfl) (by kernel_rfl) (by kernel_rfl)) ?_
  intro W base args ds gs before hval hW hcnd hsz _
  exact Hc (sh := sh) facts rfl (fun (ds : List (DataW H)) h => match ds, h with | [d1, d2], _ => rfl)
    (fun d hf W avs vargs hw hle hlen hv => (Sx.Ik d hf).elim (fun h => iT (Sx.qY 400) (a := d) (b := true) h rfl ⟨hlen, hle, rfl⟩ hw hv) fun h => h.elim (fun h => iT (Sx.qK 400) (a := d) (b := true) h rfl ⟨hlen, hle, rfl⟩ hw hv) fun h => h.elim (fun h => iT (Sx.qU 400) (a := d) (b := true) h rfl ⟨hlen, hle, rfl⟩ hw hv) fun h => h.elim (fun h => iT (Sx.pM 400) (a := d) (b := true) h rfl ⟨hlen, hle, rfl⟩ hw hv) fun h => h.elim (fun h => iT (Sx.q4 400) (a := d) (b := true) h rfl ⟨hlen, hle, rfl⟩ hw hv) fun h => h.elim (fun h => iT (Sx.pX 400) (a := d) (b := true) h rfl ⟨hlen, hle, rfl⟩ hw hv) fun h => iT (Sx.p8 400) (a := d) (b := true) h rfl ⟨hlen, hle, rfl⟩ hw hv) (rG.of_none fun g => rfl) hval hW hsz
theorem over : Rows.moduleBoundsRow.holds Try.pinned (OpenSpec.ofChange Rows.moduleBoundsSpec) :=
  OpenClaim.holds_of_wide 5 Try.f5 rfl rfl rfl rfl rfl rfl rfl ⟨rfl, rfl, rfl, rfl, rfl⟩ rfl rfl rfl rfl rfl (by kernel_rfl) Try.func5 (by kernel_rfl)
    (of_decide_eq_true (by kernel_rfl)) (by unfold Func.isWrapper; first | (rw [if_pos (by decide +kernel)]; kernel_rfl) | (rw [if_neg (by decide +kernel)]; exact ⟨rfl, rfl⟩))
    (fun os started H enc _ => lifted os started H enc)
theorem proved : Rows.ModuleBoundsSaid := over
end Go.Proofs.Ytdlbbdbbpoggfaa.moduleBounds
namespace Go.Proofs.Ytdlbbdbbpoggfaa
theorem moduleBounds_holds : Rows.ModuleBoundsSaid := moduleBounds.proved
#print axioms moduleBounds_holds
end Go.Proofs.Ytdlbbdbbpoggfaa
