/- The statement on modules that are the same. -/
import Derived.Test.YtmfemlkbeehioaaMrS
set_option linter.unusedVariables false
set_option linter.unusedSimpArgs false
set_option maxRecDepth 100000
namespace Sx
open Go Go.Ab
theorem answers6 : qbg 10000 = some true := by kernel_rfl
theorem eqT_refl (x : TyD) : eqT x x = true := by simp [eqT]
theorem eqI_refl (x : InD) : eqI x x = true := by simp [eqI]
theorem eqTs_refl (l : List TyD) : eqTs l l = true := eqL_refl l fun x _ => eqT_refl x
theorem eqF_refl (x : FnD) : eqF x x = true := by
  unfold eqF
  rw [eqL_refl x.1 fun x _ => eqT_refl x, eqL_refl x.2.2.2.1 fun x _ => eqT_refl x, eqL_refl x.2.2.2.2 fun x _ => eqI_refl x]
  simp
theorem eqM_refl (x : ImD) : eqM x x = true := by
  unfold eqM
  rw [eqL_refl x.1 fun x _ => eqT_refl x]
  simp
theorem sameV_refl (a : ModD) : sameV a a = true := by
  unfold sameV
  rw [eqL_refl a.recs fun x _ => eqTs_refl x, eqL_refl a.funcs fun x _ => eqF_refl x, eqL_refl a.imps fun x _ => eqM_refl x, eqL_refl a.ints fun x _ => by simp [eqN], eqL_refl a.texts fun x _ => by simp [eqS]]
  rfl
end Sx
