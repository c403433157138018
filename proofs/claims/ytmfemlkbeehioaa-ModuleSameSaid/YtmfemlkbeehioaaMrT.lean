/- The statement on modules that are the same. -/
import Derived.Test.YtmfemlkbeehioaaMrS
set_option linter.unusedVariables false
set_option linter.unusedSimpArgs false
set_option maxRecDepth 100000
namespace Sx
open Go Go.Ab
theorem answers6 : law06Answers 10000 = some true := by kernel_rfl
theorem eqT_refl (x : TyD) : eqT x x = true := by simp [eqT]
theorem eqI_refl (x : InD) : eqI x x = true := by simp [eqI]
theorem eqTs_refl (l : List TyD) : eqTs l l = true := eqL_refl l fun x _ => eqT_refl x
theorem eqF_refl (x : FnD) : eqF x x = true := by
  unfold eqF
  rw [eqL_refl x.1 fun x _ => eqT_refl x, eqL_refl x.2.2.2.1 fun x _ => eqT_refl x, eqL_refl x.2.2.2.2 fun x _ => eqI_refl x]
  simp
theorem eqM_refl (x : ImD) : eqM x x = true := by
  unfold eqM
  rw [eqL_refl x.1 fun x _ => eqT_refl x]
  simp
theorem sameV_refl (a : ModD) : sameV a a = true := by
  unfold sameV
  rw [eqL_refl a.recs fun x _ => eqTs_refl x, eqL_refl a.funcs fun x _ => eqF_refl x, eqL_refl a.imps fun x _ => eqM_refl x, eqL_refl a.ints fun x _ => by simp [eqN], eqL_refl a.texts fun x _ => by simp [eqS]]
  rfl
theorem module_same (a b : ModD) (la : LenM a) (lb : LenM b) : law06ModuleSame 10000 a.recs a.funcs a.imps a.ints a.texts b.recs b.funcs b.imps b.ints b.texts = some true := by
  unfold law06ModuleSame
  obtain ⟨x, e, hL⟩ := refLight_eq 10000 a la (by omega)
  obtain ⟨y, e', hL'⟩ := refLight_eq 10000 b lb (by omega)
  rw [e, Option.bind_some, answers6, e', Option.bind_some]
  cases x with
  | false => rfl
  | true =>
    cases y with
    | false => rfl
    | true =>
      rw [moduleSame_eq _ a b (hL rfl) (by omega), refSame_eq _ a b (hL rfl) (by omega), moduleSame_eq _ a a (hL rfl) (by omega), sameV_refl]
      simp
end Sx
