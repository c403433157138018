/- The statement on handles, in plain words. -/
import Derived.Test.YtmfemlkbeehioaaModI
set_option linter.unusedVariables false
set_option linter.unusedSimpArgs false
namespace Sx
open Go Go.Ab
theorem good_cases {k nn : Int} (h : goodV 1 (k, nn) = true) : (k = 1 ∧ nn = 0) ∨ (k = 2 ∧ nn = 0) ∨ (k = 3 ∧ nn = 0) ∨ (k = 7 ∧ nn = 0) ∨ (k = 4 ∧ nn = 0) ∨ (k = 5 ∧ nn = 0) ∨ (k = 5 ∧ nn = 1) ∨ (k = 5 ∧ nn = 2) ∨ (k = 5 ∧ nn = 3) := by
  unfold goodV at h
  simp only at h
  split at h
  · have := eq_of_beq h
    omega
  · split at h
    · have := of_decide_eq_true h
      omega
    · split at h
      · have := of_decide_eq_true h
        omega
      · cases h
set_option maxRecDepth 100000 in
theorem sane_handles (k nn w : Int) (hw : 0 ≤ w ∧ w ≤ 255) : law07SaneHandles 10000 k nn w = some true := by
  unfold law07SaneHandles
  rw [show ref01Good 10000 k nn 1 = some (goodV 1 (k, nn)) from refGood_eq 10000 (k, nn) 1, Option.bind_some]
  cases hg : goodV 1 (k, nn) with
  | false => rw [answers7]; rfl
  | true =>
    have h4 : remI w 4 = 0 ∨ remI w 4 = 1 ∨ remI w 4 = 2 ∨ remI w 4 = 3 := by
      rw [remI_nonneg hw.1]; omega
    generalize remI w 4 = q at h4
    rcases good_cases hg with ⟨rfl, rfl⟩ | ⟨rfl, rfl⟩ | ⟨rfl, rfl⟩ | ⟨rfl, rfl⟩ | ⟨rfl, rfl⟩ | ⟨rfl, rfl⟩ | ⟨rfl, rfl⟩ | ⟨rfl, rfl⟩ | ⟨rfl, rfl⟩ <;> rcases h4 with rfl | rfl | rfl | rfl <;> (show _ = some true; kernel_rfl)
end Sx
