/- Plain laws (texts SnA, SnRowPlain). -/
import Derived.Test.YtdlbbdbbpoggfaaSnSh
import Derived.KernelRfl
import Derived.Test.YtdlbbdbbpoggfaaLib30
section
/- SaneNames, by evaluation: the answers go by the first number's rest by 6 and the second's by 8. -/
set_option linter.unusedVariables false
set_option maxRecDepth 100000
namespace Sx
open Go Go.Ab
theorem zqs : law07SaneNames 400 0 0 = some true := by kernel_rfl
theorem zpR : law07SaneNames 400 0 1 = some true := by kernel_rfl
theorem zpB : law07SaneNames 400 0 2 = some true := by kernel_rfl
theorem zpI : law07SaneNames 400 0 3 = some true := by kernel_rfl
theorem zpC : law07SaneNames 400 0 4 = some true := by kernel_rfl
theorem zpE : law07SaneNames 400 0 5 = some true := by kernel_rfl
theorem zqr : law07SaneNames 400 0 6 = some true := by kernel_rfl
theorem zqj : law07SaneNames 400 0 7 = some true := by kernel_rfl
theorem zpL : law07SaneNames 400 1 0 = some true := by kernel_rfl
theorem zpV : law07SaneNames 400 1 1 = some true := by kernel_rfl
theorem zpO : law07SaneNames 400 1 2 = some true := by kernel_rfl
theorem zpG : law07SaneNames 400 1 3 = some true := by kernel_rfl
theorem zpW : law07SaneNames 400 1 4 = some true := by kernel_rfl
theorem zqa : law07SaneNames 400 1 5 = some true := by kernel_rfl
theorem zqu : law07SaneNames 400 1 6 = some true := by kernel_rfl
theorem zqc : law07SaneNames 400 1 7 = some true := by kernel_rfl
theorem zqf : law07SaneNames 400 2 0 = some true := by kernel_rfl
theorem zqq : law07SaneNames 400 2 1 = some true := by kernel_rfl
theorem zqp : law07SaneNames 400 2 2 = some true := by kernel_rfl
theorem zqb : law07SaneNames 400 2 3 = some true := by kernel_rfl
theorem zpA : law07SaneNames 400 2 4 = some true := by kernel_rfl
theorem zqv : law07SaneNames 400 2 5 = some true := by kernel_rfl
theorem zql : law07SaneNames 400 2 6 = some true := by kernel_rfl
theorem zpD : law07SaneNames 400 2 7 = some true := by kernel_rfl
theorem zpZ : law07SaneNames 400 3 0 = some true := by kernel_rfl
theorem zpQ : law07SaneNames 400 3 1 = some true := by kernel_rfl
theorem zqw : law07SaneNames 400 3 2 = some true := by kernel_rfl
theorem zqe : law07SaneNames 400 3 3 = some true := by kernel_rfl
theorem zpY : law07SaneNames 400 3 4 = some true := by kernel_rfl
theorem zpT : law07SaneNames 400 3 5 = some true := by kernel_rfl
theorem zpK : law07SaneNames 400 3 6 = some true := by kernel_rfl
theorem zqi : law07SaneNames 400 3 7 = some true := by kernel_rfl
theorem zqo : law07SaneNames 400 4 0 = some true := by kernel_rfl
theorem zpU : law07SaneNames 400 4 1 = some true := by kernel_rfl
theorem zqn : law07SaneNames 400 4 2 = some true := by kernel_rfl
theorem zqd : law07SaneNames 400 4 3 = some true := by kernel_rfl
theorem zpF : law07SaneNames 400 4 4 = some true := by kernel_rfl
theorem zpH : law07SaneNames 400 4 5 = some true := by kernel_rfl
theorem zqm : law07SaneNames 400 4 6 = some true := by kernel_rfl
theorem zqg : law07SaneNames 400 4 7 = some true := by kernel_rfl
theorem zqh : law07SaneNames 400 5 0 = some true := by kernel_rfl
theorem zqt : law07SaneNames 400 5 1 = some true := by kernel_rfl
theorem zpM : law07SaneNames 400 5 2 = some true := by kernel_rfl
theorem zqk : law07SaneNames 400 5 3 = some true := by kernel_rfl
theorem zpX : law07SaneNames 400 5 4 = some true := by kernel_rfl
theorem zqx : law07SaneNames 400 5 5 = some true := by kernel_rfl
theorem zpJ : law07SaneNames 400 5 6 = some true := by kernel_rfl
theorem zpN : law07SaneNames 400 5 7 = some true := by kernel_rfl
theorem zpy (a b : Int) (i j : Int) (ha : remI a 6 = remI i 6) (hb : remI b 8 = remI j 8) : law07SaneNames 400 a b = law07SaneNames 400 i j := by
 unfold law07SaneNames
 rw [ha, hb]
theorem zpv (a b : Int) (ha : 0 ≤ a) (hb : 0 ≤ b) : law07SaneNames 400 a b = some true := by
 have h1 : ∃ i : Int, (i = 0 ∨ i = 1 ∨ i = 2 ∨ i = 3 ∨ i = 4 ∨ i = 5) ∧ remI a 6 = remI i 6 := by
  refine ⟨a % 6, by omega, ?_⟩
  unfold remI
  rw [Int.tmod_eq_emod_of_nonneg ha, Int.tmod_eq_emod_of_nonneg (by omega)]
  omega
 have h2 : ∃ i : Int, (i = 0 ∨ i = 1 ∨ i = 2 ∨ i = 3 ∨ i = 4 ∨ i = 5 ∨ i = 6 ∨ i = 7) ∧ remI b 8 = remI i 8 := by
  refine ⟨b % 8, by omega, ?_⟩
  unfold remI
  rw [Int.tmod_eq_emod_of_nonneg hb, Int.tmod_eq_emod_of_nonneg (by omega)]
  omega
 obtain ⟨i, hi, h1⟩ := h1
 obtain ⟨j, hj, h2⟩ := h2
 rw [zpy a b i j h1 h2]
 rcases hi with rfl | rfl | rfl | rfl | rfl | rfl <;> rcases hj with rfl | rfl | rfl | rfl | rfl | rfl | rfl | rfl
 ·exact zqs
 ·exact zpR
 ·exact zpB
 ·exact zpI
 ·exact zpC
 ·exact zpE
 ·exact zqr
 ·exact zqj
 ·exact zpL
 ·exact zpV
 ·exact zpO
 ·exact zpG
 ·exact zpW
 ·exact zqa
 ·exact zqu
 ·exact zqc
 ·exact zqf
 ·exact zqq
 ·exact zqp
 ·exact zqb
 ·exact zpA
 ·exact zqv
 ·exact zql
 ·exact zpD
 ·exact zpZ
 ·exact zpQ
 ·exact zqw
 ·exact zqe
 ·exact zpY
 ·exact zpT
 ·exact zpK
 ·exact zqi
 ·exact zqo
 ·exact zpU
 ·exact zqn
 ·exact zqd
 ·exact zpF
 ·exact zpH
 ·exact zqm
 ·exact zqg
 ·exact zqh
 ·exact zqt
 ·exact zpM
 ·exact zqk
 ·exact zpX
 ·exact zqx
 ·exact zpJ
 ·exact zpN
end Sx
end
section
/- The names statement at the row's own data. -/
set_option linter.unusedVariables false
namespace Sx
open Go Go.Ab
theorem zoE {n : Int} (h : (Lit.int .u8 n).wf = true) : 0 ≤ n := by
 have h : (decide (IntKind.u8.min ≤ n) && decide (n ≤ IntKind.u8.max)) = true := h
 simp only [Bool.and_eq_true, decide_eq_true_eq] at h
 have : IntKind.u8.min = 0 := by decide
 omega
theorem zll (d : Int × Int) (hf : FitS (.cons (.int .u8) (.cons (.int .u8) .nil)) d) : ∃ n, law07SaneNames n d.1 d.2 = some true := by
 obtain ⟨h1, h2, _⟩ : (Lit.int .u8 d.1).wf = true ∧ (Lit.int .u8 d.2).wf = true ∧ True := hf
 exact ⟨400, zpv d.1 d.2 (zoE h1) (zoE h2)⟩
end Sx
end
