/- Plain laws. -/
import Derived.Test.YtdlbbdbbpoggfaaMbSh
import Derived.Test.YtdlbbdbbpoggfaaLib8
import Derived.Test.YtdlbbdbbpoggfaaLib32
set_option linter.unusedVariables false
set_option linter.unusedSimpArgs false
section
set_option maxRecDepth 100000
namespace Sx
open Go Go.Ab
def O7 : Option Bool → Bool
 | some true => true
 | _ => false
theorem qI {o : Option Bool} (h : O7 o = true) : o = some true := by
 cases o with
 | none => cases h
 | some b => cases b <;> first | rfl | cases h
theorem QS : ((List.range 70).all fun k => O7 (cM 400 0 (k : Int))) = true := by kernel_rfl
theorem Q6 : ((List.range 70).all fun k => O7 (cJ 400 1 (k : Int))) = true := by kernel_rfl
theorem QT : ((List.range 70).all fun k => O7 (cI 400 2 (k : Int))) = true := by kernel_rfl
theorem QQ : ((List.range 70).all fun k => O7 (cL 400 3 (k : Int))) = true := by kernel_rfl
theorem Q1 : ((List.range 70).all fun k => O7 (cN 400 4 (k : Int))) = true := by kernel_rfl
theorem Q0 : ((List.range 70).all fun k => O7 (cH 400 5 (k : Int))) = true := by kernel_rfl
theorem Q4 : ((List.range 70).all fun k => O7 (cK 400 6 (k : Int))) = true := by kernel_rfl
end Sx
end
section
namespace Sx
open Go Go.Ab
theorem i6 {S X : Type} {B : S → Option (S ⊕ X)} {f g : S → S} (I : ∀ s, g s = s → B (f s) = (B s).map (Sum.map f id)) (J : ∀ s, g s = s → B s = (B s).map (Sum.map g id)) : ∀ (n : Nat) (s : S), g s = s → bL B n (f s) = bL B n s
 | 0, _, _ => rfl
 | n + 1, s, hs => by
  show ((B (f s)).bind fun q => Sum.rec (fun H => bL B n H) (fun x => some x) q) = ((B s).bind fun q => Sum.rec (fun H => bL B n H) (fun x => some x) q)
  rw [I s hs]
  have h := J s hs
  cases K : B s with
  | none => rfl
  | some q =>
   cases q with
   | inr x => rfl
   | inl H =>
    rw [K] at h
    exact i6 I J n H (Sum.inl.inj (ya h)).symm
theorem gC {α β : Type} (f : α → β) (c : Bool) (x y : Option α) : Option.map f (bif c then x else y) = bif c then Option.map f x else Option.map f y := by cases c <;> rfl
theorem PY (a c : Int) (H : b5 a 7 = 0) (I : b5 c 7 = 0) : (∀ x : (Int × Int × Int × Int) × (Int × Int) × DH, bD 400 (Sum.inl ((a, x.1.2), x.2)) = (bD 400 (Sum.inl ((c, x.1.2), x.2))).map (Sum.map (Sum.map (fun s : (Int × Int × Int × Int) × (Int × Int) × DH => ((a, s.1.2), s.2)) (fun s : (Int × Int × Int × Int) × (Int × Int) × DI × DH => ((a, s.1.2), s.2))) id)) ∧
  ∀ x : (Int × Int × Int × Int) × (Int × Int) × DI × DH, bD 400 (Sum.inr ((a, x.1.2), x.2)) = (bD 400 (Sum.inr ((c, x.1.2), x.2))).map (Sum.map (Sum.map (fun s : (Int × Int × Int × Int) × (Int × Int) × DH => ((a, s.1.2), s.2)) (fun s : (Int × Int × Int × Int) × (Int × Int) × DI × DH => ((a, s.1.2), s.2))) id) := by
 refine ⟨fun x => ?_, fun x => ?_⟩
 ·unfold bD h9
  simp only [H, I, decide_true, yl, gC, yo2, Function.comp_def, yg, yh2, Sum.map_inl, Sum.map_inr, id_eq]
 ·unfold bD iD
  simp only [H, I, decide_true, yl, gC, yo2, Function.comp_def, yg, yh2, Sum.map_inl, Sum.map_inr, id_eq]
theorem QO (a : Int) (I : b5 a 7 = 0) (x : (Int × Int × Int) × (Int × Int) × DH) : cA 400 (Sum.inl ((a, x.1), x.2)) = cA 400 (Sum.inl ((0, x.1), x.2)) := by
 have H : b5 0 7 = 0 := by decide
 refine i6 (B := bD 400) (f := Sum.map (fun s : (Int × Int × Int × Int) × (Int × Int) × DH => ((a, s.1.2), s.2)) (fun s : (Int × Int × Int × Int) × (Int × Int) × DI × DH => ((a, s.1.2), s.2))) (g := Sum.map (fun s : (Int × Int × Int × Int) × (Int × Int) × DH => ((0, s.1.2), s.2)) (fun s : (Int × Int × Int × Int) × (Int × Int) × DI × DH => ((0, s.1.2), s.2))) (fun s hs => ?_) (fun s hs => ?_) 400 (Sum.inl ((0, x.1), x.2)) rfl
 ·rw [← hs]
  cases s with
  | inl y => exact (PY a 0 I H).1 y
  | inr y => exact (PY a 0 I H).2 y
 ·conv => lhs; rw [← hs]
  conv => rhs; rw [← hs]
  cases s with
  | inl y => exact (PY 0 0 H H).1 y
  | inr y => exact (PY 0 0 H H).2 y
theorem Qs (a c : Int) (H : b5 a 7 = 1) (I : b5 c 7 = 1) (x : (Int × Int × Int × Int) × (Int × Int) × DH) : (fun s => bO 400 s.1.1 s.1.2.1 s.1.2.2.1 s.1.2.2.2 s.2.1.1 s.2.1.2 s.2.2) ((a, x.1.2), x.2) = ((fun s => bO 400 s.1.1 s.1.2.1 s.1.2.2.1 s.1.2.2.2 s.2.1.1 s.2.1.2 s.2.2) ((c, x.1.2), x.2)).map (Sum.map (fun s : (Int × Int × Int × Int) × (Int × Int) × DH => ((a, s.1.2), s.2)) id) := by
 show bO 400 a x.1.2.1 x.1.2.2.1 x.1.2.2.2 x.2.1.1 x.2.1.2 x.2.2 = (bO 400 c x.1.2.1 x.1.2.2.1 x.1.2.2.2 x.2.1.1 x.2.1.2 x.2.2).map _
 unfold bO
 simp only [H, I, decide_true, yl, gC, yo2, Function.comp_def, yg, yh2, Sum.map_inl, Sum.map_inr, id_eq]
theorem QR (a : Int) (I : b5 a 7 = 1) (x : (Int × Int × Int) × (Int × Int) × DH) : b8 400 ((a, x.1), x.2) = b8 400 ((1, x.1), x.2) := by
 have H : b5 1 7 = 1 := by decide
 refine i6 (B := (fun s => bO 400 s.1.1 s.1.2.1 s.1.2.2.1 s.1.2.2.2 s.2.1.1 s.2.1.2 s.2.2)) (f := fun s : (Int × Int × Int × Int) × (Int × Int) × DH => ((a, s.1.2), s.2)) (g := fun s : (Int × Int × Int × Int) × (Int × Int) × DH => ((1, s.1.2), s.2)) (fun s hs => ?_) (fun s hs => ?_) 400 ((1, x.1), x.2) rfl
 ·rw [← hs]; exact Qs a 1 I H s
 ·conv => lhs; rw [← hs]
  conv => rhs; rw [← hs]
  exact Qs 1 1 H H s
theorem PT (a c : Int) (H : b5 a 7 = 2) (I : b5 c 7 = 2) : (∀ x : (Int × Int × Int × Int) × (Int × Int) × DH, bE 400 (Sum.inl ((a, x.1.2), x.2)) = (bE 400 (Sum.inl ((c, x.1.2), x.2))).map (Sum.map (Sum.map (fun s : (Int × Int × Int × Int) × (Int × Int) × DH => ((a, s.1.2), s.2)) (fun s : (Int × Int × Int × Int) × (Int × Int) × DH × DJ => ((a, s.1.2), s.2))) id)) ∧
  ∀ x : (Int × Int × Int × Int) × (Int × Int) × DH × DJ, bE 400 (Sum.inr ((a, x.1.2), x.2)) = (bE 400 (Sum.inr ((c, x.1.2), x.2))).map (Sum.map (Sum.map (fun s : (Int × Int × Int × Int) × (Int × Int) × DH => ((a, s.1.2), s.2)) (fun s : (Int × Int × Int × Int) × (Int × Int) × DH × DJ => ((a, s.1.2), s.2))) id) := by
 refine ⟨fun x => ?_, fun x => ?_⟩
 ·unfold bE iB
  simp only [H, I, decide_true, yl, gC, yo2, Function.comp_def, yg, yh2, Sum.map_inl, Sum.map_inr, id_eq]
 ·unfold bE gY
  simp only [H, I, decide_true, yl, gC, yo2, Function.comp_def, yg, yh2, Sum.map_inl, Sum.map_inr, id_eq]
theorem QK (a : Int) (I : b5 a 7 = 2) (x : (Int × Int × Int) × (Int × Int) × DH) : b9 400 (Sum.inl ((a, x.1), x.2)) = b9 400 (Sum.inl ((2, x.1), x.2)) := by
 have H : b5 2 7 = 2 := by decide
 refine i6 (B := bE 400) (f := Sum.map (fun s : (Int × Int × Int × Int) × (Int × Int) × DH => ((a, s.1.2), s.2)) (fun s : (Int × Int × Int × Int) × (Int × Int) × DH × DJ => ((a, s.1.2), s.2))) (g := Sum.map (fun s : (Int × Int × Int × Int) × (Int × Int) × DH => ((2, s.1.2), s.2)) (fun s : (Int × Int × Int × Int) × (Int × Int) × DH × DJ => ((2, s.1.2), s.2))) (fun s hs => ?_) (fun s hs => ?_) 400 (Sum.inl ((2, x.1), x.2)) rfl
 ·rw [← hs]
  cases s with
  | inl y => exact (PT a 2 I H).1 y
  | inr y => exact (PT a 2 I H).2 y
 ·conv => lhs; rw [← hs]
  conv => rhs; rw [← hs]
  cases s with
  | inl y => exact (PT 2 2 H H).1 y
  | inr y => exact (PT 2 2 H H).2 y
theorem PU (a c : Int) (H : b5 a 7 = 3) (I : b5 c 7 = 3) : (∀ x : (Int × Int × Int × Int) × (Int × Int) × DH, bC 400 (Sum.inl ((a, x.1.2), x.2)) = (bC 400 (Sum.inl ((c, x.1.2), x.2))).map (Sum.map (Sum.map (fun s : (Int × Int × Int × Int) × (Int × Int) × DH => ((a, s.1.2), s.2)) (fun s : (Int × Int × Int × Int) × (Int × Int) × DH × DC => ((a, s.1.2), s.2))) id)) ∧
  ∀ x : (Int × Int × Int × Int) × (Int × Int) × DH × DC, bC 400 (Sum.inr ((a, x.1.2), x.2)) = (bC 400 (Sum.inr ((c, x.1.2), x.2))).map (Sum.map (Sum.map (fun s : (Int × Int × Int × Int) × (Int × Int) × DH => ((a, s.1.2), s.2)) (fun s : (Int × Int × Int × Int) × (Int × Int) × DH × DC => ((a, s.1.2), s.2))) id) := by
 refine ⟨fun x => ?_, fun x => ?_⟩
 ·unfold bC iE
  simp only [H, I, decide_true, yl, gC, yo2, Function.comp_def, yg, yh2, Sum.map_inl, Sum.map_inr, id_eq]
 ·unfold bC h8
  simp only [H, I, decide_true, yl, gC, yo2, Function.comp_def, yg, yh2, Sum.map_inl, Sum.map_inr, id_eq]
theorem Q2 (a : Int) (I : b5 a 7 = 3) (x : (Int × Int × Int) × (Int × Int) × DH) : cB 400 (Sum.inl ((a, x.1), x.2)) = cB 400 (Sum.inl ((3, x.1), x.2)) := by
 have H : b5 3 7 = 3 := by decide
 refine i6 (B := bC 400) (f := Sum.map (fun s : (Int × Int × Int × Int) × (Int × Int) × DH => ((a, s.1.2), s.2)) (fun s : (Int × Int × Int × Int) × (Int × Int) × DH × DC => ((a, s.1.2), s.2))) (g := Sum.map (fun s : (Int × Int × Int × Int) × (Int × Int) × DH => ((3, s.1.2), s.2)) (fun s : (Int × Int × Int × Int) × (Int × Int) × DH × DC => ((3, s.1.2), s.2))) (fun s hs => ?_) (fun s hs => ?_) 400 (Sum.inl ((3, x.1), x.2)) rfl
 ·rw [← hs]
  cases s with
  | inl y => exact (PU a 3 I H).1 y
  | inr y => exact (PU a 3 I H).2 y
 ·conv => lhs; rw [← hs]
  conv => rhs; rw [← hs]
  cases s with
  | inl y => exact (PU 3 3 H H).1 y
  | inr y => exact (PU 3 3 H H).2 y
theorem P0 (a c : Int) (H : b5 a 7 = 4) (I : b5 c 7 = 4) : (∀ x : (Int × Int × Int × Int) × (Int × Int) × DH, bB 400 (Sum.inl ((a, x.1.2), x.2)) = (bB 400 (Sum.inl ((c, x.1.2), x.2))).map (Sum.map (Sum.map (fun s : (Int × Int × Int × Int) × (Int × Int) × DH => ((a, s.1.2), s.2)) (fun s : (Int × Int × Int × Int) × (Int × Int) × DH × DE => ((a, s.1.2), s.2))) id)) ∧
  ∀ x : (Int × Int × Int × Int) × (Int × Int) × DH × DE, bB 400 (Sum.inr ((a, x.1.2), x.2)) = (bB 400 (Sum.inr ((c, x.1.2), x.2))).map (Sum.map (Sum.map (fun s : (Int × Int × Int × Int) × (Int × Int) × DH => ((a, s.1.2), s.2)) (fun s : (Int × Int × Int × Int) × (Int × Int) × DH × DE => ((a, s.1.2), s.2))) id) := by
 refine ⟨fun x => ?_, fun x => ?_⟩
 ·unfold bB iC
  simp only [H, I, decide_true, yl, gC, yo2, Function.comp_def, yg, yh2, Sum.map_inl, Sum.map_inr, id_eq]
 ·unfold bB gZ
  simp only [H, I, decide_true, yl, gC, yo2, Function.comp_def, yg, yh2, Sum.map_inl, Sum.map_inr, id_eq]
theorem Rb (a : Int) (I : b5 a 7 = 4) (x : (Int × Int × Int) × (Int × Int) × DH) : cF 400 (Sum.inl ((a, x.1), x.2)) = cF 400 (Sum.inl ((4, x.1), x.2)) := by
 have H : b5 4 7 = 4 := by decide
 refine i6 (B := bB 400) (f := Sum.map (fun s : (Int × Int × Int × Int) × (Int × Int) × DH => ((a, s.1.2), s.2)) (fun s : (Int × Int × Int × Int) × (Int × Int) × DH × DE => ((a, s.1.2), s.2))) (g := Sum.map (fun s : (Int × Int × Int × Int) × (Int × Int) × DH => ((4, s.1.2), s.2)) (fun s : (Int × Int × Int × Int) × (Int × Int) × DH × DE => ((4, s.1.2), s.2))) (fun s hs => ?_) (fun s hs => ?_) 400 (Sum.inl ((4, x.1), x.2)) rfl
 ·rw [← hs]
  cases s with
  | inl y => exact (P0 a 4 I H).1 y
  | inr y => exact (P0 a 4 I H).2 y
 ·conv => lhs; rw [← hs]
  conv => rhs; rw [← hs]
  cases s with
  | inl y => exact (P0 4 4 H H).1 y
  | inr y => exact (P0 4 4 H H).2 y
theorem QF (a c : Int) (H : b5 a 7 = 5) (I : b5 c 7 = 5) (x : (Int × Int × Int × Int) × (Int × Int) × DH) : (fun s => bM 400 s.1.1 s.1.2.1 s.1.2.2.1 s.1.2.2.2 s.2.1.1 s.2.1.2 s.2.2) ((a, x.1.2), x.2) = ((fun s => bM 400 s.1.1 s.1.2.1 s.1.2.2.1 s.1.2.2.2 s.2.1.1 s.2.1.2 s.2.2) ((c, x.1.2), x.2)).map (Sum.map (fun s : (Int × Int × Int × Int) × (Int × Int) × DH => ((a, s.1.2), s.2)) id) := by
 show bM 400 a x.1.2.1 x.1.2.2.1 x.1.2.2.2 x.2.1.1 x.2.1.2 x.2.2 = (bM 400 c x.1.2.1 x.1.2.2.1 x.1.2.2.2 x.2.1.1 x.2.1.2 x.2.2).map _
 unfold bM
 simp only [H, I, decide_true, yl, gC, yo2, Function.comp_def, yg, yh2, Sum.map_inl, Sum.map_inr, id_eq]
theorem Q8 (a : Int) (I : b5 a 7 = 5) (x : (Int × Int × Int) × (Int × Int) × DH) : cD 400 ((a, x.1), x.2) = cD 400 ((5, x.1), x.2) := by
 have H : b5 5 7 = 5 := by decide
 refine i6 (B := (fun s => bM 400 s.1.1 s.1.2.1 s.1.2.2.1 s.1.2.2.2 s.2.1.1 s.2.1.2 s.2.2)) (f := fun s : (Int × Int × Int × Int) × (Int × Int) × DH => ((a, s.1.2), s.2)) (g := fun s : (Int × Int × Int × Int) × (Int × Int) × DH => ((5, s.1.2), s.2)) (fun s hs => ?_) (fun s hs => ?_) 400 ((5, x.1), x.2) rfl
 ·rw [← hs]; exact QF a 5 I H s
 ·conv => lhs; rw [← hs]
  conv => rhs; rw [← hs]
  exact QF 5 5 H H s
theorem Qw (a c : Int) (H : b5 a 7 = 6) (I : b5 c 7 = 6) (x : (Int × Int × Int × Int) × (Int × Int) × DH) : (fun s => bN 400 s.1.1 s.1.2.1 s.1.2.2.1 s.1.2.2.2 s.2.1.1 s.2.1.2 s.2.2) ((a, x.1.2), x.2) = ((fun s => bN 400 s.1.1 s.1.2.1 s.1.2.2.1 s.1.2.2.2 s.2.1.1 s.2.1.2 s.2.2) ((c, x.1.2), x.2)).map (Sum.map (fun s : (Int × Int × Int × Int) × (Int × Int) × DH => ((a, s.1.2), s.2)) id) := by
 show bN 400 a x.1.2.1 x.1.2.2.1 x.1.2.2.2 x.2.1.1 x.2.1.2 x.2.2 = (bN 400 c x.1.2.1 x.1.2.2.1 x.1.2.2.2 x.2.1.1 x.2.1.2 x.2.2).map _
 unfold bN
 simp only [H, I, decide_true, yl, gC, yo2, Function.comp_def, yg, yh2, Sum.map_inl, Sum.map_inr, id_eq]
theorem QZ (a : Int) (I : b5 a 7 = 6) (x : (Int × Int × Int) × (Int × Int) × DH) : cC 400 ((a, x.1), x.2) = cC 400 ((6, x.1), x.2) := by
 have H : b5 6 7 = 6 := by decide
 refine i6 (B := (fun s => bN 400 s.1.1 s.1.2.1 s.1.2.2.1 s.1.2.2.2 s.2.1.1 s.2.1.2 s.2.2)) (f := fun s : (Int × Int × Int × Int) × (Int × Int) × DH => ((a, s.1.2), s.2)) (g := fun s : (Int × Int × Int × Int) × (Int × Int) × DH => ((6, s.1.2), s.2)) (fun s hs => ?_) (fun s hs => ?_) 400 ((6, x.1), x.2) rfl
 ·rw [← hs]; exact Qw a 6 I H s
 ·conv => lhs; rw [← hs]
  conv => rhs; rw [← hs]
  exact Qw 6 6 H H s
theorem QV (a b : Int) (J : b5 a 7 = 0) {k : Nat} (I : k < 70) (H : b5 b 70 = b5 (k : Int) 70) : cM 400 a b = some true := by
 have h := qI (yr1.1 QS k (yi3.2 I))
 have e : cM 400 a b = cM 400 0 (k : Int) := by
  unfold cM
  rw [H]
  try simp only [show ∀ x y, cA 400 (Sum.inl ((a, x), y)) = cA 400 (Sum.inl ((0, x), y)) from fun x y => QO a J (x, y)]
 rw [e]; exact h
theorem QY (a b : Int) (J : b5 a 7 = 1) {k : Nat} (I : k < 70) (H : b5 b 70 = b5 (k : Int) 70) : cJ 400 a b = some true := by
 have h := qI (yr1.1 Q6 k (yi3.2 I))
 have e : cJ 400 a b = cJ 400 1 (k : Int) := by
  unfold cJ
  rw [H]
  try simp only [show ∀ x y, b8 400 (((a, x), y)) = b8 400 (((1, x), y)) from fun x y => QR a J (x, y)]
 rw [e]; exact h
theorem QM (a b : Int) (J : b5 a 7 = 2) {k : Nat} (I : k < 70) (H : b5 b 70 = b5 (k : Int) 70) : cI 400 a b = some true := by
 have h := qI (yr1.1 QT k (yi3.2 I))
 have e : cI 400 a b = cI 400 2 (k : Int) := by
  unfold cI
  rw [H]
  try simp only [show ∀ x y, b9 400 (Sum.inl ((a, x), y)) = b9 400 (Sum.inl ((2, x), y)) from fun x y => QK a J (x, y)]
 rw [e]; exact h
theorem Ra (a b : Int) (J : b5 a 7 = 3) {k : Nat} (I : k < 70) (H : b5 b 70 = b5 (k : Int) 70) : cL 400 a b = some true := by
 have h := qI (yr1.1 QQ k (yi3.2 I))
 have e : cL 400 a b = cL 400 3 (k : Int) := by
  unfold cL
  rw [H]
  try simp only [show ∀ x y, cB 400 (Sum.inl ((a, x), y)) = cB 400 (Sum.inl ((3, x), y)) from fun x y => Q2 a J (x, y)]
 rw [e]; exact h
theorem Q3 (a b : Int) (J : b5 a 7 = 4) {k : Nat} (I : k < 70) (H : b5 b 70 = b5 (k : Int) 70) : cN 400 a b = some true := by
 have h := qI (yr1.1 Q1 k (yi3.2 I))
 have e : cN 400 a b = cN 400 4 (k : Int) := by
  unfold cN
  rw [H]
  try simp only [show ∀ x y, cF 400 (Sum.inl ((a, x), y)) = cF 400 (Sum.inl ((4, x), y)) from fun x y => Rb a J (x, y)]
 rw [e]; exact h
theorem QN (a b : Int) (J : b5 a 7 = 5) {k : Nat} (I : k < 70) (H : b5 b 70 = b5 (k : Int) 70) : cH 400 a b = some true := by
 have h := qI (yr1.1 Q0 k (yi3.2 I))
 have e : cH 400 a b = cH 400 5 (k : Int) := by
  unfold cH
  rw [H]
  simp only [show ∀ x y, cD 400 (((a, x), y)) = cD 400 (((5, x), y)) from fun x y => Q8 a J (x, y)]
 rw [e]; exact h
theorem QU (a b : Int) (J : b5 a 7 = 6) {k : Nat} (I : k < 70) (H : b5 b 70 = b5 (k : Int) 70) : cK 400 a b = some true := by
 have h := qI (yr1.1 Q4 k (yi3.2 I))
 have e : cK 400 a b = cK 400 6 (k : Int) := by
  unfold cK
  rw [H]
  simp only [show ∀ x y, cC 400 (((a, x), y)) = cC 400 (((6, x), y)) from fun x y => QZ a J (x, y)]
 rw [e]; exact h
end Sx
end
section
namespace Sx
open Go Go.Ab
theorem Hq (d : Int × Int) (M : CL (.cons (.int .u8) (.cons (.int .u8) .nil)) d) :
  cM 400 d.1 d.2 = some true ∨ cJ 400 d.1 d.2 = some true ∨ cI 400 d.1 d.2 = some true ∨ cL 400 d.1 d.2 = some true ∨ cN 400 d.1 d.2 = some true ∨ cH 400 d.1 d.2 = some true ∨ cK 400 d.1 d.2 = some true := by
 obtain ⟨J, K, _⟩ : (Lit.int .u8 d.1).wf = true ∧ (Lit.int .u8 d.2).wf = true ∧ True := M
 have J := O8 J
 have K := O8 K
 have I : (d.2 % 70).toNat < 70 := by omega
 have H : b5 d.2 70 = b5 (((d.2 % 70).toNat : Nat) : Int) 70 := by rw [vJ K.1, vJ (by omega)]; omega
 have hr : b5 d.1 7 = d.1 % 7 := vJ J.1
 have : d.1 % 7 = 0 ∨ d.1 % 7 = 1 ∨ d.1 % 7 = 2 ∨ d.1 % 7 = 3 ∨ d.1 % 7 = 4 ∨ d.1 % 7 = 5 ∨ d.1 % 7 = 6 := by omega
 rcases this with h | h | h | h | h | h | h
 ·exact .inl (QV _ _ (hr.trans h) I H)
 ·exact .inr (.inl (QY _ _ (hr.trans h) I H))
 ·exact .inr (.inr (.inl (QM _ _ (hr.trans h) I H)))
 ·exact .inr (.inr (.inr (.inl (Ra _ _ (hr.trans h) I H))))
 ·exact .inr (.inr (.inr (.inr (.inl (Q3 _ _ (hr.trans h) I H)))))
 ·exact .inr (.inr (.inr (.inr (.inr (.inl (QN _ _ (hr.trans h) I H))))))
 ·exact .inr (.inr (.inr (.inr (.inr (.inr (QU _ _ (hr.trans h) I H))))))
end Sx
end
