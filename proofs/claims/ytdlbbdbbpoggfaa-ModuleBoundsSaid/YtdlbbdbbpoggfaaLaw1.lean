/- Plain laws. -/
import Derived.Test.YtdlbbdbbpoggfaaMbSh
import Derived.Test.YtdlbbdbbpoggfaaLib8
import Derived.Test.YtdlbbdbbpoggfaaLib32
set_option linter.unusedVariables false
set_option linter.unusedSimpArgs false
section
set_option maxRecDepth 100000
namespace Sx
open Go Go.Ab
def O8 : Option Bool → Bool
 | some true => true
 | _ => false
theorem qO {o : Option Bool} (h : O8 o = true) : o = some true := by
 cases o with
 | none => cases h
 | some b => cases b <;> first | rfl | cases h
theorem Ra : ((List.range 70).all fun k => O8 (cN 400 0 (k : Int))) = true := by kernel_rfl
theorem QZ : ((List.range 70).all fun k => O8 (cH 400 1 (k : Int))) = true := by kernel_rfl
theorem QK : ((List.range 70).all fun k => O8 (cG 400 2 (k : Int))) = true := by kernel_rfl
theorem QN : ((List.range 70).all fun k => O8 (cJ 400 3 (k : Int))) = true := by kernel_rfl
theorem Q3 : ((List.range 70).all fun k => O8 (cK 400 4 (k : Int))) = true := by kernel_rfl
theorem QM : ((List.range 70).all fun k => O8 (cM 400 5 (k : Int))) = true := by kernel_rfl
theorem Q2 : ((List.range 70).all fun k => O8 (cL 400 6 (k : Int))) = true := by kernel_rfl
end Sx
end
section
namespace Sx
open Go Go.Ab
theorem iV {S X : Type} {B : S → Option (S ⊕ X)} {f g : S → S} (I : ∀ s, g s = s → B (f s) = (B s).map (Sum.map f id)) (J : ∀ s, g s = s → B s = (B s).map (Sum.map g id)) : ∀ (n : Nat) (s : S), g s = s → bL B n (f s) = bL B n s
 | 0, _, _ => rfl
 | n + 1, s, hs => by
  show ((B (f s)).bind fun q => Sum.rec (fun H => bL B n H) (fun x => some x) q) = ((B s).bind fun q => Sum.rec (fun H => bL B n H) (fun x => some x) q)
  rw [I s hs]
  have h := J s hs
  cases K : B s with
  | none => rfl
  | some q =>
   cases q with
   | inr x => rfl
   | inl H =>
    rw [K] at h
    exact iV I J n H (Sum.inl.inj (ya h)).symm
theorem gJ {α β : Type} (f : α → β) (c : Bool) (x y : Option α) : Option.map f (bif c then x else y) = bif c then Option.map f x else Option.map f y := by cases c <;> rfl
theorem PX (a c : Int) (H : b5 a 7 = 0) (I : b5 c 7 = 0) : (∀ x : (Int × Int × Int × Int) × (Int × Int) × DH, bC 400 (Sum.inl ((a, x.1.2), x.2)) = (bC 400 (Sum.inl ((c, x.1.2), x.2))).map (Sum.map (Sum.map (fun s : (Int × Int × Int × Int) × (Int × Int) × DH => ((a, s.1.2), s.2)) (fun s : (Int × Int × Int × Int) × (Int × Int) × DI × DH => ((a, s.1.2), s.2))) id)) ∧
  ∀ x : (Int × Int × Int × Int) × (Int × Int) × DI × DH, bC 400 (Sum.inr ((a, x.1.2), x.2)) = (bC 400 (Sum.inr ((c, x.1.2), x.2))).map (Sum.map (Sum.map (fun s : (Int × Int × Int × Int) × (Int × Int) × DH => ((a, s.1.2), s.2)) (fun s : (Int × Int × Int × Int) × (Int × Int) × DI × DH => ((a, s.1.2), s.2))) id) := by
 refine ⟨fun x => ?_, fun x => ?_⟩
 ·unfold bC iC
  simp only [H, I, decide_true, yl, gJ, yo2, Function.comp_def, yg, yh2, Sum.map_inl, Sum.map_inr, id_eq]
 ·unfold bC gZ
  simp only [H, I, decide_true, yl, gJ, yo2, Function.comp_def, yg, yh2, Sum.map_inl, Sum.map_inr, id_eq]
theorem Q8 (a : Int) (I : b5 a 7 = 0) (x : (Int × Int × Int) × (Int × Int) × DH) : cE 400 (Sum.inl ((a, x.1), x.2)) = cE 400 (Sum.inl ((0, x.1), x.2)) := by
 have H : b5 0 7 = 0 := by decide
 refine iV (B := bC 400) (f := Sum.map (fun s : (Int × Int × Int × Int) × (Int × Int) × DH => ((a, s.1.2), s.2)) (fun s : (Int × Int × Int × Int) × (Int × Int) × DI × DH => ((a, s.1.2), s.2))) (g := Sum.map (fun s : (Int × Int × Int × Int) × (Int × Int) × DH => ((0, s.1.2), s.2)) (fun s : (Int × Int × Int × Int) × (Int × Int) × DI × DH => ((0, s.1.2), s.2))) (fun s hs => ?_) (fun s hs => ?_) 400 (Sum.inl ((0, x.1), x.2)) rfl
 ·rw [← hs]
  cases s with
  | inl y => exact (PX a 0 I H).1 y
  | inr y => exact (PX a 0 I H).2 y
 ·conv => lhs; rw [← hs]
  conv => rhs; rw [← hs]
  cases s with
  | inl y => exact (PX 0 0 H H).1 y
  | inr y => exact (PX 0 0 H H).2 y
theorem Qr (a c : Int) (H : b5 a 7 = 1) (I : b5 c 7 = 1) (x : (Int × Int × Int × Int) × (Int × Int) × DH) : (fun s => bM 400 s.1.1 s.1.2.1 s.1.2.2.1 s.1.2.2.2 s.2.1.1 s.2.1.2 s.2.2) ((a, x.1.2), x.2) = ((fun s => bM 400 s.1.1 s.1.2.1 s.1.2.2.1 s.1.2.2.2 s.2.1.1 s.2.1.2 s.2.2) ((c, x.1.2), x.2)).map (Sum.map (fun s : (Int × Int × Int × Int) × (Int × Int) × DH => ((a, s.1.2), s.2)) id) := by
 show bM 400 a x.1.2.1 x.1.2.2.1 x.1.2.2.2 x.2.1.1 x.2.1.2 x.2.2 = (bM 400 c x.1.2.1 x.1.2.2.1 x.1.2.2.2 x.2.1.1 x.2.1.2 x.2.2).map _
 unfold bM
 simp only [H, I, decide_true, yl, gJ, yo2, Function.comp_def, yg, yh2, Sum.map_inl, Sum.map_inr, id_eq]
theorem QP (a : Int) (I : b5 a 7 = 1) (x : (Int × Int × Int) × (Int × Int) × DH) : cC 400 ((a, x.1), x.2) = cC 400 ((1, x.1), x.2) := by
 have H : b5 1 7 = 1 := by decide
 refine iV (B := (fun s => bM 400 s.1.1 s.1.2.1 s.1.2.2.1 s.1.2.2.2 s.2.1.1 s.2.1.2 s.2.2)) (f := fun s : (Int × Int × Int × Int) × (Int × Int) × DH => ((a, s.1.2), s.2)) (g := fun s : (Int × Int × Int × Int) × (Int × Int) × DH => ((1, s.1.2), s.2)) (fun s hs => ?_) (fun s hs => ?_) 400 ((1, x.1), x.2) rfl
 ·rw [← hs]; exact Qr a 1 I H s
 ·conv => lhs; rw [← hs]
  conv => rhs; rw [← hs]
  exact Qr 1 1 H H s
theorem PW (a c : Int) (H : b5 a 7 = 2) (I : b5 c 7 = 2) : (∀ x : (Int × Int × Int × Int) × (Int × Int) × DH, bB 400 (Sum.inl ((a, x.1.2), x.2)) = (bB 400 (Sum.inl ((c, x.1.2), x.2))).map (Sum.map (Sum.map (fun s : (Int × Int × Int × Int) × (Int × Int) × DH => ((a, s.1.2), s.2)) (fun s : (Int × Int × Int × Int) × (Int × Int) × DH × DJ => ((a, s.1.2), s.2))) id)) ∧
  ∀ x : (Int × Int × Int × Int) × (Int × Int) × DH × DJ, bB 400 (Sum.inr ((a, x.1.2), x.2)) = (bB 400 (Sum.inr ((c, x.1.2), x.2))).map (Sum.map (Sum.map (fun s : (Int × Int × Int × Int) × (Int × Int) × DH => ((a, s.1.2), s.2)) (fun s : (Int × Int × Int × Int) × (Int × Int) × DH × DJ => ((a, s.1.2), s.2))) id) := by
 refine ⟨fun x => ?_, fun x => ?_⟩
 ·unfold bB iG
  simp only [H, I, decide_true, yl, gJ, yo2, Function.comp_def, yg, yh2, Sum.map_inl, Sum.map_inr, id_eq]
 ·unfold bB iB
  simp only [H, I, decide_true, yl, gJ, yo2, Function.comp_def, yg, yh2, Sum.map_inl, Sum.map_inr, id_eq]
theorem QV (a : Int) (I : b5 a 7 = 2) (x : (Int × Int × Int) × (Int × Int) × DH) : cB 400 (Sum.inl ((a, x.1), x.2)) = cB 400 (Sum.inl ((2, x.1), x.2)) := by
 have H : b5 2 7 = 2 := by decide
 refine iV (B := bB 400) (f := Sum.map (fun s : (Int × Int × Int × Int) × (Int × Int) × DH => ((a, s.1.2), s.2)) (fun s : (Int × Int × Int × Int) × (Int × Int) × DH × DJ => ((a, s.1.2), s.2))) (g := Sum.map (fun s : (Int × Int × Int × Int) × (Int × Int) × DH => ((2, s.1.2), s.2)) (fun s : (Int × Int × Int × Int) × (Int × Int) × DH × DJ => ((2, s.1.2), s.2))) (fun s hs => ?_) (fun s hs => ?_) 400 (Sum.inl ((2, x.1), x.2)) rfl
 ·rw [← hs]
  cases s with
  | inl y => exact (PW a 2 I H).1 y
  | inr y => exact (PW a 2 I H).2 y
 ·conv => lhs; rw [← hs]
  conv => rhs; rw [← hs]
  cases s with
  | inl y => exact (PW 2 2 H H).1 y
  | inr y => exact (PW 2 2 H H).2 y
theorem P1 (a c : Int) (H : b5 a 7 = 3) (I : b5 c 7 = 3) : (∀ x : (Int × Int × Int × Int) × (Int × Int) × DH, bA 400 (Sum.inl ((a, x.1.2), x.2)) = (bA 400 (Sum.inl ((c, x.1.2), x.2))).map (Sum.map (Sum.map (fun s : (Int × Int × Int × Int) × (Int × Int) × DH => ((a, s.1.2), s.2)) (fun s : (Int × Int × Int × Int) × (Int × Int) × DH × DC => ((a, s.1.2), s.2))) id)) ∧
  ∀ x : (Int × Int × Int × Int) × (Int × Int) × DH × DC, bA 400 (Sum.inr ((a, x.1.2), x.2)) = (bA 400 (Sum.inr ((c, x.1.2), x.2))).map (Sum.map (Sum.map (fun s : (Int × Int × Int × Int) × (Int × Int) × DH => ((a, s.1.2), s.2)) (fun s : (Int × Int × Int × Int) × (Int × Int) × DH × DC => ((a, s.1.2), s.2))) id) := by
 refine ⟨fun x => ?_, fun x => ?_⟩
 ·unfold bA iE
  simp only [H, I, decide_true, yl, gJ, yo2, Function.comp_def, yg, yh2, Sum.map_inl, Sum.map_inr, id_eq]
 ·unfold bA iA
  simp only [H, I, decide_true, yl, gJ, yo2, Function.comp_def, yg, yh2, Sum.map_inl, Sum.map_inr, id_eq]
theorem Q5 (a : Int) (I : b5 a 7 = 3) (x : (Int × Int × Int) × (Int × Int) × DH) : cF 400 (Sum.inl ((a, x.1), x.2)) = cF 400 (Sum.inl ((3, x.1), x.2)) := by
 have H : b5 3 7 = 3 := by decide
 refine iV (B := bA 400) (f := Sum.map (fun s : (Int × Int × Int × Int) × (Int × Int) × DH => ((a, s.1.2), s.2)) (fun s : (Int × Int × Int × Int) × (Int × Int) × DH × DC => ((a, s.1.2), s.2))) (g := Sum.map (fun s : (Int × Int × Int × Int) × (Int × Int) × DH => ((3, s.1.2), s.2)) (fun s : (Int × Int × Int × Int) × (Int × Int) × DH × DC => ((3, s.1.2), s.2))) (fun s hs => ?_) (fun s hs => ?_) 400 (Sum.inl ((3, x.1), x.2)) rfl
 ·rw [← hs]
  cases s with
  | inl y => exact (P1 a 3 I H).1 y
  | inr y => exact (P1 a 3 I H).2 y
 ·conv => lhs; rw [← hs]
  conv => rhs; rw [← hs]
  cases s with
  | inl y => exact (P1 3 3 H H).1 y
  | inr y => exact (P1 3 3 H H).2 y
theorem P3 (a c : Int) (H : b5 a 7 = 4) (I : b5 c 7 = 4) : (∀ x : (Int × Int × Int × Int) × (Int × Int) × DH, bE 400 (Sum.inl ((a, x.1.2), x.2)) = (bE 400 (Sum.inl ((c, x.1.2), x.2))).map (Sum.map (Sum.map (fun s : (Int × Int × Int × Int) × (Int × Int) × DH => ((a, s.1.2), s.2)) (fun s : (Int × Int × Int × Int) × (Int × Int) × DH × DE => ((a, s.1.2), s.2))) id)) ∧
  ∀ x : (Int × Int × Int × Int) × (Int × Int) × DH × DE, bE 400 (Sum.inr ((a, x.1.2), x.2)) = (bE 400 (Sum.inr ((c, x.1.2), x.2))).map (Sum.map (Sum.map (fun s : (Int × Int × Int × Int) × (Int × Int) × DH => ((a, s.1.2), s.2)) (fun s : (Int × Int × Int × Int) × (Int × Int) × DH × DE => ((a, s.1.2), s.2))) id) := by
 refine ⟨fun x => ?_, fun x => ?_⟩
 ·unfold bE iD
  simp only [H, I, decide_true, yl, gJ, yo2, Function.comp_def, yg, yh2, Sum.map_inl, Sum.map_inr, id_eq]
 ·unfold bE h9
  simp only [H, I, decide_true, yl, gJ, yo2, Function.comp_def, yg, yh2, Sum.map_inl, Sum.map_inr, id_eq]
theorem Q6 (a : Int) (I : b5 a 7 = 4) (x : (Int × Int × Int) × (Int × Int) × DH) : cA 400 (Sum.inl ((a, x.1), x.2)) = cA 400 (Sum.inl ((4, x.1), x.2)) := by
 have H : b5 4 7 = 4 := by decide
 refine iV (B := bE 400) (f := Sum.map (fun s : (Int × Int × Int × Int) × (Int × Int) × DH => ((a, s.1.2), s.2)) (fun s : (Int × Int × Int × Int) × (Int × Int) × DH × DE => ((a, s.1.2), s.2))) (g := Sum.map (fun s : (Int × Int × Int × Int) × (Int × Int) × DH => ((4, s.1.2), s.2)) (fun s : (Int × Int × Int × Int) × (Int × Int) × DH × DE => ((4, s.1.2), s.2))) (fun s hs => ?_) (fun s hs => ?_) 400 (Sum.inl ((4, x.1), x.2)) rfl
 ·rw [← hs]
  cases s with
  | inl y => exact (P3 a 4 I H).1 y
  | inr y => exact (P3 a 4 I H).2 y
 ·conv => lhs; rw [← hs]
  conv => rhs; rw [← hs]
  cases s with
  | inl y => exact (P3 4 4 H H).1 y
  | inr y => exact (P3 4 4 H H).2 y
theorem Qs (a c : Int) (H : b5 a 7 = 5) (I : b5 c 7 = 5) (x : (Int × Int × Int × Int) × (Int × Int) × DH) : (fun s => bN 400 s.1.1 s.1.2.1 s.1.2.2.1 s.1.2.2.2 s.2.1.1 s.2.1.2 s.2.2) ((a, x.1.2), x.2) = ((fun s => bN 400 s.1.1 s.1.2.1 s.1.2.2.1 s.1.2.2.2 s.2.1.1 s.2.1.2 s.2.2) ((c, x.1.2), x.2)).map (Sum.map (fun s : (Int × Int × Int × Int) × (Int × Int) × DH => ((a, s.1.2), s.2)) id) := by
 show bN 400 a x.1.2.1 x.1.2.2.1 x.1.2.2.2 x.2.1.1 x.2.1.2 x.2.2 = (bN 400 c x.1.2.1 x.1.2.2.1 x.1.2.2.2 x.2.1.1 x.2.1.2 x.2.2).map _
 unfold bN
 simp only [H, I, decide_true, yl, gJ, yo2, Function.comp_def, yg, yh2, Sum.map_inl, Sum.map_inr, id_eq]
theorem QX (a : Int) (I : b5 a 7 = 5) (x : (Int × Int × Int) × (Int × Int) × DH) : b8 400 ((a, x.1), x.2) = b8 400 ((5, x.1), x.2) := by
 have H : b5 5 7 = 5 := by decide
 refine iV (B := (fun s => bN 400 s.1.1 s.1.2.1 s.1.2.2.1 s.1.2.2.2 s.2.1.1 s.2.1.2 s.2.2)) (f := fun s : (Int × Int × Int × Int) × (Int × Int) × DH => ((a, s.1.2), s.2)) (g := fun s : (Int × Int × Int × Int) × (Int × Int) × DH => ((5, s.1.2), s.2)) (fun s hs => ?_) (fun s hs => ?_) 400 ((5, x.1), x.2) rfl
 ·rw [← hs]; exact Qs a 5 I H s
 ·conv => lhs; rw [← hs]
  conv => rhs; rw [← hs]
  exact Qs 5 5 H H s
theorem QH (a c : Int) (H : b5 a 7 = 6) (I : b5 c 7 = 6) (x : (Int × Int × Int × Int) × (Int × Int) × DH) : (fun s => bO 400 s.1.1 s.1.2.1 s.1.2.2.1 s.1.2.2.2 s.2.1.1 s.2.1.2 s.2.2) ((a, x.1.2), x.2) = ((fun s => bO 400 s.1.1 s.1.2.1 s.1.2.2.1 s.1.2.2.2 s.2.1.1 s.2.1.2 s.2.2) ((c, x.1.2), x.2)).map (Sum.map (fun s : (Int × Int × Int × Int) × (Int × Int) × DH => ((a, s.1.2), s.2)) id) := by
 show bO 400 a x.1.2.1 x.1.2.2.1 x.1.2.2.2 x.2.1.1 x.2.1.2 x.2.2 = (bO 400 c x.1.2.1 x.1.2.2.1 x.1.2.2.2 x.2.1.1 x.2.1.2 x.2.2).map _
 unfold bO
 simp only [H, I, decide_true, yl, gJ, yo2, Function.comp_def, yg, yh2, Sum.map_inl, Sum.map_inr, id_eq]
theorem QR (a : Int) (I : b5 a 7 = 6) (x : (Int × Int × Int) × (Int × Int) × DH) : cD 400 ((a, x.1), x.2) = cD 400 ((6, x.1), x.2) := by
 have H : b5 6 7 = 6 := by decide
 refine iV (B := (fun s => bO 400 s.1.1 s.1.2.1 s.1.2.2.1 s.1.2.2.2 s.2.1.1 s.2.1.2 s.2.2)) (f := fun s : (Int × Int × Int × Int) × (Int × Int) × DH => ((a, s.1.2), s.2)) (g := fun s : (Int × Int × Int × Int) × (Int × Int) × DH => ((6, s.1.2), s.2)) (fun s hs => ?_) (fun s hs => ?_) 400 ((6, x.1), x.2) rfl
 ·rw [← hs]; exact QH a 6 I H s
 ·conv => lhs; rw [← hs]
  conv => rhs; rw [← hs]
  exact QH 6 6 H H s
theorem QU (a b : Int) (H : b5 a 7 = 0) {k : Nat} (J : k < 70) (I : b5 b 70 = b5 (k : Int) 70) : cN 400 a b = some true := by
 have h := qO (yr1.1 Ra k (yi3.2 J))
 have e : cN 400 a b = cN 400 0 (k : Int) := by
  unfold cN
  rw [I]
  try simp only [show ∀ x y, cE 400 (Sum.inl ((a, x), y)) = cE 400 (Sum.inl ((0, x), y)) from fun x y => Q8 a H (x, y)]
 rw [e]; exact h
theorem QY (a b : Int) (H : b5 a 7 = 1) {k : Nat} (J : k < 70) (I : b5 b 70 = b5 (k : Int) 70) : cH 400 a b = some true := by
 have h := qO (yr1.1 QZ k (yi3.2 J))
 have e : cH 400 a b = cH 400 1 (k : Int) := by
  unfold cH
  rw [I]
  try simp only [show ∀ x y, cC 400 (((a, x), y)) = cC 400 (((1, x), y)) from fun x y => QP a H (x, y)]
 rw [e]; exact h
theorem Q7 (a b : Int) (H : b5 a 7 = 2) {k : Nat} (J : k < 70) (I : b5 b 70 = b5 (k : Int) 70) : cG 400 a b = some true := by
 have h := qO (yr1.1 QK k (yi3.2 J))
 have e : cG 400 a b = cG 400 2 (k : Int) := by
  unfold cG
  rw [I]
  try simp only [show ∀ x y, cB 400 (Sum.inl ((a, x), y)) = cB 400 (Sum.inl ((2, x), y)) from fun x y => QV a H (x, y)]
 rw [e]; exact h
theorem Rb (a b : Int) (H : b5 a 7 = 3) {k : Nat} (J : k < 70) (I : b5 b 70 = b5 (k : Int) 70) : cJ 400 a b = some true := by
 have h := qO (yr1.1 QN k (yi3.2 J))
 have e : cJ 400 a b = cJ 400 3 (k : Int) := by
  unfold cJ
  rw [I]
  try simp only [show ∀ x y, cF 400 (Sum.inl ((a, x), y)) = cF 400 (Sum.inl ((3, x), y)) from fun x y => Q5 a H (x, y)]
 rw [e]; exact h
theorem Q1 (a b : Int) (H : b5 a 7 = 4) {k : Nat} (J : k < 70) (I : b5 b 70 = b5 (k : Int) 70) : cK 400 a b = some true := by
 have h := qO (yr1.1 Q3 k (yi3.2 J))
 have e : cK 400 a b = cK 400 4 (k : Int) := by
  unfold cK
  rw [I]
  try simp only [show ∀ x y, cA 400 (Sum.inl ((a, x), y)) = cA 400 (Sum.inl ((4, x), y)) from fun x y => Q6 a H (x, y)]
 rw [e]; exact h
theorem QL (a b : Int) (H : b5 a 7 = 5) {k : Nat} (J : k < 70) (I : b5 b 70 = b5 (k : Int) 70) : cM 400 a b = some true := by
 have h := qO (yr1.1 QM k (yi3.2 J))
 have e : cM 400 a b = cM 400 5 (k : Int) := by
  unfold cM
  rw [I]
  simp only [show ∀ x y, b8 400 (((a, x), y)) = b8 400 (((5, x), y)) from fun x y => QX a H (x, y)]
 rw [e]; exact h
theorem QS (a b : Int) (H : b5 a 7 = 6) {k : Nat} (J : k < 70) (I : b5 b 70 = b5 (k : Int) 70) : cL 400 a b = some true := by
 have h := qO (yr1.1 Q2 k (yi3.2 J))
 have e : cL 400 a b = cL 400 6 (k : Int) := by
  unfold cL
  rw [I]
  simp only [show ∀ x y, cD 400 (((a, x), y)) = cD 400 (((6, x), y)) from fun x y => QR a H (x, y)]
 rw [e]; exact h
end Sx
end
section
namespace Sx
open Go Go.Ab
theorem Ik (d : Int × Int) (M : CV (.cons (.int .u8) (.cons (.int .u8) .nil)) d) :
  cN 400 d.1 d.2 = some true ∨ cH 400 d.1 d.2 = some true ∨ cG 400 d.1 d.2 = some true ∨ cJ 400 d.1 d.2 = some true ∨ cK 400 d.1 d.2 = some true ∨ cM 400 d.1 d.2 = some true ∨ cL 400 d.1 d.2 = some true := by
 obtain ⟨J, K, _⟩ : (Lit.int .u8 d.1).wf = true ∧ (Lit.int .u8 d.2).wf = true ∧ True := M
 have J := O6 J
 have K := O6 K
 have I : (d.2 % 70).toNat < 70 := by omega
 have H : b5 d.2 70 = b5 (((d.2 % 70).toNat : Nat) : Int) 70 := by rw [sZ K.1, sZ (by omega)]; omega
 have hr : b5 d.1 7 = d.1 % 7 := sZ J.1
 have : d.1 % 7 = 0 ∨ d.1 % 7 = 1 ∨ d.1 % 7 = 2 ∨ d.1 % 7 = 3 ∨ d.1 % 7 = 4 ∨ d.1 % 7 = 5 ∨ d.1 % 7 = 6 := by omega
 rcases this with h | h | h | h | h | h | h
 ·exact .inl (QU _ _ (hr.trans h) I H)
 ·exact .inr (.inl (QY _ _ (hr.trans h) I H))
 ·exact .inr (.inr (.inl (Q7 _ _ (hr.trans h) I H)))
 ·exact .inr (.inr (.inr (.inl (Rb _ _ (hr.trans h) I H))))
 ·exact .inr (.inr (.inr (.inr (.inl (Q1 _ _ (hr.trans h) I H)))))
 ·exact .inr (.inr (.inr (.inr (.inr (.inl (QL _ _ (hr.trans h) I H))))))
 ·exact .inr (.inr (.inr (.inr (.inr (.inr (QS _ _ (hr.trans h) I H))))))
end Sx
end
