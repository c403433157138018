import Derived.Test.YtdlbbdbbpoggfaaGreatDoorLib27
import Derived.ProofKit
set_option linter.unusedVariables false
set_option linter.unusedSectionVars false
namespace Go.Ab
variable [cD]
open Go.RowKit
variable {P : Program}
def F7 (w : World) : Gh := { loc := fun _ _ => none, prot := fun _ B _ => B < w.heap.size, mine := fun B => w.heap.size ≤ B }
theorem F7.mem (w : World) (z : oS (F7 w) w) : aT (F7 w) w [] :=
 ⟨fun b x h => by simp at h, fun _ _ _ => rfl, fun _ _ _ _ _ => rfl, fun b b' x x' L L' B h => by simp at h, fun B h => h, fun B o h => h, fun _ _ _ h => h, z⟩
theorem Ia {w z : World} (h : Ev (F7 w) w z) : Below w.heap.size w z :=
 ⟨h.os, h.tape, h.out, h.size, fun k A => h.away k A (fun hm => Nat.not_lt.2 hm A)⟩
theorem H2 {f : FuncId} {E : aG} (hE : aM P f E) {a : E.a.den} {b : eP E.r} (H : E.sh a = some b) {as : List AV} (z : Mw E as [] a) {w : World} (M : oS (F7 w) w) {h : Array Value} (K : pX (F7 w) w as h) :
  Calls P f h w fun e A => ∃ J cv, e = .returned cv ∧ VR J A (yL E b).1 cv ∧ Below w.heap.size w A := by
 obtain ⟨_, N⟩ := hE.2 a b H (F7 w) w as [] h z (F7.mem w M) (fun j x hx => by simp at hx) K
 refine N.mono fun e A O => ?_
 obtain ⟨J, cv, rfl, hR⟩ := O
 exact ⟨J, cv, rfl, hR.v, Ia hR.ev⟩
theorem pX.nil {G : Gh} {w : World} : pX G w [] #[] := ⟨rfl, fun j y h => by simp at h⟩
theorem pX.cons {G : Gh} {w : World} {a : AV} {v : Value} {as : List AV} {vs : List Value} (h : VR G w a v) (A : pX G w as vs.toArray) : pX G w (a :: as) (v :: vs).toArray := by
 refine ⟨by simp [A.1], fun j y z => ?_⟩
 rw [ym]
 cases j with
 | zero => simp at z; subst z; simpa using h
 | succ j =>
  have := A.2 j y (by simpa using z)
  rw [ym] at this
  simpa using this
theorem v6 {f : FuncId} {E : aG} (hE : aM P f E) {a : E.a.den} {b : eP E.r} (A : E.sh a = some b) (N : (yL E b).1 = .lit (.bool true)) {as : List AV} (z : Mw E as [] a) {w : World} (M : oS (F7 w) w) {h : Array Value} (K : pX (F7 w) w as h) :
  Calls P f h w fun e H => e = .returned (.bool true) ∧ Below w.heap.size w H := by
 refine (H2 hE A z M K).mono fun e H U => ?_
 obtain ⟨G', cv, rfl, J, O⟩ := U
 rw [N] at J
 exact ⟨by rw [J.lit_inv], O⟩
end Go.Ab
