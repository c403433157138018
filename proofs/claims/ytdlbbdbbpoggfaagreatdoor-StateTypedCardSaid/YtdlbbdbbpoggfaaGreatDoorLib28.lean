import Derived.Test.YtdlbbdbbpoggfaaGreatDoorLib27
import Derived.ProofKit
set_option linter.unusedVariables false
set_option linter.unusedSectionVars false
namespace Go.Ab
variable [cD]
open Go.RowKit
variable {P : Program}
def Gf (w : World) : Gh := { loc := fun _ _ => none, prot := fun _ B _ => B < w.heap.size, mine := fun B => w.heap.size ≤ B }
theorem Gf.mem (w : World) (z : n9 (Gf w) w) : aT (Gf w) w [] :=
 ⟨fun b x h => by simp at h, fun _ _ _ => rfl, fun _ _ _ _ _ => rfl, fun b b' x x' L L' B h => by simp at h, fun B h => h, fun B o h => h, fun _ _ _ h => h, z⟩
theorem I1 {w A : World} (h : Ev (Gf w) w A) : Below w.heap.size w A :=
 ⟨h.os, h.tape, h.out, h.size, fun k z => h.away k z (fun hm => Nat.not_lt.2 hm z)⟩
theorem Io {f : FuncId} {E : aG} (hE : aM P f E) {a : E.a.den} {b : eP E.r} (A : E.sh a = some b) {as : List AV} (H : Mu E as [] a) {w : World} (K : n9 (Gf w) w) {h : Array Value} (M : o6 (Gf w) w as h) :
  Calls P f h w fun e z => ∃ J cv, e = .returned cv ∧ VR J z (Ad E b).1 cv ∧ Below w.heap.size w z := by
 obtain ⟨_, N⟩ := hE.2 a b A (Gf w) w as [] h H (Gf.mem w K) (fun j x hx => by simp at hx) M
 refine N.mono fun e z O => ?_
 obtain ⟨J, cv, rfl, hR⟩ := O
 exact ⟨J, cv, rfl, hR.v, I1 hR.ev⟩
theorem o6.nil {G : Gh} {w : World} : o6 G w [] #[] := ⟨rfl, fun j y h => by simp at h⟩
theorem o6.cons {G : Gh} {w : World} {a : AV} {v : Value} {as : List AV} {vs : List Value} (h : VR G w a v) (A : o6 G w as vs.toArray) : o6 G w (a :: as) (v :: vs).toArray := by
 refine ⟨by simp [A.1], fun j y z => ?_⟩
 rw [ym]
 cases j with
 | zero => simp at z; subst z; simpa using h
 | succ j =>
  have := A.2 j y (by simpa using z)
  rw [ym] at this
  simpa using this
theorem wH {f : FuncId} {E : aG} (hE : aM P f E) {a : E.a.den} {b : eP E.r} (z : E.sh a = some b) (O : (Ad E b).1 = .lit (.bool true)) {as : List AV} (A : Mu E as [] a) {w : World} (M : n9 (Gf w) w) {h : Array Value} (N : o6 (Gf w) w as h) :
  Calls P f h w fun e H => e = .returned (.bool true) ∧ Below w.heap.size w H := by
 refine (Io hE z A M N).mono fun e H U => ?_
 obtain ⟨G', cv, rfl, J, K⟩ := U
 rw [O] at J
 exact ⟨by rw [J.lit_inv], K⟩
end Go.Ab
