import Derived.Test.YtmoldheenagboaaLib27
import Derived.ProofKit
set_option linter.unusedVariables false
set_option linter.unusedSectionVars false
namespace Go.Ab
variable [b8]
open Go.RowKit
variable {P : Program}
def Hp (w : World) : Gh := { loc := fun _ _ => none, prot := fun _ B _ => B < w.heap.size, mine := fun B => w.heap.size ≤ B }
theorem Hp.mem (w : World) (z : oQ (Hp w) w) : aQ (Hp w) w [] :=
 ⟨fun b x h => by simp at h, fun _ _ _ => rfl, fun _ _ _ _ _ => rfl, fun b b' x x' L L' B h => by simp at h, fun B h => h, fun B o h => h, fun _ _ _ h => h, z⟩
theorem FN {w z : World} (h : Ev (Hp w) w z) : Below w.heap.size w z :=
 ⟨h.os, h.tape, h.out, h.size, fun k H => h.away k H (fun J => Nat.not_lt.2 J H)⟩
theorem GI {f : FuncId} {E : aD} (Y : cE P f E) {a : E.a.den} {b : eU E.r} (J : E.sh a = some b) {as : List AV} (H : Jq E as [] a) {w : World} (Z : oQ (Hp w) w) {z : Array Value} (hv : nE (Hp w) w as z) :
  Calls P f z w fun e N => ∃ K cv, e = .returned cv ∧ VR K N (wD E b).1 cv ∧ Below w.heap.size w N := by
 obtain ⟨_, W⟩ := Y.2 a b J (Hp w) w as [] z H (Hp.mem w Z) (fun j x V => by simp at V) hv
 refine W.mono fun e N U => ?_
 obtain ⟨K, cv, rfl, O⟩ := U
 exact ⟨K, cv, rfl, O.v, FN O.ev⟩
theorem nE.nil {G : Gh} {w : World} : nE G w [] #[] := ⟨rfl, fun j y z => by simp at z⟩
theorem nE.cons {G : Gh} {w : World} {a : AV} {v : Value} {as : List AV} {vs : List Value} (h : VR G w a v) (H : nE G w as vs.toArray) : nE G w (a :: as) (v :: vs).toArray := by
 refine ⟨by simp [H.1], fun j y z => ?_⟩
 rw [yk]
 cases j with
 | zero => simp at z; subst z; simpa using h
 | succ j =>
  have := H.2 j y (by simpa using z)
  rw [yk] at this
  simpa using this
theorem HT {f : FuncId} {E : aD} (V : cE P f E) {a : E.a.den} {b : eU E.r} (J : E.sh a = some b) (Z : (wD E b).1 = .lit (.bool true)) {as : List AV} (H : Jq E as [] a) {w : World} (W : oQ (Hp w) w) {z : Array Value} (Y : nE (Hp w) w as z) :
  Calls P f z w fun e N => e = .returned (.bool true) ∧ Below w.heap.size w N := by
 refine (GI V J H W Y).mono fun e N O => ?_
 obtain ⟨G', cv, rfl, K, U⟩ := O
 rw [Z] at K
 exact ⟨by rw [K.lit_inv], U⟩
end Go.Ab
