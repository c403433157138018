import Derived.Test.YtdlbbdbbpoggfaaLib28
import Derived.ProofKit
set_option linter.unusedVariables false
set_option linter.unusedSectionVars false
namespace Go.Ab
variable [b4]
open Go.RowKit
variable {P : Program}
def J9 (w : World) : Gh := { loc := fun _ _ => none, prot := fun _ B _ => B < w.heap.size, mine := fun B => w.heap.size ≤ B }
theorem J9.mem (w : World) (I : rG (J9 w) w) : aF (J9 w) w [] :=
 ⟨fun b x h => by simp at h, fun _ _ _ => rfl, fun _ _ _ _ _ => rfl, fun b H x x' L L' B h => by simp at h, fun b H x x' B i c B' h => by simp at h, fun b H x x' B C i c i' c' B' h => by simp at h, fun B h => h, fun B o h => h, fun _ _ _ h => h, I⟩
theorem Jl {w H : World} (h : Ev (J9 w) w H) : Below w.heap.size w H :=
 ⟨h.os, h.tape, h.out, h.size, fun k I => h.away k I (fun hm => Nat.not_lt.2 hm I)⟩
theorem Jy {f : FuncId} {E : aC} (hE : aW P f E) {a : E.a.den} {b : eO E.r} (K : E.sh a = some b) {as : List AV} (M : Mo E as [] a) {w : World} (O : rG (J9 w) w) {H : Array Value} (N : nC (J9 w) w as H) :
  Calls P f H w fun e I => ∃ J cv, e = .returned cv ∧ VR J I (AW E b).1 cv ∧ Below w.heap.size w I := by
 obtain ⟨_, U⟩ := hE.2 a b K (J9 w) w as [] H M (J9.mem w O) (fun j x V => by simp at V) N
 refine U.mono fun e I W => ?_
 obtain ⟨J, cv, rfl, hR⟩ := W
 exact ⟨J, cv, rfl, hR.v, Jl hR.ev⟩
theorem nC.nil {G : Gh} {w : World} : nC G w [] #[] := ⟨rfl, fun j y H => by simp at H⟩
theorem nC.cons {G : Gh} {w : World} {a : AV} {v : Value} {as : List AV} {vs : List Value} (h : VR G w a v) (hs : nC G w as vs.toArray) : nC G w (a :: as) (v :: vs).toArray := by
 refine ⟨by simp [hs.1], fun j y H => ?_⟩
 rw [yj]
 cases j with
 | zero => simp at H; subst H; simpa using h
 | succ j =>
  have := hs.2 j y (by simpa using H)
  rw [yj] at this
  simpa using this
theorem iT {f : FuncId} {E : aC} (hE : aW P f E) {a : E.a.den} {b : eO E.r} (I : E.sh a = some b) (M : (AW E b).1 = .lit (.bool true)) {as : List AV} (J : Mo E as [] a) {w : World} (U : rG (J9 w) w) {H : Array Value} (N : nC (J9 w) w as H) :
  Calls P f H w fun e K => e = .returned (.bool true) ∧ Below w.heap.size w K := by
 refine (Jy hE I J U N).mono fun e K V => ?_
 obtain ⟨G', cv, rfl, hr, O⟩ := V
 rw [M] at hr
 exact ⟨by rw [hr.lit_inv], O⟩
end Go.Ab
