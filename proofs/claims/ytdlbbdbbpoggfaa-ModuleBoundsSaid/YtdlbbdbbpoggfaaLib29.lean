import Derived.Test.YtdlbbdbbpoggfaaLib28
import Derived.ProofKit
set_option linter.unusedVariables false
set_option linter.unusedSectionVars false
namespace Go.Ab
variable [b4]
open Go.RowKit
variable {P : Program}
def J9 (w : World) : Gh := { loc := fun _ _ => none, prot := fun _ B _ => B < w.heap.size, mine := fun B => w.heap.size ≤ B }
theorem J9.mem (w : World) (I : rI (J9 w) w) : aF (J9 w) w [] :=
 ⟨fun b x h => by simp at h, fun _ _ _ => rfl, fun _ _ _ _ _ => rfl, fun b H x x' L L' B h => by simp at h, fun b H x x' B i c B' h => by simp at h, fun b H x x' B C i c i' c' B' h => by simp at h, fun B h => h, fun B o h => h, fun _ _ _ h => h, I⟩
theorem Iw {w H : World} (h : Ev (J9 w) w H) : Below w.heap.size w H :=
 ⟨h.os, h.tape, h.out, h.size, fun k I => h.away k I (fun hm => Nat.not_lt.2 hm I)⟩
theorem Iu {f : FuncId} {E : aC} (hE : aW P f E) {a : E.a.den} {b : eN E.r} (M : E.sh a = some b) {as : List AV} (J : MC E as [] a) {w : World} (U : rI (J9 w) w) {H : Array Value} (W : m8 (J9 w) w as H) :
  Calls P f H w fun e K => ∃ I cv, e = .returned cv ∧ VR I K (zZ E b).1 cv ∧ Below w.heap.size w K := by
 obtain ⟨_, O⟩ := hE.2 a b M (J9 w) w as [] H J (J9.mem w U) (fun j x V => by simp at V) W
 refine O.mono fun e K N => ?_
 obtain ⟨I, cv, rfl, hR⟩ := N
 exact ⟨I, cv, rfl, hR.v, Iw hR.ev⟩
theorem m8.nil {G : Gh} {w : World} : m8 G w [] #[] := ⟨rfl, fun j y H => by simp at H⟩
theorem m8.cons {G : Gh} {w : World} {a : AV} {v : Value} {as : List AV} {vs : List Value} (h : VR G w a v) (hs : m8 G w as vs.toArray) : m8 G w (a :: as) (v :: vs).toArray := by
 refine ⟨by simp [hs.1], fun j y H => ?_⟩
 rw [yj]
 cases j with
 | zero => simp at H; subst H; simpa using h
 | succ j =>
  have := hs.2 j y (by simpa using H)
  rw [yj] at this
  simpa using this
theorem iS {f : FuncId} {E : aC} (hE : aW P f E) {a : E.a.den} {b : eN E.r} (J : E.sh a = some b) (N : (zZ E b).1 = .lit (.bool true)) {as : List AV} (I : MC E as [] a) {w : World} (U : rI (J9 w) w) {H : Array Value} (V : m8 (J9 w) w as H) :
  Calls P f H w fun e K => e = .returned (.bool true) ∧ Below w.heap.size w K := by
 refine (Iu hE J I U V).mono fun e K M => ?_
 obtain ⟨G', cv, rfl, hr, O⟩ := M
 rw [N] at hr
 exact ⟨by rw [hr.lit_inv], O⟩
end Go.Ab
