import Derived.Test.YtdlbbdbbpoggfaaLib29
import Derived.ProofKit
set_option linter.unusedVariables false
set_option linter.unusedSectionVars false
namespace Go.Ab
variable [GTab]
open Go.RowKit
variable {P : Program}
def Gst (w : World) : Gh := { loc := fun _ _ => none, prot := fun _ B _ => B < w.heap.size, mine := fun B => w.heap.size ≤ B }
theorem Gst.mem (w : World) (hw : GlobR (Gst w) w) : MemR (Gst w) w [] :=
 ⟨fun b x h => by simp at h, fun _ _ _ => rfl, fun _ _ _ _ _ => rfl, fun b b' x x' L L' B h => by simp at h, fun b b' x x' B i c B' h => by simp at h, fun b b' x x' B C i c i' c' B' h => by simp at h, fun B h => h, fun B o h => h, fun _ _ _ h => h, hw⟩
theorem zlU {w w' : World} (h : Ev (Gst w) w w') : Below w.heap.size w w' :=
 ⟨h.os, h.tape, h.out, h.size, fun k hk => h.away k hk (fun hm => Nat.not_lt.2 hm hk)⟩
theorem zmj {f : FuncId} {E : Entry} (hE : EOK P f E) {a : E.a.den} {b : VDen E.r} (hab : E.sh a = some b) {as : List AV} (hle : LeE E as [] a) {w : World} (hw : GlobR (Gst w) w) {vargs : Array Value} (hv : VRs (Gst w) w as vargs) :
  Calls P f vargs w fun e w' => ∃ G' cv, e = .returned cv ∧ VR G' w' (resOf E b).1 cv ∧ Below w.heap.size w w' := by
 obtain ⟨_, hc⟩ := hE.2 a b hab (Gst w) w as [] vargs hle (Gst.mem w hw) (fun j x hx => by simp at hx) hv
 refine hc.mono fun e w' he => ?_
 obtain ⟨G', cv, rfl, hR⟩ := he
 exact ⟨G', cv, rfl, hR.v, zlU hR.ev⟩
theorem VRs.nil {G : Gh} {w : World} : VRs G w [] #[] := ⟨rfl, fun j y hy => by simp at hy⟩
theorem VRs.cons {G : Gh} {w : World} {a : AV} {v : Value} {as : List AV} {vs : List Value} (h : VR G w a v) (hs : VRs G w as vs.toArray) : VRs G w (a :: as) (v :: vs).toArray := by
 refine ⟨by simp [hs.1], fun j y hy => ?_⟩
 rw [ym]
 cases j with
 | zero => simp at hy; subst hy; simpa using h
 | succ j =>
  have := hs.2 j y (by simpa using hy)
  rw [ym] at this
  simpa using this
theorem znD {f : FuncId} {E : Entry} (hE : EOK P f E) {a : E.a.den} {b : VDen E.r} (hab : E.sh a = some b) (hb : (resOf E b).1 = .lit (.bool true)) {as : List AV} (hle : LeE E as [] a) {w : World} (hw : GlobR (Gst w) w) {vargs : Array Value} (hv : VRs (Gst w) w as vargs) :
  Calls P f vargs w fun e w' => e = .returned (.bool true) ∧ Below w.heap.size w w' := by
 refine (zmj hE hab hle hw hv).mono fun e w' he => ?_
 obtain ⟨G', cv, rfl, hr, hq⟩ := he
 rw [hb] at hr
 exact ⟨by rw [hr.lit_inv], hq⟩
end Go.Ab
