/- The statement FlowBelow: at every input the call answers true, and each argument reads afterwards as it read before, where flow's five package variables hold what the program's own text lays in them (the card ties that to the text).
  Conditions: none but the card's own. -/
import Derived.Test.YtliamnpngkojdaaDoorCards
import Derived.Test.YtliamnpngkojdaaDoorTie
import Derived.Test.YtliamnpngkojdaaDoorLaw6
import Derived.Test.YtliamnpngkojdaaDoorFlRun2
import Derived.WalkKit
import Derived.ProofKit
import Derived.SizedLaws
import Derived.KernelRfl
import Derived.Lay
import Derived.SevenTiedAt
import Derived.Test.YtliamnpngkojdaaDoorLib33
set_option linter.unusedVariables false
namespace Go.Proofs.YtliamnpngkojdaaDoor.flowBelow
open Go Go.Ab Go.RowKit Go.ChangeShapes Go.WideShapes Go.ChangeAt
theorem own : ownKnob Tryd.prog.godebug = none := by kernel_rfl
noncomputable def sh : Sh := .cons Sx.shM (.cons (.int .i64) (.cons (.int .i64) (.cons (.sl true true Sx.tyT) (.cons (.sl true true Sx.tyT) .nil))))
theorem facts : rowSh Tryd.prog Tryd.f5 sh = true := by kernel_rfl
theorem told : ∀ x ∈ Sx.globL, (x.1, (DataW.agg [.lit (.int .i64 x.2.2.1), .lit (.int .i64 x.2.2.2)] : DataW Unit)) ∈ Rows.flowBelowRow.laid := by
  intro x hx
  simp only [Sx.globL, List.mem_cons, List.not_mem_nil, or_false] at hx
  rcases hx with rfl | rfl | rfl | rfl | rfl <;> first | exact .head _ | exact .tail _ (.head _) | exact .tail _ (.tail _ (.head _)) | exact .tail _ (.tail _ (.tail _ (.head _))) | exact .tail _ (.tail _ (.tail _ (.tail _ (.head _))))
theorem globs (W : World) (h : laidMetH Tryd.prog Rows.flowBelowRow.laid W) : GlobR (Gst W) W := by
  rw [MakeChecks.laidMetH_plain _ _ _ (by kernel_rfl)] at h
  exact zas Sx.globL h told (by kernel_rfl) fun g q hq => zfK Sx.globL hq
set_option maxRecDepth 100000 in
theorem lifted (os : Os) (started : os.Started) (H : Type) (enc : TypeId × Value → H) :
    ReturnsInHanded {} Tryd.checked os 5 .any (fun w args => (Rows.flowBelowSpec.pre enc Tryd.prog Tryd.f5 Rows.flowBelowRow.domain false w args ∧ laidMetH Tryd.prog Rows.flowBelowRow.laid w) ∧ sizedMet enc Tryd.prog Tryd.f5 (OpenSpec.ofChange Rows.flowBelowSpec) false w args) (Rows.flowBelowSpec.post enc Tryd.prog Tryd.f5 false true false false) := by
  refine returnsInHanded_of_change_and (C := Tryd.checked) (X := fun w _ => laidMetH Tryd.prog Rows.flowBelowRow.laid w) (fun _ _ _ hh h => h.of_heap hh) own started (by kernel_rfl) Tryd.func5
    (ChangeSpec.witness_shaped (enc := enc) (C := Tryd.checked) (os := os) (X := fun w _ => laidMetH Tryd.prog Rows.flowBelowRow.laid w) false (World.laidAll Tryd.prog os Rows.flowBelowRow.laid) #[.agg #[.slice none 0 0, .slice none 0 0, .slice none 0 0, .slice none 0 0, .slice none 0 0], .int .i64 0, .int .i64 0, .slice none 0 0, .slice none 0 0] 8 (World.laidAll_os _ _ _)
      (World.shaped_of_ZipB (by kernel_rfl) (by kernel_rfl)) (by kernel_rfl) (by kernel_rfl) (by kernel_rfl)
      (by rw [MakeChecks.laidMetH_plain _ _ _ (by kernel_rfl)]; exact laidMet_laidAll _ (by kernel_rfl) (by kernel_rfl))) ?_
  intro W base args ds gs before hval hW hcnd hsz hL _
  exact zar (sh := sh) facts rfl (fun (ds : List (DataW H)) h => match ds, h with | [d1, d2, d3, d4, d5], _ => rfl)
    (fun d hf W avs vargs hw hle hlen hv => Exists.elim (Sx.zjT d hf) fun n hn => zaY (Sx.zeR n) (a := d) (b := true) hn rfl ⟨hlen, hle, rfl⟩ hw hv) (globs W hL) hval hW hsz
theorem over : Rows.flowBelowRow.holds Tryd.pinned (OpenSpec.ofChange Rows.flowBelowSpec) :=
  OpenClaim.holds_of_wide 5 Tryd.f5 rfl rfl rfl rfl rfl rfl rfl ⟨rfl, rfl, rfl, rfl, rfl⟩ rfl rfl rfl rfl rfl (by kernel_rfl) Tryd.func5 (by kernel_rfl)
    (of_decide_eq_true (by kernel_rfl)) (by unfold Func.isWrapper; first | (rw [if_pos (by decide +kernel)]; kernel_rfl) | (rw [if_neg (by decide +kernel)]; exact ⟨rfl, rfl⟩))
    (fun os started H enc _ => lifted os started H enc)
theorem params : (Tryd.f5.params.toList.all fun t => !(Tryd.prog.wantsStandIn t)) = true := by kernel_rfl
theorem proved : Rows.FlowBelowCardSaid :=
  Claim7.holds_tied_plain_at .later [] [.data, .data, .data, .data, .data] true (true, "232f948264747232d392720e58d3d817670e615535002a07a0fad7f265756174") false
    over (fun _ h => by cases h) (by kernel_rfl) (fun _ h => by cases h) flowBelow_row_tie rfl ⟨rfl, rfl⟩ (by kernel_rfl) rfl
    (fun f fn hf hfn => by
      obtain rfl : f = 5 := Option.some.inj ((show Tryd.prog.funcNamed Rows.flowBelowRow.func = some 5 by kernel_rfl).symm.trans hf) |>.symm
      obtain rfl : fn = Tryd.f5 := (Option.some.inj (Tryd.func5.symm.trans hfn)).symm
      exact ⟨by kernel_rfl, fun j t ht => by
        have := List.all_eq_true.1 params t (List.mem_of_getElem? (by rw [Array.getElem?_toList]; exact ht))
        exact (show Tryd.prog.wantsStandIn t = false by simpa using this)⟩)
    (by kernel_rfl)
end Go.Proofs.YtliamnpngkojdaaDoor.flowBelow
namespace Go.Proofs.YtliamnpngkojdaaDoor
theorem flowBelow_holds : Rows.FlowBelowCardSaid := flowBelow.proved
#print axioms flowBelow_holds
end Go.Proofs.YtliamnpngkojdaaDoor
