/- The statement JudgeRight: at every input the call answers true, and each argument reads afterwards as it read before, where flow's five package variables hold what the program's own text lays in them (the card ties that to the text).
  Conditions: none but the card's own. -/
import Derived.Test.YtliamnpngkojdaaDoorCards
import Derived.Test.YtliamnpngkojdaaDoorTie
import Derived.Test.YtliamnpngkojdaaDoorLaw7
import Derived.Test.YtliamnpngkojdaaDoorFlRun2
import Derived.WalkKit
import Derived.ProofKit
import Derived.SizedLaws
import Derived.KernelRfl
import Derived.Lay
import Derived.SevenTiedAt
import Derived.Test.YtliamnpngkojdaaDoorLib33
set_option linter.unusedVariables false
namespace Go.Proofs.YtliamnpngkojdaaDoor.judgeRight
open Go Go.Ab Go.RowKit Go.ChangeShapes Go.WideShapes Go.ChangeAt
theorem own : ownKnob Tryd.prog.godebug = none := by kernel_rfl
noncomputable def sh : Sh := .cons Sx.shM (.cons Sx.shMaps .nil)
theorem facts : rowSh Tryd.prog Tryd.f8 sh = true := by kernel_rfl
theorem told : ∀ x ∈ Sx.globL, (x.1, (DataW.agg [.lit (.int .i64 x.2.2.1), .lit (.int .i64 x.2.2.2)] : DataW Unit)) ∈ Rows.judgeRightRow.laid := by
  intro x hx
  simp only [Sx.globL, List.mem_cons, List.not_mem_nil, or_false] at hx
  rcases hx with rfl | rfl | rfl | rfl | rfl <;> first | exact .head _ | exact .tail _ (.head _) | exact .tail _ (.tail _ (.head _)) | exact .tail _ (.tail _ (.tail _ (.head _))) | exact .tail _ (.tail _ (.tail _ (.tail _ (.head _))))
theorem globs (W : World) (h : laidMetH Tryd.prog Rows.judgeRightRow.laid W) : GlobR (Gst W) W := by
  rw [MakeChecks.laidMetH_plain _ _ _ (by kernel_rfl)] at h
  exact zas Sx.globL h told (by kernel_rfl) fun g q hq => zfK Sx.globL hq
set_option maxRecDepth 100000 in
theorem lifted (os : Os) (started : os.Started) (H : Type) (enc : TypeId × Value → H) :
    ReturnsInHanded {} Tryd.checked os 8 .any (fun w args => (Rows.judgeRightSpec.pre enc Tryd.prog Tryd.f8 Rows.judgeRightRow.domain false w args ∧ laidMetH Tryd.prog Rows.judgeRightRow.laid w) ∧ sizedMet enc Tryd.prog Tryd.f8 (OpenSpec.ofChange Rows.judgeRightSpec) false w args) (Rows.judgeRightSpec.post enc Tryd.prog Tryd.f8 false true false false) := by
  refine returnsInHanded_of_change_and (C := Tryd.checked) (X := fun w _ => laidMetH Tryd.prog Rows.judgeRightRow.laid w) (fun _ _ _ hh h => h.of_heap hh) own started (by kernel_rfl) Tryd.func8
    (ChangeSpec.witness_shaped (enc := enc) (C := Tryd.checked) (os := os) (X := fun w _ => laidMetH Tryd.prog Rows.judgeRightRow.laid w) false (World.laidAll Tryd.prog os Rows.judgeRightRow.laid) #[.agg #[.slice none 0 0, .slice none 0 0, .slice none 0 0, .slice none 0 0, .slice none 0 0], .slice none 0 0] 8 (World.laidAll_os _ _ _)
      (World.shaped_of_ZipB (by kernel_rfl) (by kernel_rfl)) (by kernel_rfl) (by kernel_rfl) (by kernel_rfl)
      (by rw [MakeChecks.laidMetH_plain _ _ _ (by kernel_rfl)]; exact laidMet_laidAll _ (by kernel_rfl) (by kernel_rfl))) ?_
  intro W base args ds gs before hval hW hcnd hsz hL _
  exact zar (sh := sh) facts rfl (fun (ds : List (DataW H)) h => match ds, h with | [d1, d2], _ => rfl)
    (fun d hf W avs vargs hw hle hlen hv => Exists.elim (Sx.zkr d hf) fun n hn => zaY (Sx.zeA n) (a := d) (b := true) hn rfl ⟨hlen, hle, rfl⟩ hw hv) (globs W hL) hval hW hsz
theorem over : Rows.judgeRightRow.holds Tryd.pinned (OpenSpec.ofChange Rows.judgeRightSpec) :=
  OpenClaim.holds_of_wide 8 Tryd.f8 rfl rfl rfl rfl rfl rfl rfl ⟨rfl, rfl, rfl, rfl, rfl⟩ rfl rfl rfl rfl rfl (by kernel_rfl) Tryd.func8 (by kernel_rfl)
    (of_decide_eq_true (by kernel_rfl)) (by unfold Func.isWrapper; first | (rw [if_pos (by decide +kernel)]; kernel_rfl) | (rw [if_neg (by decide +kernel)]; exact ⟨rfl, rfl⟩))
    (fun os started H enc _ => lifted os started H enc)
theorem params : (Tryd.f8.params.toList.all fun t => !(Tryd.prog.wantsStandIn t)) = true := by kernel_rfl
theorem proved : Rows.JudgeRightCardSaid :=
  Claim7.holds_tied_plain_at .later [] [.data, .data, .data, .data, .data] true (true, "232f948264747232d392720e58d3d817670e615535002a07a0fad7f265756174") false
    over (fun _ h => by cases h) (by kernel_rfl) (fun _ h => by cases h) judgeRight_row_tie rfl ⟨rfl, rfl⟩ (by kernel_rfl) rfl
    (fun f fn hf hfn => by
      obtain rfl : f = 8 := Option.some.inj ((show Tryd.prog.funcNamed Rows.judgeRightRow.func = some 8 by kernel_rfl).symm.trans hf) |>.symm
      obtain rfl : fn = Tryd.f8 := (Option.some.inj (Tryd.func8.symm.trans hfn)).symm
      exact ⟨by kernel_rfl, fun j t ht => by
        have := List.all_eq_true.1 params t (List.mem_of_getElem? (by rw [Array.getElem?_toList]; exact ht))
        exact (show Tryd.prog.wantsStandIn t = false by simpa using this)⟩)
    (by kernel_rfl)
end Go.Proofs.YtliamnpngkojdaaDoor.judgeRight
namespace Go.Proofs.YtliamnpngkojdaaDoor
theorem judgeRight_holds : Rows.JudgeRightCardSaid := judgeRight.proved
#print axioms judgeRight_holds
end Go.Proofs.YtliamnpngkojdaaDoor
