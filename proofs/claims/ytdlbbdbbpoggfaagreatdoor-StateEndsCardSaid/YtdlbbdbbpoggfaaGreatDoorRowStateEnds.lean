import Derived.Test.YtdlbbdbbpoggfaaGreatDoorCards
import Derived.Test.YtdlbbdbbpoggfaaGreatDoorTie
import Derived.Test.YtdlbbdbbpoggfaaGreatDoorLaw4
import Derived.Test.YtdlbbdbbpoggfaaGreatDoorOsRun1
import Derived.Lay
import Derived.SevenTiedAt
import Derived.Test.YtdlbbdbbpoggfaaGreatDoorLib34
set_option linter.unusedVariables false
namespace Go.Proofs.YtdlbbdbbpoggfaaGreatDoor.stateEnds
open Go Go.Ab Go.RowKit Go.ChangeShapes Go.WideShapes Go.ChangeAt
theorem own : ownKnob Tryz.prog.godebug = none := by kernel_rfl
noncomputable def sh : Sh := .cons Sx.NW (.cons (.int .i64) (.cons (.int .u64) (.cons (.sl true true Sx.P3) (.cons (.int .u16) .nil))))
theorem facts : HT Tryz.prog Tryz.f5 sh = true := by kernel_rfl
theorem told : ∀ x ∈ Sx.qA, (x.1, (DataW.agg [.lit (.int .i64 x.2.2.1), .lit (.int .i64 x.2.2.2)] : DataW Unit)) ∈ Rows.stateEndsRow.laid := by
  intro x hx
  simp only [Sx.qA, List.mem_cons, List.not_mem_nil, or_false] at hx
  rcases hx with rfl | rfl | rfl | rfl | rfl <;> first | exact .head _ | exact .tail _ (.head _) | exact .tail _ (.tail _ (.head _)) | exact .tail _ (.tail _ (.tail _ (.head _))) | exact .tail _ (.tail _ (.tail _ (.tail _ (.head _))))
theorem globs (W : World) (h : laidMetH Tryz.prog Rows.stateEndsRow.laid W) : oS (F7 W) W := by
  rw [MakeChecks.laidMetH_plain _ _ _ (by kernel_rfl)] at h
  exact o9 Sx.qA h told (by kernel_rfl) fun g q hq => Ji Sx.qA hq
set_option maxRecDepth 100000 in
theorem lifted (os : Os) (started : os.Started) (H : Type) (enc : TypeId × Value → H) :
    ReturnsInHanded {} Tryz.checked os 5 .any (fun w args => (Rows.stateEndsSpec.pre enc Tryz.prog Tryz.f5 Rows.stateEndsRow.domain false w args ∧ laidMetH Tryz.prog Rows.stateEndsRow.laid w) ∧ sizedMet enc Tryz.prog Tryz.f5 (OpenSpec.ofChange Rows.stateEndsSpec) false w args) (Rows.stateEndsSpec.post enc Tryz.prog Tryz.f5 false true false false) := by
  refine returnsInHanded_of_change_and (C := Tryz.checked) (X := fun w _ => laidMetH Tryz.prog Rows.stateEndsRow.laid w) (fun _ _ _ hh h => h.of_heap hh) own started (by kernel_rfl) Tryz.func5
    (ChangeSpec.witness_shaped (enc := enc) (C := Tryz.checked) (os := os) (X := fun w _ => laidMetH Tryz.prog Rows.stateEndsRow.laid w) false (World.laidAll Tryz.prog os Rows.stateEndsRow.laid) #[.agg #[.slice none 0 0, .slice none 0 0, .slice none 0 0, .slice none 0 0, .slice none 0 0], .int .i64 0, .int .u64 0, .slice none 0 0, .int .u16 0] 8 (World.laidAll_os _ _ _)
      (World.shaped_of_ZipB (by kernel_rfl) (by kernel_rfl)) (by kernel_rfl) (by kernel_rfl) (by kernel_rfl)
      (by rw [MakeChecks.laidMetH_plain _ _ _ (by kernel_rfl)]; exact laidMet_laidAll _ (by kernel_rfl) (by kernel_rfl))) ?_
  intro W base args ds gs before hval hW hcnd hsz hL _
  exact pU (sh := sh) facts rfl (fun (ds : List (DataW H)) h => match ds, h with | [d1, d2, d3, d4, d5], _ => rfl)
    (fun d hf W avs vargs hw hle hlen hv => Exists.elim (Sx.Jt d hf) fun n hn => v6 (Sx.zG n) (a := d) (b := true) hn rfl ⟨hlen, hle, rfl⟩ hw hv) (globs W hL) hval hW hsz
theorem over : Rows.stateEndsRow.holds Tryz.pinned (OpenSpec.ofChange Rows.stateEndsSpec) :=
  OpenClaim.holds_of_wide 5 Tryz.f5 rfl rfl rfl rfl rfl rfl rfl ⟨rfl, rfl, rfl, rfl, rfl⟩ rfl rfl rfl rfl rfl (by kernel_rfl) Tryz.func5 (by kernel_rfl)
    (of_decide_eq_true (by kernel_rfl)) (by unfold Func.isWrapper; first | (rw [if_pos (by decide +kernel)]; kernel_rfl) | (rw [if_neg (by decide +kernel)]; exact ⟨rfl, rfl⟩))
    (fun os started H enc _ => lifted os started H enc)
theorem params : (Tryz.f5.params.toList.all fun t => !(Tryz.prog.wantsStandIn t)) = true := by kernel_rfl
theorem proved : Rows.StateEndsCardSaid :=
  Claim7.holds_tied_plain_at .later [] [.data, .data, .data, .data, .data] true (true, "34e1e3178cc2386d30524af6a952b41186458d2ebfc98ea9ea07f863b8366022") false
    over (fun _ h => by cases h) (by kernel_rfl) (fun _ h => by cases h) stateEnds_row_tie rfl ⟨rfl, rfl⟩ (by kernel_rfl) rfl
    (fun f fn hf hfn => by
      obtain rfl : f = 5 := Option.some.inj ((show Tryz.prog.funcNamed Rows.stateEndsRow.func = some 5 by kernel_rfl).symm.trans hf) |>.symm
      obtain rfl : fn = Tryz.f5 := (Option.some.inj (Tryz.func5.symm.trans hfn)).symm
      exact ⟨by kernel_rfl, fun j t ht => by
        have := List.all_eq_true.1 params t (List.mem_of_getElem? (by rw [Array.getElem?_toList]; exact ht))
        exact (show Tryz.prog.wantsStandIn t = false by simpa using this)⟩)
    (by kernel_rfl)
end Go.Proofs.YtdlbbdbbpoggfaaGreatDoor.stateEnds
namespace Go.Proofs.YtdlbbdbbpoggfaaGreatDoor
theorem stateEnds_holds : Rows.StateEndsCardSaid := stateEnds.proved
#print axioms stateEnds_holds
end Go.Proofs.YtdlbbdbbpoggfaaGreatDoor
