import Derived.Test.YtdlbbdbbpoggfaaGreatDoorCards
import Derived.Test.YtdlbbdbbpoggfaaGreatDoorTie
import Derived.Test.YtdlbbdbbpoggfaaGreatDoorLaw5
import Derived.Test.YtdlbbdbbpoggfaaGreatDoorOsRun1
import Derived.Lay
import Derived.SevenTiedAt
import Derived.Test.YtdlbbdbbpoggfaaGreatDoorLib34
set_option linter.unusedVariables false
namespace Go.Proofs.YtdlbbdbbpoggfaaGreatDoor.stateBegins
open Go Go.Ab Go.RowKit Go.ChangeShapes Go.WideShapes Go.ChangeAt
theorem own : ownKnob Tryz.prog.godebug = none := by kernel_rfl
noncomputable def sh : Sh := .cons Sx.NW (.cons (.int .i64) .nil)
theorem facts : HT Tryz.prog Tryz.f3 sh = true := by kernel_rfl
theorem told : ∀ x ∈ Sx.qA, (x.1, (DataW.agg [.lit (.int .i64 x.2.2.1), .lit (.int .i64 x.2.2.2)] : DataW Unit)) ∈ Rows.stateBeginsRow.laid := by
  intro x hx
  simp only [Sx.qA, List.mem_cons, List.not_mem_nil, or_false] at hx
  rcases hx with rfl | rfl | rfl | rfl | rfl <;> first | exact .head _ | exact .tail _ (.head _) | exact .tail _ (.tail _ (.head _)) | exact .tail _ (.tail _ (.tail _ (.head _))) | exact .tail _ (.tail _ (.tail _ (.tail _ (.head _))))
theorem globs (W : World) (h : laidMetH Tryz.prog Rows.stateBeginsRow.laid W) : oS (F7 W) W := by
  rw [MakeChecks.laidMetH_plain _ _ _ (by kernel_rfl)] at h
  exact o9 Sx.qA h told (by kernel_rfl) fun g q hq => Ji Sx.qA hq
set_option maxRecDepth 100000 in
theorem lifted (os : Os) (started : os.Started) (H : Type) (enc : TypeId × Value → H) :
    ReturnsInHanded {} Tryz.checked os 3 .any (fun w args => (Rows.stateBeginsSpec.pre enc Tryz.prog Tryz.f3 Rows.stateBeginsRow.domain false w args ∧ laidMetH Tryz.prog Rows.stateBeginsRow.laid w) ∧ sizedMet enc Tryz.prog Tryz.f3 (OpenSpec.ofChange Rows.stateBeginsSpec) false w args) (Rows.stateBeginsSpec.post enc Tryz.prog Tryz.f3 false true false false) := by
  refine returnsInHanded_of_change_and (C := Tryz.checked) (X := fun w _ => laidMetH Tryz.prog Rows.stateBeginsRow.laid w) (fun _ _ _ hh h => h.of_heap hh) own started (by kernel_rfl) Tryz.func3
    (ChangeSpec.witness_shaped (enc := enc) (C := Tryz.checked) (os := os) (X := fun w _ => laidMetH Tryz.prog Rows.stateBeginsRow.laid w) false (World.laidAll Tryz.prog os Rows.stateBeginsRow.laid) #[.agg #[.slice none 0 0, .slice none 0 0, .slice none 0 0, .slice none 0 0, .slice none 0 0], .int .i64 0] 8 (World.laidAll_os _ _ _)
      (World.shaped_of_ZipB (by kernel_rfl) (by kernel_rfl)) (by kernel_rfl) (by kernel_rfl) (by kernel_rfl)
      (by rw [MakeChecks.laidMetH_plain _ _ _ (by kernel_rfl)]; exact laidMet_laidAll _ (by kernel_rfl) (by kernel_rfl))) ?_
  intro W base args ds gs before hval hW hcnd hsz hL _
  exact pU (sh := sh) facts rfl (fun (ds : List (DataW H)) h => match ds, h with | [d1, d2], _ => rfl)
    (fun d hf W avs vargs hw hle hlen hv => Exists.elim (Sx.GV d hf) fun n hn => v6 (Sx.s4 n) (a := d) (b := true) hn rfl ⟨hlen, hle, rfl⟩ hw hv) (globs W hL) hval hW hsz
theorem over : Rows.stateBeginsRow.holds Tryz.pinned (OpenSpec.ofChange Rows.stateBeginsSpec) :=
  OpenClaim.holds_of_wide 3 Tryz.f3 rfl rfl rfl rfl rfl rfl rfl ⟨rfl, rfl, rfl, rfl, rfl⟩ rfl rfl rfl rfl rfl (by kernel_rfl) Tryz.func3 (by kernel_rfl)
    (of_decide_eq_true (by kernel_rfl)) (by unfold Func.isWrapper; first | (rw [if_pos (by decide +kernel)]; kernel_rfl) | (rw [if_neg (by decide +kernel)]; exact ⟨rfl, rfl⟩))
    (fun os started H enc _ => lifted os started H enc)
theorem params : (Tryz.f3.params.toList.all fun t => !(Tryz.prog.wantsStandIn t)) = true := by kernel_rfl
theorem proved : Rows.StateBeginsCardSaid :=
  Claim7.holds_tied_plain_at .later [] [.data, .data, .data, .data, .data] true (true, "34e1e3178cc2386d30524af6a952b41186458d2ebfc98ea9ea07f863b8366022") false
    over (fun _ h => by cases h) (by kernel_rfl) (fun _ h => by cases h) stateBegins_row_tie rfl ⟨rfl, rfl⟩ (by kernel_rfl) rfl
    (fun f fn hf hfn => by
      obtain rfl : f = 3 := Option.some.inj ((show Tryz.prog.funcNamed Rows.stateBeginsRow.func = some 3 by kernel_rfl).symm.trans hf) |>.symm
      obtain rfl : fn = Tryz.f3 := (Option.some.inj (Tryz.func3.symm.trans hfn)).symm
      exact ⟨by kernel_rfl, fun j t ht => by
        have := List.all_eq_true.1 params t (List.mem_of_getElem? (by rw [Array.getElem?_toList]; exact ht))
        exact (show Tryz.prog.wantsStandIn t = false by simpa using this)⟩)
    (by kernel_rfl)
end Go.Proofs.YtdlbbdbbpoggfaaGreatDoor.stateBegins
namespace Go.Proofs.YtdlbbdbbpoggfaaGreatDoor
theorem stateBegins_holds : Rows.StateBeginsCardSaid := stateBegins.proved
#print axioms stateBegins_holds
end Go.Proofs.YtdlbbdbbpoggfaaGreatDoor
