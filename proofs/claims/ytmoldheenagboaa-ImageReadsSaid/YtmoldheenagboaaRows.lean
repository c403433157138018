/-
  No cell of these rows narrows 'for every input' (looked for: loops, veiled, ifaces, maps, wideKeys, modest, calm, conditions, laid).
  DERIVED. THE GIVEN ROWS OF THIS SEAT. 7 by the template 'for every input the law returns true; each argument reads behind the call as it read before'; 0 by the template 'total and deterministic' (their statements: YtmoldheenagboaaTotals.lean).
  GIVEN WITH THE SEED: the statements are not yours to turn. If you find one false, say at which input.
  Laid BY PROGRAM, IN A SANDBOX (cutbox-rows.mjs): the forced cells as the released guide's own fill.sh prints them over the translation 14bdf14ac02266c1… (all of the seat's roots in one cut). By AI agents, Wed Nov 11 2026. No macro, syntax, notation, axiom, sorry.
-/
import Derived.Test.YtmoldheenagboaaChecked
import GoSem.Claim
import GoSem.ClaimJoined
import GoSem.ClaimMapViews
import Derived.JoinedTies
import Derived.KernelRfl
namespace Go.Proofs.Ytmoldheenagboaa
/- THE CELL 'sum', in the pinned program and in every row, IS THE sha256 OF THE DUMP (.gsa) THAT YtmoldheenagboaaProg.lean LOADS. Nothing in Lean hashes anything: it is a label: what it is worth is what the hold of that sum in a sandbox is worth. -/
noncomputable def Try.pinned : Pinned := { name := "ytmoldheenagboaa", sum := "14bdf14ac02266c166e6ef6a3dafa094944e91d544427bd81eb5f1ce67568c07", checked := Try.checked }
namespace Rows
def none {H : Type} : Left H := { results := [], args := [] }

/-- 'chrysalislaw20.ImageBack': WHATEVER THE INPUT: true; the input reads as it did. -/
def imageBackSpec : ChangeSpec := { name := "imageBack", fn := fun _ => fun
  | [d1, d2] => { results := [.lit (.bool true)], args := [d1, d2] }
  | _ => none }
def imageBackRow : OpenClaim := { program := "ytmoldheenagboaa", sum := "14bdf14ac02266c166e6ef6a3dafa094944e91d544427bd81eb5f1ce67568c07", func := "chrysalis/chrysalislaw20.ImageBack", spec := "imageBack", unfollowed := true, recurses := true, apart := false }
def ImageBackSaid : Prop := imageBackRow.holds Try.pinned (OpenSpec.ofChange imageBackSpec)

/-- ITS FALSE NEIGHBOUR: 'it returns false'. Refute it at one input. -/
def imageBackWrong : ChangeSpec := { name := "imageBack", fn := fun _ => fun
  | [d1, d2] => { results := [.lit (.bool false)], args := [d1, d2] }
  | _ => none }
def ImageBackWrongFalsely : Prop := imageBackRow.holds Try.pinned (OpenSpec.ofChange imageBackWrong)

/-- 'chrysalislaw20.ImageReads': WHATEVER THE INPUT: true; the input reads as it did. -/
def imageReadsSpec : ChangeSpec := { name := "imageReads", fn := fun _ => fun
  | [d] => { results := [.lit (.bool true)], args := [d] }
  | _ => none }
def imageReadsRow : OpenClaim := { program := "ytmoldheenagboaa", sum := "14bdf14ac02266c166e6ef6a3dafa094944e91d544427bd81eb5f1ce67568c07", func := "chrysalis/chrysalislaw20.ImageReads", spec := "imageReads", unfollowed := true, recurses := true, apart := false }
def ImageReadsSaid : Prop := imageReadsRow.holds Try.pinned (OpenSpec.ofChange imageReadsSpec)

/-- ITS FALSE NEIGHBOUR: 'it returns false'. Refute it at one input. -/
def imageReadsWrong : ChangeSpec := { name := "imageReads", fn := fun _ => fun
  | [d] => { results := [.lit (.bool false)], args := [d] }
  | _ => none }
def ImageReadsWrongFalsely : Prop := imageReadsRow.holds Try.pinned (OpenSpec.ofChange imageReadsWrong)

/-- 'chrysalislaw20.ImageVersion': WHATEVER THE INPUT: true; the input reads as it did. -/
def imageVersionSpec : ChangeSpec := { name := "imageVersion", fn := fun _ => fun
  | [d] => { results := [.lit (.bool true)], args := [d] }
  | _ => none }
def imageVersionRow : OpenClaim := { program := "ytmoldheenagboaa", sum := "14bdf14ac02266c166e6ef6a3dafa094944e91d544427bd81eb5f1ce67568c07", func := "chrysalis/chrysalislaw20.ImageVersion", spec := "imageVersion", unfollowed := true, recurses := true, apart := false }
def ImageVersionSaid : Prop := imageVersionRow.holds Try.pinned (OpenSpec.ofChange imageVersionSpec)

/-- ITS FALSE NEIGHBOUR: 'it returns false'. Refute it at one input. -/
def imageVersionWrong : ChangeSpec := { name := "imageVersion", fn := fun _ => fun
  | [d] => { results := [.lit (.bool false)], args := [d] }
  | _ => none }
def ImageVersionWrongFalsely : Prop := imageVersionRow.holds Try.pinned (OpenSpec.ofChange imageVersionWrong)

/-- 'chrysalislaw20.ImageOwn': WHATEVER THE INPUT: true; the input reads as it did. -/
def imageOwnSpec : ChangeSpec := { name := "imageOwn", fn := fun _ => fun
  | [d1, d2] => { results := [.lit (.bool true)], args := [d1, d2] }
  | _ => none }
def imageOwnRow : OpenClaim := { program := "ytmoldheenagboaa", sum := "14bdf14ac02266c166e6ef6a3dafa094944e91d544427bd81eb5f1ce67568c07", func := "chrysalis/chrysalislaw20.ImageOwn", spec := "imageOwn", unfollowed := true, recurses := true, apart := false }
def ImageOwnSaid : Prop := imageOwnRow.holds Try.pinned (OpenSpec.ofChange imageOwnSpec)

/-- ITS FALSE NEIGHBOUR: 'it returns false'. Refute it at one input. -/
def imageOwnWrong : ChangeSpec := { name := "imageOwn", fn := fun _ => fun
  | [d1, d2] => { results := [.lit (.bool false)], args := [d1, d2] }
  | _ => none }
def ImageOwnWrongFalsely : Prop := imageOwnRow.holds Try.pinned (OpenSpec.ofChange imageOwnWrong)

/-- 'chrysalislaw21.OldTurned': WHATEVER THE INPUT: true; the input reads as it did. -/
def oldTurnedSpec : ChangeSpec := { name := "oldTurned", fn := fun _ => fun
  | [d1, d2, d3] => { results := [.lit (.bool true)], args := [d1, d2, d3] }
  | _ => none }
def oldTurnedRow : OpenClaim := { program := "ytmoldheenagboaa", sum := "14bdf14ac02266c166e6ef6a3dafa094944e91d544427bd81eb5f1ce67568c07", func := "chrysalis/chrysalislaw21.OldTurned", spec := "oldTurned", unfollowed := true, recurses := true, apart := false }
def OldTurnedSaid : Prop := oldTurnedRow.holds Try.pinned (OpenSpec.ofChange oldTurnedSpec)

/-- ITS FALSE NEIGHBOUR: 'it returns false'. Refute it at one input. -/
def oldTurnedWrong : ChangeSpec := { name := "oldTurned", fn := fun _ => fun
  | [d1, d2, d3] => { results := [.lit (.bool false)], args := [d1, d2, d3] }
  | _ => none }
def OldTurnedWrongFalsely : Prop := oldTurnedRow.holds Try.pinned (OpenSpec.ofChange oldTurnedWrong)

/-- 'chrysalislaw14.StateCopies': WHATEVER THE INPUT: true; the input reads as it did. -/
def stateCopiesSpec : ChangeSpec := { name := "stateCopies", fn := fun _ => fun
  | [d1, d2] => { results := [.lit (.bool true)], args := [d1, d2] }
  | _ => none }
def stateCopiesRow : OpenClaim := { program := "ytmoldheenagboaa", sum := "14bdf14ac02266c166e6ef6a3dafa094944e91d544427bd81eb5f1ce67568c07", func := "chrysalis/chrysalislaw14.StateCopies", spec := "stateCopies", unfollowed := true, recurses := true, apart := false }
def StateCopiesSaid : Prop := stateCopiesRow.holds Try.pinned (OpenSpec.ofChange stateCopiesSpec)

/-- ITS FALSE NEIGHBOUR: 'it returns false'. Refute it at one input. -/
def stateCopiesWrong : ChangeSpec := { name := "stateCopies", fn := fun _ => fun
  | [d1, d2] => { results := [.lit (.bool false)], args := [d1, d2] }
  | _ => none }
def StateCopiesWrongFalsely : Prop := stateCopiesRow.holds Try.pinned (OpenSpec.ofChange stateCopiesWrong)

/-- 'chrysalislaw21.OldVersions': WHATEVER THE INPUT: true; the input reads as it did. -/
def oldVersionsSpec : ChangeSpec := { name := "oldVersions", fn := fun _ => fun
  | [d1, d2] => { results := [.lit (.bool true)], args := [d1, d2] }
  | _ => none }
def oldVersionsRow : OpenClaim := { program := "ytmoldheenagboaa", sum := "14bdf14ac02266c166e6ef6a3dafa094944e91d544427bd81eb5f1ce67568c07", func := "chrysalis/chrysalislaw21.OldVersions", spec := "oldVersions", unfollowed := true, recurses := true, apart := false }
def OldVersionsSaid : Prop := oldVersionsRow.holds Try.pinned (OpenSpec.ofChange oldVersionsSpec)

/-- ITS FALSE NEIGHBOUR: 'it returns false'. Refute it at one input. -/
def oldVersionsWrong : ChangeSpec := { name := "oldVersions", fn := fun _ => fun
  | [d1, d2] => { results := [.lit (.bool false)], args := [d1, d2] }
  | _ => none }
def OldVersionsWrongFalsely : Prop := oldVersionsRow.holds Try.pinned (OpenSpec.ofChange oldVersionsWrong)

/- THE SECOND FORM. 'bulk': how many values and letters a reading holds, each counted each time it is reached (what is shared counts as often as it is met; a slice's spare places count too). A statement '..UptoSaid' is the law's where the arguments, and the package variables that the reading takes, are together of bulk at most 1048576: NARROWER than '..Said'. Prove '..Said' where nothing that the law and all that it calls make is longer than what came in: it says more and counts as full. Else prove '..UptoSaid'. A law counts once. -/
mutual
def uptoBulk {H : Type} : DataW H → Nat
  | .lit (.string bytes) => bytes.length + 1
  | .lit _ => 1
  | .nil => 1
  | .ptr d => uptoBulk d + 1
  | .slice elems spare => uptoBulkAll elems + uptoBulkAll spare + 1
  | .agg parts => uptoBulkAll parts + 1
  | .iface _ d => uptoBulk d + 1
  | .map entries => uptoBulkEntries entries + 1
  | .held _ => 1
def uptoBulkAll {H : Type} : List (DataW H) → Nat
  | [] => 0
  | d :: r => uptoBulk d + uptoBulkAll r
def uptoBulkEntries {H : Type} : List (Lit × DataW H) → Nat
  | [] => 0
  | x :: r => uptoBulkEntry x + uptoBulkEntries r
def uptoBulkEntry {H : Type} : Lit × DataW H → Nat
  | (.string bytes, d) => bytes.length + uptoBulk d + 1
  | (_, d) => uptoBulk d + 1
 end
def uptoSmall : (H : Type) → List (DataW H) → Bool := fun _ ds => decide (uptoBulkAll ds ≤ 1048576)
def OpenSpec.upto (s : _root_.Go.ChangeSpec) : _root_.Go.OpenSpec := { _root_.Go.OpenSpec.ofChange s with cond := some uptoSmall }

/-- 'chrysalislaw20.ImageBack', WHERE WHAT IT READS IS OF BULK AT MOST 1048576: true; the input reads as it did. -/
def imageBackUptoRow : OpenClaim := { program := "ytmoldheenagboaa", sum := "14bdf14ac02266c166e6ef6a3dafa094944e91d544427bd81eb5f1ce67568c07", func := "chrysalis/chrysalislaw20.ImageBack", spec := "imageBack", unfollowed := true, recurses := true, apart := false, narrowed := true }
def ImageBackUptoSaid : Prop := imageBackUptoRow.holds Try.pinned (OpenSpec.upto imageBackSpec)

/-- 'chrysalislaw20.ImageReads', WHERE WHAT IT READS IS OF BULK AT MOST 1048576: true; the input reads as it did. -/
def imageReadsUptoRow : OpenClaim := { program := "ytmoldheenagboaa", sum := "14bdf14ac02266c166e6ef6a3dafa094944e91d544427bd81eb5f1ce67568c07", func := "chrysalis/chrysalislaw20.ImageReads", spec := "imageReads", unfollowed := true, recurses := true, apart := false, narrowed := true }
def ImageReadsUptoSaid : Prop := imageReadsUptoRow.holds Try.pinned (OpenSpec.upto imageReadsSpec)

/-- 'chrysalislaw20.ImageVersion', WHERE WHAT IT READS IS OF BULK AT MOST 1048576: true; the input reads as it did. -/
def imageVersionUptoRow : OpenClaim := { program := "ytmoldheenagboaa", sum := "14bdf14ac02266c166e6ef6a3dafa094944e91d544427bd81eb5f1ce67568c07", func := "chrysalis/chrysalislaw20.ImageVersion", spec := "imageVersion", unfollowed := true, recurses := true, apart := false, narrowed := true }
def ImageVersionUptoSaid : Prop := imageVersionUptoRow.holds Try.pinned (OpenSpec.upto imageVersionSpec)

/-- 'chrysalislaw20.ImageOwn', WHERE WHAT IT READS IS OF BULK AT MOST 1048576: true; the input reads as it did. -/
def imageOwnUptoRow : OpenClaim := { program := "ytmoldheenagboaa", sum := "14bdf14ac02266c166e6ef6a3dafa094944e91d544427bd81eb5f1ce67568c07", func := "chrysalis/chrysalislaw20.ImageOwn", spec := "imageOwn", unfollowed := true, recurses := true, apart := false, narrowed := true }
def ImageOwnUptoSaid : Prop := imageOwnUptoRow.holds Try.pinned (OpenSpec.upto imageOwnSpec)

/-- 'chrysalislaw21.OldTurned', WHERE WHAT IT READS IS OF BULK AT MOST 1048576: true; the input reads as it did. -/
def oldTurnedUptoRow : OpenClaim := { program := "ytmoldheenagboaa", sum := "14bdf14ac02266c166e6ef6a3dafa094944e91d544427bd81eb5f1ce67568c07", func := "chrysalis/chrysalislaw21.OldTurned", spec := "oldTurned", unfollowed := true, recurses := true, apart := false, narrowed := true }
def OldTurnedUptoSaid : Prop := oldTurnedUptoRow.holds Try.pinned (OpenSpec.upto oldTurnedSpec)

/-- 'chrysalislaw14.StateCopies', WHERE WHAT IT READS IS OF BULK AT MOST 1048576: true; the input reads as it did. -/
def stateCopiesUptoRow : OpenClaim := { program := "ytmoldheenagboaa", sum := "14bdf14ac02266c166e6ef6a3dafa094944e91d544427bd81eb5f1ce67568c07", func := "chrysalis/chrysalislaw14.StateCopies", spec := "stateCopies", unfollowed := true, recurses := true, apart := false, narrowed := true }
def StateCopiesUptoSaid : Prop := stateCopiesUptoRow.holds Try.pinned (OpenSpec.upto stateCopiesSpec)

/-- 'chrysalislaw21.OldVersions', WHERE WHAT IT READS IS OF BULK AT MOST 1048576: true; the input reads as it did. -/
def oldVersionsUptoRow : OpenClaim := { program := "ytmoldheenagboaa", sum := "14bdf14ac02266c166e6ef6a3dafa094944e91d544427bd81eb5f1ce67568c07", func := "chrysalis/chrysalislaw21.OldVersions", spec := "oldVersions", unfollowed := true, recurses := true, apart := false, narrowed := true }
def OldVersionsUptoSaid : Prop := oldVersionsUptoRow.holds Try.pinned (OpenSpec.upto oldVersionsSpec)

end Rows
end Go.Proofs.Ytmoldheenagboaa
