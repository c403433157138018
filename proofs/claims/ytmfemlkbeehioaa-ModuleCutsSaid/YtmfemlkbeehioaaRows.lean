/-
  No cell of these rows narrows 'for every input' (looked for: loops, veiled, ifaces, maps, wideKeys, modest, calm, conditions, laid).
  DERIVED. THE GIVEN ROWS OF THIS SEAT. 9 by the template 'for every input the law returns true; each argument reads behind the call as it read before'; 0 by the template 'total and deterministic' (their statements: YtmfemlkbeehioaaTotals.lean).
  GIVEN WITH THE SEED: the statements are not yours to turn. If you find one false, say at which input.
  Laid BY PROGRAM, IN A SANDBOX (cutbox-rows.mjs): the forced cells as the released guide's own fill.sh prints them over the translation deda90af02fc5e36… (all of the seat's roots in one cut). By AI agents, Wed Nov 11 2026. No macro, syntax, notation, axiom, sorry.
-/
import Derived.Test.YtmfemlkbeehioaaChecked
import GoSem.Claim
import GoSem.ClaimJoined
import GoSem.ClaimMapViews
import Derived.JoinedTies
import Derived.KernelRfl
namespace Go.Proofs.Ytmfemlkbeehioaa
/- THE CELL 'sum', in the pinned program and in every row, IS THE sha256 OF THE DUMP (.gsa) THAT YtmfemlkbeehioaaProg.lean LOADS. Nothing in Lean hashes anything: it is a label: what it is worth is what the hold of that sum in a sandbox is worth. -/
noncomputable def Try.pinned : Pinned := { name := "ytmfemlkbeehioaa", sum := "deda90af02fc5e36cb7e10f5b157f77fa862396162d7ce67838f5f27a4e58cda", checked := Try.checked }
namespace Rows
def none {H : Type} : Left H := { results := [], args := [] }

/-- 'chrysalislaw07.SaneNames': WHATEVER THE INPUT: true; the input reads as it did. -/
def saneNamesSpec : ChangeSpec := { name := "saneNames", fn := fun _ => fun
  | [d1, d2] => { results := [.lit (.bool true)], args := [d1, d2] }
  | _ => none }
def saneNamesRow : OpenClaim := { program := "ytmfemlkbeehioaa", sum := "deda90af02fc5e36cb7e10f5b157f77fa862396162d7ce67838f5f27a4e58cda", func := "chrysalis/chrysalislaw07.SaneNames", spec := "saneNames", unfollowed := true, recurses := true, apart := false }
def SaneNamesSaid : Prop := saneNamesRow.holds Try.pinned (OpenSpec.ofChange saneNamesSpec)

/-- ITS FALSE NEIGHBOUR: 'it returns false'. Refute it at one input. -/
def saneNamesWrong : ChangeSpec := { name := "saneNames", fn := fun _ => fun
  | [d1, d2] => { results := [.lit (.bool false)], args := [d1, d2] }
  | _ => none }
def SaneNamesWrongFalsely : Prop := saneNamesRow.holds Try.pinned (OpenSpec.ofChange saneNamesWrong)

/-- 'chrysalislaw07.SaneChecks': WHATEVER THE INPUT: true; the input reads as it did. -/
def saneChecksSpec : ChangeSpec := { name := "saneChecks", fn := fun _ => fun
  | [d] => { results := [.lit (.bool true)], args := [d] }
  | _ => none }
def saneChecksRow : OpenClaim := { program := "ytmfemlkbeehioaa", sum := "deda90af02fc5e36cb7e10f5b157f77fa862396162d7ce67838f5f27a4e58cda", func := "chrysalis/chrysalislaw07.SaneChecks", spec := "saneChecks", unfollowed := true, recurses := true, apart := false }
def SaneChecksSaid : Prop := saneChecksRow.holds Try.pinned (OpenSpec.ofChange saneChecksSpec)

/-- ITS FALSE NEIGHBOUR: 'it returns false'. Refute it at one input. -/
def saneChecksWrong : ChangeSpec := { name := "saneChecks", fn := fun _ => fun
  | [d] => { results := [.lit (.bool false)], args := [d] }
  | _ => none }
def SaneChecksWrongFalsely : Prop := saneChecksRow.holds Try.pinned (OpenSpec.ofChange saneChecksWrong)

/-- 'chrysalislaw07.SaneHandles': WHATEVER THE INPUT: true; the input reads as it did. -/
def saneHandlesSpec : ChangeSpec := { name := "saneHandles", fn := fun _ => fun
  | [d1, d2] => { results := [.lit (.bool true)], args := [d1, d2] }
  | _ => none }
def saneHandlesRow : OpenClaim := { program := "ytmfemlkbeehioaa", sum := "deda90af02fc5e36cb7e10f5b157f77fa862396162d7ce67838f5f27a4e58cda", func := "chrysalis/chrysalislaw07.SaneHandles", spec := "saneHandles", unfollowed := true, recurses := true, apart := false }
def SaneHandlesSaid : Prop := saneHandlesRow.holds Try.pinned (OpenSpec.ofChange saneHandlesSpec)

/-- ITS FALSE NEIGHBOUR: 'it returns false'. Refute it at one input. -/
def saneHandlesWrong : ChangeSpec := { name := "saneHandles", fn := fun _ => fun
  | [d1, d2] => { results := [.lit (.bool false)], args := [d1, d2] }
  | _ => none }
def SaneHandlesWrongFalsely : Prop := saneHandlesRow.holds Try.pinned (OpenSpec.ofChange saneHandlesWrong)

/-- 'chrysalislaw07.SaneMain': WHATEVER THE INPUT: true; the input reads as it did. -/
def saneMainSpec : ChangeSpec := { name := "saneMain", fn := fun _ => fun
  | [d1, d2] => { results := [.lit (.bool true)], args := [d1, d2] }
  | _ => none }
def saneMainRow : OpenClaim := { program := "ytmfemlkbeehioaa", sum := "deda90af02fc5e36cb7e10f5b157f77fa862396162d7ce67838f5f27a4e58cda", func := "chrysalis/chrysalislaw07.SaneMain", spec := "saneMain", unfollowed := true, recurses := true, apart := false }
def SaneMainSaid : Prop := saneMainRow.holds Try.pinned (OpenSpec.ofChange saneMainSpec)

/-- ITS FALSE NEIGHBOUR: 'it returns false'. Refute it at one input. -/
def saneMainWrong : ChangeSpec := { name := "saneMain", fn := fun _ => fun
  | [d1, d2] => { results := [.lit (.bool false)], args := [d1, d2] }
  | _ => none }
def SaneMainWrongFalsely : Prop := saneMainRow.holds Try.pinned (OpenSpec.ofChange saneMainWrong)

/-- 'chrysalislaw06.ModuleBack': WHATEVER THE INPUT: true; the input reads as it did. -/
def moduleBackSpec : ChangeSpec := { name := "moduleBack", fn := fun _ => fun
  | [d] => { results := [.lit (.bool true)], args := [d] }
  | _ => none }
def moduleBackRow : OpenClaim := { program := "ytmfemlkbeehioaa", sum := "deda90af02fc5e36cb7e10f5b157f77fa862396162d7ce67838f5f27a4e58cda", func := "chrysalis/chrysalislaw06.ModuleBack", spec := "moduleBack", unfollowed := true, recurses := true, apart := false }
def ModuleBackSaid : Prop := moduleBackRow.holds Try.pinned (OpenSpec.ofChange moduleBackSpec)

/-- ITS FALSE NEIGHBOUR: 'it returns false'. Refute it at one input. -/
def moduleBackWrong : ChangeSpec := { name := "moduleBack", fn := fun _ => fun
  | [d] => { results := [.lit (.bool false)], args := [d] }
  | _ => none }
def ModuleBackWrongFalsely : Prop := moduleBackRow.holds Try.pinned (OpenSpec.ofChange moduleBackWrong)

/-- 'chrysalislaw06.ModuleReads': WHATEVER THE INPUT: true; the input reads as it did. -/
def moduleReadsSpec : ChangeSpec := { name := "moduleReads", fn := fun _ => fun
  | [d] => { results := [.lit (.bool true)], args := [d] }
  | _ => none }
def moduleReadsRow : OpenClaim := { program := "ytmfemlkbeehioaa", sum := "deda90af02fc5e36cb7e10f5b157f77fa862396162d7ce67838f5f27a4e58cda", func := "chrysalis/chrysalislaw06.ModuleReads", spec := "moduleReads", unfollowed := true, recurses := true, apart := false }
def ModuleReadsSaid : Prop := moduleReadsRow.holds Try.pinned (OpenSpec.ofChange moduleReadsSpec)

/-- ITS FALSE NEIGHBOUR: 'it returns false'. Refute it at one input. -/
def moduleReadsWrong : ChangeSpec := { name := "moduleReads", fn := fun _ => fun
  | [d] => { results := [.lit (.bool false)], args := [d] }
  | _ => none }
def ModuleReadsWrongFalsely : Prop := moduleReadsRow.holds Try.pinned (OpenSpec.ofChange moduleReadsWrong)

/-- 'chrysalislaw06.ModuleSame': WHATEVER THE INPUT: true; the input reads as it did. -/
def moduleSameSpec : ChangeSpec := { name := "moduleSame", fn := fun _ => fun
  | [d1, d2] => { results := [.lit (.bool true)], args := [d1, d2] }
  | _ => none }
def moduleSameRow : OpenClaim := { program := "ytmfemlkbeehioaa", sum := "deda90af02fc5e36cb7e10f5b157f77fa862396162d7ce67838f5f27a4e58cda", func := "chrysalis/chrysalislaw06.ModuleSame", spec := "moduleSame", unfollowed := true, recurses := true, apart := false }
def ModuleSameSaid : Prop := moduleSameRow.holds Try.pinned (OpenSpec.ofChange moduleSameSpec)

/-- ITS FALSE NEIGHBOUR: 'it returns false'. Refute it at one input. -/
def moduleSameWrong : ChangeSpec := { name := "moduleSame", fn := fun _ => fun
  | [d1, d2] => { results := [.lit (.bool false)], args := [d1, d2] }
  | _ => none }
def ModuleSameWrongFalsely : Prop := moduleSameRow.holds Try.pinned (OpenSpec.ofChange moduleSameWrong)

/-- 'chrysalislaw06.ModuleCuts': WHATEVER THE INPUT: true; the input reads as it did. -/
def moduleCutsSpec : ChangeSpec := { name := "moduleCuts", fn := fun _ => fun
  | [d1, d2, d3] => { results := [.lit (.bool true)], args := [d1, d2, d3] }
  | _ => none }
def moduleCutsRow : OpenClaim := { program := "ytmfemlkbeehioaa", sum := "deda90af02fc5e36cb7e10f5b157f77fa862396162d7ce67838f5f27a4e58cda", func := "chrysalis/chrysalislaw06.ModuleCuts", spec := "moduleCuts", unfollowed := true, recurses := true, apart := false }
def ModuleCutsSaid : Prop := moduleCutsRow.holds Try.pinned (OpenSpec.ofChange moduleCutsSpec)

/-- ITS FALSE NEIGHBOUR: 'it returns false'. Refute it at one input. -/
def moduleCutsWrong : ChangeSpec := { name := "moduleCuts", fn := fun _ => fun
  | [d1, d2, d3] => { results := [.lit (.bool false)], args := [d1, d2, d3] }
  | _ => none }
def ModuleCutsWrongFalsely : Prop := moduleCutsRow.holds Try.pinned (OpenSpec.ofChange moduleCutsWrong)

/-- 'chrysalislaw06.ModuleBounds': WHATEVER THE INPUT: true; the input reads as it did. -/
def moduleBoundsSpec : ChangeSpec := { name := "moduleBounds", fn := fun _ => fun
  | [d1, d2] => { results := [.lit (.bool true)], args := [d1, d2] }
  | _ => none }
def moduleBoundsRow : OpenClaim := { program := "ytmfemlkbeehioaa", sum := "deda90af02fc5e36cb7e10f5b157f77fa862396162d7ce67838f5f27a4e58cda", func := "chrysalis/chrysalislaw06.ModuleBounds", spec := "moduleBounds", unfollowed := true, recurses := true, apart := false }
def ModuleBoundsSaid : Prop := moduleBoundsRow.holds Try.pinned (OpenSpec.ofChange moduleBoundsSpec)

/-- ITS FALSE NEIGHBOUR: 'it returns false'. Refute it at one input. -/
def moduleBoundsWrong : ChangeSpec := { name := "moduleBounds", fn := fun _ => fun
  | [d1, d2] => { results := [.lit (.bool false)], args := [d1, d2] }
  | _ => none }
def ModuleBoundsWrongFalsely : Prop := moduleBoundsRow.holds Try.pinned (OpenSpec.ofChange moduleBoundsWrong)

/- THE SECOND FORM. 'bulk': how many values and letters a reading holds, each counted each time it is reached (what is shared counts as often as it is met; a slice's spare places count too). A statement '..UptoSaid' is the law's where the arguments, and the package variables that the reading takes, are together of bulk at most 1048576: NARROWER than '..Said'. Prove '..Said' where nothing that the law and all that it calls make is longer than what came in: it says more and counts as full. Else prove '..UptoSaid'. A law counts once. -/
mutual
def uptoBulk {H : Type} : DataW H → Nat
  | .lit (.string bytes) => bytes.length + 1
  | .lit _ => 1
  | .nil => 1
  | .ptr d => uptoBulk d + 1
  | .slice elems spare => uptoBulkAll elems + uptoBulkAll spare + 1
  | .agg parts => uptoBulkAll parts + 1
  | .iface _ d => uptoBulk d + 1
  | .map entries => uptoBulkEntries entries + 1
  | .held _ => 1
def uptoBulkAll {H : Type} : List (DataW H) → Nat
  | [] => 0
  | d :: r => uptoBulk d + uptoBulkAll r
def uptoBulkEntries {H : Type} : List (Lit × DataW H) → Nat
  | [] => 0
  | x :: r => uptoBulkEntry x + uptoBulkEntries r
def uptoBulkEntry {H : Type} : Lit × DataW H → Nat
  | (.string bytes, d) => bytes.length + uptoBulk d + 1
  | (_, d) => uptoBulk d + 1
 end
def uptoSmall : (H : Type) → List (DataW H) → Bool := fun _ ds => decide (uptoBulkAll ds ≤ 1048576)
def OpenSpec.upto (s : _root_.Go.ChangeSpec) : _root_.Go.OpenSpec := { _root_.Go.OpenSpec.ofChange s with cond := some uptoSmall }

/-- 'chrysalislaw07.SaneNames', WHERE WHAT IT READS IS OF BULK AT MOST 1048576: true; the input reads as it did. -/
def saneNamesUptoRow : OpenClaim := { program := "ytmfemlkbeehioaa", sum := "deda90af02fc5e36cb7e10f5b157f77fa862396162d7ce67838f5f27a4e58cda", func := "chrysalis/chrysalislaw07.SaneNames", spec := "saneNames", unfollowed := true, recurses := true, apart := false, narrowed := true }
def SaneNamesUptoSaid : Prop := saneNamesUptoRow.holds Try.pinned (OpenSpec.upto saneNamesSpec)

/-- 'chrysalislaw07.SaneChecks', WHERE WHAT IT READS IS OF BULK AT MOST 1048576: true; the input reads as it did. -/
def saneChecksUptoRow : OpenClaim := { program := "ytmfemlkbeehioaa", sum := "deda90af02fc5e36cb7e10f5b157f77fa862396162d7ce67838f5f27a4e58cda", func := "chrysalis/chrysalislaw07.SaneChecks", spec := "saneChecks", unfollowed := true, recurses := true, apart := false, narrowed := true }
def SaneChecksUptoSaid : Prop := saneChecksUptoRow.holds Try.pinned (OpenSpec.upto saneChecksSpec)

/-- 'chrysalislaw07.SaneHandles', WHERE WHAT IT READS IS OF BULK AT MOST 1048576: true; the input reads as it did. -/
def saneHandlesUptoRow : OpenClaim := { program := "ytmfemlkbeehioaa", sum := "deda90af02fc5e36cb7e10f5b157f77fa862396162d7ce67838f5f27a4e58cda", func := "chrysalis/chrysalislaw07.SaneHandles", spec := "saneHandles", unfollowed := true, recurses := true, apart := false, narrowed := true }
def SaneHandlesUptoSaid : Prop := saneHandlesUptoRow.holds Try.pinned (OpenSpec.upto saneHandlesSpec)

/-- 'chrysalislaw07.SaneMain', WHERE WHAT IT READS IS OF BULK AT MOST 1048576: true; the input reads as it did. -/
def saneMainUptoRow : OpenClaim := { program := "ytmfemlkbeehioaa", sum := "deda90af02fc5e36cb7e10f5b157f77fa862396162d7ce67838f5f27a4e58cda", func := "chrysalis/chrysalislaw07.SaneMain", spec := "saneMain", unfollowed := true, recurses := true, apart := false, narrowed := true }
def SaneMainUptoSaid : Prop := saneMainUptoRow.holds Try.pinned (OpenSpec.upto saneMainSpec)

/-- 'chrysalislaw06.ModuleBack', WHERE WHAT IT READS IS OF BULK AT MOST 1048576: true; the input reads as it did. -/
def moduleBackUptoRow : OpenClaim := { program := "ytmfemlkbeehioaa", sum := "deda90af02fc5e36cb7e10f5b157f77fa862396162d7ce67838f5f27a4e58cda", func := "chrysalis/chrysalislaw06.ModuleBack", spec := "moduleBack", unfollowed := true, recurses := true, apart := false, narrowed := true }
def ModuleBackUptoSaid : Prop := moduleBackUptoRow.holds Try.pinned (OpenSpec.upto moduleBackSpec)

/-- 'chrysalislaw06.ModuleReads', WHERE WHAT IT READS IS OF BULK AT MOST 1048576: true; the input reads as it did. -/
def moduleReadsUptoRow : OpenClaim := { program := "ytmfemlkbeehioaa", sum := "deda90af02fc5e36cb7e10f5b157f77fa862396162d7ce67838f5f27a4e58cda", func := "chrysalis/chrysalislaw06.ModuleReads", spec := "moduleReads", unfollowed := true, recurses := true, apart := false, narrowed := true }
def ModuleReadsUptoSaid : Prop := moduleReadsUptoRow.holds Try.pinned (OpenSpec.upto moduleReadsSpec)

/-- 'chrysalislaw06.ModuleSame', WHERE WHAT IT READS IS OF BULK AT MOST 1048576: true; the input reads as it did. -/
def moduleSameUptoRow : OpenClaim := { program := "ytmfemlkbeehioaa", sum := "deda90af02fc5e36cb7e10f5b157f77fa862396162d7ce67838f5f27a4e58cda", func := "chrysalis/chrysalislaw06.ModuleSame", spec := "moduleSame", unfollowed := true, recurses := true, apart := false, narrowed := true }
def ModuleSameUptoSaid : Prop := moduleSameUptoRow.holds Try.pinned (OpenSpec.upto moduleSameSpec)

/-- 'chrysalislaw06.ModuleCuts', WHERE WHAT IT READS IS OF BULK AT MOST 1048576: true; the input reads as it did. -/
def moduleCutsUptoRow : OpenClaim := { program := "ytmfemlkbeehioaa", sum := "deda90af02fc5e36cb7e10f5b157f77fa862396162d7ce67838f5f27a4e58cda", func := "chrysalis/chrysalislaw06.ModuleCuts", spec := "moduleCuts", unfollowed := true, recurses := true, apart := false, narrowed := true }
def ModuleCutsUptoSaid : Prop := moduleCutsUptoRow.holds Try.pinned (OpenSpec.upto moduleCutsSpec)

/-- 'chrysalislaw06.ModuleBounds', WHERE WHAT IT READS IS OF BULK AT MOST 1048576: true; the input reads as it did. -/
def moduleBoundsUptoRow : OpenClaim := { program := "ytmfemlkbeehioaa", sum := "deda90af02fc5e36cb7e10f5b157f77fa862396162d7ce67838f5f27a4e58cda", func := "chrysalis/chrysalislaw06.ModuleBounds", spec := "moduleBounds", unfollowed := true, recurses := true, apart := false, narrowed := true }
def ModuleBoundsUptoSaid : Prop := moduleBoundsUptoRow.holds Try.pinned (OpenSpec.upto moduleBoundsSpec)

end Rows
end Go.Proofs.Ytmfemlkbeehioaa
