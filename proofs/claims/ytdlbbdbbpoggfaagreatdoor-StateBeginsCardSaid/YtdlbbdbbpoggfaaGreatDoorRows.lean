/-
  NARROWER THAN 'FOR EVERY INPUT', by the rows' own cells (each row's printed sentence says how): StateBegins: laid · StateTyped: laid · StateEnds: laid · CanonForms: laid · CanonAlike: laid · CanonOrder: laid · CanonDrops: laid · ImageSaves: laid · ImageRoom: laid.
  DERIVED. THE GIVEN ROWS OF THIS SEAT. 9 by the template 'for every input the law returns true; each argument reads behind the call as it read before'; 0 by the template 'total and deterministic' (their statements: YtdlbbdbbpoggfaaGreatDoorTotals.lean).
  GIVEN WITH THE SEED: the statements are not yours to turn. If you find one false, say at which input.
  Laid BY PROGRAM, IN A SANDBOX (cutbox-rows.mjs): the forced cells as the released guide's own fill.sh prints them over the translation 49aaa36c8944a80f… (all of the seat's roots in one cut). By AI agents, Wed Nov 11 2026. No macro, syntax, notation, axiom, sorry.
-/
import Derived.Test.YtdlbbdbbpoggfaaGreatDoorChecked
import GoSem.Claim
import GoSem.ClaimJoined
import GoSem.ClaimMapViews
import Derived.JoinedTies
import Derived.KernelRfl
namespace Go.Proofs.YtdlbbdbbpoggfaaGreatDoor
/- THE CELL 'sum', in the pinned program and in every row, IS THE sha256 OF THE DUMP (.gsa) THAT YtdlbbdbbpoggfaaGreatDoorProg.lean LOADS. Nothing in Lean hashes anything: it is a label: what it is worth is what the hold of that sum in a sandbox is worth. -/
noncomputable def Tryz.pinned : Pinned := { name := "ytdlbbdbbpoggfaagreatdoor", sum := "49aaa36c8944a80f07313a24efd32592b7f27e04a2a3ea7008adbe942ae52851", checked := Tryz.checked }
namespace Rows
def none {H : Type} : Left H := { results := [], args := [] }

/- WHAT THE LISTED PACKAGE-LEVEL VARIABLES READ AS WHEN THE CALL BEGINS. Each datum BY PROGRAM (the guide's laid-datum.mjs) off the statement by which the dump's own 'gosem.cut.vars' lays the variable. In a bare row this is a premise. The card (YtdlbbdbbpoggfaaGreatDoorCards.lean) ties it to the program's text. -/
def laid_chrysalis_flow_number {H : Type} : DataW H := .agg [.lit (.int .i64 1), .lit (.int .i64 0)]
def laid_chrysalis_flow_octets {H : Type} : DataW H := .agg [.lit (.int .i64 2), .lit (.int .i64 0)]
def laid_chrysalis_flow_words {H : Type} : DataW H := .agg [.lit (.int .i64 3), .lit (.int .i64 0)]
def laid_chrysalis_flow_refs {H : Type} : DataW H := .agg [.lit (.int .i64 7), .lit (.int .i64 0)]
def laid_chrysalis_flow_use {H : Type} : DataW H := .agg [.lit (.int .i64 8), .lit (.int .i64 0)]

/-- 'chrysalislaw14.StateBegins': WHATEVER THE INPUT: true; the input reads as it did. -/
def stateBeginsSpec : ChangeSpec := { name := "stateBegins", fn := fun _ => fun
  | [d1, d2] => { results := [.lit (.bool true)], args := [d1, d2] }
  | _ => none }
def stateBeginsRow : OpenClaim := { program := "ytdlbbdbbpoggfaagreatdoor", sum := "49aaa36c8944a80f07313a24efd32592b7f27e04a2a3ea7008adbe942ae52851", func := "chrysalis/chrysalislaw14.StateBegins", spec := "stateBegins", unfollowed := true, recurses := true, named := ["chrysalis/flow.use", "chrysalis/flow.number", "chrysalis/flow.words", "chrysalis/flow.octets", "chrysalis/flow.refs"], apart := false, laid := [("chrysalis/flow.number", laid_chrysalis_flow_number), ("chrysalis/flow.octets", laid_chrysalis_flow_octets), ("chrysalis/flow.words", laid_chrysalis_flow_words), ("chrysalis/flow.refs", laid_chrysalis_flow_refs), ("chrysalis/flow.use", laid_chrysalis_flow_use)] }
def StateBeginsSaid : Prop := stateBeginsRow.holds Tryz.pinned (OpenSpec.ofChange stateBeginsSpec)

/-- ITS FALSE NEIGHBOUR: 'it returns false'. Refute it at one input. -/
def stateBeginsWrong : ChangeSpec := { name := "stateBegins", fn := fun _ => fun
  | [d1, d2] => { results := [.lit (.bool false)], args := [d1, d2] }
  | _ => none }
def StateBeginsWrongFalsely : Prop := stateBeginsRow.holds Tryz.pinned (OpenSpec.ofChange stateBeginsWrong)

/-- 'chrysalislaw14.StateTyped': WHATEVER THE INPUT: true; the input reads as it did. -/
def stateTypedSpec : ChangeSpec := { name := "stateTyped", fn := fun _ => fun
  | [d1, d2, d3] => { results := [.lit (.bool true)], args := [d1, d2, d3] }
  | _ => none }
def stateTypedRow : OpenClaim := { program := "ytdlbbdbbpoggfaagreatdoor", sum := "49aaa36c8944a80f07313a24efd32592b7f27e04a2a3ea7008adbe942ae52851", func := "chrysalis/chrysalislaw14.StateTyped", spec := "stateTyped", unfollowed := true, recurses := true, named := ["chrysalis/flow.use", "chrysalis/flow.number", "chrysalis/flow.words", "chrysalis/flow.octets", "chrysalis/flow.refs"], apart := false, laid := [("chrysalis/flow.number", laid_chrysalis_flow_number), ("chrysalis/flow.octets", laid_chrysalis_flow_octets), ("chrysalis/flow.words", laid_chrysalis_flow_words), ("chrysalis/flow.refs", laid_chrysalis_flow_refs), ("chrysalis/flow.use", laid_chrysalis_flow_use)] }
def StateTypedSaid : Prop := stateTypedRow.holds Tryz.pinned (OpenSpec.ofChange stateTypedSpec)

/-- ITS FALSE NEIGHBOUR: 'it returns false'. Refute it at one input. -/
def stateTypedWrong : ChangeSpec := { name := "stateTyped", fn := fun _ => fun
  | [d1, d2, d3] => { results := [.lit (.bool false)], args := [d1, d2, d3] }
  | _ => none }
def StateTypedWrongFalsely : Prop := stateTypedRow.holds Tryz.pinned (OpenSpec.ofChange stateTypedWrong)

/-- 'chrysalislaw14.StateEnds': WHATEVER THE INPUT: true; the input reads as it did. -/
def stateEndsSpec : ChangeSpec := { name := "stateEnds", fn := fun _ => fun
  | [d1, d2, d3, d4, d5] => { results := [.lit (.bool true)], args := [d1, d2, d3, d4, d5] }
  | _ => none }
def stateEndsRow : OpenClaim := { program := "ytdlbbdbbpoggfaagreatdoor", sum := "49aaa36c8944a80f07313a24efd32592b7f27e04a2a3ea7008adbe942ae52851", func := "chrysalis/chrysalislaw14.StateEnds", spec := "stateEnds", unfollowed := true, recurses := true, named := ["chrysalis/flow.use", "chrysalis/flow.number", "chrysalis/flow.words", "chrysalis/flow.octets", "chrysalis/flow.refs"], apart := false, laid := [("chrysalis/flow.number", laid_chrysalis_flow_number), ("chrysalis/flow.octets", laid_chrysalis_flow_octets), ("chrysalis/flow.words", laid_chrysalis_flow_words), ("chrysalis/flow.refs", laid_chrysalis_flow_refs), ("chrysalis/flow.use", laid_chrysalis_flow_use)] }
def StateEndsSaid : Prop := stateEndsRow.holds Tryz.pinned (OpenSpec.ofChange stateEndsSpec)

/-- ITS FALSE NEIGHBOUR: 'it returns false'. Refute it at one input. -/
def stateEndsWrong : ChangeSpec := { name := "stateEnds", fn := fun _ => fun
  | [d1, d2, d3, d4, d5] => { results := [.lit (.bool false)], args := [d1, d2, d3, d4, d5] }
  | _ => none }
def StateEndsWrongFalsely : Prop := stateEndsRow.holds Tryz.pinned (OpenSpec.ofChange stateEndsWrong)

/-- 'chrysalislaw19.CanonForms': WHATEVER THE INPUT: true; the input reads as it did. -/
def canonFormsSpec : ChangeSpec := { name := "canonForms", fn := fun _ => fun
  | [d1, d2] => { results := [.lit (.bool true)], args := [d1, d2] }
  | _ => none }
def canonFormsRow : OpenClaim := { program := "ytdlbbdbbpoggfaagreatdoor", sum := "49aaa36c8944a80f07313a24efd32592b7f27e04a2a3ea7008adbe942ae52851", func := "chrysalis/chrysalislaw19.CanonForms", spec := "canonForms", unfollowed := true, recurses := true, named := ["chrysalis/flow.use", "chrysalis/flow.number", "chrysalis/flow.words", "chrysalis/flow.octets", "chrysalis/flow.refs"], apart := false, laid := [("chrysalis/flow.number", laid_chrysalis_flow_number), ("chrysalis/flow.octets", laid_chrysalis_flow_octets), ("chrysalis/flow.words", laid_chrysalis_flow_words), ("chrysalis/flow.refs", laid_chrysalis_flow_refs), ("chrysalis/flow.use", laid_chrysalis_flow_use)] }
def CanonFormsSaid : Prop := canonFormsRow.holds Tryz.pinned (OpenSpec.ofChange canonFormsSpec)

/-- ITS FALSE NEIGHBOUR: 'it returns false'. Refute it at one input. -/
def canonFormsWrong : ChangeSpec := { name := "canonForms", fn := fun _ => fun
  | [d1, d2] => { results := [.lit (.bool false)], args := [d1, d2] }
  | _ => none }
def CanonFormsWrongFalsely : Prop := canonFormsRow.holds Tryz.pinned (OpenSpec.ofChange canonFormsWrong)

/-- 'chrysalislaw19.CanonAlike': WHATEVER THE INPUT: true; the input reads as it did. -/
def canonAlikeSpec : ChangeSpec := { name := "canonAlike", fn := fun _ => fun
  | [d1, d2, d3, d4] => { results := [.lit (.bool true)], args := [d1, d2, d3, d4] }
  | _ => none }
def canonAlikeRow : OpenClaim := { program := "ytdlbbdbbpoggfaagreatdoor", sum := "49aaa36c8944a80f07313a24efd32592b7f27e04a2a3ea7008adbe942ae52851", func := "chrysalis/chrysalislaw19.CanonAlike", spec := "canonAlike", unfollowed := true, recurses := true, named := ["chrysalis/flow.use", "chrysalis/flow.number", "chrysalis/flow.words", "chrysalis/flow.octets", "chrysalis/flow.refs"], apart := false, laid := [("chrysalis/flow.number", laid_chrysalis_flow_number), ("chrysalis/flow.octets", laid_chrysalis_flow_octets), ("chrysalis/flow.words", laid_chrysalis_flow_words), ("chrysalis/flow.refs", laid_chrysalis_flow_refs), ("chrysalis/flow.use", laid_chrysalis_flow_use)] }
def CanonAlikeSaid : Prop := canonAlikeRow.holds Tryz.pinned (OpenSpec.ofChange canonAlikeSpec)

/-- ITS FALSE NEIGHBOUR: 'it returns false'. Refute it at one input. -/
def canonAlikeWrong : ChangeSpec := { name := "canonAlike", fn := fun _ => fun
  | [d1, d2, d3, d4] => { results := [.lit (.bool false)], args := [d1, d2, d3, d4] }
  | _ => none }
def CanonAlikeWrongFalsely : Prop := canonAlikeRow.holds Tryz.pinned (OpenSpec.ofChange canonAlikeWrong)

/-- 'chrysalislaw19.CanonOrder': WHATEVER THE INPUT: true; the input reads as it did. -/
def canonOrderSpec : ChangeSpec := { name := "canonOrder", fn := fun _ => fun
  | [d1, d2, d3] => { results := [.lit (.bool true)], args := [d1, d2, d3] }
  | _ => none }
def canonOrderRow : OpenClaim := { program := "ytdlbbdbbpoggfaagreatdoor", sum := "49aaa36c8944a80f07313a24efd32592b7f27e04a2a3ea7008adbe942ae52851", func := "chrysalis/chrysalislaw19.CanonOrder", spec := "canonOrder", unfollowed := true, recurses := true, named := ["chrysalis/flow.use", "chrysalis/flow.number", "chrysalis/flow.words", "chrysalis/flow.octets", "chrysalis/flow.refs"], apart := false, laid := [("chrysalis/flow.number", laid_chrysalis_flow_number), ("chrysalis/flow.octets", laid_chrysalis_flow_octets), ("chrysalis/flow.words", laid_chrysalis_flow_words), ("chrysalis/flow.refs", laid_chrysalis_flow_refs), ("chrysalis/flow.use", laid_chrysalis_flow_use)] }
def CanonOrderSaid : Prop := canonOrderRow.holds Tryz.pinned (OpenSpec.ofChange canonOrderSpec)

/-- ITS FALSE NEIGHBOUR: 'it returns false'. Refute it at one input. -/
def canonOrderWrong : ChangeSpec := { name := "canonOrder", fn := fun _ => fun
  | [d1, d2, d3] => { results := [.lit (.bool false)], args := [d1, d2, d3] }
  | _ => none }
def CanonOrderWrongFalsely : Prop := canonOrderRow.holds Tryz.pinned (OpenSpec.ofChange canonOrderWrong)

/-- 'chrysalislaw19.CanonDrops': WHATEVER THE INPUT: true; the input reads as it did. -/
def canonDropsSpec : ChangeSpec := { name := "canonDrops", fn := fun _ => fun
  | [d1, d2, d3] => { results := [.lit (.bool true)], args := [d1, d2, d3] }
  | _ => none }
def canonDropsRow : OpenClaim := { program := "ytdlbbdbbpoggfaagreatdoor", sum := "49aaa36c8944a80f07313a24efd32592b7f27e04a2a3ea7008adbe942ae52851", func := "chrysalis/chrysalislaw19.CanonDrops", spec := "canonDrops", unfollowed := true, recurses := true, named := ["chrysalis/flow.use", "chrysalis/flow.number", "chrysalis/flow.words", "chrysalis/flow.octets", "chrysalis/flow.refs"], apart := false, laid := [("chrysalis/flow.number", laid_chrysalis_flow_number), ("chrysalis/flow.octets", laid_chrysalis_flow_octets), ("chrysalis/flow.words", laid_chrysalis_flow_words), ("chrysalis/flow.refs", laid_chrysalis_flow_refs), ("chrysalis/flow.use", laid_chrysalis_flow_use)] }
def CanonDropsSaid : Prop := canonDropsRow.holds Tryz.pinned (OpenSpec.ofChange canonDropsSpec)

/-- ITS FALSE NEIGHBOUR: 'it returns false'. Refute it at one input. -/
def canonDropsWrong : ChangeSpec := { name := "canonDrops", fn := fun _ => fun
  | [d1, d2, d3] => { results := [.lit (.bool false)], args := [d1, d2, d3] }
  | _ => none }
def CanonDropsWrongFalsely : Prop := canonDropsRow.holds Tryz.pinned (OpenSpec.ofChange canonDropsWrong)

/-- 'chrysalislaw20.ImageSaves': WHATEVER THE INPUT: true; the input reads as it did. -/
def imageSavesSpec : ChangeSpec := { name := "imageSaves", fn := fun _ => fun
  | [d1, d2, d3] => { results := [.lit (.bool true)], args := [d1, d2, d3] }
  | _ => none }
def imageSavesRow : OpenClaim := { program := "ytdlbbdbbpoggfaagreatdoor", sum := "49aaa36c8944a80f07313a24efd32592b7f27e04a2a3ea7008adbe942ae52851", func := "chrysalis/chrysalislaw20.ImageSaves", spec := "imageSaves", unfollowed := true, recurses := true, named := ["chrysalis/flow.use", "chrysalis/flow.number", "chrysalis/flow.words", "chrysalis/flow.octets", "chrysalis/flow.refs"], apart := false, laid := [("chrysalis/flow.number", laid_chrysalis_flow_number), ("chrysalis/flow.octets", laid_chrysalis_flow_octets), ("chrysalis/flow.words", laid_chrysalis_flow_words), ("chrysalis/flow.refs", laid_chrysalis_flow_refs), ("chrysalis/flow.use", laid_chrysalis_flow_use)] }
def ImageSavesSaid : Prop := imageSavesRow.holds Tryz.pinned (OpenSpec.ofChange imageSavesSpec)

/-- ITS FALSE NEIGHBOUR: 'it returns false'. Refute it at one input. -/
def imageSavesWrong : ChangeSpec := { name := "imageSaves", fn := fun _ => fun
  | [d1, d2, d3] => { results := [.lit (.bool false)], args := [d1, d2, d3] }
  | _ => none }
def ImageSavesWrongFalsely : Prop := imageSavesRow.holds Tryz.pinned (OpenSpec.ofChange imageSavesWrong)

/-- 'chrysalislaw20.ImageRoom': WHATEVER THE INPUT: true; the input reads as it did. -/
def imageRoomSpec : ChangeSpec := { name := "imageRoom", fn := fun _ => fun
  | [d1, d2] => { results := [.lit (.bool true)], args := [d1, d2] }
  | _ => none }
def imageRoomRow : OpenClaim := { program := "ytdlbbdbbpoggfaagreatdoor", sum := "49aaa36c8944a80f07313a24efd32592b7f27e04a2a3ea7008adbe942ae52851", func := "chrysalis/chrysalislaw20.ImageRoom", spec := "imageRoom", unfollowed := true, recurses := true, named := ["chrysalis/flow.use", "chrysalis/flow.number", "chrysalis/flow.words", "chrysalis/flow.octets", "chrysalis/flow.refs"], apart := false, laid := [("chrysalis/flow.number", laid_chrysalis_flow_number), ("chrysalis/flow.octets", laid_chrysalis_flow_octets), ("chrysalis/flow.words", laid_chrysalis_flow_words), ("chrysalis/flow.refs", laid_chrysalis_flow_refs), ("chrysalis/flow.use", laid_chrysalis_flow_use)] }
def ImageRoomSaid : Prop := imageRoomRow.holds Tryz.pinned (OpenSpec.ofChange imageRoomSpec)

/-- ITS FALSE NEIGHBOUR: 'it returns false'. Refute it at one input. -/
def imageRoomWrong : ChangeSpec := { name := "imageRoom", fn := fun _ => fun
  | [d1, d2] => { results := [.lit (.bool false)], args := [d1, d2] }
  | _ => none }
def ImageRoomWrongFalsely : Prop := imageRoomRow.holds Tryz.pinned (OpenSpec.ofChange imageRoomWrong)

/- THE SECOND FORM. 'bulk': how many values and letters a reading holds, each counted each time it is reached (what is shared counts as often as it is met; a slice's spare places count too). A statement '..UptoSaid' is the law's where the arguments, and the package variables that the reading takes, are together of bulk at most 1048576: NARROWER than '..Said'. Prove '..Said' where nothing that the law and all that it calls make is longer than what came in: it says more and counts as full. Else prove '..UptoSaid'. A law counts once. -/
mutual
def uptoBulk {H : Type} : DataW H → Nat
  | .lit (.string bytes) => bytes.length + 1
  | .lit _ => 1
  | .nil => 1
  | .ptr d => uptoBulk d + 1
  | .slice elems spare => uptoBulkAll elems + uptoBulkAll spare + 1
  | .agg parts => uptoBulkAll parts + 1
  | .iface _ d => uptoBulk d + 1
  | .map entries => uptoBulkEntries entries + 1
  | .held _ => 1
def uptoBulkAll {H : Type} : List (DataW H) → Nat
  | [] => 0
  | d :: r => uptoBulk d + uptoBulkAll r
def uptoBulkEntries {H : Type} : List (Lit × DataW H) → Nat
  | [] => 0
  | x :: r => uptoBulkEntry x + uptoBulkEntries r
def uptoBulkEntry {H : Type} : Lit × DataW H → Nat
  | (.string bytes, d) => bytes.length + uptoBulk d + 1
  | (_, d) => uptoBulk d + 1
 end
def uptoSmall : (H : Type) → List (DataW H) → Bool := fun _ ds => decide (uptoBulkAll ds ≤ 1048576)
def OpenSpec.upto (s : _root_.Go.ChangeSpec) : _root_.Go.OpenSpec := { _root_.Go.OpenSpec.ofChange s with cond := some uptoSmall }

/-- 'chrysalislaw14.StateBegins', WHERE WHAT IT READS IS OF BULK AT MOST 1048576: true; the input reads as it did. -/
def stateBeginsUptoRow : OpenClaim := { program := "ytdlbbdbbpoggfaagreatdoor", sum := "49aaa36c8944a80f07313a24efd32592b7f27e04a2a3ea7008adbe942ae52851", func := "chrysalis/chrysalislaw14.StateBegins", spec := "stateBegins", unfollowed := true, recurses := true, named := ["chrysalis/flow.use", "chrysalis/flow.number", "chrysalis/flow.words", "chrysalis/flow.octets", "chrysalis/flow.refs"], apart := false, laid := [("chrysalis/flow.number", laid_chrysalis_flow_number), ("chrysalis/flow.octets", laid_chrysalis_flow_octets), ("chrysalis/flow.words", laid_chrysalis_flow_words), ("chrysalis/flow.refs", laid_chrysalis_flow_refs), ("chrysalis/flow.use", laid_chrysalis_flow_use)], narrowed := true }
def StateBeginsUptoSaid : Prop := stateBeginsUptoRow.holds Tryz.pinned (OpenSpec.upto stateBeginsSpec)

/-- 'chrysalislaw14.StateTyped', WHERE WHAT IT READS IS OF BULK AT MOST 1048576: true; the input reads as it did. -/
def stateTypedUptoRow : OpenClaim := { program := "ytdlbbdbbpoggfaagreatdoor", sum := "49aaa36c8944a80f07313a24efd32592b7f27e04a2a3ea7008adbe942ae52851", func := "chrysalis/chrysalislaw14.StateTyped", spec := "stateTyped", unfollowed := true, recurses := true, named := ["chrysalis/flow.use", "chrysalis/flow.number", "chrysalis/flow.words", "chrysalis/flow.octets", "chrysalis/flow.refs"], apart := false, laid := [("chrysalis/flow.number", laid_chrysalis_flow_number), ("chrysalis/flow.octets", laid_chrysalis_flow_octets), ("chrysalis/flow.words", laid_chrysalis_flow_words), ("chrysalis/flow.refs", laid_chrysalis_flow_refs), ("chrysalis/flow.use", laid_chrysalis_flow_use)], narrowed := true }
def StateTypedUptoSaid : Prop := stateTypedUptoRow.holds Tryz.pinned (OpenSpec.upto stateTypedSpec)

/-- 'chrysalislaw14.StateEnds', WHERE WHAT IT READS IS OF BULK AT MOST 1048576: true; the input reads as it did. -/
def stateEndsUptoRow : OpenClaim := { program := "ytdlbbdbbpoggfaagreatdoor", sum := "49aaa36c8944a80f07313a24efd32592b7f27e04a2a3ea7008adbe942ae52851", func := "chrysalis/chrysalislaw14.StateEnds", spec := "stateEnds", unfollowed := true, recurses := true, named := ["chrysalis/flow.use", "chrysalis/flow.number", "chrysalis/flow.words", "chrysalis/flow.octets", "chrysalis/flow.refs"], apart := false, laid := [("chrysalis/flow.number", laid_chrysalis_flow_number), ("chrysalis/flow.octets", laid_chrysalis_flow_octets), ("chrysalis/flow.words", laid_chrysalis_flow_words), ("chrysalis/flow.refs", laid_chrysalis_flow_refs), ("chrysalis/flow.use", laid_chrysalis_flow_use)], narrowed := true }
def StateEndsUptoSaid : Prop := stateEndsUptoRow.holds Tryz.pinned (OpenSpec.upto stateEndsSpec)

/-- 'chrysalislaw19.CanonForms', WHERE WHAT IT READS IS OF BULK AT MOST 1048576: true; the input reads as it did. -/
def canonFormsUptoRow : OpenClaim := { program := "ytdlbbdbbpoggfaagreatdoor", sum := "49aaa36c8944a80f07313a24efd32592b7f27e04a2a3ea7008adbe942ae52851", func := "chrysalis/chrysalislaw19.CanonForms", spec := "canonForms", unfollowed := true, recurses := true, named := ["chrysalis/flow.use", "chrysalis/flow.number", "chrysalis/flow.words", "chrysalis/flow.octets", "chrysalis/flow.refs"], apart := false, laid := [("chrysalis/flow.number", laid_chrysalis_flow_number), ("chrysalis/flow.octets", laid_chrysalis_flow_octets), ("chrysalis/flow.words", laid_chrysalis_flow_words), ("chrysalis/flow.refs", laid_chrysalis_flow_refs), ("chrysalis/flow.use", laid_chrysalis_flow_use)], narrowed := true }
def CanonFormsUptoSaid : Prop := canonFormsUptoRow.holds Tryz.pinned (OpenSpec.upto canonFormsSpec)

/-- 'chrysalislaw19.CanonAlike', WHERE WHAT IT READS IS OF BULK AT MOST 1048576: true; the input reads as it did. -/
def canonAlikeUptoRow : OpenClaim := { program := "ytdlbbdbbpoggfaagreatdoor", sum := "49aaa36c8944a80f07313a24efd32592b7f27e04a2a3ea7008adbe942ae52851", func := "chrysalis/chrysalislaw19.CanonAlike", spec := "canonAlike", unfollowed := true, recurses := true, named := ["chrysalis/flow.use", "chrysalis/flow.number", "chrysalis/flow.words", "chrysalis/flow.octets", "chrysalis/flow.refs"], apart := false, laid := [("chrysalis/flow.number", laid_chrysalis_flow_number), ("chrysalis/flow.octets", laid_chrysalis_flow_octets), ("chrysalis/flow.words", laid_chrysalis_flow_words), ("chrysalis/flow.refs", laid_chrysalis_flow_refs), ("chrysalis/flow.use", laid_chrysalis_flow_use)], narrowed := true }
def CanonAlikeUptoSaid : Prop := canonAlikeUptoRow.holds Tryz.pinned (OpenSpec.upto canonAlikeSpec)

/-- 'chrysalislaw19.CanonOrder', WHERE WHAT IT READS IS OF BULK AT MOST 1048576: true; the input reads as it did. -/
def canonOrderUptoRow : OpenClaim := { program := "ytdlbbdbbpoggfaagreatdoor", sum := "49aaa36c8944a80f07313a24efd32592b7f27e04a2a3ea7008adbe942ae52851", func := "chrysalis/chrysalislaw19.CanonOrder", spec := "canonOrder", unfollowed := true, recurses := true, named := ["chrysalis/flow.use", "chrysalis/flow.number", "chrysalis/flow.words", "chrysalis/flow.octets", "chrysalis/flow.refs"], apart := false, laid := [("chrysalis/flow.number", laid_chrysalis_flow_number), ("chrysalis/flow.octets", laid_chrysalis_flow_octets), ("chrysalis/flow.words", laid_chrysalis_flow_words), ("chrysalis/flow.refs", laid_chrysalis_flow_refs), ("chrysalis/flow.use", laid_chrysalis_flow_use)], narrowed := true }
def CanonOrderUptoSaid : Prop := canonOrderUptoRow.holds Tryz.pinned (OpenSpec.upto canonOrderSpec)

/-- 'chrysalislaw19.CanonDrops', WHERE WHAT IT READS IS OF BULK AT MOST 1048576: true; the input reads as it did. -/
def canonDropsUptoRow : OpenClaim := { program := "ytdlbbdbbpoggfaagreatdoor", sum := "49aaa36c8944a80f07313a24efd32592b7f27e04a2a3ea7008adbe942ae52851", func := "chrysalis/chrysalislaw19.CanonDrops", spec := "canonDrops", unfollowed := true, recurses := true, named := ["chrysalis/flow.use", "chrysalis/flow.number", "chrysalis/flow.words", "chrysalis/flow.octets", "chrysalis/flow.refs"], apart := false, laid := [("chrysalis/flow.number", laid_chrysalis_flow_number), ("chrysalis/flow.octets", laid_chrysalis_flow_octets), ("chrysalis/flow.words", laid_chrysalis_flow_words), ("chrysalis/flow.refs", laid_chrysalis_flow_refs), ("chrysalis/flow.use", laid_chrysalis_flow_use)], narrowed := true }
def CanonDropsUptoSaid : Prop := canonDropsUptoRow.holds Tryz.pinned (OpenSpec.upto canonDropsSpec)

/-- 'chrysalislaw20.ImageSaves', WHERE WHAT IT READS IS OF BULK AT MOST 1048576: true; the input reads as it did. -/
def imageSavesUptoRow : OpenClaim := { program := "ytdlbbdbbpoggfaagreatdoor", sum := "49aaa36c8944a80f07313a24efd32592b7f27e04a2a3ea7008adbe942ae52851", func := "chrysalis/chrysalislaw20.ImageSaves", spec := "imageSaves", unfollowed := true, recurses := true, named := ["chrysalis/flow.use", "chrysalis/flow.number", "chrysalis/flow.words", "chrysalis/flow.octets", "chrysalis/flow.refs"], apart := false, laid := [("chrysalis/flow.number", laid_chrysalis_flow_number), ("chrysalis/flow.octets", laid_chrysalis_flow_octets), ("chrysalis/flow.words", laid_chrysalis_flow_words), ("chrysalis/flow.refs", laid_chrysalis_flow_refs), ("chrysalis/flow.use", laid_chrysalis_flow_use)], narrowed := true }
def ImageSavesUptoSaid : Prop := imageSavesUptoRow.holds Tryz.pinned (OpenSpec.upto imageSavesSpec)

/-- 'chrysalislaw20.ImageRoom', WHERE WHAT IT READS IS OF BULK AT MOST 1048576: true; the input reads as it did. -/
def imageRoomUptoRow : OpenClaim := { program := "ytdlbbdbbpoggfaagreatdoor", sum := "49aaa36c8944a80f07313a24efd32592b7f27e04a2a3ea7008adbe942ae52851", func := "chrysalis/chrysalislaw20.ImageRoom", spec := "imageRoom", unfollowed := true, recurses := true, named := ["chrysalis/flow.use", "chrysalis/flow.number", "chrysalis/flow.words", "chrysalis/flow.octets", "chrysalis/flow.refs"], apart := false, laid := [("chrysalis/flow.number", laid_chrysalis_flow_number), ("chrysalis/flow.octets", laid_chrysalis_flow_octets), ("chrysalis/flow.words", laid_chrysalis_flow_words), ("chrysalis/flow.refs", laid_chrysalis_flow_refs), ("chrysalis/flow.use", laid_chrysalis_flow_use)], narrowed := true }
def ImageRoomUptoSaid : Prop := imageRoomUptoRow.holds Tryz.pinned (OpenSpec.upto imageRoomSpec)

end Rows
end Go.Proofs.YtdlbbdbbpoggfaaGreatDoor
