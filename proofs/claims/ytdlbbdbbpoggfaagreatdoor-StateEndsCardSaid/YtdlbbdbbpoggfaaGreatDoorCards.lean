/-
  DERIVED. GIVEN WITH THE SEED: THE CARDS: each row of YtdlbbdbbpoggfaaGreatDoorRows.lean that lists a variable, with what it lists TIED to the program's text (the seventh form; the later family's looks); each row that meets fmt, with fmt's text TOLD by the authors' own Lean function (tested against real Go, not proved from fmt's source: count such statements apart). THE CARD IS WHAT COUNTS. Prove the row's statement (the work); the ties are given (YtdlbbdbbpoggfaaGreatDoorTie.lean); close each card by the builder's one call (the guide's Derived/Test/ToyasCard.lean, 'card_holds'). Laid BY PROGRAM, IN A SANDBOX (cutbox-door.mjs). By AI agents, Wed Nov 11 2026. No macro, syntax, notation, axiom, sorry.
-/
import Derived.Test.YtdlbbdbbpoggfaaGreatDoorRows
import GoSem.ClaimSeven
namespace Go.Proofs.YtdlbbdbbpoggfaaGreatDoor
namespace Rows

/-- THE TIED CARD OF 'chrysalislaw14.StateBegins'. -/
def stateBeginsCard : Claim7 := { stood := { row := stateBeginsRow, standIns := [], harness := (true, "34e1e3178cc2386d30524af6a952b41186458d2ebfc98ea9ea07f863b8366022"), looks := false }, kinds := [], alts := [], laidByText := true, laidKinds := [.data, .data, .data, .data, .data], laidTests := true, laidLooks := .later }
def StateBeginsCardSaid : Prop := Claim7.holds Tryz.pinned (.plain (OpenSpec.ofChange stateBeginsSpec)) stateBeginsCard

/-- THE TIED CARD OF 'chrysalislaw14.StateTyped'. -/
def stateTypedCard : Claim7 := { stood := { row := stateTypedRow, standIns := [], harness := (true, "34e1e3178cc2386d30524af6a952b41186458d2ebfc98ea9ea07f863b8366022"), looks := false }, kinds := [], alts := [], laidByText := true, laidKinds := [.data, .data, .data, .data, .data], laidTests := true, laidLooks := .later }
def StateTypedCardSaid : Prop := Claim7.holds Tryz.pinned (.plain (OpenSpec.ofChange stateTypedSpec)) stateTypedCard

/-- THE TIED CARD OF 'chrysalislaw14.StateEnds'. -/
def stateEndsCard : Claim7 := { stood := { row := stateEndsRow, standIns := [], harness := (true, "34e1e3178cc2386d30524af6a952b41186458d2ebfc98ea9ea07f863b8366022"), looks := false }, kinds := [], alts := [], laidByText := true, laidKinds := [.data, .data, .data, .data, .data], laidTests := true, laidLooks := .later }
def StateEndsCardSaid : Prop := Claim7.holds Tryz.pinned (.plain (OpenSpec.ofChange stateEndsSpec)) stateEndsCard

/-- THE TIED CARD OF 'chrysalislaw19.CanonForms'. -/
def canonFormsCard : Claim7 := { stood := { row := canonFormsRow, standIns := [], harness := (true, "34e1e3178cc2386d30524af6a952b41186458d2ebfc98ea9ea07f863b8366022"), looks := false }, kinds := [], alts := [], laidByText := true, laidKinds := [.data, .data, .data, .data, .data], laidTests := true, laidLooks := .later }
def CanonFormsCardSaid : Prop := Claim7.holds Tryz.pinned (.plain (OpenSpec.ofChange canonFormsSpec)) canonFormsCard

/-- THE TIED CARD OF 'chrysalislaw19.CanonAlike'. -/
def canonAlikeCard : Claim7 := { stood := { row := canonAlikeRow, standIns := [], harness := (true, "34e1e3178cc2386d30524af6a952b41186458d2ebfc98ea9ea07f863b8366022"), looks := false }, kinds := [], alts := [], laidByText := true, laidKinds := [.data, .data, .data, .data, .data], laidTests := true, laidLooks := .later }
def CanonAlikeCardSaid : Prop := Claim7.holds Tryz.pinned (.plain (OpenSpec.ofChange canonAlikeSpec)) canonAlikeCard

/-- THE TIED CARD OF 'chrysalislaw19.CanonOrder'. -/
def canonOrderCard : Claim7 := { stood := { row := canonOrderRow, standIns := [], harness := (true, "34e1e3178cc2386d30524af6a952b41186458d2ebfc98ea9ea07f863b8366022"), looks := false }, kinds := [], alts := [], laidByText := true, laidKinds := [.data, .data, .data, .data, .data], laidTests := true, laidLooks := .later }
def CanonOrderCardSaid : Prop := Claim7.holds Tryz.pinned (.plain (OpenSpec.ofChange canonOrderSpec)) canonOrderCard

/-- THE TIED CARD OF 'chrysalislaw19.CanonDrops'. -/
def canonDropsCard : Claim7 := { stood := { row := canonDropsRow, standIns := [], harness := (true, "34e1e3178cc2386d30524af6a952b41186458d2ebfc98ea9ea07f863b8366022"), looks := false }, kinds := [], alts := [], laidByText := true, laidKinds := [.data, .data, .data, .data, .data], laidTests := true, laidLooks := .later }
def CanonDropsCardSaid : Prop := Claim7.holds Tryz.pinned (.plain (OpenSpec.ofChange canonDropsSpec)) canonDropsCard

/-- THE TIED CARD OF 'chrysalislaw20.ImageSaves'. -/
def imageSavesCard : Claim7 := { stood := { row := imageSavesRow, standIns := [], harness := (true, "34e1e3178cc2386d30524af6a952b41186458d2ebfc98ea9ea07f863b8366022"), looks := false }, kinds := [], alts := [], laidByText := true, laidKinds := [.data, .data, .data, .data, .data], laidTests := true, laidLooks := .later }
def ImageSavesCardSaid : Prop := Claim7.holds Tryz.pinned (.plain (OpenSpec.ofChange imageSavesSpec)) imageSavesCard

/-- THE TIED CARD OF 'chrysalislaw20.ImageRoom'. -/
def imageRoomCard : Claim7 := { stood := { row := imageRoomRow, standIns := [], harness := (true, "34e1e3178cc2386d30524af6a952b41186458d2ebfc98ea9ea07f863b8366022"), looks := false }, kinds := [], alts := [], laidByText := true, laidKinds := [.data, .data, .data, .data, .data], laidTests := true, laidLooks := .later }
def ImageRoomCardSaid : Prop := Claim7.holds Tryz.pinned (.plain (OpenSpec.ofChange imageRoomSpec)) imageRoomCard

/-- THE SECOND FORM's CARD OF 'chrysalislaw14.StateBegins'. -/
def stateBeginsUptoCard : Claim7 := { stood := { row := stateBeginsUptoRow, standIns := [], harness := (true, "34e1e3178cc2386d30524af6a952b41186458d2ebfc98ea9ea07f863b8366022"), looks := false }, kinds := [], alts := [], laidByText := true, laidKinds := [.data, .data, .data, .data, .data], laidTests := true, laidLooks := .later }
def StateBeginsUptoCardSaid : Prop := Claim7.holds Tryz.pinned (.plain (OpenSpec.upto stateBeginsSpec)) stateBeginsUptoCard

/-- THE SECOND FORM's CARD OF 'chrysalislaw14.StateTyped'. -/
def stateTypedUptoCard : Claim7 := { stood := { row := stateTypedUptoRow, standIns := [], harness := (true, "34e1e3178cc2386d30524af6a952b41186458d2ebfc98ea9ea07f863b8366022"), looks := false }, kinds := [], alts := [], laidByText := true, laidKinds := [.data, .data, .data, .data, .data], laidTests := true, laidLooks := .later }
def StateTypedUptoCardSaid : Prop := Claim7.holds Tryz.pinned (.plain (OpenSpec.upto stateTypedSpec)) stateTypedUptoCard

/-- THE SECOND FORM's CARD OF 'chrysalislaw14.StateEnds'. -/
def stateEndsUptoCard : Claim7 := { stood := { row := stateEndsUptoRow, standIns := [], harness := (true, "34e1e3178cc2386d30524af6a952b41186458d2ebfc98ea9ea07f863b8366022"), looks := false }, kinds := [], alts := [], laidByText := true, laidKinds := [.data, .data, .data, .data, .data], laidTests := true, laidLooks := .later }
def StateEndsUptoCardSaid : Prop := Claim7.holds Tryz.pinned (.plain (OpenSpec.upto stateEndsSpec)) stateEndsUptoCard

/-- THE SECOND FORM's CARD OF 'chrysalislaw19.CanonForms'. -/
def canonFormsUptoCard : Claim7 := { stood := { row := canonFormsUptoRow, standIns := [], harness := (true, "34e1e3178cc2386d30524af6a952b41186458d2ebfc98ea9ea07f863b8366022"), looks := false }, kinds := [], alts := [], laidByText := true, laidKinds := [.data, .data, .data, .data, .data], laidTests := true, laidLooks := .later }
def CanonFormsUptoCardSaid : Prop := Claim7.holds Tryz.pinned (.plain (OpenSpec.upto canonFormsSpec)) canonFormsUptoCard

/-- THE SECOND FORM's CARD OF 'chrysalislaw19.CanonAlike'. -/
def canonAlikeUptoCard : Claim7 := { stood := { row := canonAlikeUptoRow, standIns := [], harness := (true, "34e1e3178cc2386d30524af6a952b41186458d2ebfc98ea9ea07f863b8366022"), looks := false }, kinds := [], alts := [], laidByText := true, laidKinds := [.data, .data, .data, .data, .data], laidTests := true, laidLooks := .later }
def CanonAlikeUptoCardSaid : Prop := Claim7.holds Tryz.pinned (.plain (OpenSpec.upto canonAlikeSpec)) canonAlikeUptoCard

/-- THE SECOND FORM's CARD OF 'chrysalislaw19.CanonOrder'. -/
def canonOrderUptoCard : Claim7 := { stood := { row := canonOrderUptoRow, standIns := [], harness := (true, "34e1e3178cc2386d30524af6a952b41186458d2ebfc98ea9ea07f863b8366022"), looks := false }, kinds := [], alts := [], laidByText := true, laidKinds := [.data, .data, .data, .data, .data], laidTests := true, laidLooks := .later }
def CanonOrderUptoCardSaid : Prop := Claim7.holds Tryz.pinned (.plain (OpenSpec.upto canonOrderSpec)) canonOrderUptoCard

/-- THE SECOND FORM's CARD OF 'chrysalislaw19.CanonDrops'. -/
def canonDropsUptoCard : Claim7 := { stood := { row := canonDropsUptoRow, standIns := [], harness := (true, "34e1e3178cc2386d30524af6a952b41186458d2ebfc98ea9ea07f863b8366022"), looks := false }, kinds := [], alts := [], laidByText := true, laidKinds := [.data, .data, .data, .data, .data], laidTests := true, laidLooks := .later }
def CanonDropsUptoCardSaid : Prop := Claim7.holds Tryz.pinned (.plain (OpenSpec.upto canonDropsSpec)) canonDropsUptoCard

/-- THE SECOND FORM's CARD OF 'chrysalislaw20.ImageSaves'. -/
def imageSavesUptoCard : Claim7 := { stood := { row := imageSavesUptoRow, standIns := [], harness := (true, "34e1e3178cc2386d30524af6a952b41186458d2ebfc98ea9ea07f863b8366022"), looks := false }, kinds := [], alts := [], laidByText := true, laidKinds := [.data, .data, .data, .data, .data], laidTests := true, laidLooks := .later }
def ImageSavesUptoCardSaid : Prop := Claim7.holds Tryz.pinned (.plain (OpenSpec.upto imageSavesSpec)) imageSavesUptoCard

/-- THE SECOND FORM's CARD OF 'chrysalislaw20.ImageRoom'. -/
def imageRoomUptoCard : Claim7 := { stood := { row := imageRoomUptoRow, standIns := [], harness := (true, "34e1e3178cc2386d30524af6a952b41186458d2ebfc98ea9ea07f863b8366022"), looks := false }, kinds := [], alts := [], laidByText := true, laidKinds := [.data, .data, .data, .data, .data], laidTests := true, laidLooks := .later }
def ImageRoomUptoCardSaid : Prop := Claim7.holds Tryz.pinned (.plain (OpenSpec.upto imageRoomSpec)) imageRoomUptoCard
end Rows
end Go.Proofs.YtdlbbdbbpoggfaaGreatDoor
