/-
  DERIVED. GIVEN WITH THE SEED: THE CARDS: each row of YteapmebmgaggcaaDoorRows.lean that lists a variable, with what it lists TIED to the program's text (the seventh form; the later family's looks); each row that meets fmt, with fmt's text TOLD by the authors' own Lean function (tested against real Go, not proved from fmt's source: count such statements apart). THE CARD IS WHAT COUNTS. Prove the row's statement (the work); the ties are given (YteapmebmgaggcaaDoorTie.lean); close each card by the builder's one call (the guide's Derived/Test/ToyasCard.lean, 'card_holds'). Laid BY PROGRAM, IN A SANDBOX (cutbox-door.mjs). By AI agents, Wed Nov 11 2026. No macro, syntax, notation, axiom, sorry.
-/
import Derived.Test.YteapmebmgaggcaaDoorRows
import GoSem.ClaimSeven
namespace Go.Proofs.YteapmebmgaggcaaDoor
namespace Rows

/-- THE TIED CARD OF 'ringroadlaw26.WireBack'. -/
def wireBackCard : Claim7 := { stood := { row := wireBackRow, standIns := [], harness := (true, "eb8e6222fa6c41debe3d5a81d026e7baf86c7267bfb0e643d307ed45b375dbc7"), looks := true }, kinds := [], alts := [], laidByText := true, laidKinds := [.data], laidTests := true, laidLooks := .later }
def WireBackCardSaid : Prop := Claim7.holds Tryd.pinned (.plain (OpenSpec.ofChange wireBackSpec)) wireBackCard

/-- THE TIED CARD OF 'ringroadlaw26.WireReads'. -/
def wireReadsCard : Claim7 := { stood := { row := wireReadsRow, standIns := [], harness := (true, "eb8e6222fa6c41debe3d5a81d026e7baf86c7267bfb0e643d307ed45b375dbc7"), looks := true }, kinds := [], alts := [], laidByText := true, laidKinds := [.data], laidTests := true, laidLooks := .later }
def WireReadsCardSaid : Prop := Claim7.holds Tryd.pinned (.plain (OpenSpec.ofChange wireReadsSpec)) wireReadsCard

/-- THE TIED CARD OF 'ringroadlaw26.WireApart'. -/
def wireApartCard : Claim7 := { stood := { row := wireApartRow, standIns := [], harness := (true, "eb8e6222fa6c41debe3d5a81d026e7baf86c7267bfb0e643d307ed45b375dbc7"), looks := true }, kinds := [], alts := [], laidByText := true, laidKinds := [.data], laidTests := true, laidLooks := .later }
def WireApartCardSaid : Prop := Claim7.holds Tryd.pinned (.plain (OpenSpec.ofChange wireApartSpec)) wireApartCard

/-- THE TIED CARD OF 'ringroadlaw26.WirePieces'. -/
def wirePiecesCard : Claim7 := { stood := { row := wirePiecesRow, standIns := [], harness := (true, "eb8e6222fa6c41debe3d5a81d026e7baf86c7267bfb0e643d307ed45b375dbc7"), looks := true }, kinds := [], alts := [], laidByText := true, laidKinds := [.data], laidTests := true, laidLooks := .later }
def WirePiecesCardSaid : Prop := Claim7.holds Tryd.pinned (.plain (OpenSpec.ofChange wirePiecesSpec)) wirePiecesCard

/-- THE TIED CARD OF 'ringroadlaw26.WireAnswers'. -/
def wireAnswersCard : Claim7 := { stood := { row := wireAnswersRow, standIns := [], harness := (true, "eb8e6222fa6c41debe3d5a81d026e7baf86c7267bfb0e643d307ed45b375dbc7"), looks := true }, kinds := [], alts := [], laidByText := true, laidKinds := [.data], laidTests := true, laidLooks := .later }
def WireAnswersCardSaid : Prop := Claim7.holds Tryd.pinned (.plain (OpenSpec.ofChange wireAnswersSpec)) wireAnswersCard

/-- THE TIED CARD OF 'ringroadlaw26.WireReplies'. -/
def wireRepliesCard : Claim7 := { stood := { row := wireRepliesRow, standIns := [], harness := (true, "eb8e6222fa6c41debe3d5a81d026e7baf86c7267bfb0e643d307ed45b375dbc7"), looks := true }, kinds := [], alts := [], laidByText := true, laidKinds := [.data], laidTests := true, laidLooks := .later }
def WireRepliesCardSaid : Prop := Claim7.holds Tryd.pinned (.plain (OpenSpec.ofChange wireRepliesSpec)) wireRepliesCard

/-- THE SECOND FORM's CARD OF 'ringroadlaw26.WireBack'. -/
def wireBackUptoCard : Claim7 := { stood := { row := wireBackUptoRow, standIns := [], harness := (true, "eb8e6222fa6c41debe3d5a81d026e7baf86c7267bfb0e643d307ed45b375dbc7"), looks := true }, kinds := [], alts := [], laidByText := true, laidKinds := [.data], laidTests := true, laidLooks := .later }
def WireBackUptoCardSaid : Prop := Claim7.holds Tryd.pinned (.plain (OpenSpec.upto wireBackSpec)) wireBackUptoCard

/-- THE SECOND FORM's CARD OF 'ringroadlaw26.WireReads'. -/
def wireReadsUptoCard : Claim7 := { stood := { row := wireReadsUptoRow, standIns := [], harness := (true, "eb8e6222fa6c41debe3d5a81d026e7baf86c7267bfb0e643d307ed45b375dbc7"), looks := true }, kinds := [], alts := [], laidByText := true, laidKinds := [.data], laidTests := true, laidLooks := .later }
def WireReadsUptoCardSaid : Prop := Claim7.holds Tryd.pinned (.plain (OpenSpec.upto wireReadsSpec)) wireReadsUptoCard

/-- THE SECOND FORM's CARD OF 'ringroadlaw26.WireApart'. -/
def wireApartUptoCard : Claim7 := { stood := { row := wireApartUptoRow, standIns := [], harness := (true, "eb8e6222fa6c41debe3d5a81d026e7baf86c7267bfb0e643d307ed45b375dbc7"), looks := true }, kinds := [], alts := [], laidByText := true, laidKinds := [.data], laidTests := true, laidLooks := .later }
def WireApartUptoCardSaid : Prop := Claim7.holds Tryd.pinned (.plain (OpenSpec.upto wireApartSpec)) wireApartUptoCard

/-- THE SECOND FORM's CARD OF 'ringroadlaw26.WirePieces'. -/
def wirePiecesUptoCard : Claim7 := { stood := { row := wirePiecesUptoRow, standIns := [], harness := (true, "eb8e6222fa6c41debe3d5a81d026e7baf86c7267bfb0e643d307ed45b375dbc7"), looks := true }, kinds := [], alts := [], laidByText := true, laidKinds := [.data], laidTests := true, laidLooks := .later }
def WirePiecesUptoCardSaid : Prop := Claim7.holds Tryd.pinned (.plain (OpenSpec.upto wirePiecesSpec)) wirePiecesUptoCard

/-- THE SECOND FORM's CARD OF 'ringroadlaw26.WireAnswers'. -/
def wireAnswersUptoCard : Claim7 := { stood := { row := wireAnswersUptoRow, standIns := [], harness := (true, "eb8e6222fa6c41debe3d5a81d026e7baf86c7267bfb0e643d307ed45b375dbc7"), looks := true }, kinds := [], alts := [], laidByText := true, laidKinds := [.data], laidTests := true, laidLooks := .later }
def WireAnswersUptoCardSaid : Prop := Claim7.holds Tryd.pinned (.plain (OpenSpec.upto wireAnswersSpec)) wireAnswersUptoCard

/-- THE SECOND FORM's CARD OF 'ringroadlaw26.WireReplies'. -/
def wireRepliesUptoCard : Claim7 := { stood := { row := wireRepliesUptoRow, standIns := [], harness := (true, "eb8e6222fa6c41debe3d5a81d026e7baf86c7267bfb0e643d307ed45b375dbc7"), looks := true }, kinds := [], alts := [], laidByText := true, laidKinds := [.data], laidTests := true, laidLooks := .later }
def WireRepliesUptoCardSaid : Prop := Claim7.holds Tryd.pinned (.plain (OpenSpec.upto wireRepliesSpec)) wireRepliesUptoCard
end Rows
end Go.Proofs.YteapmebmgaggcaaDoor
