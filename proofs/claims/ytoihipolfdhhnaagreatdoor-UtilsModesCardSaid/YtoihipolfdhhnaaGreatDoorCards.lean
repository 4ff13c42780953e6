/-
  DERIVED. GIVEN WITH THE SEED: THE CARDS: each row of YtoihipolfdhhnaaGreatDoorRows.lean that lists a variable, with what it lists TIED to the program's text (the seventh form; the later family's looks); each row that meets fmt, with fmt's text TOLD by the authors' own Lean function (tested against real Go, not proved from fmt's source: count such statements apart). THE CARD IS WHAT COUNTS. Prove the row's statement (the work); the ties are given (YtoihipolfdhhnaaGreatDoorTie.lean); close each card by the builder's one call (the guide's Derived/Test/ToyasCard.lean, 'card_holds'). Laid BY PROGRAM, IN A SANDBOX (cutbox-door.mjs). By AI agents, Wed Nov 11 2026. No macro, syntax, notation, axiom, sorry.
-/
import Derived.Test.YtoihipolfdhhnaaGreatDoorRows
import GoSem.ClaimSeven
namespace Go.Proofs.YtoihipolfdhhnaaGreatDoor
namespace Rows

/-- THE TIED CARD OF 'almonerlaw21.UtilsTells'. -/
def utilsTellsCard : Claim7 := { stood := { row := utilsTellsRow, standIns := [], harness := (true, "86c3dfaf5aeedf084ef2f5a272482fae216192ac7a7a4d5e553b5261e3925464"), looks := true }, kinds := [], alts := [], laidByText := true, laidKinds := [.data, .data, .data, .data, .sentinel, .sentinel, .pinned], laidTests := true, laidLooks := .later }
def UtilsTellsCardSaid : Prop := Claim7.holds Tryz.pinned (.plain (OpenSpec.ofChange utilsTellsSpec)) utilsTellsCard

/-- THE TIED CARD OF 'almonerlaw21.UtilsCats'. -/
def utilsCatsCard : Claim7 := { stood := { row := utilsCatsRow, standIns := [], harness := (true, "86c3dfaf5aeedf084ef2f5a272482fae216192ac7a7a4d5e553b5261e3925464"), looks := true }, kinds := [], alts := [], laidByText := true, laidKinds := [.data, .data, .data, .data, .sentinel, .sentinel, .pinned], laidTests := true, laidLooks := .later }
def UtilsCatsCardSaid : Prop := Claim7.holds Tryz.pinned (.plain (OpenSpec.ofChange utilsCatsSpec)) utilsCatsCard

/-- THE TIED CARD OF 'almonerlaw21.UtilsCopies'. -/
def utilsCopiesCard : Claim7 := { stood := { row := utilsCopiesRow, standIns := [], harness := (true, "86c3dfaf5aeedf084ef2f5a272482fae216192ac7a7a4d5e553b5261e3925464"), looks := true }, kinds := [], alts := [], laidByText := true, laidKinds := [.data, .data, .data, .data, .sentinel, .sentinel, .pinned], laidTests := true, laidLooks := .later }
def UtilsCopiesCardSaid : Prop := Claim7.holds Tryz.pinned (.plain (OpenSpec.ofChange utilsCopiesSpec)) utilsCopiesCard

/-- THE TIED CARD OF 'almonerlaw21.UtilsRemoves'. -/
def utilsRemovesCard : Claim7 := { stood := { row := utilsRemovesRow, standIns := [], harness := (true, "86c3dfaf5aeedf084ef2f5a272482fae216192ac7a7a4d5e553b5261e3925464"), looks := true }, kinds := [], alts := [], laidByText := true, laidKinds := [.data, .data, .data, .data, .sentinel, .sentinel, .pinned], laidTests := true, laidLooks := .later }
def UtilsRemovesCardSaid : Prop := Claim7.holds Tryz.pinned (.plain (OpenSpec.ofChange utilsRemovesSpec)) utilsRemovesCard

/-- THE TIED CARD OF 'almonerlaw21.UtilsIds'. -/
def utilsIdsCard : Claim7 := { stood := { row := utilsIdsRow, standIns := [], harness := (true, "86c3dfaf5aeedf084ef2f5a272482fae216192ac7a7a4d5e553b5261e3925464"), looks := true }, kinds := [], alts := [], laidByText := true, laidKinds := [.data, .data, .data, .data, .sentinel, .sentinel, .pinned], laidTests := true, laidLooks := .later }
def UtilsIdsCardSaid : Prop := Claim7.holds Tryz.pinned (.plain (OpenSpec.ofChange utilsIdsSpec)) utilsIdsCard

/-- THE TIED CARD OF 'almonerlaw21.UtilsModes'. -/
def utilsModesCard : Claim7 := { stood := { row := utilsModesRow, standIns := [], harness := (true, "86c3dfaf5aeedf084ef2f5a272482fae216192ac7a7a4d5e553b5261e3925464"), looks := true }, kinds := [], alts := [], laidByText := true, laidKinds := [.data, .data, .data, .data, .sentinel, .sentinel, .pinned], laidTests := true, laidLooks := .later }
def UtilsModesCardSaid : Prop := Claim7.holds Tryz.pinned (.plain (OpenSpec.ofChange utilsModesSpec)) utilsModesCard

/-- THE TIED CARD OF 'almonerlaw21.UtilsClones'. -/
def utilsClonesCard : Claim7 := { stood := { row := utilsClonesRow, standIns := [], harness := (true, "86c3dfaf5aeedf084ef2f5a272482fae216192ac7a7a4d5e553b5261e3925464"), looks := true }, kinds := [], alts := [], laidByText := true, laidKinds := [.data, .data, .data, .data, .sentinel, .sentinel, .pinned], laidTests := true, laidLooks := .later }
def UtilsClonesCardSaid : Prop := Claim7.holds Tryz.pinned (.plain (OpenSpec.ofChange utilsClonesSpec)) utilsClonesCard

/-- THE SECOND FORM's CARD OF 'almonerlaw21.UtilsTells'. -/
def utilsTellsUptoCard : Claim7 := { stood := { row := utilsTellsUptoRow, standIns := [], harness := (true, "86c3dfaf5aeedf084ef2f5a272482fae216192ac7a7a4d5e553b5261e3925464"), looks := true }, kinds := [], alts := [], laidByText := true, laidKinds := [.data, .data, .data, .data, .sentinel, .sentinel, .pinned], laidTests := true, laidLooks := .later }
def UtilsTellsUptoCardSaid : Prop := Claim7.holds Tryz.pinned (.plain (OpenSpec.upto utilsTellsSpec)) utilsTellsUptoCard

/-- THE SECOND FORM's CARD OF 'almonerlaw21.UtilsCats'. -/
def utilsCatsUptoCard : Claim7 := { stood := { row := utilsCatsUptoRow, standIns := [], harness := (true, "86c3dfaf5aeedf084ef2f5a272482fae216192ac7a7a4d5e553b5261e3925464"), looks := true }, kinds := [], alts := [], laidByText := true, laidKinds := [.data, .data, .data, .data, .sentinel, .sentinel, .pinned], laidTests := true, laidLooks := .later }
def UtilsCatsUptoCardSaid : Prop := Claim7.holds Tryz.pinned (.plain (OpenSpec.upto utilsCatsSpec)) utilsCatsUptoCard

/-- THE SECOND FORM's CARD OF 'almonerlaw21.UtilsCopies'. -/
def utilsCopiesUptoCard : Claim7 := { stood := { row := utilsCopiesUptoRow, standIns := [], harness := (true, "86c3dfaf5aeedf084ef2f5a272482fae216192ac7a7a4d5e553b5261e3925464"), looks := true }, kinds := [], alts := [], laidByText := true, laidKinds := [.data, .data, .data, .data, .sentinel, .sentinel, .pinned], laidTests := true, laidLooks := .later }
def UtilsCopiesUptoCardSaid : Prop := Claim7.holds Tryz.pinned (.plain (OpenSpec.upto utilsCopiesSpec)) utilsCopiesUptoCard

/-- THE SECOND FORM's CARD OF 'almonerlaw21.UtilsRemoves'. -/
def utilsRemovesUptoCard : Claim7 := { stood := { row := utilsRemovesUptoRow, standIns := [], harness := (true, "86c3dfaf5aeedf084ef2f5a272482fae216192ac7a7a4d5e553b5261e3925464"), looks := true }, kinds := [], alts := [], laidByText := true, laidKinds := [.data, .data, .data, .data, .sentinel, .sentinel, .pinned], laidTests := true, laidLooks := .later }
def UtilsRemovesUptoCardSaid : Prop := Claim7.holds Tryz.pinned (.plain (OpenSpec.upto utilsRemovesSpec)) utilsRemovesUptoCard

/-- THE SECOND FORM's CARD OF 'almonerlaw21.UtilsIds'. -/
def utilsIdsUptoCard : Claim7 := { stood := { row := utilsIdsUptoRow, standIns := [], harness := (true, "86c3dfaf5aeedf084ef2f5a272482fae216192ac7a7a4d5e553b5261e3925464"), looks := true }, kinds := [], alts := [], laidByText := true, laidKinds := [.data, .data, .data, .data, .sentinel, .sentinel, .pinned], laidTests := true, laidLooks := .later }
def UtilsIdsUptoCardSaid : Prop := Claim7.holds Tryz.pinned (.plain (OpenSpec.upto utilsIdsSpec)) utilsIdsUptoCard

/-- THE SECOND FORM's CARD OF 'almonerlaw21.UtilsModes'. -/
def utilsModesUptoCard : Claim7 := { stood := { row := utilsModesUptoRow, standIns := [], harness := (true, "86c3dfaf5aeedf084ef2f5a272482fae216192ac7a7a4d5e553b5261e3925464"), looks := true }, kinds := [], alts := [], laidByText := true, laidKinds := [.data, .data, .data, .data, .sentinel, .sentinel, .pinned], laidTests := true, laidLooks := .later }
def UtilsModesUptoCardSaid : Prop := Claim7.holds Tryz.pinned (.plain (OpenSpec.upto utilsModesSpec)) utilsModesUptoCard

/-- THE SECOND FORM's CARD OF 'almonerlaw21.UtilsClones'. -/
def utilsClonesUptoCard : Claim7 := { stood := { row := utilsClonesUptoRow, standIns := [], harness := (true, "86c3dfaf5aeedf084ef2f5a272482fae216192ac7a7a4d5e553b5261e3925464"), looks := true }, kinds := [], alts := [], laidByText := true, laidKinds := [.data, .data, .data, .data, .sentinel, .sentinel, .pinned], laidTests := true, laidLooks := .later }
def UtilsClonesUptoCardSaid : Prop := Claim7.holds Tryz.pinned (.plain (OpenSpec.upto utilsClonesSpec)) utilsClonesUptoCard
end Rows
end Go.Proofs.YtoihipolfdhhnaaGreatDoor
