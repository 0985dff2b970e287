/-
  DERIVED. GIVEN WITH THE SEED: THE CARDS: each row of YtpbgmoihgoeneaaGreatDoorRows.lean that lists a variable, with what it lists TIED to the program's text (the seventh form; the later family's looks); each row that meets fmt, with fmt's text TOLD by the authors' own Lean function (tested against real Go, not proved from fmt's source: count such statements apart). THE CARD IS WHAT COUNTS. Prove the row's statement (the work); the ties are given (YtpbgmoihgoeneaaGreatDoorTie.lean); close each card by the builder's one call (the guide's Derived/Test/ToyasCard.lean, 'card_holds'). Laid BY PROGRAM, IN A SANDBOX (cutbox-door.mjs). By AI agents, Wed Nov 11 2026. No macro, syntax, notation, axiom, sorry.
-/
import Derived.Test.YtpbgmoihgoeneaaGreatDoorRows
import GoSem.ClaimSeven
namespace Go.Proofs.YtpbgmoihgoeneaaGreatDoor
namespace Rows

/-- THE TIED CARD OF 'transomlaw22.GateBound'. -/
def gateBoundCard : Claim7 := { stood := { row := gateBoundRow, standIns := [], harness := (true, "b259cea92c6dd25b37813fce124782f781d25b7663586ccaeeac6cb31dab87e4"), looks := true }, kinds := [], alts := [], laidByText := true, laidKinds := [.data, .data, .data], laidTests := true, laidLooks := .later }
def GateBoundCardSaid : Prop := Claim7.holds Tryz.pinned (.plain (OpenSpec.ofChange gateBoundSpec)) gateBoundCard

/-- THE TIED CARD OF 'transomlaw23.DeskAlone'. -/
def deskAloneCard : Claim7 := { stood := { row := deskAloneRow, standIns := [], harness := (true, "b259cea92c6dd25b37813fce124782f781d25b7663586ccaeeac6cb31dab87e4"), looks := true }, kinds := [], alts := [], laidByText := true, laidKinds := [.data, .data, .data], laidTests := true, laidLooks := .later }
def DeskAloneCardSaid : Prop := Claim7.holds Tryz.pinned (.plain (OpenSpec.ofChange deskAloneSpec)) deskAloneCard

/-- THE TIED CARD OF 'transomlaw23.DeskPlays'. -/
def deskPlaysCard : Claim7 := { stood := { row := deskPlaysRow, standIns := [], harness := (true, "b259cea92c6dd25b37813fce124782f781d25b7663586ccaeeac6cb31dab87e4"), looks := true }, kinds := [], alts := [], laidByText := true, laidKinds := [.data, .data, .data], laidTests := true, laidLooks := .later }
def DeskPlaysCardSaid : Prop := Claim7.holds Tryz.pinned (.plain (OpenSpec.ofChange deskPlaysSpec)) deskPlaysCard

/-- THE TIED CARD OF 'transomlaw23.DeskFull'. -/
def deskFullCard : Claim7 := { stood := { row := deskFullRow, standIns := [], harness := (true, "b259cea92c6dd25b37813fce124782f781d25b7663586ccaeeac6cb31dab87e4"), looks := true }, kinds := [], alts := [], laidByText := true, laidKinds := [.data, .data, .data], laidTests := true, laidLooks := .later }
def DeskFullCardSaid : Prop := Claim7.holds Tryz.pinned (.plain (OpenSpec.ofChange deskFullSpec)) deskFullCard

/-- THE TIED CARD OF 'transomlaw23.DeskNil'. -/
def deskNilCard : Claim7 := { stood := { row := deskNilRow, standIns := [], harness := (true, "b259cea92c6dd25b37813fce124782f781d25b7663586ccaeeac6cb31dab87e4"), looks := true }, kinds := [], alts := [], laidByText := true, laidKinds := [.data, .data, .data], laidTests := true, laidLooks := .later }
def DeskNilCardSaid : Prop := Claim7.holds Tryz.pinned (.plain (OpenSpec.ofChange deskNilSpec)) deskNilCard

/-- THE TIED CARD OF 'transomlaw23.DeskDrops'. -/
def deskDropsCard : Claim7 := { stood := { row := deskDropsRow, standIns := [], harness := (true, "b259cea92c6dd25b37813fce124782f781d25b7663586ccaeeac6cb31dab87e4"), looks := true }, kinds := [], alts := [], laidByText := true, laidKinds := [.data, .data, .data], laidTests := true, laidLooks := .later }
def DeskDropsCardSaid : Prop := Claim7.holds Tryz.pinned (.plain (OpenSpec.ofChange deskDropsSpec)) deskDropsCard

/-- THE SECOND FORM's CARD OF 'transomlaw22.GateBound'. -/
def gateBoundUptoCard : Claim7 := { stood := { row := gateBoundUptoRow, standIns := [], harness := (true, "b259cea92c6dd25b37813fce124782f781d25b7663586ccaeeac6cb31dab87e4"), looks := true }, kinds := [], alts := [], laidByText := true, laidKinds := [.data, .data, .data], laidTests := true, laidLooks := .later }
def GateBoundUptoCardSaid : Prop := Claim7.holds Tryz.pinned (.plain (OpenSpec.upto gateBoundSpec)) gateBoundUptoCard

/-- THE SECOND FORM's CARD OF 'transomlaw23.DeskAlone'. -/
def deskAloneUptoCard : Claim7 := { stood := { row := deskAloneUptoRow, standIns := [], harness := (true, "b259cea92c6dd25b37813fce124782f781d25b7663586ccaeeac6cb31dab87e4"), looks := true }, kinds := [], alts := [], laidByText := true, laidKinds := [.data, .data, .data], laidTests := true, laidLooks := .later }
def DeskAloneUptoCardSaid : Prop := Claim7.holds Tryz.pinned (.plain (OpenSpec.upto deskAloneSpec)) deskAloneUptoCard

/-- THE SECOND FORM's CARD OF 'transomlaw23.DeskPlays'. -/
def deskPlaysUptoCard : Claim7 := { stood := { row := deskPlaysUptoRow, standIns := [], harness := (true, "b259cea92c6dd25b37813fce124782f781d25b7663586ccaeeac6cb31dab87e4"), looks := true }, kinds := [], alts := [], laidByText := true, laidKinds := [.data, .data, .data], laidTests := true, laidLooks := .later }
def DeskPlaysUptoCardSaid : Prop := Claim7.holds Tryz.pinned (.plain (OpenSpec.upto deskPlaysSpec)) deskPlaysUptoCard

/-- THE SECOND FORM's CARD OF 'transomlaw23.DeskFull'. -/
def deskFullUptoCard : Claim7 := { stood := { row := deskFullUptoRow, standIns := [], harness := (true, "b259cea92c6dd25b37813fce124782f781d25b7663586ccaeeac6cb31dab87e4"), looks := true }, kinds := [], alts := [], laidByText := true, laidKinds := [.data, .data, .data], laidTests := true, laidLooks := .later }
def DeskFullUptoCardSaid : Prop := Claim7.holds Tryz.pinned (.plain (OpenSpec.upto deskFullSpec)) deskFullUptoCard

/-- THE SECOND FORM's CARD OF 'transomlaw23.DeskNil'. -/
def deskNilUptoCard : Claim7 := { stood := { row := deskNilUptoRow, standIns := [], harness := (true, "b259cea92c6dd25b37813fce124782f781d25b7663586ccaeeac6cb31dab87e4"), looks := true }, kinds := [], alts := [], laidByText := true, laidKinds := [.data, .data, .data], laidTests := true, laidLooks := .later }
def DeskNilUptoCardSaid : Prop := Claim7.holds Tryz.pinned (.plain (OpenSpec.upto deskNilSpec)) deskNilUptoCard

/-- THE SECOND FORM's CARD OF 'transomlaw23.DeskDrops'. -/
def deskDropsUptoCard : Claim7 := { stood := { row := deskDropsUptoRow, standIns := [], harness := (true, "b259cea92c6dd25b37813fce124782f781d25b7663586ccaeeac6cb31dab87e4"), looks := true }, kinds := [], alts := [], laidByText := true, laidKinds := [.data, .data, .data], laidTests := true, laidLooks := .later }
def DeskDropsUptoCardSaid : Prop := Claim7.holds Tryz.pinned (.plain (OpenSpec.upto deskDropsSpec)) deskDropsUptoCard
end Rows
end Go.Proofs.YtpbgmoihgoeneaaGreatDoor
