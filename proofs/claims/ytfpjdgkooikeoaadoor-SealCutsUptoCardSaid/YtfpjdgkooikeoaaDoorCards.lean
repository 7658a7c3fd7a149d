/-
  DERIVED. GIVEN WITH THE SEED: THE CARDS: each row of YtfpjdgkooikeoaaDoorRows.lean that lists a variable, with what it lists TIED to the program's text (the seventh form; the later family's looks); each row that meets fmt, with fmt's text TOLD by the authors' own Lean function (tested against real Go, not proved from fmt's source: count such statements apart). THE CARD IS WHAT COUNTS. Prove the row's statement (the work); the ties are given (YtfpjdgkooikeoaaDoorTie.lean); close each card by the builder's one call (the guide's Derived/Test/ToyasCard.lean, 'card_holds'). Laid BY PROGRAM, IN A SANDBOX (cutbox-door.mjs). By AI agents, Wed Nov 11 2026. No macro, syntax, notation, axiom, sorry.
-/
import Derived.Test.YtfpjdgkooikeoaaDoorRows
import GoSem.ClaimSeven
namespace Go.Proofs.YtfpjdgkooikeoaaDoor
namespace Rows

/-- THE TIED CARD OF 'flotillalaw02.SealSum'. -/
def sealSumCard : Claim7 := { stood := { row := sealSumRow, standIns := [], harness := (true, "8350741b17dc270488ef903dfedfc5e588e371a08e8c0c96c54d10ab85d1d9e8"), looks := false }, kinds := [], alts := [], laidByText := true, laidKinds := [.data], laidTests := true, laidLooks := .later }
def SealSumCardSaid : Prop := Claim7.holds Tryd.pinned (.plain (OpenSpec.ofChange sealSumSpec)) sealSumCard

/-- THE TIED CARD OF 'flotillalaw02.SealMakes'. -/
def sealMakesCard : Claim7 := { stood := { row := sealMakesRow, standIns := [], harness := (true, "8350741b17dc270488ef903dfedfc5e588e371a08e8c0c96c54d10ab85d1d9e8"), looks := false }, kinds := [], alts := [], laidByText := true, laidKinds := [.data], laidTests := true, laidLooks := .later }
def SealMakesCardSaid : Prop := Claim7.holds Tryd.pinned (.plain (OpenSpec.ofChange sealMakesSpec)) sealMakesCard

/-- THE TIED CARD OF 'flotillalaw02.SealOpens'. -/
def sealOpensCard : Claim7 := { stood := { row := sealOpensRow, standIns := [], harness := (true, "8350741b17dc270488ef903dfedfc5e588e371a08e8c0c96c54d10ab85d1d9e8"), looks := false }, kinds := [], alts := [], laidByText := true, laidKinds := [.data], laidTests := true, laidLooks := .later }
def SealOpensCardSaid : Prop := Claim7.holds Tryd.pinned (.plain (OpenSpec.ofChange sealOpensSpec)) sealOpensCard

/-- THE TIED CARD OF 'flotillalaw02.SealBack'. -/
def sealBackCard : Claim7 := { stood := { row := sealBackRow, standIns := [], harness := (true, "8350741b17dc270488ef903dfedfc5e588e371a08e8c0c96c54d10ab85d1d9e8"), looks := false }, kinds := [], alts := [], laidByText := true, laidKinds := [.data], laidTests := true, laidLooks := .later }
def SealBackCardSaid : Prop := Claim7.holds Tryd.pinned (.plain (OpenSpec.ofChange sealBackSpec)) sealBackCard

/-- THE TIED CARD OF 'flotillalaw02.SealTold'. -/
def sealToldCard : Claim7 := { stood := { row := sealToldRow, standIns := [], harness := (true, "8350741b17dc270488ef903dfedfc5e588e371a08e8c0c96c54d10ab85d1d9e8"), looks := false }, kinds := [], alts := [], laidByText := true, laidKinds := [.data], laidTests := true, laidLooks := .later }
def SealToldCardSaid : Prop := Claim7.holds Tryd.pinned (.plain (OpenSpec.ofChange sealToldSpec)) sealToldCard

/-- THE TIED CARD OF 'flotillalaw02.SealBurst'. -/
def sealBurstCard : Claim7 := { stood := { row := sealBurstRow, standIns := [], harness := (true, "8350741b17dc270488ef903dfedfc5e588e371a08e8c0c96c54d10ab85d1d9e8"), looks := false }, kinds := [], alts := [], laidByText := true, laidKinds := [.data], laidTests := true, laidLooks := .later }
def SealBurstCardSaid : Prop := Claim7.holds Tryd.pinned (.plain (OpenSpec.ofChange sealBurstSpec)) sealBurstCard

/-- THE TIED CARD OF 'flotillalaw02.SealCuts'. -/
def sealCutsCard : Claim7 := { stood := { row := sealCutsRow, standIns := [], harness := (true, "8350741b17dc270488ef903dfedfc5e588e371a08e8c0c96c54d10ab85d1d9e8"), looks := false }, kinds := [], alts := [], laidByText := true, laidKinds := [.data], laidTests := true, laidLooks := .later }
def SealCutsCardSaid : Prop := Claim7.holds Tryd.pinned (.plain (OpenSpec.ofChange sealCutsSpec)) sealCutsCard

/-- THE TIED CARD OF 'flotillalaw02.SealRow'. -/
def sealRowCard : Claim7 := { stood := { row := sealRowRow, standIns := [], harness := (true, "8350741b17dc270488ef903dfedfc5e588e371a08e8c0c96c54d10ab85d1d9e8"), looks := false }, kinds := [], alts := [], laidByText := true, laidKinds := [.data], laidTests := true, laidLooks := .later }
def SealRowCardSaid : Prop := Claim7.holds Tryd.pinned (.plain (OpenSpec.ofChange sealRowSpec)) sealRowCard

/-- THE SECOND FORM's CARD OF 'flotillalaw02.SealSum'. -/
def sealSumUptoCard : Claim7 := { stood := { row := sealSumUptoRow, standIns := [], harness := (true, "8350741b17dc270488ef903dfedfc5e588e371a08e8c0c96c54d10ab85d1d9e8"), looks := false }, kinds := [], alts := [], laidByText := true, laidKinds := [.data], laidTests := true, laidLooks := .later }
def SealSumUptoCardSaid : Prop := Claim7.holds Tryd.pinned (.plain (OpenSpec.upto sealSumSpec)) sealSumUptoCard

/-- THE SECOND FORM's CARD OF 'flotillalaw02.SealMakes'. -/
def sealMakesUptoCard : Claim7 := { stood := { row := sealMakesUptoRow, standIns := [], harness := (true, "8350741b17dc270488ef903dfedfc5e588e371a08e8c0c96c54d10ab85d1d9e8"), looks := false }, kinds := [], alts := [], laidByText := true, laidKinds := [.data], laidTests := true, laidLooks := .later }
def SealMakesUptoCardSaid : Prop := Claim7.holds Tryd.pinned (.plain (OpenSpec.upto sealMakesSpec)) sealMakesUptoCard

/-- THE SECOND FORM's CARD OF 'flotillalaw02.SealOpens'. -/
def sealOpensUptoCard : Claim7 := { stood := { row := sealOpensUptoRow, standIns := [], harness := (true, "8350741b17dc270488ef903dfedfc5e588e371a08e8c0c96c54d10ab85d1d9e8"), looks := false }, kinds := [], alts := [], laidByText := true, laidKinds := [.data], laidTests := true, laidLooks := .later }
def SealOpensUptoCardSaid : Prop := Claim7.holds Tryd.pinned (.plain (OpenSpec.upto sealOpensSpec)) sealOpensUptoCard

/-- THE SECOND FORM's CARD OF 'flotillalaw02.SealBack'. -/
def sealBackUptoCard : Claim7 := { stood := { row := sealBackUptoRow, standIns := [], harness := (true, "8350741b17dc270488ef903dfedfc5e588e371a08e8c0c96c54d10ab85d1d9e8"), looks := false }, kinds := [], alts := [], laidByText := true, laidKinds := [.data], laidTests := true, laidLooks := .later }
def SealBackUptoCardSaid : Prop := Claim7.holds Tryd.pinned (.plain (OpenSpec.upto sealBackSpec)) sealBackUptoCard

/-- THE SECOND FORM's CARD OF 'flotillalaw02.SealTold'. -/
def sealToldUptoCard : Claim7 := { stood := { row := sealToldUptoRow, standIns := [], harness := (true, "8350741b17dc270488ef903dfedfc5e588e371a08e8c0c96c54d10ab85d1d9e8"), looks := false }, kinds := [], alts := [], laidByText := true, laidKinds := [.data], laidTests := true, laidLooks := .later }
def SealToldUptoCardSaid : Prop := Claim7.holds Tryd.pinned (.plain (OpenSpec.upto sealToldSpec)) sealToldUptoCard

/-- THE SECOND FORM's CARD OF 'flotillalaw02.SealBurst'. -/
def sealBurstUptoCard : Claim7 := { stood := { row := sealBurstUptoRow, standIns := [], harness := (true, "8350741b17dc270488ef903dfedfc5e588e371a08e8c0c96c54d10ab85d1d9e8"), looks := false }, kinds := [], alts := [], laidByText := true, laidKinds := [.data], laidTests := true, laidLooks := .later }
def SealBurstUptoCardSaid : Prop := Claim7.holds Tryd.pinned (.plain (OpenSpec.upto sealBurstSpec)) sealBurstUptoCard

/-- THE SECOND FORM's CARD OF 'flotillalaw02.SealCuts'. -/
def sealCutsUptoCard : Claim7 := { stood := { row := sealCutsUptoRow, standIns := [], harness := (true, "8350741b17dc270488ef903dfedfc5e588e371a08e8c0c96c54d10ab85d1d9e8"), looks := false }, kinds := [], alts := [], laidByText := true, laidKinds := [.data], laidTests := true, laidLooks := .later }
def SealCutsUptoCardSaid : Prop := Claim7.holds Tryd.pinned (.plain (OpenSpec.upto sealCutsSpec)) sealCutsUptoCard

/-- THE SECOND FORM's CARD OF 'flotillalaw02.SealRow'. -/
def sealRowUptoCard : Claim7 := { stood := { row := sealRowUptoRow, standIns := [], harness := (true, "8350741b17dc270488ef903dfedfc5e588e371a08e8c0c96c54d10ab85d1d9e8"), looks := false }, kinds := [], alts := [], laidByText := true, laidKinds := [.data], laidTests := true, laidLooks := .later }
def SealRowUptoCardSaid : Prop := Claim7.holds Tryd.pinned (.plain (OpenSpec.upto sealRowSpec)) sealRowUptoCard
end Rows
end Go.Proofs.YtfpjdgkooikeoaaDoor
