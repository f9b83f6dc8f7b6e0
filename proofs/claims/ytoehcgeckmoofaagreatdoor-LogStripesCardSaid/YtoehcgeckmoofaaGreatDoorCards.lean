/-
  DERIVED. GIVEN WITH THE SEED: THE CARDS: each row of YtoehcgeckmoofaaGreatDoorRows.lean that lists a variable, with what it lists TIED to the program's text (the seventh form; the later family's looks); each row that meets fmt, with fmt's text TOLD by the authors' own Lean function (tested against real Go, not proved from fmt's source: count such statements apart). THE CARD IS WHAT COUNTS. Prove the row's statement (the work); the ties are given (YtoehcgeckmoofaaGreatDoorTie.lean); close each card by the builder's one call (the guide's Derived/Test/ToyasCard.lean, 'card_holds'). Laid BY PROGRAM, IN A SANDBOX (cutbox-door.mjs). By AI agents, Wed Nov 11 2026. No macro, syntax, notation, axiom, sorry.
-/
import Derived.Test.YtoehcgeckmoofaaGreatDoorRows
import GoSem.ClaimSeven
namespace Go.Proofs.YtoehcgeckmoofaaGreatDoor
namespace Rows

/-- THE TIED CARD OF 'landaulaw24.ModelTrims'. -/
def modelTrimsCard : Claim7 := { stood := { row := modelTrimsRow, standIns := [], harness := (true, "759f4248d263eee9bd23d72bed2c2e5463f32fd53860abd04160e9e02410adb9"), looks := true }, kinds := [], alts := [], laidByText := true, laidKinds := [.data, .data, .data, .data, .sentinel, .sentinel, .pinned], laidTests := true, laidLooks := .later }
def ModelTrimsCardSaid : Prop := Claim7.holds Tryz.pinned (.plain (OpenSpec.ofChange modelTrimsSpec)) modelTrimsCard

/-- THE TIED CARD OF 'landaulaw6.LogLasts'. -/
def logLastsCard : Claim7 := { stood := { row := logLastsRow, standIns := [], harness := (true, "759f4248d263eee9bd23d72bed2c2e5463f32fd53860abd04160e9e02410adb9"), looks := true }, kinds := [], alts := [], laidByText := true, laidKinds := [.data, .data, .data, .data, .sentinel, .sentinel, .pinned], laidTests := true, laidLooks := .later }
def LogLastsCardSaid : Prop := Claim7.holds Tryz.pinned (.plain (OpenSpec.ofChange logLastsSpec)) logLastsCard

/-- THE TIED CARD OF 'landaulaw6.LogStripes'. -/
def logStripesCard : Claim7 := { stood := { row := logStripesRow, standIns := [], harness := (true, "759f4248d263eee9bd23d72bed2c2e5463f32fd53860abd04160e9e02410adb9"), looks := true }, kinds := [], alts := [], laidByText := true, laidKinds := [.data, .data, .data, .data, .sentinel, .sentinel, .pinned], laidTests := true, laidLooks := .later }
def LogStripesCardSaid : Prop := Claim7.holds Tryz.pinned (.plain (OpenSpec.ofChange logStripesSpec)) logStripesCard

/-- THE TIED CARD OF 'landaulaw6.LogTrims'. -/
def logTrimsCard : Claim7 := { stood := { row := logTrimsRow, standIns := [], harness := (true, "759f4248d263eee9bd23d72bed2c2e5463f32fd53860abd04160e9e02410adb9"), looks := true }, kinds := [], alts := [], laidByText := true, laidKinds := [.data, .data, .data, .data, .sentinel, .sentinel, .pinned], laidTests := true, laidLooks := .later }
def LogTrimsCardSaid : Prop := Claim7.holds Tryz.pinned (.plain (OpenSpec.ofChange logTrimsSpec)) logTrimsCard

/-- THE TIED CARD OF 'landaulaw6.LogResizes'. -/
def logResizesCard : Claim7 := { stood := { row := logResizesRow, standIns := [], harness := (true, "759f4248d263eee9bd23d72bed2c2e5463f32fd53860abd04160e9e02410adb9"), looks := true }, kinds := [], alts := [], laidByText := true, laidKinds := [.data, .data, .data, .data, .sentinel, .sentinel, .pinned], laidTests := true, laidLooks := .later }
def LogResizesCardSaid : Prop := Claim7.holds Tryz.pinned (.plain (OpenSpec.ofChange logResizesSpec)) logResizesCard

/-- THE TIED CARD OF 'landaulaw6.LogHoles'. -/
def logHolesCard : Claim7 := { stood := { row := logHolesRow, standIns := [], harness := (true, "759f4248d263eee9bd23d72bed2c2e5463f32fd53860abd04160e9e02410adb9"), looks := true }, kinds := [], alts := [], laidByText := true, laidKinds := [.data, .data, .data, .data, .sentinel, .sentinel, .pinned], laidTests := true, laidLooks := .later }
def LogHolesCardSaid : Prop := Claim7.holds Tryz.pinned (.plain (OpenSpec.ofChange logHolesSpec)) logHolesCard

/-- THE SECOND FORM's CARD OF 'landaulaw24.ModelTrims'. -/
def modelTrimsUptoCard : Claim7 := { stood := { row := modelTrimsUptoRow, standIns := [], harness := (true, "759f4248d263eee9bd23d72bed2c2e5463f32fd53860abd04160e9e02410adb9"), looks := true }, kinds := [], alts := [], laidByText := true, laidKinds := [.data, .data, .data, .data, .sentinel, .sentinel, .pinned], laidTests := true, laidLooks := .later }
def ModelTrimsUptoCardSaid : Prop := Claim7.holds Tryz.pinned (.plain (OpenSpec.upto modelTrimsSpec)) modelTrimsUptoCard

/-- THE SECOND FORM's CARD OF 'landaulaw6.LogLasts'. -/
def logLastsUptoCard : Claim7 := { stood := { row := logLastsUptoRow, standIns := [], harness := (true, "759f4248d263eee9bd23d72bed2c2e5463f32fd53860abd04160e9e02410adb9"), looks := true }, kinds := [], alts := [], laidByText := true, laidKinds := [.data, .data, .data, .data, .sentinel, .sentinel, .pinned], laidTests := true, laidLooks := .later }
def LogLastsUptoCardSaid : Prop := Claim7.holds Tryz.pinned (.plain (OpenSpec.upto logLastsSpec)) logLastsUptoCard

/-- THE SECOND FORM's CARD OF 'landaulaw6.LogStripes'. -/
def logStripesUptoCard : Claim7 := { stood := { row := logStripesUptoRow, standIns := [], harness := (true, "759f4248d263eee9bd23d72bed2c2e5463f32fd53860abd04160e9e02410adb9"), looks := true }, kinds := [], alts := [], laidByText := true, laidKinds := [.data, .data, .data, .data, .sentinel, .sentinel, .pinned], laidTests := true, laidLooks := .later }
def LogStripesUptoCardSaid : Prop := Claim7.holds Tryz.pinned (.plain (OpenSpec.upto logStripesSpec)) logStripesUptoCard

/-- THE SECOND FORM's CARD OF 'landaulaw6.LogTrims'. -/
def logTrimsUptoCard : Claim7 := { stood := { row := logTrimsUptoRow, standIns := [], harness := (true, "759f4248d263eee9bd23d72bed2c2e5463f32fd53860abd04160e9e02410adb9"), looks := true }, kinds := [], alts := [], laidByText := true, laidKinds := [.data, .data, .data, .data, .sentinel, .sentinel, .pinned], laidTests := true, laidLooks := .later }
def LogTrimsUptoCardSaid : Prop := Claim7.holds Tryz.pinned (.plain (OpenSpec.upto logTrimsSpec)) logTrimsUptoCard

/-- THE SECOND FORM's CARD OF 'landaulaw6.LogResizes'. -/
def logResizesUptoCard : Claim7 := { stood := { row := logResizesUptoRow, standIns := [], harness := (true, "759f4248d263eee9bd23d72bed2c2e5463f32fd53860abd04160e9e02410adb9"), looks := true }, kinds := [], alts := [], laidByText := true, laidKinds := [.data, .data, .data, .data, .sentinel, .sentinel, .pinned], laidTests := true, laidLooks := .later }
def LogResizesUptoCardSaid : Prop := Claim7.holds Tryz.pinned (.plain (OpenSpec.upto logResizesSpec)) logResizesUptoCard

/-- THE SECOND FORM's CARD OF 'landaulaw6.LogHoles'. -/
def logHolesUptoCard : Claim7 := { stood := { row := logHolesUptoRow, standIns := [], harness := (true, "759f4248d263eee9bd23d72bed2c2e5463f32fd53860abd04160e9e02410adb9"), looks := true }, kinds := [], alts := [], laidByText := true, laidKinds := [.data, .data, .data, .data, .sentinel, .sentinel, .pinned], laidTests := true, laidLooks := .later }
def LogHolesUptoCardSaid : Prop := Claim7.holds Tryz.pinned (.plain (OpenSpec.upto logHolesSpec)) logHolesUptoCard
end Rows
end Go.Proofs.YtoehcgeckmoofaaGreatDoor
