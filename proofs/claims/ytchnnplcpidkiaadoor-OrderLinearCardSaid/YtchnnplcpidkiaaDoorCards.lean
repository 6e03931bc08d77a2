/-
  DERIVED. GIVEN WITH THE SEED: THE CARDS: each row of YtchnnplcpidkiaaDoorRows.lean that lists a variable, with what it lists TIED to the program's text (the seventh form; the later family's looks); each row that meets fmt, with fmt's text TOLD by the authors' own Lean function (tested against real Go, not proved from fmt's source: count such statements apart). THE CARD IS WHAT COUNTS. Prove the row's statement (the work); the ties are given (YtchnnplcpidkiaaDoorTie.lean); close each card by the builder's one call (the guide's Derived/Test/ToyasCard.lean, 'card_holds'). Laid BY PROGRAM, IN A SANDBOX (cutbox-door.mjs). By AI agents, Wed Nov 11 2026. No macro, syntax, notation, axiom, sorry.
-/
import Derived.Test.YtchnnplcpidkiaaDoorRows
import GoSem.ClaimSeven
namespace Go.Proofs.YtchnnplcpidkiaaDoor
namespace Rows

/-- THE TIED CARD OF 'wapentakelaw10.StateApplies'. -/
def stateAppliesCard : Claim7 := { stood := { row := stateAppliesRow, standIns := [], harness := (true, "e272132332f3f2d4cb75f484c93ca6d4285b51ebf36700dbf2dae4d142ef2d0b"), looks := false }, kinds := [], alts := [], laidByText := true, laidKinds := [.data, .data, .data], laidTests := true, laidLooks := .later }
def StateAppliesCardSaid : Prop := Claim7.holds Tryd.pinned (.plain (OpenSpec.ofChange stateAppliesSpec)) stateAppliesCard

/-- THE TIED CARD OF 'wapentakelaw10.StateKeeps'. -/
def stateKeepsCard : Claim7 := { stood := { row := stateKeepsRow, standIns := [], harness := (true, "e272132332f3f2d4cb75f484c93ca6d4285b51ebf36700dbf2dae4d142ef2d0b"), looks := false }, kinds := [], alts := [], laidByText := true, laidKinds := [.data, .data, .data], laidTests := true, laidLooks := .later }
def StateKeepsCardSaid : Prop := Claim7.holds Tryd.pinned (.plain (OpenSpec.ofChange stateKeepsSpec)) stateKeepsCard

/-- THE TIED CARD OF 'wapentakelaw24.OrderChecks'. -/
def orderChecksCard : Claim7 := { stood := { row := orderChecksRow, standIns := [], harness := (true, "e272132332f3f2d4cb75f484c93ca6d4285b51ebf36700dbf2dae4d142ef2d0b"), looks := false }, kinds := [], alts := [], laidByText := true, laidKinds := [.data, .data, .data], laidTests := true, laidLooks := .later }
def OrderChecksCardSaid : Prop := Claim7.holds Tryd.pinned (.plain (OpenSpec.ofChange orderChecksSpec)) orderChecksCard

/-- THE TIED CARD OF 'wapentakelaw24.OrderLinear'. -/
def orderLinearCard : Claim7 := { stood := { row := orderLinearRow, standIns := [], harness := (true, "e272132332f3f2d4cb75f484c93ca6d4285b51ebf36700dbf2dae4d142ef2d0b"), looks := false }, kinds := [], alts := [], laidByText := true, laidKinds := [.data, .data, .data], laidTests := true, laidLooks := .later }
def OrderLinearCardSaid : Prop := Claim7.holds Tryd.pinned (.plain (OpenSpec.ofChange orderLinearSpec)) orderLinearCard

/-- THE SECOND FORM's CARD OF 'wapentakelaw10.StateApplies'. -/
def stateAppliesUptoCard : Claim7 := { stood := { row := stateAppliesUptoRow, standIns := [], harness := (true, "e272132332f3f2d4cb75f484c93ca6d4285b51ebf36700dbf2dae4d142ef2d0b"), looks := false }, kinds := [], alts := [], laidByText := true, laidKinds := [.data, .data, .data], laidTests := true, laidLooks := .later }
def StateAppliesUptoCardSaid : Prop := Claim7.holds Tryd.pinned (.plain (OpenSpec.upto stateAppliesSpec)) stateAppliesUptoCard

/-- THE SECOND FORM's CARD OF 'wapentakelaw10.StateKeeps'. -/
def stateKeepsUptoCard : Claim7 := { stood := { row := stateKeepsUptoRow, standIns := [], harness := (true, "e272132332f3f2d4cb75f484c93ca6d4285b51ebf36700dbf2dae4d142ef2d0b"), looks := false }, kinds := [], alts := [], laidByText := true, laidKinds := [.data, .data, .data], laidTests := true, laidLooks := .later }
def StateKeepsUptoCardSaid : Prop := Claim7.holds Tryd.pinned (.plain (OpenSpec.upto stateKeepsSpec)) stateKeepsUptoCard

/-- THE SECOND FORM's CARD OF 'wapentakelaw24.OrderChecks'. -/
def orderChecksUptoCard : Claim7 := { stood := { row := orderChecksUptoRow, standIns := [], harness := (true, "e272132332f3f2d4cb75f484c93ca6d4285b51ebf36700dbf2dae4d142ef2d0b"), looks := false }, kinds := [], alts := [], laidByText := true, laidKinds := [.data, .data, .data], laidTests := true, laidLooks := .later }
def OrderChecksUptoCardSaid : Prop := Claim7.holds Tryd.pinned (.plain (OpenSpec.upto orderChecksSpec)) orderChecksUptoCard

/-- THE SECOND FORM's CARD OF 'wapentakelaw24.OrderLinear'. -/
def orderLinearUptoCard : Claim7 := { stood := { row := orderLinearUptoRow, standIns := [], harness := (true, "e272132332f3f2d4cb75f484c93ca6d4285b51ebf36700dbf2dae4d142ef2d0b"), looks := false }, kinds := [], alts := [], laidByText := true, laidKinds := [.data, .data, .data], laidTests := true, laidLooks := .later }
def OrderLinearUptoCardSaid : Prop := Claim7.holds Tryd.pinned (.plain (OpenSpec.upto orderLinearSpec)) orderLinearUptoCard
end Rows
end Go.Proofs.YtchnnplcpidkiaaDoor
