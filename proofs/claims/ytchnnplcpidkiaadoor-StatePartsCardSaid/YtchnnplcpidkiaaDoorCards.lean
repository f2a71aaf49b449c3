/-
  DERIVED. GIVEN WITH THE SEED: THE CARDS: each row of YtchnnplcpidkiaaDoorRows.lean that lists a variable, with what it lists TIED to the program's text (the seventh form; the later family's looks); each row that meets fmt, with fmt's text TOLD by the authors' own Lean function (tested against real Go, not proved from fmt's source: count such statements apart). THE CARD IS WHAT COUNTS. Prove the row's statement (the work); the ties are given (YtchnnplcpidkiaaDoorTie.lean); close each card by the builder's one call (the guide's Derived/Test/ToyasCard.lean, 'card_holds'). Laid BY PROGRAM, IN A SANDBOX (cutbox-door.mjs). By AI agents, Wed Nov 11 2026. No macro, syntax, notation, axiom, sorry.
-/
import Derived.Test.YtchnnplcpidkiaaDoorRows
import GoSem.ClaimSeven
namespace Go.Proofs.YtchnnplcpidkiaaDoor
namespace Rows

/-- THE TIED CARD OF 'wapentakelaw10.StateTells'. -/
def stateTellsCard : Claim7 := { stood := { row := stateTellsRow, standIns := [], harness := (true, "826867f3a67bde374d889c6c37fd6a0aedb8568c08416f92be273a928117b0ab"), looks := false }, kinds := [], alts := [], laidByText := true, laidKinds := [.data, .data, .data], laidTests := true, laidLooks := .later }
def StateTellsCardSaid : Prop := Claim7.holds Tryd.pinned (.plain (OpenSpec.ofChange stateTellsSpec)) stateTellsCard

/-- THE TIED CARD OF 'wapentakelaw10.StateOnce'. -/
def stateOnceCard : Claim7 := { stood := { row := stateOnceRow, standIns := [], harness := (true, "826867f3a67bde374d889c6c37fd6a0aedb8568c08416f92be273a928117b0ab"), looks := false }, kinds := [], alts := [], laidByText := true, laidKinds := [.data, .data, .data], laidTests := true, laidLooks := .later }
def StateOnceCardSaid : Prop := Claim7.holds Tryd.pinned (.plain (OpenSpec.ofChange stateOnceSpec)) stateOnceCard

/-- THE TIED CARD OF 'wapentakelaw10.StateHolds'. -/
def stateHoldsCard : Claim7 := { stood := { row := stateHoldsRow, standIns := [], harness := (true, "826867f3a67bde374d889c6c37fd6a0aedb8568c08416f92be273a928117b0ab"), looks := false }, kinds := [], alts := [], laidByText := true, laidKinds := [.data, .data, .data], laidTests := true, laidLooks := .later }
def StateHoldsCardSaid : Prop := Claim7.holds Tryd.pinned (.plain (OpenSpec.ofChange stateHoldsSpec)) stateHoldsCard

/-- THE TIED CARD OF 'wapentakelaw10.StateParts'. -/
def statePartsCard : Claim7 := { stood := { row := statePartsRow, standIns := [], harness := (true, "826867f3a67bde374d889c6c37fd6a0aedb8568c08416f92be273a928117b0ab"), looks := false }, kinds := [], alts := [], laidByText := true, laidKinds := [.data, .data, .data], laidTests := true, laidLooks := .later }
def StatePartsCardSaid : Prop := Claim7.holds Tryd.pinned (.plain (OpenSpec.ofChange statePartsSpec)) statePartsCard

/-- THE TIED CARD OF 'wapentakelaw24.OrderAgrees'. -/
def orderAgreesCard : Claim7 := { stood := { row := orderAgreesRow, standIns := [], harness := (true, "826867f3a67bde374d889c6c37fd6a0aedb8568c08416f92be273a928117b0ab"), looks := false }, kinds := [], alts := [], laidByText := true, laidKinds := [.data, .data, .data], laidTests := true, laidLooks := .later }
def OrderAgreesCardSaid : Prop := Claim7.holds Tryd.pinned (.plain (OpenSpec.ofChange orderAgreesSpec)) orderAgreesCard

/-- THE SECOND FORM's CARD OF 'wapentakelaw10.StateTells'. -/
def stateTellsUptoCard : Claim7 := { stood := { row := stateTellsUptoRow, standIns := [], harness := (true, "826867f3a67bde374d889c6c37fd6a0aedb8568c08416f92be273a928117b0ab"), looks := false }, kinds := [], alts := [], laidByText := true, laidKinds := [.data, .data, .data], laidTests := true, laidLooks := .later }
def StateTellsUptoCardSaid : Prop := Claim7.holds Tryd.pinned (.plain (OpenSpec.upto stateTellsSpec)) stateTellsUptoCard

/-- THE SECOND FORM's CARD OF 'wapentakelaw10.StateOnce'. -/
def stateOnceUptoCard : Claim7 := { stood := { row := stateOnceUptoRow, standIns := [], harness := (true, "826867f3a67bde374d889c6c37fd6a0aedb8568c08416f92be273a928117b0ab"), looks := false }, kinds := [], alts := [], laidByText := true, laidKinds := [.data, .data, .data], laidTests := true, laidLooks := .later }
def StateOnceUptoCardSaid : Prop := Claim7.holds Tryd.pinned (.plain (OpenSpec.upto stateOnceSpec)) stateOnceUptoCard

/-- THE SECOND FORM's CARD OF 'wapentakelaw10.StateHolds'. -/
def stateHoldsUptoCard : Claim7 := { stood := { row := stateHoldsUptoRow, standIns := [], harness := (true, "826867f3a67bde374d889c6c37fd6a0aedb8568c08416f92be273a928117b0ab"), looks := false }, kinds := [], alts := [], laidByText := true, laidKinds := [.data, .data, .data], laidTests := true, laidLooks := .later }
def StateHoldsUptoCardSaid : Prop := Claim7.holds Tryd.pinned (.plain (OpenSpec.upto stateHoldsSpec)) stateHoldsUptoCard

/-- THE SECOND FORM's CARD OF 'wapentakelaw10.StateParts'. -/
def statePartsUptoCard : Claim7 := { stood := { row := statePartsUptoRow, standIns := [], harness := (true, "826867f3a67bde374d889c6c37fd6a0aedb8568c08416f92be273a928117b0ab"), looks := false }, kinds := [], alts := [], laidByText := true, laidKinds := [.data, .data, .data], laidTests := true, laidLooks := .later }
def StatePartsUptoCardSaid : Prop := Claim7.holds Tryd.pinned (.plain (OpenSpec.upto statePartsSpec)) statePartsUptoCard

/-- THE SECOND FORM's CARD OF 'wapentakelaw24.OrderAgrees'. -/
def orderAgreesUptoCard : Claim7 := { stood := { row := orderAgreesUptoRow, standIns := [], harness := (true, "826867f3a67bde374d889c6c37fd6a0aedb8568c08416f92be273a928117b0ab"), looks := false }, kinds := [], alts := [], laidByText := true, laidKinds := [.data, .data, .data], laidTests := true, laidLooks := .later }
def OrderAgreesUptoCardSaid : Prop := Claim7.holds Tryd.pinned (.plain (OpenSpec.upto orderAgreesSpec)) orderAgreesUptoCard
end Rows
end Go.Proofs.YtchnnplcpidkiaaDoor
