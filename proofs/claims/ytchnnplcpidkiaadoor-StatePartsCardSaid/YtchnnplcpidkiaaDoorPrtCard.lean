/-
  StateParts returns true for every registry and every two requests, and leaves what came in as it was; the listed variables are tied to the program's text. No condition beyond the row's own.
-/
import Derived.Test.YtchnnplcpidkiaaDoorPrtRow
import Derived.Test.YtchnnplcpidkiaaDoorTie
import Derived.Test.YtchnnplcpidkiaaDoorCards
import Derived.SevenTiedAt
namespace Go.Proofs.YtchnnplcpidkiaaDoor
open Go

theorem stateParts_card : Rows.StatePartsCardSaid :=
  Claim7.holds_tied_plain_at .later [] [.data, .data, .data] true (true, "826867f3a67bde374d889c6c37fd6a0aedb8568c08416f92be273a928117b0ab") false
    stateParts_holds (fun _ h => by cases h) (by kernel_rfl) (fun _ h => by cases h) stateParts_row_tie rfl ⟨rfl, rfl⟩ (by kernel_rfl) rfl
    (fun f fn hf hfn => by
      obtain rfl : f = 6 := Option.some.inj ((show Tryd.prog.funcNamed "wapentake/wapentakelaw10.StateParts" = some 6 by kernel_rfl).symm.trans hf) |>.symm
      obtain rfl : fn = Tryd.f6 := (Option.some.inj (Tryd.func6.symm.trans hfn)).symm
      exact ⟨by kernel_rfl, fun j t ht => by
        rw [Tryd.params6] at ht
        have hm : t ∈ [28, 56, 56] := by simpa using Array.mem_of_getElem? ht
        have hall : ([28, 56, 56].all fun u => !Tryd.prog.wantsStandIn u) = true := by kernel_rfl
        exact (show Tryd.prog.wantsStandIn t = false by simpa using List.all_eq_true.1 hall t hm)⟩)
    (by kernel_rfl)
#print axioms stateParts_card
end Go.Proofs.YtchnnplcpidkiaaDoor
