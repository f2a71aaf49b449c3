/-
  StateTells returns true for every registry, every key and every client, and leaves what came in as it was; the listed variables are tied to the program's text. No condition beyond the row's own.
-/
import Derived.Test.YtchnnplcpidkiaaDoorTelRow
import Derived.Test.YtchnnplcpidkiaaDoorTie
import Derived.Test.YtchnnplcpidkiaaDoorCards
import Derived.SevenTiedAt
namespace Go.Proofs.YtchnnplcpidkiaaDoor
open Go

theorem stateTells_card : Rows.StateTellsCardSaid :=
  Claim7.holds_tied_plain_at .later [] [.data, .data, .data] true (true, "826867f3a67bde374d889c6c37fd6a0aedb8568c08416f92be273a928117b0ab") false
    stateTells_holds (fun _ h => by cases h) (by kernel_rfl) (fun _ h => by cases h) stateTells_row_tie rfl ⟨rfl, rfl⟩ (by kernel_rfl) rfl
    (fun f fn hf hfn => by
      obtain rfl : f = 3 := Option.some.inj ((show Tryd.prog.funcNamed "wapentake/wapentakelaw10.StateTells" = some 3 by kernel_rfl).symm.trans hf) |>.symm
      obtain rfl : fn = Tryd.f3 := (Option.some.inj (Tryd.func3.symm.trans hfn)).symm
      exact ⟨by kernel_rfl, fun j t ht => by
        rw [Tryd.params3] at ht
        have hm : t ∈ [28, 9, 3] := by simpa using Array.mem_of_getElem? ht
        have hall : ([28, 9, 3].all fun u => !Tryd.prog.wantsStandIn u) = true := by kernel_rfl
        exact (show Tryd.prog.wantsStandIn t = false by simpa using List.all_eq_true.1 hall t hm)⟩)
    (by kernel_rfl)
#print axioms stateTells_card
end Go.Proofs.YtchnnplcpidkiaaDoor
