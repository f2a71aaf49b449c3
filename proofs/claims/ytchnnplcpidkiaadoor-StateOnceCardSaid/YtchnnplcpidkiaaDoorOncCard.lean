/-
  StateOnce returns true for every registry, every request, every list of requests and every next request, and leaves what came in as it was; the listed variables are tied to the program's text. No condition beyond the row's own.
-/
import Derived.Test.YtchnnplcpidkiaaDoorOncRow
import Derived.Test.YtchnnplcpidkiaaDoorTie
import Derived.Test.YtchnnplcpidkiaaDoorCards
import Derived.SevenTiedAt
namespace Go.Proofs.YtchnnplcpidkiaaDoor
open Go

theorem stateOnce_card : Rows.StateOnceCardSaid :=
  Claim7.holds_tied_plain_at .later [] [.data, .data, .data] true (true, "826867f3a67bde374d889c6c37fd6a0aedb8568c08416f92be273a928117b0ab") false
    stateOnce_holds (fun _ h => by cases h) (by kernel_rfl) (fun _ h => by cases h) stateOnce_row_tie rfl ⟨rfl, rfl⟩ (by kernel_rfl) rfl
    (fun f fn hf hfn => by
      obtain rfl : f = 4 := Option.some.inj ((show Tryd.prog.funcNamed "wapentake/wapentakelaw10.StateOnce" = some 4 by kernel_rfl).symm.trans hf) |>.symm
      obtain rfl : fn = Tryd.f4 := (Option.some.inj (Tryd.func4.symm.trans hfn)).symm
      exact ⟨by kernel_rfl, fun j t ht => by
        rw [Tryd.params4] at ht
        have hm : t ∈ [28, 56, 57, 56] := by simpa using Array.mem_of_getElem? ht
        have hall : ([28, 56, 57, 56].all fun u => !Tryd.prog.wantsStandIn u) = true := by kernel_rfl
        exact (show Tryd.prog.wantsStandIn t = false by simpa using List.all_eq_true.1 hall t hm)⟩)
    (by kernel_rfl)
#print axioms stateOnce_card
end Go.Proofs.YtchnnplcpidkiaaDoor
