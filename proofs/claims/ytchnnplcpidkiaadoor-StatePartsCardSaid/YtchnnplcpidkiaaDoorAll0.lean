/-
  The contract of the laws' configuration of four members.
-/
import Derived.Test.YtchnnplcpidkiaaDoorRefg
namespace Go.Proofs.YtchnnplcpidkiaaDoor
open Go.RowKit

def fourMs : List Mb := [⟨1, Vector.replicate 32 0, 0⟩, ⟨2, Vector.replicate 32 0, 0⟩, ⟨3, Vector.replicate 32 0, 0⟩, ⟨4, Vector.replicate 32 0, 0⟩]
def FourPost (w : World) (E : Ending) (w' : World) : Prop := ∃ A, E = .returned (.agg #[.int .i64 0, .slice A 4 4]) ∧ Row w' (fun _ => True) 34 A (fourMs.map Mb.cells) ∧ Below w.heap.size w w'

set_option maxHeartbeats 1000000 in
set_option maxRecDepth 100000 in
theorem four_any (w : World) : Calls Tryd.prog 26 #[] w (FourPost w) := by
  go_enter Tryd.func26, Tryd.ntmps26
  go_wp2_with fail
  have hrow := fun cs hc => row_lit (w.alloc (.cells #[.int .i64 0, .slice (some ⟨w.heap.size + 1, 0, none⟩) 4 4] 26)) 84 34 (fourMs.map Mb.cells) cs (mb_len _) hc
  simp only [World.size_alloc] at hrow
  refine bodyPost_ret (results_cell_row rfl _ _ w.heap.size 26 _ (0, 0) _ rfl (at2_0 _ _ _) Tryd.underlying26 rfl size26) rfl ?_
  exact ⟨_, rfl, (hrow _ (by kernel_rfl)).weaken fun _ _ => trivial, ((Below.refl _ _).alloc (Nat.le_refl _) _).alloc (by rw [World.size_alloc]; omega) _⟩
end Go.Proofs.YtchnnplcpidkiaaDoor
