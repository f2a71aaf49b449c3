/-
  The contract of strconv.Itoa, and the table that it reads.
-/
import Derived.Test.YtchnnplcpidkiaaDoorShelf
import Derived.Test.YtchnnplcpidkiaaDoorBase
import Derived.Lib.AppendIntMem
namespace Go.Proofs.YtchnnplcpidkiaaDoor
open Go.RowKit

/-- The table of powers lies in blocks below B. -/
def Tab (B : Nat) (w : World) : Prop := Lib.TabBelow Tryd.prog B w "internal/strconv.uint64pow10" .u64 Lib.pow10Tab
theorem Tab.below {B : Nat} {w w' : World} (h : Tab B w) (hb : Below B w w') : Tab B w' := fun w'' hb' => h w'' (hb.trans hb')
theorem Tab.mono {B B' : Nat} {w : World} (h : Tab B w) (hb : B ≤ B') : Tab B' w := fun w'' hb' => h w'' (hb'.mono hb)
theorem Tab.of {w : World} (h : Lib.TabIs Tryd.prog w "internal/strconv.uint64pow10" .u64 Lib.pow10Tab) : Tab w.heap.size w := Lib.tabBelow_of_tabIs h

def itoaB (n : Int) : ByteArray := ⟨(Lib.itoa n).toArray⟩

theorem itoa_any (B : Nat) (n : Int) (h0 : -9223372036854775808 ≤ n) (h1 : n ≤ 9223372036854775807) (w : World) (ht : Tab B w) :
    Calls Tryd.prog 50 #[.int .i64 n] w fun e w' => e = .returned (.string (itoaB n)) ∧ Below w.heap.size w w' :=
  (Tryd.strconv_Itoa n h0 h1 w ht.here).mono fun e w' ⟨he, k, os, hw⟩ => ⟨he, by rw [hw]; exact Lib.below_grow _ w (Nat.le_refl _) k os⟩

end Go.Proofs.YtchnnplcpidkiaaDoor
