/-
  Blocks of a world that has been added to.
-/
import Derived.Test.YtchnnplcpidkiaaDoorBase
namespace Go.Proofs.YtchnnplcpidkiaaDoor
open Go.RowKit
theorem at_up {w : World} {k : Nat} {X : Obj} (h : w.heap[k]? = some X) (Y : Obj) : (w.alloc Y).heap[k]? = some X := by
  rw [heap_alloc_eq, if_neg (Nat.ne_of_lt (heap_lt h))]; exact h
theorem at1_0 (w : World) (X : Obj) : (w.alloc X).heap[w.heap.size]? = some X := heap_alloc_new w X
theorem at2_0 (w : World) (X Y : Obj) : ((w.alloc X).alloc Y).heap[w.heap.size]? = some X := at_up (at1_0 w X) Y
theorem at2_1 (w : World) (X Y : Obj) : ((w.alloc X).alloc Y).heap[w.heap.size + 1]? = some Y := by
  have := heap_alloc_new (w.alloc X) Y
  simpa using this
theorem at3_0 (w : World) (X Y Z : Obj) : (((w.alloc X).alloc Y).alloc Z).heap[w.heap.size]? = some X := at_up (at2_0 w X Y) Z
theorem at3_1 (w : World) (X Y Z : Obj) : (((w.alloc X).alloc Y).alloc Z).heap[w.heap.size + 1]? = some Y := at_up (at2_1 w X Y) Z
theorem at3_2 (w : World) (X Y Z : Obj) : (((w.alloc X).alloc Y).alloc Z).heap[w.heap.size + 2]? = some Z := by
  have := heap_alloc_new ((w.alloc X).alloc Y) Z
  simpa using this
theorem at4_0 (w : World) (X Y Z U : Obj) : ((((w.alloc X).alloc Y).alloc Z).alloc U).heap[w.heap.size]? = some X := at_up (at3_0 w X Y Z) U
theorem at4_1 (w : World) (X Y Z U : Obj) : ((((w.alloc X).alloc Y).alloc Z).alloc U).heap[w.heap.size + 1]? = some Y := at_up (at3_1 w X Y Z) U
theorem at4_2 (w : World) (X Y Z U : Obj) : ((((w.alloc X).alloc Y).alloc Z).alloc U).heap[w.heap.size + 2]? = some Z := at_up (at3_2 w X Y Z) U
theorem at4_3 (w : World) (X Y Z U : Obj) : ((((w.alloc X).alloc Y).alloc Z).alloc U).heap[w.heap.size + 3]? = some U := by
  have := heap_alloc_new (((w.alloc X).alloc Y).alloc Z) U
  simpa using this
theorem at5_0 (w : World) (X Y Z U V : Obj) : (((((w.alloc X).alloc Y).alloc Z).alloc U).alloc V).heap[w.heap.size]? = some X := at_up (at4_0 w X Y Z U) V
theorem at5_1 (w : World) (X Y Z U V : Obj) : (((((w.alloc X).alloc Y).alloc Z).alloc U).alloc V).heap[w.heap.size + 1]? = some Y := at_up (at4_1 w X Y Z U) V
theorem at5_2 (w : World) (X Y Z U V : Obj) : (((((w.alloc X).alloc Y).alloc Z).alloc U).alloc V).heap[w.heap.size + 2]? = some Z := at_up (at4_2 w X Y Z U) V
theorem at5_3 (w : World) (X Y Z U V : Obj) : (((((w.alloc X).alloc Y).alloc Z).alloc U).alloc V).heap[w.heap.size + 3]? = some U := at_up (at4_3 w X Y Z U) V
theorem at5_4 (w : World) (X Y Z U V : Obj) : (((((w.alloc X).alloc Y).alloc Z).alloc U).alloc V).heap[w.heap.size + 4]? = some V := by
  have := heap_alloc_new ((((w.alloc X).alloc Y).alloc Z).alloc U) V
  simpa using this
theorem at6_0 (w : World) (X Y Z U V R : Obj) : ((((((w.alloc X).alloc Y).alloc Z).alloc U).alloc V).alloc R).heap[w.heap.size]? = some X := at_up (at5_0 w X Y Z U V) R
theorem at6_1 (w : World) (X Y Z U V R : Obj) : ((((((w.alloc X).alloc Y).alloc Z).alloc U).alloc V).alloc R).heap[w.heap.size + 1]? = some Y := at_up (at5_1 w X Y Z U V) R
theorem at6_2 (w : World) (X Y Z U V R : Obj) : ((((((w.alloc X).alloc Y).alloc Z).alloc U).alloc V).alloc R).heap[w.heap.size + 2]? = some Z := at_up (at5_2 w X Y Z U V) R
theorem at6_3 (w : World) (X Y Z U V R : Obj) : ((((((w.alloc X).alloc Y).alloc Z).alloc U).alloc V).alloc R).heap[w.heap.size + 3]? = some U := at_up (at5_3 w X Y Z U V) R
theorem at6_4 (w : World) (X Y Z U V R : Obj) : ((((((w.alloc X).alloc Y).alloc Z).alloc U).alloc V).alloc R).heap[w.heap.size + 4]? = some V := at_up (at5_4 w X Y Z U V) R
theorem at6_5 (w : World) (X Y Z U V R : Obj) : ((((((w.alloc X).alloc Y).alloc Z).alloc U).alloc V).alloc R).heap[w.heap.size + 5]? = some R := by
  have := heap_alloc_new (((((w.alloc X).alloc Y).alloc Z).alloc U).alloc V) R
  simpa using this

end Go.Proofs.YtchnnplcpidkiaaDoor
