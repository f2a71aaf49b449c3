/-
  A slice literal of two requests.
-/
import Derived.Test.YtchnnplcpidkiaaDoorFrm
namespace Go.Proofs.YtchnnplcpidkiaaDoor
open Go.RowKit

def twoQ (a b : Req) : Array Value := (a.cells ++ b.cells).toArray
theorem fill_two (Z : Array Value) (hZ : Z.size = 84) (a b : Req) :
    Instr.fill (fun i => some (i * 42, 42)) Z [(0, .agg a.arr), (1, .agg b.arr)] = some (twoQ a b) := by
  have e1 : (Value.agg a.arr).cells = a.arr := rfl
  have e2 : (Value.agg b.arr).cells = b.arr := rfl
  have hl : Z.toList.length = 84 := by simpa using hZ
  have f1 := fold_set a.cells 0 0 [] (Z.toList.take 42) (Z.toList.drop 42) (by simp [hl, Req.len]) rfl
  have f2 := fold_set b.cells 42 0 a.cells (Z.toList.drop 42) [] (by simp [hl, Req.len]) (by simp [Req.len])
  have g1 : Array.foldl (fun (cs : Array Value) (x : Value × Nat) => cs.setIfInBounds (0 + x.2) x.1) Z (a.arr.zipIdx) = (a.cells ++ Z.toList.drop 42).toArray := by
    rw [← Array.foldl_toList]
    simpa [Req.arr] using f1
  have g2 : Array.foldl (fun (cs : Array Value) (x : Value × Nat) => cs.setIfInBounds (42 + x.2) x.1) (a.cells ++ Z.toList.drop 42).toArray (b.arr.zipIdx) = twoQ a b := by
    rw [← Array.foldl_toList]
    simpa [Req.arr, twoQ] using f2
  have g1' : Array.foldl (fun (cs : Array Value) (x : Value × Nat) => cs.setIfInBounds (0 * 42 + x.2) x.1) Z (a.arr.zipIdx) = (a.cells ++ Z.toList.drop 42).toArray := g1
  have g2' : Array.foldl (fun (cs : Array Value) (x : Value × Nat) => cs.setIfInBounds (1 * 42 + x.2) x.1) (a.cells ++ Z.toList.drop 42).toArray (b.arr.zipIdx) = twoQ a b := g2
  unfold Instr.fill
  simp only [e1, Req.arrSize]
  rw [if_neg (by rw [hZ]; decide)]
  unfold Instr.fill
  simp only [e2, Req.arrSize]
  rw [g1', if_neg (by simp [hl, Req.len])]
  rw [g2']
  rfl
theorem run_two (w : World) (a b : Req) :
    (Instr.buildSlice 57 2 #[(0, .agg a.arr), (1, .agg b.arr)]).run Tryd.prog w = .ok (.slice (some ⟨w.heap.size, 0, none⟩) 2 2) (w.alloc (.cells (twoQ a b) 56)) := by
  unfold Instr.buildSlice
  have hs : (sizeOf 56).run Tryd.prog w = .ok 42 w := by
    have hk : (Tryd.prog.info? 56).map (·.size) = some 42 := size56
    obtain ⟨i, hi, h12⟩ := Option.map_eq_some_iff.1 hk
    simp [sizeOf, typeInfo, hi, h12]
  simp [run_underlying Tryd.underlying57, hs, newRow, newObj]
  rw [fill_two _ (by simp) a b]
  rfl
section
variable {ops : Array Oper} {rest : List Oper} {op : Oper} {x : Act} {w : World} {Q : Exit → Act → World → Prop}
theorem twoNew (hw : Region.wanted op (yielded ops x.tmps) = true) (a b : Req) (p1 p2 : Operand) (ho : op.op = .buildSlice 57 2 #[(0, p1), (1, p2)]) (h1 : x.eval p1 = .agg a.arr) (h2 : x.eval p2 = .agg b.arr)
    (h : wpList Tryd.prog ops Q rest (x.put op.dst (.slice (some ⟨w.heap.size, 0, none⟩) 2 2)) (w.alloc (.cells (twoQ a b) 56))) : wpList Tryd.prog ops Q (op :: rest) x w :=
  wpList_do hw fun _ hK => by
    unfold Oper.wp execOp
    simp only [ho, Sem.run_bind, List.map_toArray, List.map_cons, List.map_nil, h1, h2, run_two w a b, Result.andThen_ok]
    exact hK _ _ h
end
end Go.Proofs.YtchnnplcpidkiaaDoor
