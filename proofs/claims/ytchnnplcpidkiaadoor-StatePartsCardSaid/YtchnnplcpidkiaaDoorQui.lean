/-
  A region that draws its order, and whose operations read old blocks and call functions that answer with plain values and leave the old blocks as they are: one walk of the text's order serves every order.
-/
import Derived.Test.YtchnnplcpidkiaaDoorBase
import Derived.BigQuiet
import Derived.Deep.MidRow
import Derived.Deep.WholeRow
namespace Go.Proofs.YtchnnplcpidkiaaDoor
open Go.RowKit

/-- A world in which the blocks of w are what they are in w. -/
structure Wd (w : World) where
  wd : World
  be : Below w.heap.size w wd
instance (w : World) : Nonempty (Wd w) := ⟨⟨w, Below.refl _ _⟩⟩

theorem Wd.call {P : Program} {f : FuncId} {args : Array Value} {w : World} {v : Value} (i : Wd w)
    (h : Calls P f args i.wd fun e w' => e = .returned v ∧ Below i.wd.heap.size i.wd w') : Calls P f args i.wd fun e w'' => e = .returned v ∧ ∃ m : Wd w, w'' = m.wd :=
  h.mono fun _ w' ⟨he, hb⟩ => ⟨he, ⟨w', i.be.trans (hb.mono i.be.size)⟩, rfl⟩
theorem Wd.cell {w : World} {p : Addr} {v : Value} (h : w.cell? p = some v) (hp : p.block < w.heap.size) (i : Wd w) : i.wd.cell? p = some v := (i.be.cell hp).trans h
theorem Wd.range {w : World} {b o : Nat} {cs : List Value} (h : w.rangeAt b o cs) (hp : b < w.heap.size) (i : Wd w) : i.wd.rangeAt b o cs := range_below h i.be hp

section
variable {P : Program} {w0 : World}
theorem region_wd {id : Nat} {Q : Exit → Act → World → Prop} {a : Act} {l : List Oper} (w0 : World) (hm : P.follows .mixedOrders = true) (hB : Region.lexB .any l.toArray = true)
    (h : wpQuiet P l.toArray (fun w' => ∃ i : Wd w0, w' = i.wd) (fun a' => ∀ w', (∃ i : Wd w0, w' = i.wd) → Q .normal a' w') l a) : (Code.region id l.toArray true).wp P Q a w0 :=
  wp_region_quiet (C := fun w' => ∃ i : Wd w0, w' = i.wd) hm hB ⟨⟨w0.drew, (Below.refl _ _).drew⟩, rfl⟩ (by simpa using h)
theorem quiet_loadM {K : Act → Prop} {a : Act} {op : Oper} (ty : TypeId) (x : Operand) (ho : op.op = .load ty x)
    (b o : Nat) (hx : a.eval x = .pointer (some ⟨b, o, none⟩)) (n : Nat) (cs : List Value) (hn : cs.length = n) (d : TypeDesc) (hc : ∀ i : Wd w0, i.wd.rangeAt b o cs)
    (hu : P.underlying ty = some d) (hd : d.isRow = true) (hi : (P.info? ty).map (·.size) = some n) (arr : Array Value) (harr : arr = cs.toArray)
    (h : K (a.put op.dst (.agg arr))) : op.quiet P a (fun w' => ∃ i : Wd w0, w' = i.wd) K :=
  ⟨.agg arr, fun w' ⟨i, hw'⟩ => by
    subst hw'
    subst harr
    unfold Oper.quietAt execOp
    simp only [ho, hx, Instr.loadAt, Instr.sureAddr, Sem.run_bind, Sem.run_pure, Result.andThen_ok, run_loadVar_mid i.wd b o ty cs d (hc i) hu hd (hn ▸ hi)]
    exact ⟨rfl, rfl⟩, h⟩
end
end Go.Proofs.YtchnnplcpidkiaaDoor
