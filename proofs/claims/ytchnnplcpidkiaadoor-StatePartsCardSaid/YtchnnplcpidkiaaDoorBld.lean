/-
  Building a member out of its number and its node; the change that a request bears.
-/
import Derived.Test.YtchnnplcpidkiaaDoorBase
import Derived.Laws.Tables
namespace Go.Proofs.YtchnnplcpidkiaaDoor
open Go.RowKit

/-- A change of the member list. -/
structure Chg where
  kind : Int
  id : Int
  new : Int
  root : Vector Int 32
  height : Int

def nodeC (root : Vector Int 32) (height : Int) : List Value := root.toList.map (Value.int .u8) ++ [.int .i64 height]
theorem nodeC_len (root : Vector Int 32) (height : Int) : (nodeC root height).length = 33 := by simp [nodeC]
def nodeA (root : Vector Int 32) (height : Int) : Array Value := (nodeC root height).toArray
def Chg.cells (g : Chg) : List Value := .int .i64 g.kind :: .int .i64 g.id :: .int .i64 g.new :: nodeC g.root g.height
def Chg.arr (g : Chg) : Array Value := g.cells.toArray
theorem Chg.len (q : Chg) : q.cells.length = 36 := by simp [Chg.cells, nodeC_len]
@[simp, go_sem] theorem Chg.arrSize (x : Chg) : x.arr.size = 36 := by simp [Chg.arr, Chg.len]
@[simp, go_sem] theorem Chg.c0 (x : Chg) : x.arr[0]? = some (.int .i64 x.kind) := rfl
@[simp, go_sem] theorem Chg.g0 (x : Chg) (h : 0 < x.arr.size) : x.arr[0]'h = .int .i64 x.kind := rfl
@[simp, go_sem] theorem Chg.c1 (x : Chg) : x.arr[1]? = some (.int .i64 x.id) := rfl
@[simp, go_sem] theorem Chg.g1 (x : Chg) (h : 1 < x.arr.size) : x.arr[1]'h = .int .i64 x.id := rfl
@[simp, go_sem] theorem Chg.c2 (x : Chg) : x.arr[2]? = some (.int .i64 x.new) := rfl
@[simp, go_sem] theorem Chg.g2 (x : Chg) (h : 2 < x.arr.size) : x.arr[2]'h = .int .i64 x.new := rfl
@[simp, go_sem] theorem nodeA_size (root : Vector Int 32) (height : Int) : (nodeA root height).size = 33 := by simp [nodeA, nodeC_len]

theorem fold_set (vs : List Value) : ∀ (off k : Nat) (pre mid post : List Value), mid.length = vs.length → off + k = pre.length →
    (vs.zipIdx k).foldl (fun (cs : Array Value) (x : Value × Nat) => cs.setIfInBounds (off + x.2) x.1) (pre ++ (mid ++ post)).toArray = (pre ++ (vs ++ post)).toArray := by
  induction vs with
  | nil => intro off k pre mid post h _; rw [List.length_nil] at h; rw [List.eq_nil_of_length_eq_zero h]; rfl
  | cons v vs ih =>
    intro off k pre mid post h hk
    cases mid with
    | nil => simp at h
    | cons m mid =>
      rw [List.zipIdx_cons, List.foldl_cons]
      have e : (pre ++ (m :: mid ++ post)).toArray.setIfInBounds (off + k) v = ((pre ++ [v]) ++ (mid ++ post)).toArray := by
        simp [hk]
      rw [e, ih off (k + 1) (pre ++ [v]) mid post (by simpa using h) (by simp; omega)]
      simp

@[simp, go_sem] theorem Mb.set0 (a x h : Int) (r : Vector Int 32) : (Mb.mk a r h).arr.setIfInBounds 0 (.int .i64 x) = (Mb.mk x r h).arr := by
  simp [Mb.arr, Mb.cells]

def zeros84 : List Value := .int .i64 0 :: (List.replicate 32 (.int .u8 0) ++ [.int .i64 0])
theorem zero84 : Tryd.prog.built 84 [(0, .int .i64 0)] = some zeros84.toArray := by kernel_rfl
theorem fill_node (id height : Int) (root : Vector Int 32) (h0 : Tryd.prog.built 84 [(0, .int .i64 id), (1, .agg (nodeA root height))] = Instr.fill (#[(0, 1), (1, 33)][·]?) zeros84.toArray [(0, .int .i64 id), (1, .agg (nodeA root height))]) :
    Tryd.prog.built 84 [(0, .int .i64 id), (1, .agg (nodeA root height))] = some (Mb.mk id root height).arr := by
  rw [h0]
  have e1 : (Value.int .i64 id).cells = #[.int .i64 id] := rfl
  have e2 : (Value.agg (nodeA root height)).cells = nodeA root height := rfl
  simp only [Instr.fill, e1, e2, nodeA_size]
  have := fold_set (nodeC root height) 1 0 [.int .i64 id] (List.replicate 32 (.int .u8 0) ++ [.int .i64 0]) [] (by simp [nodeC_len]) rfl
  simp [zeros84, nodeA] at this ⊢
  exact this.trans (by simp [Mb.arr, Mb.cells, nodeC])
theorem built84 (id height : Int) (root : Vector Int 32) : Tryd.prog.built 84 [(0, .int .i64 id), (1, .agg (nodeA root height))] = some (Mb.mk id root height).arr :=
  fill_node id height root (by kernel_rfl)
@[simp, go_sem] theorem fold84 (id height : Int) (root : Vector Int 32) :
    Array.foldl (fun (cs : Array Value) (x : Value × Nat) => cs.setIfInBounds (1 + x.2) x.1) #[.int .i64 id, .int .u8 0, .int .u8 0, .int .u8 0, .int .u8 0, .int .u8 0, .int .u8 0, .int .u8 0, .int .u8 0, .int .u8 0, .int .u8 0, .int .u8 0, .int .u8 0, .int .u8 0, .int .u8 0, .int .u8 0, .int .u8 0, .int .u8 0, .int .u8 0, .int .u8 0, .int .u8 0, .int .u8 0, .int .u8 0, .int .u8 0, .int .u8 0, .int .u8 0, .int .u8 0, .int .u8 0, .int .u8 0, .int .u8 0, .int .u8 0, .int .u8 0, .int .u8 0, .int .i64 0] (nodeA root height).zipIdx 0 33 = (Mb.mk id root height).arr := by
  have h := built84 id height root
  rw [show Tryd.prog.built 84 [(0, .int .i64 id), (1, .agg (nodeA root height))] = Instr.fill (#[(0, 1), (1, 33)][·]?) zeros84.toArray [(0, .int .i64 id), (1, .agg (nodeA root height))] from by kernel_rfl] at h
  have e1 : (Value.int .i64 id).cells = #[.int .i64 id] := rfl
  have e2 : (Value.agg (nodeA root height)).cells = nodeA root height := rfl
  simp only [Instr.fill, e1, e2, nodeA_size] at h
  simp [zeros84] at h
  exact h
@[simp, go_sem] theorem fold84b (m : Mb) :
    Array.foldl (fun (cs : Array Value) (x : Value × Nat) => cs.setIfInBounds x.2 x.1) #[.int .i64 0, .int .u8 0, .int .u8 0, .int .u8 0, .int .u8 0, .int .u8 0, .int .u8 0, .int .u8 0, .int .u8 0, .int .u8 0, .int .u8 0, .int .u8 0, .int .u8 0, .int .u8 0, .int .u8 0, .int .u8 0, .int .u8 0, .int .u8 0, .int .u8 0, .int .u8 0, .int .u8 0, .int .u8 0, .int .u8 0, .int .u8 0, .int .u8 0, .int .u8 0, .int .u8 0, .int .u8 0, .int .u8 0, .int .u8 0, .int .u8 0, .int .u8 0, .int .u8 0, .int .i64 0] m.arr.zipIdx 0 34 = m.arr := by
  have h := fold_set m.cells 0 0 [] zeros84 [] (by simp [zeros84, Mb.cells]) rfl
  simp [zeros84] at h
  have e : (34 : Nat) = m.arr.zipIdx.size := by simp
  rw [e, ← Array.foldl_toList]
  simpa [Mb.arr] using h
section
variable {P : Program} {ops : Array Oper} {rest : List Oper} {op : Oper} {a : Act} {w : World} {Q : Exit → Act → World → Prop}
theorem buildM (hw : Region.wanted op (yielded ops a.tmps) = true) (t : TypeId) (parts : Array (Nat × Operand)) (ho : op.op = .build t parts) (cells : Array Value)
    (hb : P.built t (parts.map fun (i, x) => (i, a.eval x)).toList = some cells) (h : wpList P ops Q rest (a.put op.dst (.agg cells)) w) : wpList P ops Q (op :: rest) a w :=
  wpList_do hw fun _ hK => wp_build t parts ho (by rw [hb]; rfl) (by rw [hb]; exact hK _ _ h)
end
theorem size50 : (Tryd.prog.info? 50).map (·.size) = some 33 := by kernel_rfl

/-- The node's cells within a change that lies at the head of a block. -/
theorem Chg.node_range {w : World} {b : Nat} (g : Chg) (h : w.rangeAt b 0 g.cells) : w.rangeAt b 3 (nodeC g.root g.height) := fun j v hv => by
  have := h (j + 3) v (by simpa [Chg.cells] using hv)
  rw [show 0 + (j + 3) = 3 + j from by omega] at this
  exact this

theorem two {w : World} {g : Nat} {t : TypeId} {c0 c1 : Value} (h : w.heap[g]? = some (.cells #[c0, c1] t (0, 0))) :
    w.cell? ⟨g, 0, none⟩ = some c0 ∧ w.cell? ⟨g, 1, none⟩ = some c1 ∧ (∀ o, w.frozen? ⟨g, o, none⟩ = false) :=
  ⟨by rw [cell_of_row w g _ _ t _ h]; rfl, by rw [cell_of_row w g _ _ t _ h]; rfl, fun o => by simp [World.frozen?, h]⟩
theorem store2 {w : World} {g : Nat} {t : TypeId} {c0 c1 : Value} {fz : Nat × Nat} (h : w.heap[g]? = some (.cells #[c0, c1] t fz)) (x0 x1 : Value) :
    (w.setCell ⟨g, 0, none⟩ x0).setCell ⟨g, 1, none⟩ x1 = w.setRow g #[x0, x1] := by
  rw [setCell_eq_setRow w g 0 _ t fz x0 h]
  rw [setCell_eq_setRow _ g 1 _ t fz x1 (setRow_heap w g _ _ t fz h), setRow_setRow]
  rfl
theorem Chg.facts {w : World} {b : Nat} {g : Chg} {t : TypeId} {fz : Nat × Nat} (h : w.heap[b]? = some (.cells g.arr t fz)) :
    w.cell? ⟨b, 0, none⟩ = some (.int .i64 g.kind) ∧ w.cell? ⟨b, 1, none⟩ = some (.int .i64 g.id) ∧ w.cell? ⟨b, 2, none⟩ = some (.int .i64 g.new) ∧ w.rangeAt b 3 (nodeC g.root g.height) :=
  ⟨by rw [cell_of_row w b _ _ t _ h]; rfl, by rw [cell_of_row w b _ _ t _ h]; rfl, by rw [cell_of_row w b _ _ t _ h]; rfl, g.node_range fun j v hv => by
    rw [cell_of_row w b _ _ t _ h, Nat.zero_add]; simpa [Chg.arr] using hv⟩
theorem size26 : (Tryd.prog.info? 26).map (·.size) = some 2 := by kernel_rfl
section
variable {P : Program}
theorem res_ct {fn : Func} {p u : Tmp} {ty : TypeId} (h : fn.results = #[.cell p ty, .tmp u]) (tmps : Array Value) (w : World) (g : Nat) (t : TypeId) (cs : Array Value) (fr : Nat × Nat) (d : TypeDesc)
    (hp : tmps.getD p undef = .pointer (some ⟨g, 0, none⟩)) (hg : w.heap[g]? = some (.cells cs t fr))
    (hu : P.underlying ty = some d) (hd : (match d with | .struct _ | .array _ _ => true | _ => false) = true) (hi : (P.info? ty).map (·.size) = some cs.size) :
    (results fn tmps).run P w = .ok (.tuple #[.agg cs, tmps.getD u undef]) w := by
  have hp' : tmps[p]?.getD undef = .pointer (some ⟨g, 0, none⟩) := by simpa using hp
  simp [results, h, hp', asAddr, run_loadVar_row w g t ty cs fr d hg hu hd hi]
theorem res_cc {fn : Func} {p p' : Tmp} {ty ty' : TypeId} (h : fn.results = #[.cell p ty, .cell p' ty']) (tmps : Array Value) (w : World) (g g' : Nat) (t t' : TypeId) (cs cs' : Array Value) (fr fr' : Nat × Nat) (d d' : TypeDesc)
    (hp : tmps.getD p undef = .pointer (some ⟨g, 0, none⟩)) (hg : w.heap[g]? = some (.cells cs t fr))
    (hu : P.underlying ty = some d) (hd : (match d with | .struct _ | .array _ _ => true | _ => false) = true) (hi : (P.info? ty).map (·.size) = some cs.size)
    (hp' : tmps.getD p' undef = .pointer (some ⟨g', 0, none⟩)) (hg' : w.heap[g']? = some (.cells cs' t' fr'))
    (hu' : P.underlying ty' = some d') (hd' : (match d' with | .struct _ | .array _ _ => true | _ => false) = true) (hi' : (P.info? ty').map (·.size) = some cs'.size) :
    (results fn tmps).run P w = .ok (.tuple #[.agg cs, .agg cs']) w := by
  have h1 : tmps[p]?.getD undef = .pointer (some ⟨g, 0, none⟩) := by simpa using hp
  have h2 : tmps[p']?.getD undef = .pointer (some ⟨g', 0, none⟩) := by simpa using hp'
  simp [results, h, h1, h2, asAddr, run_loadVar_row w g t ty cs fr d hg hu hd hi, run_loadVar_row w g' t' ty' cs' fr' d' hg' hu' hd' hi']
end
end Go.Proofs.YtchnnplcpidkiaaDoor
