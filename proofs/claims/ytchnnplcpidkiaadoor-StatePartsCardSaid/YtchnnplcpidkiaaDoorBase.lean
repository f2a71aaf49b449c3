/-
  The data of the registry as plain Lean structures, and how they lie in memory (cells of a block). No walk stands here.
-/
import Derived.Test.YtchnnplcpidkiaaDoorProg
import Derived.WalkKit
import Derived.WalkSpells
import Derived.WalkLawsBesides
import Derived.Deep.LoopGhost
import Derived.Deep.MidRow
import Derived.Deep.Draws
import Derived.BigQuiet
import Derived.Lib.Hide
import Derived.Laws.CopyOwn
namespace Go.Proofs.YtchnnplcpidkiaaDoor
open Go.RowKit

/-! ### the data -/
structure Pr where
  key : ByteArray
  val : ByteArray
structure Rp where
  client : Int
  num : Int
  code : Int
  vals : List ByteArray
structure Mb where
  id : Int
  root : Vector Int 32
  height : Int
structure Req where
  client : Int
  num : Int
  kind : Int
  key : ByteArray
  val : ByteArray
  old : ByteArray
  chk : Int
  chid : Int
  chnew : Int
  root : Vector Int 32
  height : Int
structure St where
  pairs : List Pr
  reps : List Rp
  epoch : Int
  mbs : List Mb

def Pr.cells (p : Pr) : List Value := [.string p.key, .string p.val]
def Mb.cells (m : Mb) : List Value := .int .i64 m.id :: (m.root.toList.map (Value.int .u8) ++ [.int .i64 m.height])
def Req.cells (q : Req) : List Value :=
  .int .i64 q.client :: .int .i64 q.num :: .int .i64 q.kind :: .string q.key :: .string q.val :: .string q.old :: .int .i64 q.chk :: .int .i64 q.chid :: .int .i64 q.chnew :: (q.root.toList.map (Value.int .u8) ++ [.int .i64 q.height])
def strC (s : ByteArray) : List Value := [.string s]

theorem Pr.len (p : Pr) : p.cells.length = 2 := rfl
theorem Mb.len (m : Mb) : m.cells.length = 34 := by simp [Mb.cells]
theorem Req.len (q : Req) : q.cells.length = 42 := by simp [Req.cells]

def Mb.arr (x : Mb) : Array Value := x.cells.toArray
theorem Mb.arrL (x : Mb) : x.arr.toList = x.cells := rfl
@[simp, go_sem] theorem Mb.c0 (x : Mb) : x.arr[0]? = some (.int .i64 x.id) := rfl
@[simp, go_sem] theorem Mb.g0 (x : Mb) (h : 0 < x.arr.size) : x.arr[0]'h = .int .i64 x.id := rfl
@[simp, go_sem] theorem Mb.arrSize (x : Mb) : x.arr.size = 34 := by simp [Mb.arr, Mb.cells]
@[simp, go_sem] theorem Mb.c33 (x : Mb) : x.arr[33]? = some (.int .i64 x.height) := by simp [Mb.arr, Mb.cells]
@[simp, go_sem] theorem Mb.g33 (x : Mb) (h : 33 < x.arr.size) : x.arr[33]'h = .int .i64 x.height := by simp [Mb.arr, Mb.cells]
def Req.arr (x : Req) : Array Value := x.cells.toArray
theorem Req.arrL (x : Req) : x.arr.toList = x.cells := rfl
@[simp, go_sem] theorem Req.c0 (x : Req) : x.arr[0]? = some (.int .i64 x.client) := rfl
@[simp, go_sem] theorem Req.g0 (x : Req) (h : 0 < x.arr.size) : x.arr[0]'h = .int .i64 x.client := rfl
@[simp, go_sem] theorem Req.c1 (x : Req) : x.arr[1]? = some (.int .i64 x.num) := rfl
@[simp, go_sem] theorem Req.g1 (x : Req) (h : 1 < x.arr.size) : x.arr[1]'h = .int .i64 x.num := rfl
@[simp, go_sem] theorem Req.c2 (x : Req) : x.arr[2]? = some (.int .i64 x.kind) := rfl
@[simp, go_sem] theorem Req.g2 (x : Req) (h : 2 < x.arr.size) : x.arr[2]'h = .int .i64 x.kind := rfl
@[simp, go_sem] theorem Req.c3 (x : Req) : x.arr[3]? = some (.string x.key) := rfl
@[simp, go_sem] theorem Req.g3 (x : Req) (h : 3 < x.arr.size) : x.arr[3]'h = .string x.key := rfl
@[simp, go_sem] theorem Req.c4 (x : Req) : x.arr[4]? = some (.string x.val) := rfl
@[simp, go_sem] theorem Req.g4 (x : Req) (h : 4 < x.arr.size) : x.arr[4]'h = .string x.val := rfl
@[simp, go_sem] theorem Req.c5 (x : Req) : x.arr[5]? = some (.string x.old) := rfl
@[simp, go_sem] theorem Req.g5 (x : Req) (h : 5 < x.arr.size) : x.arr[5]'h = .string x.old := rfl
@[simp, go_sem] theorem Req.c6 (x : Req) : x.arr[6]? = some (.int .i64 x.chk) := rfl
@[simp, go_sem] theorem Req.g6 (x : Req) (h : 6 < x.arr.size) : x.arr[6]'h = .int .i64 x.chk := rfl
@[simp, go_sem] theorem Req.c7 (x : Req) : x.arr[7]? = some (.int .i64 x.chid) := rfl
@[simp, go_sem] theorem Req.g7 (x : Req) (h : 7 < x.arr.size) : x.arr[7]'h = .int .i64 x.chid := rfl
@[simp, go_sem] theorem Req.c8 (x : Req) : x.arr[8]? = some (.int .i64 x.chnew) := rfl
@[simp, go_sem] theorem Req.g8 (x : Req) (h : 8 < x.arr.size) : x.arr[8]'h = .int .i64 x.chnew := rfl
@[simp, go_sem] theorem Req.arrSize (x : Req) : x.arr.size = 42 := by simp [Req.arr, Req.cells]

/-! ### rows of elements in memory -/
/-- From address A on lie the elements els, each of sz cells, in a block whose type meets T. -/
def Row (w : World) (T : TypeId → Prop) (sz : Nat) (A : Option Addr) (els : List (List Value)) : Prop :=
  ∀ k e, els[k]? = some e → ∃ b off t cs fz, A = some ⟨b, off, none⟩ ∧ w.heap[b]? = some (.cells cs t fz) ∧ T t ∧ ∀ j u, e[j]? = some u → cs[off + k * sz + j]? = some u

theorem Row.nil (w : World) (T : TypeId → Prop) (sz : Nat) (A : Option Addr) : Row w T sz A [] := fun k e h => by simp at h

theorem heap_lt {w : World} {b : Nat} {o : Obj} (h : w.heap[b]? = some o) : b < w.heap.size := by
  rcases Nat.lt_or_ge b w.heap.size with h' | h'
  · exact h'
  · simp [Array.getElem?_eq_none h'] at h

theorem Row.at {w : World} {T : TypeId → Prop} {sz : Nat} {A : Option Addr} {els : List (List Value)} (h : Row w T sz A els) {k : Nat} (hk : k < els.length) :
    ∃ b off, A = some ⟨b, off, none⟩ ∧ b < w.heap.size ∧ ∀ j u, els[k][j]? = some u → w.cell? ⟨b, off + k * sz + j, none⟩ = some u := by
  obtain ⟨b, off, t, cs, fz, hA, hg, _, hc⟩ := h k els[k] (List.getElem?_eq_getElem hk)
  exact ⟨b, off, hA, heap_lt hg, fun j u hu => by rw [cell_of_row w b _ cs t fz hg]; exact hc j u hu⟩

/-- Whatever leaves the blocks of types in T as they are leaves the row. -/
theorem Row.keep {w w' : World} {T : TypeId → Prop} {sz : Nat} {A : Option Addr} {els : List (List Value)} (h : Row w T sz A els)
    (hk : ∀ (b : Nat) (cs : Array Value) (t : TypeId) (fz : Nat × Nat), w.heap[b]? = some (Obj.cells cs t fz) → T t → w'.heap[b]? = w.heap[b]?) : Row w' T sz A els := fun k e he => by
  obtain ⟨b, off, t, cs, fz, hA, hg, hT, hc⟩ := h k e he
  exact ⟨b, off, t, cs, fz, hA, (hk b cs t fz hg hT).trans hg, hT, hc⟩

theorem Row.below {w w' : World} {T : TypeId → Prop} {sz : Nat} {A : Option Addr} {els : List (List Value)} (h : Row w T sz A els) (hb : Below w.heap.size w w') : Row w' T sz A els :=
  Row.keep h fun b _ _ _ hg _ => hb.block b (heap_lt hg)

theorem Row.weaken {w : World} {T T' : TypeId → Prop} {sz : Nat} {A : Option Addr} {els : List (List Value)} (h : Row w T sz A els) (hT : ∀ t, T t → T' t) : Row w T' sz A els := fun k e he => by
  obtain ⟨b, off, t, cs, fz, hA, hg, h1, hc⟩ := h k e he
  exact ⟨b, off, t, cs, fz, hA, hg, hT t h1, hc⟩

theorem bcell {W w1 : World} (hb : Below W.heap.size W w1) : (∀ b o, b < W.heap.size → w1.cell? ⟨b, o, none⟩ = W.cell? ⟨b, o, none⟩) ∧ (∀ b o, b < W.heap.size → w1.frozen? ⟨b, o, none⟩ = W.frozen? ⟨b, o, none⟩) :=
  ⟨fun b o h => hb.cell (p := ⟨b, o, none⟩) h, fun b o h => hb.frozen (p := ⟨b, o, none⟩) h⟩

theorem heap_alloc_eq (w : World) (o : Obj) (k : Nat) : (w.alloc o).heap[k]? = if k = w.heap.size then some o else w.heap[k]? := by
  by_cases h : k = w.heap.size
  · subst h; rw [if_pos rfl]; exact heap_alloc_new w o
  · rw [if_neg h]
    show (w.heap.push o)[k]? = _
    rw [Array.getElem?_push, if_neg h]
theorem heap_drew_eq (w : World) (k : Nat) : w.drew.heap[k]? = w.heap[k]? := rfl
theorem blk_later {W w1 : World} (hb : Below W.heap.size W w1) {g : Nat} {o : Obj} (h : W.heap[g]? = some o) : w1.heap[g]? = some o := (hb.block g (heap_lt h)).trans h
theorem four {w : World} {g : Nat} {t : TypeId} {c0 c1 c2 c3 : Value} (h : w.heap[g]? = some (.cells #[c0, c1, c2, c3] t (0, 0))) :
    w.cell? ⟨g, 0, none⟩ = some c0 ∧ w.cell? ⟨g, 1, none⟩ = some c1 ∧ w.cell? ⟨g, 2, none⟩ = some c2 ∧ w.cell? ⟨g, 3, none⟩ = some c3 ∧ (∀ o, w.frozen? ⟨g, o, none⟩ = false) :=
  ⟨by rw [cell_of_row w g _ _ t _ h]; rfl, by rw [cell_of_row w g _ _ t _ h]; rfl, by rw [cell_of_row w g _ _ t _ h]; rfl, by rw [cell_of_row w g _ _ t _ h]; rfl, fun o => by simp [World.frozen?, h]⟩

theorem store4 {w : World} {g : Nat} {t : TypeId} {c0 c1 c2 c3 : Value} {fz : Nat × Nat} (h : w.heap[g]? = some (.cells #[c0, c1, c2, c3] t fz)) (x0 x1 x2 x3 : Value) :
    (((w.setCell ⟨g, 0, none⟩ x0).setCell ⟨g, 1, none⟩ x1).setCell ⟨g, 2, none⟩ x2).setCell ⟨g, 3, none⟩ x3 = w.setRow g #[x0, x1, x2, x3] := by
  rw [setCell_eq_setRow w g 0 _ t fz x0 h]
  rw [setCell_eq_setRow _ g 1 _ t fz x1 (setRow_heap w g _ _ t fz h), setRow_setRow]
  rw [setCell_eq_setRow _ g 2 _ t fz x2 (setRow_heap w g _ _ t fz h), setRow_setRow]
  rw [setCell_eq_setRow _ g 3 _ t fz x3 (setRow_heap w g _ _ t fz h), setRow_setRow]
  rfl
theorem size28 : (Tryd.prog.info? 28).map (·.size) = some 4 := by kernel_rfl
theorem size36 : (Tryd.prog.info? 36).map (·.size) = some 4 := by kernel_rfl

/-! ### searching -/
/-- The loop of slices.BinarySearchFunc: lt h says that the element at h is below what is sought. -/
def bsLoop (lt : Nat → Bool) : Nat → Nat → Nat → Nat
  | 0, i, _ => i
  | f + 1, i, j => if i < j then (if lt ((i + j) / 2) then bsLoop lt f ((i + j) / 2 + 1) j else bsLoop lt f i ((i + j) / 2)) else i
def bs (lt : Nat → Bool) (n : Nat) : Nat := bsLoop lt (n + 1) 0 n

theorem bsLoop_more (lt : Nat → Bool) : ∀ f i j, j < f + i → bsLoop lt (f + 1) i j = bsLoop lt f i j := by
  intro f
  induction f with
  | zero => intro i j h; simp only [bsLoop]; rw [if_neg (by omega)]
  | succ f ih =>
    intro i j h
    rw [bsLoop]
    conv => rhs; rw [bsLoop]
    by_cases hij : i < j
    · rw [if_pos hij, if_pos hij, ih _ _ (by omega), ih i ((i + j) / 2) (by omega)]
    · rw [if_neg hij, if_neg hij]

theorem bsLoop_fuel (lt : Nat → Bool) (f g i j : Nat) (hf : j < f + i) (hg : j < g + i) : bsLoop lt f i j = bsLoop lt g i j := by
  have up : ∀ d f, j < f + i → bsLoop lt (f + d) i j = bsLoop lt f i j := by
    intro d
    induction d with
    | zero => intro f _; rfl
    | succ d ih => intro f h; rw [← Nat.add_assoc, bsLoop_more lt _ _ _ (by omega), ih f h]
  rcases Nat.le_total f g with h | h
  · rw [← up (g - f) f hf]; congr 1; omega
  · rw [← up (f - g) g hg]; congr 1; omega

/-- What is left of the search from i, j on. -/
def bsRest (lt : Nat → Bool) (i j : Nat) : Nat := bsLoop lt (j + 1) i j
theorem bsRest_done (lt : Nat → Bool) (i j : Nat) (h : ¬ i < j) : bsRest lt i j = i := by rw [bsRest, bsLoop, if_neg h]
theorem bsRest_up (lt : Nat → Bool) (i j : Nat) (h : i < j) (hl : lt ((i + j) / 2) = true) : bsRest lt i j = bsRest lt ((i + j) / 2 + 1) j := by
  rw [bsRest, bsLoop, if_pos h, if_pos hl]
  exact bsLoop_fuel lt _ _ _ _ (by omega) (by omega)
theorem bsRest_down (lt : Nat → Bool) (i j : Nat) (h : i < j) (hl : lt ((i + j) / 2) = false) : bsRest lt i j = bsRest lt i ((i + j) / 2) := by
  rw [bsRest, bsLoop, if_pos h, if_neg (by simp [hl])]
  exact bsLoop_fuel lt _ _ _ _ (by omega) (by omega)
theorem bs_rest (lt : Nat → Bool) (n : Nat) : bs lt n = bsRest lt 0 n := rfl

theorem bsRest_bound (lt : Nat → Bool) (i j : Nat) (h : i ≤ j) : i ≤ bsRest lt i j ∧ bsRest lt i j ≤ j := by
  unfold bsRest
  suffices ∀ f i j, i ≤ j → i ≤ bsLoop lt f i j ∧ bsLoop lt f i j ≤ j from this _ _ _ h
  intro f
  induction f with
  | zero => intro i j h; exact ⟨Nat.le_refl _, h⟩
  | succ f ih =>
    intro i j h
    rw [bsLoop]
    split
    · split
      · have := ih ((i + j) / 2 + 1) j (by omega); omega
      · have := ih i ((i + j) / 2) (by omega); omega
    · exact ⟨Nat.le_refl _, h⟩
theorem bs_le (lt : Nat → Bool) (n : Nat) : bs lt n ≤ n := (bsRest_bound lt 0 n (Nat.zero_le _)).2

def cmpS (a b : ByteArray) : Int := if Op.bytesLess a.toList b.toList then -1 else if a.toList == b.toList then 0 else 1
def cmpI (a b : Int) : Int := if a < b then -1 else if b < a then 1 else 0

/-! ### operations on many cells -/
section
variable {P : Program} {ops : Array Oper} {rest : List Oper} {op : Oper} {a : Act} {w : World} {Q : Exit → Act → World → Prop}
theorem wpList_do (hw : Region.wanted op (yielded ops a.tmps) = true)
    (h : ∀ K : Act → World → Prop, (∀ a w, wpList P ops Q rest a w → K a w) → op.wp P a w K Q) : wpList P ops Q (op :: rest) a w :=
  wpList_step fun K hK => by rw [if_pos hw]; exact h K hK
/-- A load of a whole struct, out of the middle of a block. -/
theorem loadM (hw : Region.wanted op (yielded ops a.tmps) = true) (ty : TypeId) (x : Operand) (ho : op.op = .load ty x)
    (b o : Nat) (hx : a.eval x = .pointer (some ⟨b, o, none⟩)) (n : Nat) (cs : List Value) (hn : cs.length = n) (d : TypeDesc) (hc : w.rangeAt b o cs)
    (hu : P.underlying ty = some d) (hd : d.isRow = true) (hi : (P.info? ty).map (·.size) = some n) (arr : Array Value) (harr : arr = cs.toArray)
    (h : wpList P ops Q rest (a.put op.dst (.agg arr)) w) : wpList P ops Q (op :: rest) a w :=
  wpList_do hw fun _ hK => wp_load_mid ty x ho b o hx cs d hc hu hd (hn ▸ hi) (hK _ _ (harr ▸ h))
/-- A store of a whole struct over a whole block. -/
theorem storeRow (hw : Region.wanted op (yielded ops a.tmps) = true) (ty : TypeId) (x y : Operand) (ho : op.op = .store ty x y)
    (g : Nat) (hx : a.eval x = .pointer (some ⟨g, 0, none⟩)) (cells : Array Value) (hy : a.eval y = .agg cells)
    (t : TypeId) (old : Array Value) (n : Nat) (hg : w.heap[g]? = some (.cells old t (0, 0))) (hn : cells.size = n) (hi : (P.info? ty).map (·.size) = some n)
    (hold : old.size = n) (h1 : ∀ v ∈ cells.toList, v.oneCell' = true)
    (h : wpList P ops Q rest (a.put op.dst undef) (w.setRow g cells)) : wpList P ops Q (op :: rest) a w :=
  wpList_do hw fun _ hK => wp_store_row ty x y ho g cells hx hy t old hg (hn ▸ hi) (hold.trans hn.symm) (Array.all_eq_true_iff_forall_mem.2 fun v hv => h1 v (by simpa using hv)) (hK _ _ h)
end
theorem size84 : (Tryd.prog.info? 84).map (·.size) = some 34 := by kernel_rfl
theorem size56 : (Tryd.prog.info? 56).map (·.size) = some 42 := by kernel_rfl
theorem size54 : (Tryd.prog.info? 54).map (·.size) = some 40 := by kernel_rfl
theorem size52 : (Tryd.prog.info? 52).map (·.size) = some 36 := by kernel_rfl
theorem size71 : (Tryd.prog.info? 71).map (·.size) = some 48 := by kernel_rfl

theorem Row.range {w : World} {T : TypeId → Prop} {sz : Nat} {A : Option Addr} {els : List (List Value)} (h : Row w T sz A els) {k : Nat} {e : List Value} (hk : els[k]? = some e) :
    ∃ b off, A = some ⟨b, off, none⟩ ∧ b < w.heap.size ∧ w.rangeAt b (off + k * sz) e := by
  obtain ⟨b, off, t, cs, fz, hA, hg, _, hc⟩ := h k e hk
  exact ⟨b, off, hA, heap_lt hg, fun j u hu => by rw [cell_of_row w b _ cs t fz hg]; exact hc j u hu⟩
theorem range_below {w w' : World} {b o : Nat} {cs : List Value} {B : Nat} (h : w.rangeAt b o cs) (hb : Below B w w') (hB : b < B) : w'.rangeAt b o cs := fun j v hv =>
  (hb.cell (p := ⟨b, o + j, none⟩) hB).trans (h j v hv)

end Go.Proofs.YtchnnplcpidkiaaDoor
