/-
  A registry's rows under stores into a law's own variables; a request's cells.
-/
import Derived.Test.YtchnnplcpidkiaaDoorAlv
namespace Go.Proofs.YtchnnplcpidkiaaDoor
open Go.RowKit

/-- The old blocks stay, but those in V. -/
def AgV (V : Nat → Prop) (w w' : World) : Prop := w.heap.size ≤ w'.heap.size ∧ ∀ k, k < w.heap.size → ¬ V k → w'.heap[k]? = w.heap[k]?
theorem AgV.refl (V : Nat → Prop) (w : World) : AgV V w w := ⟨Nat.le_refl _, fun _ _ _ => rfl⟩
theorem AgV.trans {V : Nat → Prop} {a b c : World} (h : AgV V a b) (k : AgV V b c) : AgV V a c :=
  ⟨Nat.le_trans h.1 k.1, fun i hi hv => (k.2 i (Nat.lt_of_lt_of_le hi h.1) hv).trans (h.2 i hi hv)⟩
theorem AgV.below {V : Nat → Prop} {w w' : World} (h : Below w.heap.size w w') : AgV V w w' := ⟨h.size, fun k hk _ => h.block k hk⟩
theorem AgV.setRow {V : Nat → Prop} (w : World) {g : Nat} (hg : V g) (cs : Array Value) : AgV V w (w.setRow g cs) :=
  ⟨by unfold World.setRow; simp, fun k _ hv => setRow_other _ _ _ _ fun e => hv (e ▸ hg)⟩
theorem AgV.setCell {V : Nat → Prop} (w : World) {g : Nat} (hg : V g) (j : Nat) (u : Value) : AgV V w (w.setCell ⟨g, j, none⟩ u) :=
  ⟨by rw [World.size_setCell]; exact Nat.le_refl _, fun k _ hv => Below.heap_setCell w ⟨g, j, none⟩ u k fun e => hv (by have e' : k = g := e; rw [e']; exact hg)⟩

/-- A registry's rows, whatever becomes of the blocks in V. -/
def SX (V : Nat → Prop) (w : World) (Ap Ar Am : Option Addr) (s : St) : Prop := ∀ w', AgV V w w' → SV w' Ap Ar Am s
theorem SX.sv {V : Nat → Prop} {w : World} {Ap Ar Am : Option Addr} {s : St} (h : SX V w Ap Ar Am s) : SV w Ap Ar Am s := h w (AgV.refl V w)
theorem SX.go {V : Nat → Prop} {w w' : World} {Ap Ar Am : Option Addr} {s : St} (h : SX V w Ap Ar Am s) (ha : AgV V w w') : SX V w' Ap Ar Am s := fun _ h2 => h _ (ha.trans h2)
theorem SX.below {V : Nat → Prop} {w w' : World} {Ap Ar Am : Option Addr} {s : St} (h : SX V w Ap Ar Am s) (hb : Below w.heap.size w w') : SX V w' Ap Ar Am s := h.go (AgV.below hb)

theorem SV.keep {w w' : World} {Ap Ar Am : Option Addr} {s : St} (h : SV w Ap Ar Am s) (hk : ∀ k, k < w.heap.size → w'.heap[k]? = w.heap[k]?) : SV w' Ap Ar Am s := by
  have hk' : ∀ (b : Nat) (cs : Array Value) (t : TypeId) (fz : Nat × Nat), w.heap[b]? = some (Obj.cells cs t fz) → True → w'.heap[b]? = w.heap[b]? := fun b cs t fz hb _ => hk b (heap_lt hb)
  refine ⟨h.p.keep hk', ?_, h.m.keep hk'⟩
  obtain ⟨els, hl, hr, hc⟩ := h.r
  exact ⟨els, hl, hr.keep hk', fun k e r he hr' => by
    obtain ⟨Av, cv, he', hcv, hrow⟩ := hc k e r he hr'
    exact ⟨Av, cv, he', hcv, hrow.keep hk'⟩⟩
/-- What lies below all the variables is left alone. -/
theorem SV.sx {V : Nat → Prop} {w w1 : World} {Ap Ar Am : Option Addr} {s : St} (h : SV w Ap Ar Am s) (hb : Below w.heap.size w w1) (hV : ∀ k, V k → w.heap.size ≤ k) : SX V w1 Ap Ar Am s := fun w' ha =>
  h.keep fun k hk => (ha.2 k (Nat.lt_of_lt_of_le hk hb.size) fun hv => by have := hV k hv; omega).trans (hb.block k hk)
/-- Rows that were made behind all the variables. -/
theorem OwnSt.sx {V : Nat → Prop} {w : World} {base : Nat} {Ap Ar Am : Option Addr} {cp cr cm : Nat} {s : St} (h : OwnSt w base (SV.val Ap cp Ar cr Am cm s) s) (hV : ∀ k, V k → k < base)
    (h9 : ∀ k, V k → ∀ (cs : Array Value) (fz : Nat × Nat), w.heap[k]? ≠ some (Obj.cells cs 9 fz)) : SX V w Ap Ar Am s := fun w' ha => by
  have hk : ∀ k, base ≤ k → k < w.heap.size → w'.heap[k]? = w.heap[k]? := fun k hb hs => ha.2 k hs fun hv => by have := hV k hv; omega
  refine OwnSt.toSV (base := base) (cp := cp) (cr := cr) (cm := cm) ?_
  obtain ⟨Ap, cp, Ar, cr, Am, cm, hv, c1, c2, c3, o1, ⟨els, oe, hl, hrc⟩, o3⟩ := h
  refine ⟨Ap, cp, Ar, cr, Am, cm, hv, c1, c2, c3, o1.keep fun k e => hk k (o1.base_le k e).1 (o1.base_le k e).2, ⟨els, oe.keep fun k e => hk k (oe.base_le k e).1 (oe.base_le k e).2, hl, fun k e r he hr' => ?_⟩, o3.keep fun k e => hk k (o3.base_le k e).1 (o3.base_le k e).2⟩
  obtain ⟨Av, cv, he', hcv, hrow⟩ := hrc k e r he hr'
  exact ⟨Av, cv, he', hcv, hrow.keep fun b cs t fz hb ht => by
    subst ht
    exact ha.2 b (heap_lt hb) fun hv => h9 b hv cs fz hb⟩
theorem OwnSt.val_eq {w : World} {base : Nat} {v : Value} {s : St} (h : OwnSt w base v s) : ∃ Ap cp Ar cr Am cm, v = SV.val Ap cp Ar cr Am cm s := by
  obtain ⟨Ap, cp, Ar, cr, Am, cm, hv, _⟩ := h.sv
  exact ⟨Ap, cp, Ar, cr, Am, cm, hv⟩

theorem Req.six {w : World} {b : Nat} {q : Req} {t : TypeId} {fz : Nat × Nat} (h : w.heap[b]? = some (.cells q.arr t fz)) :
    w.cell? ⟨b, 0, none⟩ = some (.int .i64 q.client) ∧ w.cell? ⟨b, 1, none⟩ = some (.int .i64 q.num) ∧ w.cell? ⟨b, 2, none⟩ = some (.int .i64 q.kind) ∧ w.cell? ⟨b, 3, none⟩ = some (.string q.key) ∧ w.cell? ⟨b, 4, none⟩ = some (.string q.val) ∧ w.cell? ⟨b, 5, none⟩ = some (.string q.old) ∧ w.rangeAt b 0 q.cells :=
  ⟨by rw [cell_of_row w b _ _ t _ h]; rfl, by rw [cell_of_row w b _ _ t _ h]; rfl, by rw [cell_of_row w b _ _ t _ h]; rfl, by rw [cell_of_row w b _ _ t _ h]; rfl, by rw [cell_of_row w b _ _ t _ h]; rfl, by rw [cell_of_row w b _ _ t _ h]; rfl,
    fun j v hv => by rw [cell_of_row w b _ _ t _ h, Nat.zero_add]; simpa [Req.arr] using hv⟩
end Go.Proofs.YtchnnplcpidkiaaDoor
