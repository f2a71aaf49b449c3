/-
  What append, copy and clear do to a block that is known whole, as a list of elements.
-/
import Derived.Test.YtchnnplcpidkiaaDoorOwn
import Derived.Test.YtchnnplcpidkiaaDoorAt
namespace Go.Proofs.YtchnnplcpidkiaaDoor
open Go.RowKit

/-- ys laid over E from place k on. -/
def spl {α : Type} (E : List α) (k : Nat) (ys : List α) : List α := E.take k ++ (ys ++ E.drop (k + ys.length))
theorem spl_len {α : Type} (E : List α) (k : Nat) (ys : List α) (h : k + ys.length ≤ E.length) : (spl E k ys).length = E.length := by simp [spl]; omega
theorem spl_mem {α : Type} {E : List α} {k : Nat} {ys : List α} {x : α} (h : x ∈ spl E k ys) : x ∈ E ∨ x ∈ ys := by
  simp only [spl, List.mem_append] at h
  rcases h with h | h | h
  · exact .inl (List.mem_of_mem_take h)
  · exact .inr h
  · exact .inl (List.mem_of_mem_drop h)

/-- Block g holds just the elements E (of type e, sz cells each). -/
structure Blk (w : World) (g : Nat) (e : TypeId) (sz : Nat) (E : List (List Value)) : Prop where
  at_ : w.heap[g]? = some (.cells E.flatten.toArray e (0, 0))
  len : ∀ x ∈ E, x.length = sz

theorem chunk {sz : Nat} : ∀ (c : Nat) (L : List Value), L.length = c * sz → ∃ E : List (List Value), E.length = c ∧ (∀ x ∈ E, x.length = sz) ∧ E.flatten = L
  | 0, L, h => ⟨[], rfl, (fun x hx => by cases hx), by have : L = [] := List.eq_nil_of_length_eq_zero (by omega); rw [this]; rfl⟩
  | c + 1, L, h => by
    obtain ⟨E, h1, h2, h3⟩ := chunk (sz := sz) c (L.drop sz) (by rw [List.length_drop, h, Nat.add_mul]; omega)
    refine ⟨L.take sz :: E, by simp [h1], fun x hx => ?_, by rw [List.flatten_cons, h3, List.take_append_drop]⟩
    rcases List.mem_cons.1 hx with rfl | hx
    · rw [List.length_take, h, Nat.add_mul]; omega
    · exact h2 x hx

theorem flat_take {E : List (List Value)} {sz : Nat} (h : ∀ x ∈ E, x.length = sz) (k : Nat) : (E.take k).flatten = E.flatten.take (k * sz) := by
  induction E generalizing k with
  | nil => simp
  | cons x xs ih =>
    cases k with
    | zero => simp
    | succ k =>
      have hx := h x List.mem_cons_self
      have e : (k + 1) * sz = sz + k * sz := by rw [Nat.add_mul]; omega
      rw [List.take_succ_cons, List.flatten_cons, List.flatten_cons, ih (fun y hy => h y (List.mem_cons_of_mem _ hy)), List.take_append, hx, e, List.take_of_length_le (l := x) (by omega), Nat.add_sub_cancel_left]
theorem flat_drop {E : List (List Value)} {sz : Nat} (h : ∀ x ∈ E, x.length = sz) (k : Nat) : (E.drop k).flatten = E.flatten.drop (k * sz) := by
  induction E generalizing k with
  | nil => simp
  | cons x xs ih =>
    cases k with
    | zero => simp
    | succ k =>
      have hx := h x List.mem_cons_self
      have e : (k + 1) * sz = sz + k * sz := by rw [Nat.add_mul]; omega
      rw [List.drop_succ_cons, List.flatten_cons, ih (fun y hy => h y (List.mem_cons_of_mem _ hy)), List.drop_append, hx, e, List.drop_of_length_le (l := x) (by omega), List.nil_append, Nat.add_sub_cancel_left]
theorem flat_spl {E : List (List Value)} {sz : Nat} (h : ∀ x ∈ E, x.length = sz) (k : Nat) (ys : List (List Value)) (hy : ∀ x ∈ ys, x.length = sz) :
    (spl E k ys).flatten = E.flatten.take (k * sz) ++ ys.flatten ++ E.flatten.drop (k * sz + ys.flatten.length) := by
  rw [spl, List.flatten_append, List.flatten_append, flat_take h, flat_drop h, flat_len hy, Nat.add_mul, List.append_assoc]

/-- What is known of a row of the call's own that is not nil. -/
theorem Own.blk {w : World} {base : Nat} {e : TypeId} {sz : Nat} {A : Option Addr} {n c : Nat} {els : List (List Value)} (h : Own w base e sz (.slice A n c) els) :
    n = els.length ∧ ((A = none ∧ els = [] ∧ c = 0) ∨ ∃ g E, A = some ⟨g, 0, none⟩ ∧ Blk w g e sz E ∧ E.length = c ∧ E.take n = els ∧ n ≤ c ∧ base ≤ g ∧ c ≤ maxLen) := by
  obtain ⟨⟨h1, h2⟩, hl⟩ := h
  rcases h2 with ⟨h2, h0⟩ | ⟨g, cap, cur, hv, hg, hh, hn, hm, hs, ht⟩
  · cases h2
    have : els = [] := List.eq_nil_of_length_eq_zero h0
    subst this
    exact ⟨rfl, .inl ⟨rfl, rfl, rfl⟩⟩
  · cases hv
    obtain ⟨E, e1, e2, e3⟩ := chunk c cur.toList (by simpa using hs)
    refine ⟨rfl, .inr ⟨g, E, rfl, ⟨by rw [e3]; simpa using hh, e2⟩, e1, ?_, hn, hg, hm⟩⟩
    -- the first elements
    have hf : (E.take els.length).flatten = els.flatten := by rw [flat_take e2, e3, ht]
    have hlen : (E.take els.length).length = els.length := by rw [List.length_take]; omega
    have hsz : ∀ x ∈ E.take els.length, x.length = sz := fun x hx => e2 x (List.mem_of_mem_take hx)
    apply List.ext_getElem? 
    intro k
    rcases Nat.lt_or_ge k els.length with hk | hk
    · rw [List.getElem?_eq_getElem (by omega), List.getElem?_eq_getElem hk]
      congr 1
      apply List.ext_getElem (by rw [hsz _ (List.getElem_mem _), hl _ (List.getElem_mem _)])
      intro j hj hj'
      have hjs : j < sz := by rw [hsz _ (List.getElem_mem _)] at hj; exact hj
      have a1 := flat_get hsz k j hjs
      have a2 := flat_get hl k j hjs
      rw [hf, a2, List.getElem?_eq_getElem hk, List.getElem?_eq_getElem (by omega), Option.bind_some, Option.bind_some, List.getElem?_eq_getElem hj, List.getElem?_eq_getElem hj'] at a1
      exact (Option.some.inj a1).symm
    · rw [List.getElem?_eq_none (by omega), List.getElem?_eq_none hk]

theorem Blk.own {w : World} {g : Nat} {e : TypeId} {sz : Nat} {E : List (List Value)} (h : Blk w g e sz E) {base n c : Nat} (hb : base ≤ g) (hc : E.length = c) (hn : n ≤ c) (hm : c ≤ maxLen) {els : List (List Value)} (he : E.take n = els) :
    Own w base e sz (.slice (some ⟨g, 0, none⟩) n c) els := by
  subst he
  have hl : (E.take n).length = n := by rw [List.length_take]; omega
  have hsz : ∀ x ∈ E.take n, x.length = sz := fun x hx => h.len x (List.mem_of_mem_take hx)
  refine ⟨⟨flat_len hsz, .inr ⟨g, c, E.flatten.toArray, by rw [hl], hb, h.at_, by omega, hm, by rw [List.size_toArray, flat_len h.len, hc], ?_⟩⟩, hsz⟩
  rw [hl, flat_take h.len]

theorem Blk.cells {w : World} {g : Nat} {e : TypeId} {sz : Nat} {E : List (List Value)} (h : Blk w g e sz E) (k m : Nat) : ∀ j u, ((E.drop k).take m).flatten[j]? = some u → w.cell? ⟨g, k * sz + j, none⟩ = some u := by
  intro j u hu
  rw [flat_take (sz := sz) (fun x hx => h.len x (List.mem_of_mem_drop hx)), flat_drop h.len, List.getElem?_take] at hu
  split at hu
  · rw [cell_of_row w g _ _ e (0, 0) h.at_]
    rw [List.getElem?_drop] at hu
    simpa using hu
  · cases hu

theorem Blk.store {w : World} {g : Nat} {e : TypeId} {sz : Nat} {E : List (List Value)} (h : Blk w g e sz E) (k : Nat) (ys : List (List Value)) (hy : ∀ x ∈ ys, x.length = sz) :
    Blk (w.setRow g (spl E k ys).flatten.toArray) g e sz (spl E k ys) :=
  ⟨setRow_heap w g _ _ e (0, 0) h.at_, fun x hx => (spl_mem hx).elim (h.len x) (hy x)⟩

section
variable {P : Program} {w : World}

/-- Cells stored over a block, element by element. -/
theorem run_storeCells_blk {g : Nat} {e : TypeId} {sz : Nat} {E : List (List Value)} (h : Blk w g e sz E) (k : Nat) (ys : List (List Value)) (hy : ∀ x ∈ ys, x.length = sz) (h1 : ∀ x ∈ ys, ∀ u ∈ x, u.oneCell' = true) (hfit : k + ys.length ≤ E.length) :
    (storeCells ⟨g, k * sz, none⟩ ys.flatten 0).run P w = .ok () (w.setRow g (spl E k ys).flatten.toArray) := by
  have hle : k * sz + 0 + ys.flatten.length ≤ E.flatten.toArray.size := by
    rw [List.size_toArray, flat_len h.len, flat_len hy, Nat.add_zero, ← Nat.add_mul]
    exact Nat.mul_le_mul_right _ hfit
  have := run_storeCells_at P g (k * sz) e ys.flatten 0 E.flatten.toArray w h.at_ hle (fun u hu => by obtain ⟨y, hy, hu⟩ := List.mem_flatten.1 hu; exact h1 y hy u hu)
  rw [this]
  congr 3
  rw [flat_spl h.len k ys hy]
  simp

theorem add_lit (g o n : Nat) : (⟨g, o, none⟩ : Addr).add n = ⟨g, o + n, none⟩ := Addr.add_mid g o n

/-- append into a block's own room: what is appended may lie anywhere, in the block itself too. -/
theorem run_append_blk {t ty e : TypeId} {size bytes : Nat} (hel : El P t e size bytes) {g : Nat} {E : List (List Value)} (h : Blk w g e size E) (n c : Nat) (hc : E.length = c)
    (ys : List (List Value)) (hy : ∀ x ∈ ys, x.length = size) (h1 : ∀ x ∈ ys, ∀ u ∈ x, u.oneCell' = true) (ad : Addr) (m c' : Nat) (hm : ys.length = m) (hcells : ∀ j u, ys.flatten[j]? = some u → w.cell? (ad.add j) = some u) (hfit : n + m ≤ c) :
    (Builtin.append_ #[t, t] ty #[.slice (some ⟨g, 0, none⟩) n c, .slice (some ad) m c']).run P w = .ok (.slice (some ⟨g, 0, none⟩) (n + m) c) (w.setRow g (spl E n ys).flatten.toArray) := by
  obtain ⟨ht, ⟨i, z, hi, hz, hs, hb, hzs, hz1⟩, hp⟩ := hel
  subst hs
  subst hm
  have hf := run_firstCells_some (P := P) w i.size ys.length ad ys.length c' ys.flatten (flat_len hy) hcells
  have hst := run_storeCells_blk (P := P) h n ys hy h1 (by omega)
  simp [Builtin.append_, run_underlying ht, sizeOf, typeInfo, hi, Builtin.lenOf, hfit, hf, add_lit, hst]

/-- copy into a block. -/
theorem run_copy_blk {t st ty e : TypeId} {size bytes : Nat} (hel : El P t e size bytes) {g : Nat} {E : List (List Value)} (h : Blk w g e size E) (k dl dc : Nat)
    (ys : List (List Value)) (hy : ∀ x ∈ ys, x.length = size) (h1 : ∀ x ∈ ys, ∀ u ∈ x, u.oneCell' = true) (ad : Addr) (m c' : Nat) (hm : ys.length = Nat.min m dl) (hcells : ∀ j u, ys.flatten[j]? = some u → w.cell? (ad.add j) = some u) (hfit : k + ys.length ≤ E.length) :
    (Builtin.copy_ #[t, st] ty #[.slice (some ⟨g, k * size, none⟩) dl dc, .slice (some ad) m c']).run P w = .ok (goInt ys.length) (w.setRow g (spl E k ys).flatten.toArray) := by
  obtain ⟨ht, ⟨i, z, hi, hz, hs, hb, hzs, hz1⟩, hp⟩ := hel
  subst hs
  have hf := run_firstCells_some (P := P) w i.size ys.length ad m c' ys.flatten (flat_len hy) hcells
  have hst := run_storeCells_blk (P := P) h k ys hy h1 hfit
  rw [hm] at hf
  simp [Builtin.copy_, run_underlying ht, sizeOf, typeInfo, hi, Builtin.lenOf, hf, hst, hm]

/-- clear over a part of a block. -/
theorem run_clear_blk {t ty e : TypeId} {size bytes : Nat} (hel : El P t e size bytes) {g : Nat} {E : List (List Value)} (h : Blk w g e size E) (k m c' : Nat) (hm : 0 < m) (hfit : k + m ≤ E.length) :
    ∃ ys : List (List Value), ys.length = m ∧ (∀ x ∈ ys, x.length = size) ∧ (Builtin.clear_ #[t] ty #[.slice (some ⟨g, k * size, none⟩) m c']).run P w = .ok (.tuple #[]) (w.setRow g (spl E k ys).flatten.toArray) := by
  obtain ⟨ht, ⟨i, z, hi, hz, hs, hb, hzs, hz1⟩, hp⟩ := hel
  subst hs
  obtain ⟨ys, e1, e2, e3⟩ := chunk (sz := i.size) m (Builtin.zeroCells z.cells m).toList (by simp [size_zeroCells, hzs])
  refine ⟨ys, e1, e2, ?_⟩
  have hst := run_storeCells_blk (P := P) h k ys e2 (fun x hx u hu => ?_) (by omega)
  · rw [e3] at hst
    obtain ⟨m, rfl⟩ : ∃ j, m = j + 1 := ⟨m - 1, by omega⟩
    simp [Builtin.clear_, run_underlying ht, zeroValue, typeInfo, hi, hz, hst]
  · have hu' : u ∈ (Builtin.zeroCells z.cells m).toList := by rw [← e3]; exact List.mem_flatten.2 ⟨x, hx, hu⟩
    simp only [Builtin.zeroCells, Array.toList_map, List.mem_map] at hu'
    obtain ⟨j, _, rfl⟩ := hu'
    have hj : j % z.cells.size < z.cells.size := Nat.mod_lt _ (by rw [hzs]; exact hp)
    rw [getElem!_pos z.cells _ hj]
    exact (Array.all_eq_true_iff_forall_mem.1 hz1) _ (Array.getElem_mem hj)
end

section
variable {P : Program} {ops : Array Oper} {rest : List Oper} {op : Oper} {a : Act} {w w' : World} {K : Act → World → Prop} {Q : Exit → Act → World → Prop} {E : Prop}
theorem wp_app (s x : Operand) (t t' : TypeId) (ho : op.op = .call { callee := .builtin .append, args := #[s, x], argTypes := #[t, t'] }) (v u : Value) (hs : a.eval s = v) (hx : a.eval x = u) (r : Value)
    (hrun : (Builtin.append_ #[t, t'] op.type #[v, u]).run P w = .ok r w') (h : K (a.put op.dst r) w') : op.wp P a w K Q := by
  unfold Oper.wp execOp
  simp only [ho, resolve, invoke, builtin, Sem.run_bind, Sem.run_pure, Result.andThen_ok, List.map_toArray, List.map_cons, List.map_nil, hs, hx, hrun]
  exact h
theorem list_app (hw : Region.wanted op (yielded ops a.tmps) = true) (s x : Operand) (t t' : TypeId) (ho : op.op = .call { callee := .builtin .append, args := #[s, x], argTypes := #[t, t'] }) (v u : Value) (hs : a.eval s = v) (hx : a.eval x = u) (r : Value)
    (hrun : (Builtin.append_ #[t, t'] op.type #[v, u]).run P w = .ok r w') (h : wpList P ops Q rest (a.put op.dst r) w') : wpList P ops Q (op :: rest) a w :=
  wpList_do hw fun _ hK => wp_app s x t t' ho v u hs hx r hrun (hK _ _ h)
theorem step_app (hw : Region.wanted op (yielded ops a.tmps) = true) (s x : Operand) (t t' : TypeId) (ho : op.op = .call { callee := .builtin .append, args := #[s, x], argTypes := #[t, t'] }) (v u : Value) (hs : a.eval s = v) (hx : a.eval x = u) (r : Value)
    (hrun : (Builtin.append_ #[t, t'] op.type #[v, u]).run P w = .ok r w') (h : K (a.put op.dst r) w') : if Region.wanted op (yielded ops a.tmps) = true then Oper.wp P op a w K Q else E := by
  rw [if_pos hw]
  exact wp_app s x t t' ho v u hs hx r hrun h
theorem wp_cpy (s x : Operand) (t t' : TypeId) (ho : op.op = .call { callee := .builtin .copy, args := #[s, x], argTypes := #[t, t'] }) (v u : Value) (hs : a.eval s = v) (hx : a.eval x = u) (r : Value)
    (hrun : (Builtin.copy_ #[t, t'] op.type #[v, u]).run P w = .ok r w') (h : K (a.put op.dst r) w') : op.wp P a w K Q := by
  unfold Oper.wp execOp
  simp only [ho, resolve, invoke, builtin, Sem.run_bind, Sem.run_pure, Result.andThen_ok, List.map_toArray, List.map_cons, List.map_nil, hs, hx, hrun]
  exact h
theorem list_cpy (hw : Region.wanted op (yielded ops a.tmps) = true) (s x : Operand) (t t' : TypeId) (ho : op.op = .call { callee := .builtin .copy, args := #[s, x], argTypes := #[t, t'] }) (v u : Value) (hs : a.eval s = v) (hx : a.eval x = u) (r : Value)
    (hrun : (Builtin.copy_ #[t, t'] op.type #[v, u]).run P w = .ok r w') (h : wpList P ops Q rest (a.put op.dst r) w') : wpList P ops Q (op :: rest) a w :=
  wpList_do hw fun _ hK => wp_cpy s x t t' ho v u hs hx r hrun (hK _ _ h)
theorem step_cpy (hw : Region.wanted op (yielded ops a.tmps) = true) (s x : Operand) (t t' : TypeId) (ho : op.op = .call { callee := .builtin .copy, args := #[s, x], argTypes := #[t, t'] }) (v u : Value) (hs : a.eval s = v) (hx : a.eval x = u) (r : Value)
    (hrun : (Builtin.copy_ #[t, t'] op.type #[v, u]).run P w = .ok r w') (h : K (a.put op.dst r) w') : if Region.wanted op (yielded ops a.tmps) = true then Oper.wp P op a w K Q else E := by
  rw [if_pos hw]
  exact wp_cpy s x t t' ho v u hs hx r hrun h
theorem wp_clr (s : Operand) (t : TypeId) (ho : op.op = .call { callee := .builtin .clear, args := #[s], argTypes := #[t] }) (v : Value) (hs : a.eval s = v) (r : Value)
    (hrun : (Builtin.clear_ #[t] op.type #[v]).run P w = .ok r w') (h : K (a.put op.dst r) w') : op.wp P a w K Q := by
  unfold Oper.wp execOp
  simp only [ho, resolve, invoke, builtin, Sem.run_bind, Sem.run_pure, Result.andThen_ok, List.map_toArray, List.map_cons, List.map_nil, hs, hrun]
  exact h
theorem list_clr (hw : Region.wanted op (yielded ops a.tmps) = true) (s : Operand) (t : TypeId) (ho : op.op = .call { callee := .builtin .clear, args := #[s], argTypes := #[t] }) (v : Value) (hs : a.eval s = v) (r : Value)
    (hrun : (Builtin.clear_ #[t] op.type #[v]).run P w = .ok r w') (h : wpList P ops Q rest (a.put op.dst r) w') : wpList P ops Q (op :: rest) a w :=
  wpList_do hw fun _ hK => wp_clr s t ho v hs r hrun (hK _ _ h)
theorem step_clr (hw : Region.wanted op (yielded ops a.tmps) = true) (s : Operand) (t : TypeId) (ho : op.op = .call { callee := .builtin .clear, args := #[s], argTypes := #[t] }) (v : Value) (hs : a.eval s = v) (r : Value)
    (hrun : (Builtin.clear_ #[t] op.type #[v]).run P w = .ok r w') (h : K (a.put op.dst r) w') : if Region.wanted op (yielded ops a.tmps) = true then Oper.wp P op a w K Q else E := by
  rw [if_pos hw]
  exact wp_clr s t ho v hs r hrun h
end

end Go.Proofs.YtchnnplcpidkiaaDoor
