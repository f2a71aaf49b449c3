/-
  Rows that a call itself made, as lists of elements; append onto them, whatever row is appended.
-/
import Derived.Test.YtchnnplcpidkiaaDoorBase
import Derived.Laws.AppendOwnNone
import Derived.Laws.CopyOwn
namespace Go.Proofs.YtchnnplcpidkiaaDoor
open Go.RowKit

theorem flat_len {els : List (List Value)} {sz : Nat} (h : ∀ e ∈ els, e.length = sz) : els.flatten.length = els.length * sz := by
  induction els with
  | nil => simp
  | cons x xs ih =>
    rw [List.flatten_cons, List.length_append, ih (fun e he => h e (List.mem_cons_of_mem _ he)), h x List.mem_cons_self, List.length_cons, Nat.add_mul]
    omega

theorem flat_get {els : List (List Value)} {sz : Nat} (h : ∀ e ∈ els, e.length = sz) (k j : Nat) (hj : j < sz) : els.flatten[k * sz + j]? = (els[k]?).bind (fun e => e[j]?) := by
  induction els generalizing k with
  | nil => simp
  | cons x xs ih =>
    have hx := h x List.mem_cons_self
    rw [List.flatten_cons]
    cases k with
    | zero =>
      rw [List.getElem?_append_left (by omega)]
      simp
    | succ k =>
      rw [List.getElem?_append_right (by rw [hx, Nat.add_mul]; omega)]
      have e1 : (k + 1) * sz + j - x.length = k * sz + j := by rw [hx, Nat.add_mul]; omega
      rw [e1, ih (fun e he => h e (List.mem_cons_of_mem _ he))]
      simp

theorem flat_at {els : List (List Value)} {sz : Nat} (h : ∀ e ∈ els, e.length = sz) {i : Nat} {u : Value} (hu : els.flatten[i]? = some u) :
    ∃ k j e, i = k * sz + j ∧ j < sz ∧ els[k]? = some e ∧ e[j]? = some u := by
  have hi : i < els.length * sz := by rw [← flat_len h]; exact (List.getElem?_eq_some_iff.1 hu).1
  have hs : 0 < sz := by
    rcases Nat.eq_zero_or_pos sz with h0 | h0
    · subst h0; simp at hi
    · exact h0
  have hd : i = i / sz * sz + i % sz := by rw [Nat.mul_comm]; exact (Nat.div_add_mod i sz).symm
  have hm : i % sz < sz := Nat.mod_lt _ hs
  rw [hd, flat_get h _ _ hm] at hu
  cases he : els[i / sz]? with
  | none => rw [he] at hu; simp at hu
  | some e => rw [he] at hu; exact ⟨i / sz, i % sz, e, hd, hm, he, hu⟩

theorem Row.news {w : World} {T : TypeId → Prop} {sz : Nat} {ad : Addr} {els : List (List Value)} (h : Row w T sz (some ad) els) (hl : ∀ e ∈ els, e.length = sz) :
    ∀ j u, els.flatten[j]? = some u → w.cell? (ad.add j) = some u := by
  intro i u hu
  obtain ⟨k, j, e, rfl, hj, he, hu'⟩ := flat_at hl hu
  obtain ⟨b, off, hA, hb, hc⟩ := h.range he
  cases hA
  have := hc j u hu'
  rw [Addr.add_mid, ← Nat.add_assoc]
  exact this

/-- A slice value of the call's own: it begins at the head of a block (number from base on, element type e) whose first cells are the elements. -/
def Own (w : World) (base : Nat) (e : TypeId) (sz : Nat) (v : Value) (els : List (List Value)) : Prop :=
  w.ownsRow base e sz v els.length els.flatten ∧ ∀ x ∈ els, x.length = sz

theorem Own.row {w : World} {base : Nat} {e : TypeId} {sz : Nat} {v : Value} {els : List (List Value)} (h : Own w base e sz v els) :
    ∃ A c, v = .slice A els.length c ∧ els.length ≤ c ∧ Row w (fun t => t = e) sz A els := by
  obtain ⟨⟨_, h2⟩, hl⟩ := h
  rcases h2 with ⟨rfl, h0⟩ | ⟨g, cap, cur, rfl, hg, hh, hn, hm, hs, ht⟩
  · have : els = [] := List.eq_nil_of_length_eq_zero h0
    subst this
    exact ⟨none, 0, rfl, Nat.le_refl _, Row.nil _ _ _ _⟩
  · refine ⟨_, cap, rfl, hn, fun k x hx => ⟨g, 0, e, cur, (0, 0), rfl, hh, rfl, fun j u hu => ?_⟩⟩
    have hj : j < sz := by
      have := (List.getElem?_eq_some_iff.1 hu).1
      rw [hl x (List.mem_of_getElem? hx)] at this
      exact this
    have hf := flat_get hl k j hj
    rw [hx, Option.bind_some, hu, ← ht, List.getElem?_take] at hf
    split at hf
    · rw [Nat.zero_add]; simpa using hf
    · cases hf

theorem Own.base_le {w : World} {base : Nat} {e : TypeId} {sz : Nat} {v : Value} {els : List (List Value)} (h : Own w base e sz v els) : ∀ k, v.ownBlock = some k → base ≤ k ∧ k < w.heap.size :=
  World.ownsRow.lt h.1

theorem Own.typed {w : World} {base : Nat} {e : TypeId} {sz : Nat} {v : Value} {els : List (List Value)} (h : Own w base e sz v els) (k : Nat) (hk : v.ownBlock = some k) : ∃ cells, w.heap[k]? = some (.cells cells e (0, 0)) := by
  rcases h.1.2 with ⟨rfl, _⟩ | ⟨g, cap, cur, rfl, hg, hh, r⟩
  · simp [Value.ownBlock] at hk
  · have : g = k := by simpa [Value.ownBlock] using hk
    subst this
    exact ⟨cur, hh⟩

theorem Own.keep {w w' : World} {base : Nat} {e : TypeId} {sz : Nat} {v : Value} {els : List (List Value)} (h : Own w base e sz v els) (hm : ∀ k, v.ownBlock = some k → w'.heap[k]? = w.heap[k]?) : Own w' base e sz v els := by
  refine ⟨⟨h.1.1, ?_⟩, h.2⟩
  rcases h.1.2 with h2 | ⟨g, cap, cur, rfl, hg, hh, r⟩
  · exact .inl h2
  · exact .inr ⟨g, cap, cur, rfl, hg, (hm g (by simp [Value.ownBlock])).trans hh, r⟩

theorem Own.below {w w' : World} {base : Nat} {e : TypeId} {sz : Nat} {v : Value} {els : List (List Value)} (h : Own w base e sz v els) (hb : Below w.heap.size w w') : Own w' base e sz v els :=
  h.keep fun k hk => hb.block k (h.base_le k hk).2

theorem Own.lower {w : World} {base base' : Nat} {e : TypeId} {sz : Nat} {v : Value} {els : List (List Value)} (h : Own w base e sz v els) (hb : base' ≤ base) : Own w base' e sz v els := by
  refine ⟨⟨h.1.1, ?_⟩, h.2⟩
  rcases h.1.2 with h2 | ⟨g, cap, cur, rfl, hg, r⟩
  · exact .inl h2
  · exact .inr ⟨g, cap, cur, rfl, Nat.le_trans hb hg, r⟩

theorem Own.nil (w : World) (base : Nat) (e : TypeId) (sz : Nat) : Own w base e sz (.slice none 0 0) [] := ⟨World.ownsRow_nil w base e sz, fun _ h => by cases h⟩

/-- The element type's row of the program's table. -/
structure El (P : Program) (t e : TypeId) (size bytes : Nat) : Prop where
  ht : P.underlying t = some (.slice e)
  ex : ∃ i z, P.info? e = some i ∧ i.zero = some z ∧ i.size = size ∧ i.bytes = bytes ∧ z.cells.size = size ∧ z.cells.all (·.oneCell') = true
  pos : 0 < size

theorem el_mk {P : Program} {t e : TypeId} {size bytes : Nat} (z : Value) (ht : P.underlying t = some (.slice e)) (h : (P.info? e).map (fun i => (i.zero, i.size, i.bytes)) = some (some z, size, bytes)) (hz : z.cells.size = size) (ho : z.cells.all (·.oneCell') = true) (hp : 0 < size) : El P t e size bytes := by
  obtain ⟨i, hi, h1, h2, h3⟩ := info_parts h
  exact ⟨ht, ⟨i, z, hi, h1, h2, h3, hz, ho⟩, hp⟩

section
variable {P : Program} {w : World}

theorem run_append_none (base : Nat) (t ty e : TypeId) (i : TypeInfo) (size : Nat) (ht : P.underlying t = some (.slice e)) (hi : P.info? e = some i)
    (v : Value) (n c : Nat) (xs : List Value) (hown : w.ownsRow base e size v n xs) :
    (Builtin.append_ #[t, t] ty #[v, .slice none 0 c]).run P w = .ok v w := by
  rcases hown.2 with ⟨rfl, rfl⟩ | ⟨g, cap, cur, rfl, _, _, hnc, _⟩
  · simp [Builtin.append_, run_underlying ht, sizeOf, typeInfo, hi, Builtin.lenOf, Builtin.firstCells]
  · simp [Builtin.append_, run_underlying ht, sizeOf, typeInfo, hi, Builtin.lenOf, Builtin.firstCells, hnc, storeCells]

/-- append onto a row of the call's own, whatever row is appended. -/
theorem run_appendOwn (base : Nat) (t ty e : TypeId) (size bytes : Nat) (hel : El P t e size bytes) (v : Value) (xs ys : List (List Value)) (hown : Own w base e size v xs)
    (A : Option Addr) (c : Nat) (T : TypeId → Prop) (hrow : Row w T size A ys) (hl : ∀ y ∈ ys, y.length = size) (h1 : ∀ y ∈ ys, ∀ u ∈ y, u.oneCell' = true)
    (h63 : xs.length + ys.length ≤ maxLen) (hbytes : (xs.length + ys.length) * bytes ≤ 140737488355328) (hbase : base ≤ w.heap.size) :
    ∃ v' w', (Builtin.append_ #[t, t] ty #[v, .slice A ys.length c]).run P w = .ok v' w' ∧ Own w' base e size v' (xs ++ ys) ∧ w.grownBy w' v.ownBlock ∧ (v' = .slice none 0 0 ↔ v = .slice none 0 0 ∧ ys = []) := by
  obtain ⟨ht, ⟨i, z, hi, hz, hs, hb, hzs, _⟩, hp⟩ := hel
  cases A with
  | none =>
    have hy : ys = [] := by
      cases ys with
      | nil => rfl
      | cons y r =>
        obtain ⟨b, off, hA, _⟩ := hrow.range (k := 0) (e := y) rfl
        cases hA
    subst hy
    refine ⟨v, w, run_append_none base t ty e i size ht hi v _ c _ hown.1, ?_, World.grownBy.refl w _, by simp⟩
    rw [List.append_nil]; exact hown
  | some ad =>
    obtain ⟨v', w', hr, ho, hg, hn⟩ := run_append_own (P := P) w base t ty e i z size bytes ht hi hz hs hb hzs hp v xs.length xs.flatten hown.1 ad ys.length c ys.flatten (flat_len hl) (hrow.news hl)
      (fun u hu => by obtain ⟨y, hy, hu⟩ := List.mem_flatten.1 hu; exact h1 y hy u hu) h63 hbytes hbase
    refine ⟨v', w', hr, ⟨by rw [List.length_append, List.flatten_append]; exact ho, fun x hx => ?_⟩, hg, by rw [hn, List.length_eq_zero_iff]⟩
    rcases List.mem_append.1 hx with hx | hx
    · exact hown.2 x hx
    · exact hl x hx

theorem appendOwn {ops : Array Oper} {rest : List Oper} {op : Oper} {a : Act} {Q : Exit → Act → World → Prop} (hw : Region.wanted op (yielded ops a.tmps) = true) (s x : Operand) (t : TypeId)
    (ho : op.op = .call { callee := .builtin .append, args := #[s, x], argTypes := #[t, t] })
    (base : Nat) (e : TypeId) (size bytes : Nat) (hel : El P t e size bytes) (v : Value) (xs ys : List (List Value)) (hs : a.eval s = v) (hown : Own w base e size v xs)
    (A : Option Addr) (n c : Nat) (hx : a.eval x = .slice A n c) (hn : ys.length = n) (T : TypeId → Prop) (hrow : Row w T size A ys) (hl : ∀ y ∈ ys, y.length = size) (h1 : ∀ y ∈ ys, ∀ u ∈ y, u.oneCell' = true)
    (h63 : xs.length + ys.length ≤ maxLen) (hbytes : (xs.length + ys.length) * bytes ≤ 140737488355328) (hbase : base ≤ w.heap.size)
    (h : ∀ v' w', Own w' base e size v' (xs ++ ys) → w.grownBy w' v.ownBlock → (v' = .slice none 0 0 ↔ v = .slice none 0 0 ∧ ys = []) → wpList P ops Q rest (a.put op.dst v') w') : wpList P ops Q (op :: rest) a w := by
  subst hn
  obtain ⟨v', w', hr, h2, h3, h4⟩ := run_appendOwn (P := P) base t op.type e size bytes hel v xs ys hown A c T hrow hl h1 h63 hbytes hbase
  refine wpList_do hw fun K hK => ?_
  unfold Oper.wp execOp
  simp only [ho, resolve, invoke, builtin, Sem.run_bind, Sem.run_pure, Result.andThen_ok, List.map_toArray, List.map_cons, List.map_nil, hs, hx, hr]
  exact hK _ _ (h v' w' h2 h3 h4)

/-- What 'buildSlice' of so many elements makes. -/
theorem own_lit (w : World) (base : Nat) (e : TypeId) (sz n : Nat) (els : List (List Value)) (cs : Array Value) (hb : base ≤ w.heap.size) (hn : n = els.length) (hm : els.length ≤ maxLen) (hl : ∀ x ∈ els, x.length = sz) (hc : cs = els.flatten.toArray) :
    Own (w.alloc (.cells cs e)) base e sz (.slice (some ⟨w.heap.size, 0, none⟩) n n) els := by
  subst hn
  subst hc
  refine ⟨⟨flat_len hl, .inr ⟨w.heap.size, els.length, els.flatten.toArray, rfl, hb, heap_alloc_new w _, Nat.le_refl _, hm, ?_, ?_⟩⟩, hl⟩
  · simp only [List.size_toArray]; exact flat_len hl
  · rw [← flat_len hl]; exact List.take_length
end

theorem el42 : El Tryd.prog 22 42 2 32 := el_mk (.agg #[.string ByteArray.empty, .string ByteArray.empty]) Tryd.underlying22 (by kernel_rfl) rfl (by kernel_rfl) (by decide)
theorem el36 : El Tryd.prog 23 36 4 48 := el_mk (.agg #[.int .i64 0, .int .i64 0, .int .i64 0, .slice none 0 0]) Tryd.underlying23 (by kernel_rfl) rfl (by kernel_rfl) (by decide)
theorem el9 : El Tryd.prog 34 9 1 16 := el_mk (.string ByteArray.empty) Tryd.underlying34 (by kernel_rfl) rfl (by kernel_rfl) (by decide)
def mb0 : Mb := ⟨0, Vector.replicate 32 0, 0⟩
theorem el84 : El Tryd.prog 24 84 34 48 := el_mk (.agg mb0.arr) Tryd.underlying24 (by kernel_rfl) (Mb.arrSize _) (by kernel_rfl) (by decide)

end Go.Proofs.YtchnnplcpidkiaaDoor
