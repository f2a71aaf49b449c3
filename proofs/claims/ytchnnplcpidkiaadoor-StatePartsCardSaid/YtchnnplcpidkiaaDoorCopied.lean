/-
  The contract of state.copied: a registry that shares nothing.
-/
import Derived.Test.YtchnnplcpidkiaaDoorNew
import Derived.Test.YtchnnplcpidkiaaDoorBsM
import Derived.Test.YtchnnplcpidkiaaDoorAt
namespace Go.Proofs.YtchnnplcpidkiaaDoor
open Go.RowKit

theorem Row.grown {w w' : World} {T : TypeId → Prop} {sz : Nat} {A : Option Addr} {els : List (List Value)} {row : Option Nat} (h : Row w T sz A els) (hg : w.grownBy w' row)
    (hne : ∀ (k : Nat) (cs : Array Value) (t : TypeId) (fz : Nat × Nat), row = some k → w.heap[k]? = some (Obj.cells cs t fz) → ¬ T t) : Row w' T sz A els :=
  Row.keep h fun b cs t fz hb hT => hg.block b (heap_lt hb) fun e => hne b cs t fz e.symm hb hT
theorem RepC.grown {w w' : World} {T : TypeId → Prop} {e : List Value} {r : Rp} {row : Option Nat} (h : RepC w T e r) (hg : w.grownBy w' row)
    (hne : ∀ (k : Nat) (cs : Array Value) (t : TypeId) (fz : Nat × Nat), row = some k → w.heap[k]? = some (Obj.cells cs t fz) → ¬ T t) : RepC w' T e r := by
  obtain ⟨Av, cv, h1, h2, h3⟩ := h
  exact ⟨Av, cv, h1, h2, h3.grown hg hne⟩

/-- A row of replies of the call's own, whose values lie in blocks of strings. -/
def OwnReps (w : World) (base : Nat) (v : Value) (rs : List Rp) : Prop :=
  ∃ els, Own w base 36 4 v els ∧ els.length = rs.length ∧ ∀ (k : Nat) (e : List Value) (r : Rp), els[k]? = some e → rs[k]? = some r → RepC w (fun t => t = 9) e r

theorem OwnReps.nil (w : World) (base : Nat) : OwnReps w base (.slice none 0 0) [] := ⟨[], Own.nil _ _ _ _, rfl, fun k e r h => by simp at h⟩
theorem OwnReps.below {w w' : World} {base : Nat} {v : Value} {rs : List Rp} (h : OwnReps w base v rs) (hb : Below w.heap.size w w') : OwnReps w' base v rs := by
  obtain ⟨els, h1, h2, h3⟩ := h
  exact ⟨els, h1.below hb, h2, fun k e r he hr => (h3 k e r he hr).below hb⟩
theorem OwnReps.lower {w : World} {base base' : Nat} {v : Value} {rs : List Rp} (h : OwnReps w base v rs) (hb : base' ≤ base) : OwnReps w base' v rs := by
  obtain ⟨els, h1, h2, h3⟩ := h
  exact ⟨els, h1.lower hb, h2, h3⟩
theorem OwnReps.reps {w : World} {base : Nat} {v : Value} {rs : List Rp} (h : OwnReps w base v rs) : ∃ A c, v = .slice A rs.length c ∧ rs.length ≤ c ∧ Reps w (fun t => t = 36) (fun t => t = 9) A rs := by
  obtain ⟨els, h1, h2, h3⟩ := h
  obtain ⟨A, c, hv, hc, hr⟩ := h1.row
  rw [h2] at hv hc
  exact ⟨A, c, hv, hc, els, h2, hr, h3⟩
theorem OwnReps.typed {w : World} {base : Nat} {v : Value} {rs : List Rp} (h : OwnReps w base v rs) (k : Nat) (hk : v.ownBlock = some k) : ∃ cells, w.heap[k]? = some (.cells cells 36 (0, 0)) := by
  obtain ⟨els, h1, _⟩ := h
  exact h1.typed k hk

theorem Own.ne_type {w : World} {base : Nat} {e : TypeId} {sz : Nat} {v : Value} {els : List (List Value)} (h : Own w base e sz v els) {t' : TypeId} (hne : e ≠ t') :
    ∀ (k : Nat) (cs : Array Value) (t : TypeId) (fz : Nat × Nat), v.ownBlock = some k → w.heap[k]? = some (Obj.cells cs t fz) → ¬ t = t' := by
  intro k cs t fz hk hb ht
  obtain ⟨cells, hc⟩ := h.typed k hk
  rw [hb] at hc
  injection hc with hc
  injection hc with _ hc
  exact hne (hc.symm.trans ht)

/-- One reply more behind the row. -/
theorem OwnReps.push {w w' : World} {base : Nat} {v v' : Value} {rs : List Rp} {els : List (List Value)} {e : List Value} {r : Rp} (h1 : Own w base 36 4 v els) (h2 : els.length = rs.length)
    (h3 : ∀ (k : Nat) (e : List Value) (r : Rp), els[k]? = some e → rs[k]? = some r → RepC w (fun t => t = 9) e r) (hr : RepC w (fun t => t = 9) e r)
    (ho : Own w' base 36 4 v' (els ++ [e])) (hg : w.grownBy w' v.ownBlock) : OwnReps w' base v' (rs ++ [r]) := by
  have hne := h1.ne_type (t' := 9) (by decide)
  refine ⟨els ++ [e], ho, by simp [h2], fun k x y hx hy => ?_⟩
  rcases Nat.lt_or_ge k els.length with hk | hk
  · rw [List.getElem?_append_left hk] at hx
    rw [List.getElem?_append_left (by omega)] at hy
    exact (h3 k x y hx hy).grown hg hne
  · rw [List.getElem?_append_right hk] at hx
    rw [List.getElem?_append_right (by omega), ← h2] at hy
    cases hd : k - els.length with
    | zero =>
      rw [hd] at hx hy
      simp at hx hy
      subst hx; subst hy
      exact hr.grown hg hne
    | succ n => rw [hd] at hx; simp at hx

/-- A registry whose three rows are the call's own. -/
structure OwnSt (w : World) (base : Nat) (v : Value) (s : St) : Prop where
  ex : ∃ Ap cp Ar cr Am cm, v = .agg #[.slice Ap s.pairs.length cp, .slice Ar s.reps.length cr, .int .i64 s.epoch, .slice Am s.mbs.length cm] ∧ s.pairs.length ≤ cp ∧ s.reps.length ≤ cr ∧ s.mbs.length ≤ cm ∧
    Own w base 42 2 (.slice Ap s.pairs.length cp) (s.pairs.map Pr.cells) ∧ OwnReps w base (.slice Ar s.reps.length cr) s.reps ∧ Own w base 84 34 (.slice Am s.mbs.length cm) (s.mbs.map Mb.cells)

theorem pr_len {ps : List Pr} : ∀ y ∈ ps.map Pr.cells, y.length = 2 := fun y h => by
  obtain ⟨m, _, rfl⟩ := List.mem_map.1 h; rfl
theorem pr_one {ps : List Pr} : ∀ y ∈ ps.map Pr.cells, ∀ u ∈ y, u.oneCell' = true := fun y h u hu => by
  obtain ⟨m, _, rfl⟩ := List.mem_map.1 h
  simp only [Pr.cells, List.mem_cons, List.not_mem_nil, or_false] at hu
  rcases hu with rfl | rfl <;> rfl
theorem st_len {ss : List ByteArray} : ∀ y ∈ ss.map strC, y.length = 1 := fun y h => by
  obtain ⟨m, _, rfl⟩ := List.mem_map.1 h; rfl
theorem st_one {ss : List ByteArray} : ∀ y ∈ ss.map strC, ∀ u ∈ y, u.oneCell' = true := fun y h u hu => by
  obtain ⟨m, _, rfl⟩ := List.mem_map.1 h
  simp only [strC, List.mem_cons, List.not_mem_nil, or_false] at hu
  rcases hu with rfl; rfl

/-! ### a store into a block of another type -/
theorem Row.set {w : World} {T : TypeId → Prop} {sz : Nat} {A : Option Addr} {els : List (List Value)} (h : Row w T sz A els) {g t : Nat} {cs : Array Value} {fz : Nat × Nat} (hb : w.heap[g]? = some (.cells cs t fz)) (hT : ¬ T t) (j : Nat) (u : Value) :
    Row (w.setCell ⟨g, j, none⟩ u) T sz A els :=
  Row.keep h fun b cs' t' fz' hb' hT' => Below.heap_setCell w ⟨g, j, none⟩ u b fun e => by
    have e' : b = g := e
    subst e'
    rw [hb] at hb'
    injection hb' with hb'
    injection hb' with _ hb'
    exact hT (hb' ▸ hT')
theorem RepC.set {w : World} {T : TypeId → Prop} {e : List Value} {r : Rp} (h : RepC w T e r) {g t : Nat} {cs : Array Value} {fz : Nat × Nat} (hb : w.heap[g]? = some (.cells cs t fz)) (hT : ¬ T t) (j : Nat) (u : Value) :
    RepC (w.setCell ⟨g, j, none⟩ u) T e r := by
  obtain ⟨Av, cv, h1, h2, h3⟩ := h
  exact ⟨Av, cv, h1, h2, h3.set hb hT j u⟩
theorem Own.set {w : World} {base : Nat} {e : TypeId} {sz : Nat} {v : Value} {els : List (List Value)} (h : Own w base e sz v els) {g t : Nat} {cs : Array Value} {fz : Nat × Nat} (hb : w.heap[g]? = some (.cells cs t fz)) (hT : t ≠ e) (j : Nat) (u : Value) :
    Own (w.setCell ⟨g, j, none⟩ u) base e sz v els :=
  h.keep fun k hk => Below.heap_setCell w ⟨g, j, none⟩ u k fun e' => h.ne_type (t' := t) (Ne.symm hT) k cs t fz hk (by have e'' : k = g := e'; rw [e'']; exact hb) rfl
theorem OwnReps.set {w : World} {base : Nat} {v : Value} {rs : List Rp} (h : OwnReps w base v rs) {g t : Nat} {cs : Array Value} {fz : Nat × Nat} (hb : w.heap[g]? = some (.cells cs t fz)) (hT : t ≠ 36) (hT' : t ≠ 9) (j : Nat) (u : Value) :
    OwnReps (w.setCell ⟨g, j, none⟩ u) base v rs := by
  obtain ⟨els, h1, h2, h3⟩ := h
  exact ⟨els, h1.set hb hT j u, h2, fun k e r he hr => (h3 k e r he hr).set hb hT' j u⟩
theorem Own.grown {w w' : World} {base : Nat} {e : TypeId} {sz : Nat} {v : Value} {els : List (List Value)} (h : Own w base e sz v els) {row : Option Nat} (hg : w.grownBy w' row)
    (hne : ∀ k, row = some k → ∃ cs t fz, w.heap[k]? = some (Obj.cells cs t fz) ∧ t ≠ e) : Own w' base e sz v els :=
  h.keep fun k hk => hg.block k (h.base_le k hk).2 fun e' => by
    obtain ⟨cs, t, fz, hb, ht⟩ := hne k e'.symm
    exact h.ne_type (Ne.symm ht) k cs t fz hk hb rfl
theorem blk_set {w : World} {g t : Nat} {cs : Array Value} {fz : Nat × Nat} (hb : w.heap[g]? = some (.cells cs t fz)) (j : Nat) (u : Value) : (w.setCell ⟨g, j, none⟩ u).heap[g]? = some (.cells (cs.setIfInBounds j u) t fz) := by
  rw [setCell_eq_setRow w g j cs t fz u hb]
  exact setRow_heap w g cs _ t fz hb
theorem blk_set_other {w : World} {g g' : Nat} {o : Obj} (hb : w.heap[g]? = some o) (h : g ≠ g') (j : Nat) (u : Value) : (w.setCell ⟨g', j, none⟩ u).heap[g]? = some o := by
  rw [Below.heap_setCell w ⟨g', j, none⟩ u g h]
  exact hb
theorem blk_grown {w w' : World} {row : Option Nat} (hg : w.grownBy w' row) {g : Nat} {o : Obj} (hb : w.heap[g]? = some o) (h : row ≠ some g) : w'.heap[g]? = some o :=
  (hg.block g (heap_lt hb) (Ne.symm h)).trans hb

theorem row_lit (w : World) (e : TypeId) (sz : Nat) (els : List (List Value)) (cs : Array Value) (hl : ∀ x ∈ els, x.length = sz) (hc : cs = els.flatten.toArray) :
    Row (w.alloc (.cells cs e)) (fun t => t = e) sz (some ⟨w.heap.size, 0, none⟩) els := fun k x hx =>
  ⟨w.heap.size, 0, e, cs, (0, 0), rfl, heap_alloc_new w _, rfl, fun j u hu => by
    have hj : j < sz := by
      have := (List.getElem?_eq_some_iff.1 hu).1
      rw [hl x (List.mem_of_getElem? hx)] at this
      exact this
    have hf := flat_get hl k j hj
    rw [hx, Option.bind_some, hu] at hf
    subst hc
    simpa using hf⟩

theorem Own.rowOf {w : World} {base : Nat} {e : TypeId} {sz : Nat} {A : Option Addr} {n c : Nat} {els : List (List Value)} (h : Own w base e sz (.slice A n c) els) : Row w (fun t => t = e) sz A els := by
  obtain ⟨A', c', hv, _, hr⟩ := h.row
  cases hv
  exact hr

/-! ### a block of another type turned in whatever way -/
theorem Row.other {w w' : World} {T : TypeId → Prop} {sz : Nat} {A : Option Addr} {els : List (List Value)} (h : Row w T sz A els) {g t : Nat} {cs : Array Value} {fz : Nat × Nat} (hb : w.heap[g]? = some (.cells cs t fz)) (hT : ¬ T t)
    (hk : ∀ k, k ≠ g → w'.heap[k]? = w.heap[k]?) : Row w' T sz A els :=
  Row.keep h fun b cs' t' fz' hb' hT' => hk b fun e => by
    subst e
    rw [hb] at hb'
    injection hb' with hb'
    injection hb' with _ hb'
    exact hT (hb' ▸ hT')
theorem RepC.other {w w' : World} {T : TypeId → Prop} {e : List Value} {r : Rp} (h : RepC w T e r) {g t : Nat} {cs : Array Value} {fz : Nat × Nat} (hb : w.heap[g]? = some (.cells cs t fz)) (hT : ¬ T t)
    (hk : ∀ k, k ≠ g → w'.heap[k]? = w.heap[k]?) : RepC w' T e r := by
  obtain ⟨Av, cv, h1, h2, h3⟩ := h
  exact ⟨Av, cv, h1, h2, h3.other hb hT hk⟩
theorem Own.other {w w' : World} {base : Nat} {e : TypeId} {sz : Nat} {v : Value} {els : List (List Value)} (h : Own w base e sz v els) {g t : Nat} {cs : Array Value} {fz : Nat × Nat} (hb : w.heap[g]? = some (.cells cs t fz)) (hT : t ≠ e)
    (hk : ∀ k, k ≠ g → w'.heap[k]? = w.heap[k]?) : Own w' base e sz v els :=
  h.keep fun k hk' => hk k fun e' => h.ne_type (t' := t) (Ne.symm hT) k cs t fz hk' (by rw [e']; exact hb) rfl
theorem OwnReps.other {w w' : World} {base : Nat} {v : Value} {rs : List Rp} (h : OwnReps w base v rs) {g t : Nat} {cs : Array Value} {fz : Nat × Nat} (hb : w.heap[g]? = some (.cells cs t fz)) (hT : t ≠ 36) (hT' : t ≠ 9)
    (hk : ∀ k, k ≠ g → w'.heap[k]? = w.heap[k]?) : OwnReps w' base v rs := by
  obtain ⟨els, h1, h2, h3⟩ := h
  exact ⟨els, h1.other hb hT hk, h2, fun k e r he hr => (h3 k e r he hr).other hb hT' hk⟩

structure CopInv (wr : World) (base G : Nat) (s : St) (k : Nat) (Ap : Option Addr) (cp : Nat) (Ar : Option Addr) (cr : Nat) (Am : Option Addr) (cm : Nat) : Prop where
  res : wr.heap[base + 1]? = some (.cells #[.slice none 0 0, .slice none 0 0, .int .i64 0, .slice none 0 0] 28 (0, 0))
  out : wr.heap[G]? = some (.cells #[.slice Ap s.pairs.length cp, .slice Ar k cr, .int .i64 s.epoch, .slice Am s.mbs.length cm] 28 (0, 0))
  ownP : Own wr base 42 2 (.slice Ap s.pairs.length cp) (s.pairs.map Pr.cells)
  ownM : Own wr base 84 34 (.slice Am s.mbs.length cm) (s.mbs.map Mb.cells)
  ownR : OwnReps wr base (.slice Ar k cr) (s.reps.take k)
  capR : k ≤ cr

def CopiedPost (w : World) (s : St) (E : Ending) (w' : World) : Prop := ∃ v, E = .returned v ∧ OwnSt w' w.heap.size v s ∧ Below w.heap.size w w'

set_option maxHeartbeats 400000 in
set_option maxRecDepth 100000 in
theorem copied_any (Ap Ar Am : Option Addr) (cp cr cm : Nat) (s : St) (w : World) (T1 T2 T3 T4 : TypeId → Prop)
    (hp : Row w T1 2 Ap (s.pairs.map Pr.cells)) (hr : Reps w T2 T3 Ar s.reps) (hm : Row w T4 34 Am (s.mbs.map Mb.cells))
    (b1 : s.pairs.length ≤ 1000000) (b2 : s.reps.length ≤ 1000000) (b3 : s.mbs.length ≤ 1000000) (b4 : ∀ k, (repOf s.reps k).vals.length ≤ 1000000) :
    Calls Tryd.prog 34 #[.agg #[.slice Ap s.pairs.length cp, .slice Ar s.reps.length cr, .int .i64 s.epoch, .slice Am s.mbs.length cm]] w (CopiedPost w s) := by
  have HP := Lib.hid hp
  have HR := Lib.hid hr
  have HM := Lib.hid hm
  have B4 := Lib.hid b4
  clear hp hr hm b4
  go_enter Tryd.func34, Tryd.ntmps34
  go_wp2_with fail
  refine (new_any T4 _ _ _ _ s.mbs _ rfl (HM.out.below (((Below.refl _ _).alloc (Nat.le_refl _) _).alloc (by simp) _)) b3).mono ?_
  rintro e w1 ⟨Am', cm', rfl, hcm, hom, hb1⟩
  have kS := Lib.hid (blk_later hb1 (at2_0 _ _ _))
  have kR := Lib.hid (blk_later hb1 (at2_1 _ _ _))
  obtain ⟨q0, q1, q2, q3, _⟩ := four kS.out
  have hs1 := hb1.size
  have hB1 := Lib.hid ((((Below.refl w.heap.size w).alloc (Nat.le_refl _) _).alloc (by simp) _).trans (hb1.mono (by simp; omega)))
  have HOM := Lib.hid (hom.lower (base' := w.heap.size) (by simp; omega))
  simp only [World.size_alloc] at hs1
  have hz0 : w.heap.size < w1.heap.size := by omega
  have hz1 : w.heap.size + 1 < w1.heap.size := by omega
  clear hb1 hom
  go_wp2_with fail
  refine (cloneP_any T1 _ _ _ (s.pairs.map Pr.cells) _ (by simp) (HP.out.below (hB1.out.alloc (by omega) _)) pr_len pr_one (by simpa using b1)).mono ?_
  rintro e w2 ⟨Ap', cp', rfl, hcp, hop, hb2⟩
  have kS2 := Lib.hid (blk_later hb2 (at_up kS.out _))
  have kR2 := Lib.hid (blk_later hb2 (at_up kR.out _))
  have kO2 := Lib.hid (blk_later hb2 (at1_0 _ _))
  clear q0 q1 q2 q3
  obtain ⟨q0, q1, q2, q3, _⟩ := four kS2.out
  obtain ⟨o0, o1, o2, o3, o4⟩ := four kO2.out
  have hs2 := hb2.size
  have hB2 := Lib.hid ((hB1.out.alloc (by omega) _).trans (hb2.mono (by simp; omega)))
  have HOP := Lib.hid (hop.lower (base' := w.heap.size) (by simp; omega))
  have HOM2 := Lib.hid (HOM.out.below (((Below.refl _ _).alloc (Nat.le_refl _) _).trans (hb2.mono (by simp))))
  simp only [World.size_alloc] at hs2
  have hz02 : w.heap.size < w2.heap.size := by omega
  have hz12 : w.heap.size + 1 < w2.heap.size := by omega
  have hz22 : w1.heap.size < w2.heap.size := by omega
  clear hb2 hop
  go_wp2_with fail
  clear q0 q1 q2 q3 o0 o1 o2 o3 o4
  obtain ⟨G, hG⟩ : ∃ G, G = w1.heap.size := ⟨_, rfl⟩
  rw [← hG] at kO2 hz22 hs2 ⊢
  have hGw : w.heap.size + 1 < G := by omega
  have kR2' := Lib.hid (blk_set_other kR2.out (Nat.ne_of_lt hGw) 0 (.slice Ap' s.pairs.length cp'))
  have kO2' := Lib.hid (blk_set kO2.out 0 (.slice Ap' s.pairs.length cp'))
  rw [List.length_map] at HOP
  have HOP' := Lib.hid (HOP.out.set kO2.out (by decide) 0 (.slice Ap' s.pairs.length cp'))
  have HOM' := Lib.hid (HOM2.out.set kO2.out (by decide) 0 (.slice Ap' s.pairs.length cp'))
  have hB2' := Lib.hid (hB2.out.setCell (p := ⟨G, 0, none⟩) (by show w.heap.size ≤ G; omega) (.slice Ap' s.pairs.length cp'))
  clear kS kR hB1 HOM hs1 hz0 hz1 kS2 kR2 kO2 hB2 HOP HOM2 hG hs2 hz02 hz12
  go_loopw [16] (fun i wr => ∃ k Ar' cr', k ≤ s.reps.length ∧ i = .int .i64 k ∧ CopInv wr w.heap.size G s k Ap' cp' Ar' cr' Am' cm' ∧ Hid (Below w.heap.size w wr))
    (fun i _ => s.reps.length - (intOf i).toNat)
  case atStart => exact ⟨0, none, 0, Nat.zero_le _, rfl, ⟨kR2'.out, kO2'.out, HOP'.out, HOM'.out, OwnReps.nil _ _, Nat.le_refl _⟩, hB2'.out⟩
  case round =>
    obtain ⟨k, Ar', cr', hk, rfl, HI, hB⟩ := hrel
    have HI' := Lib.hid HI
    clear HI kR2' kO2' HOP' HOM' hB2'
    have hGr : G < wr.heap.size := heap_lt HI'.out.out
    have hsz := hB.out.size
    by_cases hlt : k < s.reps.length
    · obtain ⟨blk, off, Av, cv, hA, hblk, e0, e1, e2, e3, hcv, hrow⟩ := HR.out.at hlt
      subst hA
      obtain ⟨rep, hrep⟩ : ∃ rep, rep = repOf s.reps k := ⟨_, rfl⟩
      rw [← hrep] at e0 e1 e2 e3 hcv hrow
      have f0 := cell_later (hB.out.mono (Nat.le_refl _)) e0
      have f1 := cell_later (hB.out.mono (Nat.le_refl _)) e1
      have f2 := cell_later (hB.out.mono (Nat.le_refl _)) e2
      have f3 := cell_later (hB.out.mono (Nat.le_refl _)) e3
      have HV := Lib.hid (hrow.below hB.out)
      have HREP := Lib.hid hrep
      have hvl : rep.vals.length ≤ 1000000 := by have := B4.out k; rw [← hrep] at this; exact this
      clear e0 e1 e2 e3 hrow hrep
      go_wp2_with fail
      refine (cloneS_any T3 _ _ _ (rep.vals.map strC) _ (by simp) (HV.out.below ((Below.refl _ _).alloc (Nat.le_refl _) _)) st_len st_one (by simpa using hvl)).mono ?_
      rintro e w3 ⟨Av', cv', rfl, hcv', hov, hb3⟩
      have kE := Lib.hid (blk_later hb3 (at1_0 _ _))
      have kO3 := Lib.hid (blk_later hb3 (at_up HI'.out.out _))
      obtain ⟨q0, q1, q2, q3, q4⟩ := four kE.out
      obtain ⟨o0, o1, o2, o3, o4⟩ := four kO3.out
      have hs3 := hb3.size
      simp only [World.size_alloc] at hs3
      have hz3 : wr.heap.size < w3.heap.size := by omega
      have hzG : G < w3.heap.size := by omega
      have hneG : G ≠ wr.heap.size := by omega
      have hB3 := Lib.hid (((Below.refl wr.heap.size wr).alloc (Nat.le_refl _) _).trans (hb3.mono (by simp)))
      have HOV := Lib.hid hov
      clear hb3 hov
      obtain ⟨els, hown, hel, hrc⟩ := HI'.out.ownR
      have HOWN := Lib.hid hown
      have HRC := Lib.hid hrc
      have HEL := Lib.hid hel
      clear hown hrc hel
      rw [List.length_map] at HOV hcv'
      have hke : els.length = k := by rw [HEL.out, List.length_take]; omega
      have HKE := Lib.hid hke
      clear hke
      have hB5 := Lib.hid ((hB3.out.setCell (p := ⟨wr.heap.size, 3, none⟩) (Nat.le_refl _) (.slice Av' rep.vals.length cv')).alloc (by simp; omega) (.cells #[.int .i64 rep.client, .int .i64 rep.num, .int .i64 rep.code, .slice Av' rep.vals.length cv'] 36))
      go_wp2_with (at_builtin; refine appendOwn rfl (.tmp 25) (.tmp 27) 23 rfl w.heap.size 36 4 48 el36 _ els [[.int .i64 rep.client, .int .i64 rep.num, .int .i64 rep.code, .slice Av' rep.vals.length cv']] rfl ?own (some _) 1 1 rfl rfl (fun t => t = 36) ?row ?len ?one ?c3 ?c4 ?c5 ?_)
      case own => exact HOWN.out.below hB5.out
      case row => 
        have hrl := row_lit (w3.setCell ⟨wr.heap.size, 3, none⟩ (.slice Av' rep.vals.length cv')) 36 4 [[.int .i64 rep.client, .int .i64 rep.num, .int .i64 rep.code, .slice Av' rep.vals.length cv']] #[.int .i64 rep.client, .int .i64 rep.num, .int .i64 rep.code, .slice Av' rep.vals.length cv'] (by intro y hy; simp at hy; subst hy; rfl) rfl
        rw [World.size_setCell] at hrl
        exact hrl
      case len => intro y hy; simp at hy; subst hy; rfl
      case one => intro y hy u hu; simp at hy; subst hy; simp at hu; rcases hu with rfl | rfl | rfl | rfl <;> rfl
      case c3 => have := HKE.out; simp [maxLen]; omega
      case c4 => have := HKE.out; simp; omega
      case c5 => simp; omega
      intro v' w6 hov6 hg6 _
      obtain ⟨A6, c6, hv6, hc6, _⟩ := hov6.row
      subst hv6
      have hlen6 : (els ++ [[Value.int .i64 rep.client, .int .i64 rep.num, .int .i64 rep.code, .slice Av' rep.vals.length cv']]).length = k + 1 := by have := HKE.out; simp; omega
      rw [hlen6] at hov6 hc6 ⊢
      -- the rest of the round's world
      have hrow6 : ∀ (g : Nat) (o : Obj), (((w3.setCell ⟨wr.heap.size, 3, none⟩ (.slice Av' rep.vals.length cv')).alloc (.cells #[.int .i64 rep.client, .int .i64 rep.num, .int .i64 rep.code, .slice Av' rep.vals.length cv'] 36)).heap[g]? = some o → (∀ (cs : Array Value) (fz : Nat × Nat), o ≠ Obj.cells cs 36 fz) → w6.heap[g]? = some o) := by
        intro g o hg hne
        refine blk_grown hg6 hg fun e => ?_
        obtain ⟨cells, hc⟩ := (HOWN.out.below hB5.out).typed g e
        rw [hg] at hc
        cases hc
        exact hne _ _ rfl
      have kO6 := Lib.hid (hrow6 G _ (blk_later (w1 := _) (hB5.out) HI'.out.out) (by intro cs fz h; cases h))
      have kR6 := Lib.hid (hrow6 (w.heap.size + 1) _ (blk_later (w1 := _) (hB5.out) HI'.out.res) (by intro cs fz h; cases h))
      have hB6 : Below w.heap.size w w6 := (hB.out.trans (hB5.out.mono hsz)).grown hg6 (by simp; omega) (fun g hg => (HOWN.out.base_le g hg).1)
      have hP6 : Own w6 w.heap.size 42 2 (.slice Ap' s.pairs.length cp') (s.pairs.map Pr.cells) := (HI'.out.ownP.below hB5.out).grown hg6 fun g hg => by
        obtain ⟨cells, hc⟩ := (HOWN.out.below hB5.out).typed g hg
        exact ⟨_, _, _, hc, by decide⟩
      have hM6 : Own w6 w.heap.size 84 34 (.slice Am' s.mbs.length cm') (s.mbs.map Mb.cells) := (HI'.out.ownM.below hB5.out).grown hg6 fun g hg => by
        obtain ⟨cells, hc⟩ := (HOWN.out.below hB5.out).typed g hg
        exact ⟨_, _, _, hc, by decide⟩
      have hR6 : OwnReps w6 w.heap.size (.slice A6 (k + 1) c6) (s.reps.take (k + 1)) := by
        have hrep : s.reps[k]? = some rep := by rw [HREP.out]; simp [repOf, List.getD_eq_getElem?_getD, hlt]
        rw [List.take_add_one, hrep]
        refine OwnReps.push (HOWN.out.below hB5.out) HEL.out (fun j e r he hr => (HRC.out j e r he hr).below hB5.out) ?_ hov6 hg6
        refine ⟨Av', cv', rfl, hcv', ?_⟩
        exact (HOV.out.rowOf.set kE.out (by decide) 3 (.slice Av' rep.vals.length cv')).below ((Below.refl _ _).alloc (Nat.le_refl _) _)
      clear hrow6
      obtain ⟨o0, o1, o2, o3, o4⟩ := four kO6.out
      go_wp2
      go_roundw
      case rel =>
        refine ⟨k + 1, A6, c6, by omega, by go_num, ⟨?_, ?_, ?_, ?_, ?_, ?_⟩, ?_⟩
        · exact blk_set_other kR6.out (Nat.ne_of_lt hGw) _ _
        · exact blk_set kO6.out 1 _
        · exact hP6.set kO6.out (by decide) _ _
        · exact hM6.set kO6.out (by decide) _ _
        · exact hR6.set kO6.out (by decide) (by decide) _ _
        · exact hc6
        · exact hB6.setCell (p := ⟨G, 1, none⟩) (by show w.heap.size ≤ G; omega) _
      case measure => simp [intOf]; omega
    · have hke : k = s.reps.length := by omega
      subst hke
      obtain ⟨o0, o1, o2, o3, o4⟩ := four HI'.out.out
      obtain ⟨q0, q1, q2, q3, q4⟩ := four HI'.out.res
      go_wp2
      rw [store4 HI'.out.res]
      have hg := setRow_heap wr (w.heap.size + 1) _ #[.slice Ap' s.pairs.length cp', .slice Ar' s.reps.length cr', .int .i64 s.epoch, .slice Am' s.mbs.length cm'] 28 (0, 0) HI'.out.res
      refine bodyPost_ret (results_cell_row rfl _ _ (w.heap.size + 1) 28 _ (0, 0) _ rfl hg Tryd.underlying28 rfl size28) rfl ?_
      have hk : ∀ k, k ≠ w.heap.size + 1 → (wr.setRow (w.heap.size + 1) #[.slice Ap' s.pairs.length cp', .slice Ar' s.reps.length cr', .int .i64 s.epoch, .slice Am' s.mbs.length cm']).heap[k]? = wr.heap[k]? := fun k hk => setRow_other _ _ _ _ hk
      have hRr := HI'.out.ownR
      rw [List.take_length] at hRr
      rw [List.length_map] at hcp
      exact ⟨_, rfl, ⟨Ap', cp', Ar', cr', Am', cm', rfl, hcp, HI'.out.capR, hcm, HI'.out.ownP.other HI'.out.res (by decide) hk, hRr.other HI'.out.res (by decide) (by decide) hk, HI'.out.ownM.other HI'.out.res (by decide) hk⟩,
        below_setRow hB.out (by omega) _⟩

end Go.Proofs.YtchnnplcpidkiaaDoor
